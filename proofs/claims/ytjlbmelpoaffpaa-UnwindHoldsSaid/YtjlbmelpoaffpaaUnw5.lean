/- Package unwind: the contracts of Panic, Exit, Leave, Defer. (Printed by a program of mine.) -/
import Derived.Test.YtjlbmelpoaffpaaUnw4
namespace Go.Proofs.Ytjlbmelpoaffpaa.Unw
open Go.RowKit
set_option linter.unusedSimpArgs false
set_option linter.unusedVariables false

/-- Where the last frame lies. -/
theorem Inner.headM {w w' : World} {m : Mk} {r : List Mk} {al : List Al} {A : Option Addr} {c : Nat} {A' : Option Addr} {c' : Nat} (h : Inner w w' (m :: r) al A c A' c') :
    ∃ g, A = some ⟨g, 0, none⟩ ∧ w.heap.size + 2 ≤ g ∧ w'.cell? ⟨g, r.length * 3, none⟩ = some (.bool m.lv) ∧ w'.cell? ⟨g, r.length * 3 + 1, none⟩ = some (.bool m.df) ∧ w'.cell? ⟨g, r.length * 3 + 2, none⟩ = some (.int .i64 m.th) ∧ ∀ i, w'.frozen? ⟨g, i, none⟩ = false := by
  have h1 := h.own.1
  rcases h1.2 with ⟨_, h0⟩ | ⟨g, cap, cur, he, hb, hh, hn, hm, hs, ht⟩
  · simp at h0
  · injection he with h3 h4 h5
    subst h3 h5
    obtain ⟨e0, e1, e2⟩ := mc_at m r
    have hl := mc_length (m :: r)
    refine ⟨g, rfl, hb, ?_, ?_, ?_, fun i => h1.frozenAt i⟩
    · rw [h1.cellAt _ (by simp)]; exact e0
    · rw [h1.cellAt _ (by simp; omega)]; exact e1
    · rw [h1.cellAt _ (by simp; omega)]; exact e2
theorem Inner.headA {w w' : World} {m : Al} {r : List Al} {ms : List Mk} {A : Option Addr} {c : Nat} {A' : Option Addr} {c' : Nat} (h : Inner w w' ms (m :: r) A c A' c') :
    ∃ g, A' = some ⟨g, 0, none⟩ ∧ w.heap.size + 2 ≤ g ∧ w'.cell? ⟨g, r.length * 5, none⟩ = some (.int .i64 m.code) ∧ w'.cell? ⟨g, r.length * 5 + 1, none⟩ = some (.int .i64 m.ptr) ∧ w'.cell? ⟨g, r.length * 5 + 2, none⟩ = some (.int .i64 m.run) ∧
      w'.cell? ⟨g, r.length * 5 + 3, none⟩ = some (.bool m.ex) ∧ w'.cell? ⟨g, r.length * 5 + 4, none⟩ = some (.bool m.rc) ∧ ∀ i, w'.frozen? ⟨g, i, none⟩ = false := by
  have h1 := h.own.2
  rcases h1.2 with ⟨_, h0⟩ | ⟨g, cap, cur, he, hb, hh, hn, hm, hs, ht⟩
  · simp at h0
  · injection he with h3 h4 h5
    subst h3 h5
    obtain ⟨e0, e1, e2, e3, e4⟩ := ac_at m r
    have hl := ac_length (m :: r)
    refine ⟨g, rfl, hb, ?_, ?_, ?_, ?_, ?_, fun i => h1.frozenAt i⟩
    · rw [h1.cellAt _ (by simp)]; exact e0
    · rw [h1.cellAt _ (by simp; omega)]; exact e1
    · rw [h1.cellAt _ (by simp; omega)]; exact e2
    · rw [h1.cellAt _ (by simp; omega)]; exact e3
    · rw [h1.cellAt _ (by simp; omega)]; exact e4
theorem Inner.setM {w w' : World} {ms ms' : List Mk} {al : List Al} {g c : Nat} {A' : Option Addr} {c' : Nat} (h : Inner w w' ms al (some ⟨g, 0, none⟩) c A' c') (i : Nat) (u : Value) (hl : ms'.length = ms.length) (hs : (mc ms).set i u = mc ms') :
    Inner w (w'.setCell ⟨g, i, none⟩ u) ms' al (some ⟨g, 0, none⟩) c A' c' := by
  have hst := h.own.1.stored i u
  have hge := (h.own.1.lt g rfl).1
  refine ⟨?_, ?_, ⟨?_, ?_⟩, ?_⟩
  · rw [hl]; exact h.box.other (a := ⟨g, i, none⟩) (by show w.heap.size ≠ g; omega) _
  · exact h.res.other (a := ⟨g, i, none⟩) (by show w.heap.size + 1 ≠ g; omega) _
  · rw [hl, ← hs]; exact hst.1
  · exact h.own.2.kept hst.2 (own_kinds h.own.1 h.own.2 (by decide))
  · exact h.below.setCell (show w.heap.size ≤ g by omega) _
theorem Inner.setA {w w' : World} {ms : List Mk} {al al' : List Al} {g c : Nat} {A : Option Addr} {c' : Nat} (h : Inner w w' ms al A c (some ⟨g, 0, none⟩) c') (i : Nat) (u : Value) (hl : al'.length = al.length) (hs : (ac al).set i u = ac al') :
    Inner w (w'.setCell ⟨g, i, none⟩ u) ms al' A c (some ⟨g, 0, none⟩) c' := by
  have hst := h.own.2.stored i u
  have hge := (h.own.2.lt g rfl).1
  refine ⟨?_, ?_, ⟨?_, ?_⟩, ?_⟩
  · rw [hl]; exact h.box.other (a := ⟨g, i, none⟩) (by show w.heap.size ≠ g; omega) _
  · exact h.res.other (a := ⟨g, i, none⟩) (by show w.heap.size + 1 ≠ g; omega) _
  · exact h.own.1.kept hst.2 (own_kinds h.own.2 h.own.1 (by decide))
  · rw [hl, ← hs]; exact hst.1
  · exact h.below.setCell (show w.heap.size ≤ g by omega) _
theorem set_lv (m : Mk) (r : List Mk) (b : Bool) : (mc (m :: r)).set (r.length * 3) (.bool b) = mc ({ m with lv := b } :: r) := by
  have h := mc_length r
  simp only [mc]
  rw [List.set_append, if_neg (by omega), h]
  simp [Mk.cells]
theorem set_th (m : Mk) (r : List Mk) (t : Int) : (mc (m :: r)).set (r.length * 3 + 2) (.int .i64 t) = mc ({ m with th := t } :: r) := by
  have h := mc_length r
  simp only [mc]
  rw [List.set_append, if_neg (by omega), h]
  simp [Mk.cells]
theorem set_run (m : Al) (r : List Al) (t : Int) : (ac (m :: r)).set (r.length * 5 + 2) (.int .i64 t) = ac ({ m with run := t } :: r) := by
  have h := ac_length r
  simp only [ac]
  rw [List.set_append, if_neg (by omega), h]
  simp [Al.cells]
theorem set_rc (m : Al) (r : List Al) (t : Bool) : (ac (m :: r)).set (r.length * 5 + 4) (.bool t) = ac ({ m with rc := t } :: r) := by
  have h := ac_length r
  simp only [ac]
  rw [List.set_append, if_neg (by omega), h]
  simp [Al.cells]

set_option maxHeartbeats 1000000 in
theorem panic_any (w : World) (v : Value) (code ptr : Int) (ms : List Mk) (al : List Al) (h : St w v ms al) :
    Calls Try.prog 12 #[v, .int .i64 code, .int .i64 ptr] w (Gives id ms (⟨code, ptr, 0, false, false⟩ :: al) w) := by
  obtain ⟨i0, hi0, hz0, hz1, hz2⟩ := info_parts infoA
  have HI := Lib.hid (⟨hi0, hz0, hz1, hz2⟩ : Try.prog.info? 32 = some i0 ∧ i0.zero = some (.agg #[.int .i64 0, .int .i64 0, .int .i64 0, .bool false, .bool false]) ∧ i0.size = 5 ∧ i0.bytes = 32)
  have HS := Lib.hid h
  obtain ⟨A, c, A', c', rfl, _, _, _, hml⟩ := h
  clear hi0 hz0 hz1 hz2
  go_enter Try.func12, Try.ntmps12
  go_wp2_with fail
  refine (own_any _ _ ms al (HS.out.below (fresh_alloc (fresh_alloc (Below.refl _ _) _) _))).mono ?_
  intro e w1 hg
  obtain ⟨A3, c3, A4, c4, rfl, k1, k2, k3, k4, hin⟩ := inner_own hg
  have HIN := Lib.hid hin
  clear hg hin
  have hlt := HIN.out.lt
  dsimp only
  go_wp2_with (first
    | (at_builtin; go_loud (refine wpList_app _ rfl _ _ 24 rfl (w.heap.size + 2) 32 i0 _ 5 32 Try.underlying24 HI.out.1 HI.out.2.1 HI.out.2.2.1 HI.out.2.2.2 rfl (by decide) _ al.length (ac al) rfl (HIN.out.own.2.alloc _) (w1.heap.size + 1) _ 1 1 (Al.cells ⟨code, ptr, 0, false, false⟩) rfl ?c1 ?c2 ?c3 ?c4 ?c5 ?_))
    | fail)
  case c1 => exact Blk.readsN (cs := #[.int .i64 code, .int .i64 ptr, .int .i64 0, .bool false, .bool false]) (Blk.new' (by simp [World.setCell]) _ _) (Nat.lt_succ_self _) rfl rfl (by decide)
  case c2 => exact ac_one [⟨code, ptr, 0, false, false⟩]
  case c3 => unfold maxLen; omega
  case c4 => omega
  case c5 => first | omega | (simp [World.setCell]; omega)
  intro a' c2 w2 ho2 hg2 _
  obtain ⟨j1, j2, hin⟩ := Inner.moreA ⟨HIN.out.box.alloc _, HIN.out.res.alloc _, ⟨HIN.out.own.1.alloc _, HIN.out.own.2.alloc _⟩, fresh_alloc HIN.out.below _⟩ ⟨code, ptr, 0, false, false⟩ ho2 hg2
  have HI2 := Lib.hid hin
  clear hin ho2 hg2
  obtain ⟨l1, l2, l3, l4, l5, l6, l7, l8⟩ := HI2.out.boxCells
  go_wp2_with fail
  exact bodyPost_ret (v := .agg #[.slice A3 ms.length c3, .slice a' (al.length + 1) c2]) (by simp [results, Try.results12, go_sem, l5, l6]) rfl (HI2.out.gives id)

set_option maxHeartbeats 1000000 in
theorem exit_any (w : World) (v : Value) (ms : List Mk) (al : List Al) (h : St w v ms al) :
    Calls Try.prog 18 #[v] w (Gives id ms (⟨0, 0, 0, true, false⟩ :: al) w) := by
  obtain ⟨i0, hi0, hz0, hz1, hz2⟩ := info_parts infoA
  have HI := Lib.hid (⟨hi0, hz0, hz1, hz2⟩ : Try.prog.info? 32 = some i0 ∧ i0.zero = some (.agg #[.int .i64 0, .int .i64 0, .int .i64 0, .bool false, .bool false]) ∧ i0.size = 5 ∧ i0.bytes = 32)
  have HS := Lib.hid h
  obtain ⟨A, c, A', c', rfl, _, _, _, hml⟩ := h
  clear hi0 hz0 hz1 hz2
  go_enter Try.func18, Try.ntmps18
  go_wp2_with fail
  refine (own_any _ _ ms al (HS.out.below (fresh_alloc (fresh_alloc (Below.refl _ _) _) _))).mono ?_
  intro e w1 hg
  obtain ⟨A3, c3, A4, c4, rfl, k1, k2, k3, k4, hin⟩ := inner_own hg
  have HIN := Lib.hid hin
  clear hg hin
  have hlt := HIN.out.lt
  dsimp only
  go_wp2_with (first
    | (at_builtin; go_loud (refine wpList_app _ rfl _ _ 24 rfl (w.heap.size + 2) 32 i0 _ 5 32 Try.underlying24 HI.out.1 HI.out.2.1 HI.out.2.2.1 HI.out.2.2.2 rfl (by decide) _ al.length (ac al) rfl (HIN.out.own.2.alloc _) (w1.heap.size + 1) _ 1 1 (Al.cells ⟨0, 0, 0, true, false⟩) rfl ?c1 ?c2 ?c3 ?c4 ?c5 ?_))
    | fail)
  case c1 => exact Blk.readsN (cs := #[.int .i64 0, .int .i64 0, .int .i64 0, .bool true, .bool false]) (Blk.new' (by simp [World.setCell]) _ _) (Nat.lt_succ_self _) rfl rfl (by decide)
  case c2 => exact ac_one [⟨0, 0, 0, true, false⟩]
  case c3 => unfold maxLen; omega
  case c4 => omega
  case c5 => first | omega | (simp [World.setCell]; omega)
  intro a' c2 w2 ho2 hg2 _
  obtain ⟨j1, j2, hin⟩ := Inner.moreA ⟨HIN.out.box.alloc _, HIN.out.res.alloc _, ⟨HIN.out.own.1.alloc _, HIN.out.own.2.alloc _⟩, fresh_alloc HIN.out.below _⟩ ⟨0, 0, 0, true, false⟩ ho2 hg2
  have HI2 := Lib.hid hin
  clear hin ho2 hg2
  obtain ⟨l1, l2, l3, l4, l5, l6, l7, l8⟩ := HI2.out.boxCells
  go_wp2_with fail
  exact bodyPost_ret (v := .agg #[.slice A3 ms.length c3, .slice a' (al.length + 1) c2]) (by simp [results, Try.results18, go_sem, l5, l6]) rfl (HI2.out.gives id)

/-- The last frame leaves. -/
def leave : List Mk → List Mk
  | [] => []
  | m :: r => { m with lv := true } :: r
set_option maxHeartbeats 1000000 in
theorem leave_any (w : World) (v : Value) (ms : List Mk) (al : List Al) (h : St w v ms al) :
    Calls Try.prog 16 #[v] w (Gives id (leave ms) al w) := by
  have HS := Lib.hid h
  obtain ⟨A, c, A', c', rfl, _, _, hml, _⟩ := h
  rcases ms with _ | ⟨m, r⟩
  · rw [show leave [] = [] from rfl]
    go_enter Try.func16, Try.ntmps16
    go_wp2_with fail
    refine (own_any _ _ [] al (HS.out.below (fresh_alloc (fresh_alloc (Below.refl _ _) _) _))).mono ?_
    intro e w1 hg
    obtain ⟨A3, c3, A4, c4, rfl, k1, k2, k3, k4, hin⟩ := inner_own hg
    simp only [List.length_nil] at hin k1
    have HIN := Lib.hid hin
    clear hg hin
    have hlt := HIN.out.lt
    dsimp only
    obtain ⟨l1, l2, l3, l4, l5, l6, l7, l8⟩ := HIN.out.boxCells
    go_wp2_with fail
    exact bodyPost_ret (v := .agg #[.slice A3 0 c3, .slice A4 al.length c4]) (by simp [results, Try.results16, go_sem, l5, l6]) rfl (HIN.out.gives id)
  · rw [show leave (m :: r) = { m with lv := true } :: r from rfl]
    have hl : (m :: r).length = r.length + 1 := rfl
    have hd : (0 : Int) < (((m :: r).length : Nat) : Int) := by simp
    rw [hl] at hml hd
    go_enter Try.func16, Try.ntmps16
    go_wp2_with fail
    refine (own_any _ _ (m :: r) al (HS.out.below (fresh_alloc (fresh_alloc (Below.refl _ _) _) _))).mono ?_
    intro e w1 hg
    obtain ⟨A3, c3, A4, c4, rfl, k1, k2, k3, k4, hin⟩ := inner_own hg
    simp only [List.length_cons] at hin k1
    have HIN := Lib.hid hin
    clear hg hin
    have hlt := HIN.out.lt
    dsimp only
    obtain ⟨l1, l2, l3, l4, l5, l6, l7, l8⟩ := HIN.out.boxCells
    obtain ⟨g, rfl, hg, c0, c1, c2, hf⟩ := HIN.out.headM
    have f0 := hf (r.length * 3)
    have HI2 := Lib.hid (Inner.setM HIN.out (r.length * 3) (.bool true) (ms' := { m with lv := true } :: r) rfl (set_lv m r true))
    obtain ⟨n1, n2, n3, n4, n5, n6, n7, n8⟩ := HI2.out.boxCells
    clear hf
    go_wp2_with fail
    exact bodyPost_ret (v := .agg #[.slice (some ⟨g, 0, none⟩) (r.length + 1) c3, .slice A4 al.length c4]) (by simp [results, Try.results16, go_sem, n5, n6]) rfl (HI2.out.gives id)
end Go.Proofs.Ytjlbmelpoaffpaa.Unw
