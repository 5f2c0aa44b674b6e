/- Package unwind: a state whose rows another method owns; the contract of ended. (Printed by a program of mine.) -/
import Derived.Test.YtjlbmelpoaffpaaUnw8
import Derived.Deep.CutRange
namespace Go.Proofs.Ytjlbmelpoaffpaa.Unw
open Go.RowKit
set_option linter.unusedSimpArgs false
set_option linter.unusedVariables false

/-- The call gives a state whose rows lie from block B on. -/
def GivesO (B : Nat) (ms : List Mk) (al : List Al) (w : World) (e : Ending) (w' : World) : Prop :=
  ∃ A c A' c', e = .returned (.agg #[.slice A ms.length c, .slice A' al.length c']) ∧ Owned B w' ms al A c A' c' ∧ Below B w w'
/-- Within a method that began in w, and was handed a state whose rows lie from block B on. -/
structure InnerB (B : Nat) (w w' : World) (ms : List Mk) (al : List Al) (A : Option Addr) (c : Nat) (A' : Option Addr) (c' : Nat) : Prop where
  box : Blk w' w.heap.size #[.slice A ms.length c, .slice A' al.length c'] 26
  res : Blk w' (w.heap.size + 1) #[.slice none 0 0, .slice none 0 0] 26
  own : Owned B w' ms al A c A' c'
  below : Below B w w'
  hB : B ≤ w.heap.size
/-- The front of an owned row. -/
theorem own_cut {w : World} {B n m size c : Nat} {A : Option Addr} {xs ys : List Value} {e : TypeId} (h : w.ownsRow B e size (.slice A n c) n xs) (hm : m ≤ n) (hy : ys = xs.take (m * size)) : w.ownsRow B e size (.slice A m c) m ys := by
  have hl : (m * size) ≤ n * size := Nat.mul_le_mul_right _ hm
  refine ⟨by rw [hy, List.length_take, h.1]; omega, ?_⟩
  rcases h.2 with ⟨he, hn⟩ | ⟨g, cap, cur, he, hb, hh, hn, hc, hs, ht⟩
  · injection he with h3 h4 h5
    exact .inl ⟨by rw [h3, h5, show m = 0 by omega], by omega⟩
  · injection he with h3 h4 h5
    subst h3 h5
    refine .inr ⟨g, _, cur, rfl, hb, hh, by omega, hc, hs, ?_⟩
    rw [hy, ← ht, List.take_take, Nat.min_eq_left hl]
namespace InnerB
variable {B : Nat} {w w' : World} {ms : List Mk} {al : List Al} {A : Option Addr} {c : Nat} {A' : Option Addr} {c' : Nat}
theorem start (h : Owned B w ms al A c A' c') (hB : B ≤ w.heap.size) :
    InnerB B w ((w.alloc (.cells #[.slice A ms.length c, .slice A' al.length c'] 26)).alloc (.cells #[.slice none 0 0, .slice none 0 0] 26)) ms al A c A' c' :=
  ⟨(Blk.new w _ _).alloc _, Blk.new' (by simp) _ _, ⟨(h.1.alloc _).alloc _, (h.2.alloc _).alloc _⟩, ((Below.refl B w).alloc hB _).alloc (by simp; omega) _, hB⟩
theorem boxCells (h : InnerB B w w' ms al A c A' c') :
    w'.cell? ⟨w.heap.size, 0, none⟩ = some (.slice A ms.length c) ∧ w'.cell? ⟨w.heap.size, 1, none⟩ = some (.slice A' al.length c') ∧ w'.frozen? ⟨w.heap.size, 0, none⟩ = false ∧ w'.frozen? ⟨w.heap.size, 1, none⟩ = false ∧
    w'.cell? ⟨w.heap.size + 1, 0, none⟩ = some (.slice none 0 0) ∧ w'.cell? ⟨w.heap.size + 1, 1, none⟩ = some (.slice none 0 0) ∧ w'.frozen? ⟨w.heap.size + 1, 0, none⟩ = false ∧ w'.frozen? ⟨w.heap.size + 1, 1, none⟩ = false := by
  obtain ⟨a1, a2, a3, a4⟩ := h.box.two
  obtain ⟨b1, b2, b3, b4⟩ := h.res.two
  exact ⟨a1, a2, a3, a4, b1, b2, b3, b4⟩
theorem neA (h : InnerB B w w' ms al A c A' c') {g : Nat} (hg : A' = some ⟨g, 0, none⟩) : w.heap.size ≠ g ∧ w.heap.size + 1 ≠ g := by
  subst hg
  have h1 := own_ne h.own.2 h.box (by decide)
  have h2 := own_ne h.own.2 h.res (by decide)
  simp only [Value.ownBlock, ne_eq, Option.some.injEq] at h1 h2
  exact ⟨h1, h2⟩
theorem neM (h : InnerB B w w' ms al A c A' c') {g : Nat} (hg : A = some ⟨g, 0, none⟩) : w.heap.size ≠ g ∧ w.heap.size + 1 ≠ g := by
  subst hg
  have h1 := own_ne h.own.1 h.box (by decide)
  have h2 := own_ne h.own.1 h.res (by decide)
  simp only [Value.ownBlock, ne_eq, Option.some.injEq] at h1 h2
  exact ⟨h1, h2⟩
theorem headM {m : Mk} {r : List Mk} (h : InnerB B w w' (m :: r) al A c A' c') :
    ∃ g, A = some ⟨g, 0, none⟩ ∧ w'.cell? ⟨g, r.length * 3, none⟩ = some (.bool m.lv) ∧ w'.cell? ⟨g, r.length * 3 + 1, none⟩ = some (.bool m.df) ∧ w'.cell? ⟨g, r.length * 3 + 2, none⟩ = some (.int .i64 m.th) ∧ ∀ i, w'.frozen? ⟨g, i, none⟩ = false := by
  have h1 := h.own.1
  rcases h1.2 with ⟨_, h0⟩ | ⟨g, cap, cur, he, hb, hh, hn, hm, hs, ht⟩
  · simp at h0
  · injection he with h3 h4 h5
    subst h3 h5
    obtain ⟨e0, e1, e2⟩ := mc_at m r
    have hl := mc_length (m :: r)
    refine ⟨g, rfl, ?_, ?_, ?_, fun i => h1.frozenAt i⟩
    · rw [h1.cellAt _ (by simp)]; exact e0
    · rw [h1.cellAt _ (by simp; omega)]; exact e1
    · rw [h1.cellAt _ (by simp; omega)]; exact e2
theorem headA {m : Al} {r : List Al} (h : InnerB B w w' ms (m :: r) A c A' c') :
    ∃ g, A' = some ⟨g, 0, none⟩ ∧ w'.cell? ⟨g, r.length * 5, none⟩ = some (.int .i64 m.code) ∧ w'.cell? ⟨g, r.length * 5 + 1, none⟩ = some (.int .i64 m.ptr) ∧ w'.cell? ⟨g, r.length * 5 + 2, none⟩ = some (.int .i64 m.run) ∧
      w'.cell? ⟨g, r.length * 5 + 3, none⟩ = some (.bool m.ex) ∧ w'.cell? ⟨g, r.length * 5 + 4, none⟩ = some (.bool m.rc) ∧ ∀ i, w'.frozen? ⟨g, i, none⟩ = false := by
  have h1 := h.own.2
  rcases h1.2 with ⟨_, h0⟩ | ⟨g, cap, cur, he, hb, hh, hn, hm, hs, ht⟩
  · simp at h0
  · injection he with h3 h4 h5
    subst h3 h5
    obtain ⟨e0, e1, e2, e3, e4⟩ := ac_at m r
    have hl := ac_length (m :: r)
    refine ⟨g, rfl, ?_, ?_, ?_, ?_, ?_, fun i => h1.frozenAt i⟩
    · rw [h1.cellAt _ (by simp)]; exact e0
    · rw [h1.cellAt _ (by simp; omega)]; exact e1
    · rw [h1.cellAt _ (by simp; omega)]; exact e2
    · rw [h1.cellAt _ (by simp; omega)]; exact e3
    · rw [h1.cellAt _ (by simp; omega)]; exact e4
theorem setM {ms' : List Mk} {g : Nat} (h : InnerB B w w' ms al (some ⟨g, 0, none⟩) c A' c') (i : Nat) (u : Value) (hl : ms'.length = ms.length) (hs : (mc ms).set i u = mc ms') :
    InnerB B w (w'.setCell ⟨g, i, none⟩ u) ms' al (some ⟨g, 0, none⟩) c A' c' := by
  have hst := h.own.1.stored i u
  have hge := (h.own.1.lt g rfl).1
  refine ⟨?_, ?_, ⟨?_, ?_⟩, ?_, h.hB⟩
  · rw [hl]; exact h.box.other (a := ⟨g, i, none⟩) (h.neM rfl).1 _
  · exact h.res.other (a := ⟨g, i, none⟩) (h.neM rfl).2 _
  · rw [hl, ← hs]; exact hst.1
  · exact h.own.2.kept hst.2 (own_kinds h.own.1 h.own.2 (by decide))
  · exact h.below.setCell (show B ≤ g by omega) _
theorem setA {al' : List Al} {g : Nat} (h : InnerB B w w' ms al A c (some ⟨g, 0, none⟩) c') (i : Nat) (u : Value) (hl : al'.length = al.length) (hs : (ac al).set i u = ac al') :
    InnerB B w (w'.setCell ⟨g, i, none⟩ u) ms al' A c (some ⟨g, 0, none⟩) c' := by
  have hst := h.own.2.stored i u
  have hge := (h.own.2.lt g rfl).1
  refine ⟨?_, ?_, ⟨?_, ?_⟩, ?_, h.hB⟩
  · rw [hl]; exact h.box.other (a := ⟨g, i, none⟩) (h.neA rfl).1 _
  · exact h.res.other (a := ⟨g, i, none⟩) (h.neA rfl).2 _
  · exact h.own.1.kept hst.2 (own_kinds h.own.2 h.own.1 (by decide))
  · rw [hl, ← hs]; exact hst.1
  · exact h.below.setCell (show B ≤ g by omega) _
theorem gives (h : InnerB B w w' ms al A c A' c') :
    GivesO B ms al w (.returned (.agg #[.slice A ms.length c, .slice A' al.length c'])) ((w'.setCell ⟨w.heap.size + 1, 0, none⟩ (.slice A ms.length c)).setCell ⟨w.heap.size + 1, 1, none⟩ (.slice A' al.length c')) := by
  have B3 := h.res.set 0 (.slice A ms.length c)
  have hB := h.hB
  refine ⟨A, c, A', c', rfl, ⟨?_, ?_⟩, (h.below.setCell (show B ≤ w.heap.size + 1 by omega) _).setCell (show B ≤ w.heap.size + 1 by omega) _⟩
  · exact own_set (own_set h.own.1 h.res (by decide)) B3 (by decide)
  · exact own_set (own_set h.own.2 h.res (by decide)) B3 (by decide)
theorem capA (h : InnerB B w w' ms al A c A' c') : al.length ≤ c' ∧ c' ≤ maxLen := by
  rcases h.own.2.2 with ⟨he, h0⟩ | ⟨g, cap, cur, he, hb, hh, hn, hm, hs, ht⟩
  · exact ⟨by omega, by injection he with _ _ h5; subst h5; unfold maxLen; omega⟩
  · injection he with h3 h4 h5
    subst h5
    exact ⟨hn, hm⟩
/-- The last alarm is cut off. -/
theorem cutA {a : Al} (h : InnerB B w w' ms (a :: al) A c A' c') : InnerB B w (w'.setCell ⟨w.heap.size, 1, none⟩ (.slice A' al.length c')) ms al A c A' c' := by
  have ho : w'.ownsRow B 32 5 (.slice A' al.length c') al.length (ac al) := own_cut h.own.2 (by simp) (by rw [← ac_length]; simp [ac])
  refine ⟨h.box.set 1 _, ?_, ⟨?_, ?_⟩, h.below.setCell h.hB _, h.hB⟩
  · exact h.res.other (a := ⟨w.heap.size, 1, none⟩) (by show w.heap.size + 1 ≠ w.heap.size; omega) _
  · exact own_set h.own.1 h.box (by decide)
  · exact own_set ho h.box (by decide)
end InnerB

/-- Behind the end of a frame at depth n. -/
def endA (n : Int) : List Al → List Al
  | [] => []
  | a :: q => if a.run = n then (if a.rc then q else { a with run := 0 } :: q) else a :: q
def endM (n : Int) (ms : List Mk) : List Al → List Mk
  | [] => ms
  | a :: _ => if a.run = n then (if a.rc then leave ms else ms) else ms

set_option maxHeartbeats 2000000 in
theorem ended_any (w : World) (B : Nat) (A : Option Addr) (c : Nat) (A' : Option Addr) (c' : Nat) (ms : List Mk) (al : List Al) (ho : Owned B w ms al A c A' c') (hB : B ≤ w.heap.size) (hl : ms.length ≤ 1000) (hla : al.length ≤ 1000) :
    Calls Try.prog 24 #[.agg #[.slice A ms.length c, .slice A' al.length c'], .int .i64 ((ms.length : Int) + 1)] w (GivesO B (endM ((ms.length : Int) + 1) ms al) (endA ((ms.length : Int) + 1) al) w) := by
  have HI := Lib.hid (InnerB.start ho hB)
  clear ho
  rcases al with _ | ⟨⟨code, ptr, run, ex, rc⟩, q⟩
  · rw [show endM ((ms.length : Int) + 1) ms [] = ms from rfl, show endA ((ms.length : Int) + 1) [] = [] from rfl]
    go_enter Try.func24, Try.ntmps24
    go_upto_region 1 with (fail)
    try simp only [List.length_nil] at *
    generalize (w.alloc (.cells #[.slice A ms.length c, .slice A' 0 c'] 26)).alloc (.cells #[.slice none 0 0, .slice none 0 0] 26) = w1 at *
    obtain ⟨l1, l2, l3, l4, l5, l6, l7, l8⟩ := HI.out.boxCells
    simp only [List.length_nil] at l1 l2
    go_wp2_with fail
    exact bodyPost_ret (v := .agg #[.slice A ms.length c, .slice A' 0 c']) (by simp [results, Try.results24, go_sem, l5, l6]) rfl HI.out.gives
  · simp only [List.length_cons] at hla
    by_cases hr : run = (ms.length : Int) + 1
    · subst hr
      have hd : (((ms.length : Int) + 1) != ((ms.length : Int) + 1)) = false := by simp
      cases rc
      · rw [show endM ((ms.length : Int) + 1) ms (⟨code, ptr, (ms.length : Int) + 1, ex, false⟩ :: q) = ms by simp [endM], show endA ((ms.length : Int) + 1) (⟨code, ptr, (ms.length : Int) + 1, ex, false⟩ :: q) = ⟨code, ptr, 0, ex, false⟩ :: q by simp [endA]]
        go_enter Try.func24, Try.ntmps24
        go_upto_region 1 with (fail)
        generalize (w.alloc (.cells #[.slice A ms.length c, .slice A' (q.length + 1) c'] 26)).alloc (.cells #[.slice none 0 0, .slice none 0 0] 26) = w1 at *
        obtain ⟨l1, l2, l3, l4, l5, l6, l7, l8⟩ := HI.out.boxCells
        simp only [List.length_cons, List.length_nil] at l1 l2
        obtain ⟨g, rfl, c0, c1, c2, c3, c4, hf⟩ := HI.out.headA
        have f2 := hf (q.length * 5 + 2)
        have f4 := hf (q.length * 5 + 4)
        obtain ⟨ne1, ne2⟩ := HI.out.neA rfl
        clear hf
        have HI2 := Lib.hid (HI.out.setA (q.length * 5 + 2) (.int .i64 0) (al' := ⟨code, ptr, 0, ex, false⟩ :: q) rfl (set_run _ q _))
        obtain ⟨n1, n2, n3, n4, n5, n6, n7, n8⟩ := HI2.out.boxCells
        simp only [List.length_cons] at n1 n2
        go_wp2_with fail
        exact bodyPost_ret (v := .agg #[.slice A ms.length c, .slice (some ⟨g, 0, none⟩) (q.length + 1) c']) (by simp [results, Try.results24, go_sem, n5, n6]) rfl HI2.out.gives
      · rw [show endM ((ms.length : Int) + 1) ms (⟨code, ptr, (ms.length : Int) + 1, ex, true⟩ :: q) = leave ms by simp [endM], show endA ((ms.length : Int) + 1) (⟨code, ptr, (ms.length : Int) + 1, ex, true⟩ :: q) = q by simp [endA]]
        have hcap : (q.length : Int) ≤ (c' : Int) := by have := HI.out.capA.1; rw [List.length_cons] at this; omega
        have hcp0 : (0 : Int) ≤ (q.length : Int) := by omega
        rcases ms with _ | ⟨m, r⟩
        · rw [show leave [] = [] from rfl]
          go_enter Try.func24, Try.ntmps24
          go_upto_region 1 with (fail)
          generalize (w.alloc (.cells #[.slice A 0 c, .slice A' (q.length + 1) c'] 26)).alloc (.cells #[.slice none 0 0, .slice none 0 0] 26) = w1 at *
          obtain ⟨l1, l2, l3, l4, l5, l6, l7, l8⟩ := HI.out.boxCells
          simp only [List.length_cons, List.length_nil] at l1 l2
          obtain ⟨g, rfl, c0, c1, c2, c3, c4, hf⟩ := HI.out.headA
          have f2 := hf (q.length * 5 + 2)
          have f4 := hf (q.length * 5 + 4)
          obtain ⟨ne1, ne2⟩ := HI.out.neA rfl
          clear hf
          have HI2 := Lib.hid (HI.out.setA (q.length * 5 + 2) (.int .i64 0) (al' := ⟨code, ptr, 0, ex, true⟩ :: q) rfl (set_run _ q _))
          obtain ⟨n1, n2, n3, n4, n5, n6, n7, n8⟩ := HI2.out.boxCells
          have HI3 := Lib.hid HI2.out.cutA
          obtain ⟨p1, p2, p3, p4, p5, p6, p7, p8⟩ := HI3.out.boxCells
          simp only [List.length_cons, List.length_nil] at n1 n2 p1 p2 hd
          go_wp2_with fail
          exact bodyPost_ret (v := .agg #[.slice A 0 c, .slice (some ⟨g, 0, none⟩) q.length c']) (by simp [results, Try.results24, go_sem, p5, p6]) rfl HI3.out.gives
        · rw [show leave (m :: r) = { m with lv := true } :: r from rfl]
          simp only [List.length_cons] at hl hd
          have hd2 : decide ((1 : Int) < (r.length : Int) + 1 + 1) = true := by simp; omega
          go_enter Try.func24, Try.ntmps24
          go_upto_region 1 with (fail)
          generalize (w.alloc (.cells #[.slice A (r.length + 1) c, .slice A' (q.length + 1) c'] 26)).alloc (.cells #[.slice none 0 0, .slice none 0 0] 26) = w1 at *
          obtain ⟨l1, l2, l3, l4, l5, l6, l7, l8⟩ := HI.out.boxCells
          simp only [List.length_cons, List.length_nil] at l1 l2
          obtain ⟨g, rfl, c0, c1, c2, c3, c4, hf⟩ := HI.out.headA
          have f2 := hf (q.length * 5 + 2)
          have f4 := hf (q.length * 5 + 4)
          obtain ⟨ne1, ne2⟩ := HI.out.neA rfl
          clear hf
          have HI2 := Lib.hid (HI.out.setA (q.length * 5 + 2) (.int .i64 0) (al' := ⟨code, ptr, 0, ex, true⟩ :: q) rfl (set_run _ q _))
          obtain ⟨n1, n2, n3, n4, n5, n6, n7, n8⟩ := HI2.out.boxCells
          have HI3 := Lib.hid HI2.out.cutA
          obtain ⟨p1, p2, p3, p4, p5, p6, p7, p8⟩ := HI3.out.boxCells
          obtain ⟨g2, rfl, d0, d1, d2, hf⟩ := HI3.out.headM
          have k0 := hf (r.length * 3)
          have HI4 := Lib.hid (HI3.out.setM (r.length * 3) (.bool true) (ms' := { m with lv := true } :: r) rfl (set_lv m r true))
          obtain ⟨q1, q2, q3, q4, q5, q6, q7, q8⟩ := HI4.out.boxCells
          simp only [List.length_cons, List.length_nil] at n1 n2 p1 p2 q1 q2
          clear hf
          go_wp2_with fail
          exact bodyPost_ret (v := .agg #[.slice (some ⟨g2, 0, none⟩) (r.length + 1) c, .slice (some ⟨g, 0, none⟩) q.length c']) (by simp [results, Try.results24, go_sem, q5, q6]) rfl HI4.out.gives
    · have hd : (run != ((ms.length : Int) + 1)) = true := by simpa using hr
      rw [show endM ((ms.length : Int) + 1) ms (⟨code, ptr, run, ex, rc⟩ :: q) = ms by simp [endM, hr], show endA ((ms.length : Int) + 1) (⟨code, ptr, run, ex, rc⟩ :: q) = ⟨code, ptr, run, ex, rc⟩ :: q by simp [endA, hr]]
      go_enter Try.func24, Try.ntmps24
      go_upto_region 1 with (fail)
      generalize (w.alloc (.cells #[.slice A ms.length c, .slice A' (q.length + 1) c'] 26)).alloc (.cells #[.slice none 0 0, .slice none 0 0] 26) = w1 at *
      obtain ⟨l1, l2, l3, l4, l5, l6, l7, l8⟩ := HI.out.boxCells
      simp only [List.length_cons, List.length_nil] at l1 l2
      obtain ⟨g, rfl, c0, c1, c2, c3, c4, hf⟩ := HI.out.headA
      have f2 := hf (q.length * 5 + 2)
      have f4 := hf (q.length * 5 + 4)
      obtain ⟨ne1, ne2⟩ := HI.out.neA rfl
      clear hf
      go_wp2_with fail
      exact bodyPost_ret (v := .agg #[.slice A ms.length c, .slice (some ⟨g, 0, none⟩) (q.length + 1) c']) (by simp [results, Try.results24, go_sem, l5, l6]) rfl HI.out.gives
end Go.Proofs.Ytjlbmelpoaffpaa.Unw
