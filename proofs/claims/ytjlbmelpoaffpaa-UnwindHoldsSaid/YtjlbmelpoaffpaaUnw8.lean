/- Package unwind: the contract of Thunk. (Printed by a program of mine.) -/
import Derived.Test.YtjlbmelpoaffpaaUnw6
namespace Go.Proofs.Ytjlbmelpoaffpaa.Unw
open Go.RowKit
set_option linter.unusedSimpArgs false
set_option linter.unusedVariables false

/-- Own was called in a world in which the box and the cell of the result stand. -/
theorem inner_own2 {w W0 w1 : World} {x y : Value} {e : Ending} {ms : List Mk} {al : List Al} (hb1 : Blk W0 w.heap.size #[x, y] 26) (hb2 : Blk W0 (w.heap.size + 1) #[.slice none 0 0, .slice none 0 0] 26) (hw0 : Below w.heap.size w W0)
    (h : Gives id ms al W0 e w1) :
    ∃ A c A' c', e = .returned (.agg #[.slice A ms.length c, .slice A' al.length c']) ∧ w1.cell? ⟨w.heap.size, 0, none⟩ = some x ∧ w1.cell? ⟨w.heap.size, 1, none⟩ = some y ∧ w1.frozen? ⟨w.heap.size, 0, none⟩ = false ∧ w1.frozen? ⟨w.heap.size, 1, none⟩ = false ∧
      Inner w ((w1.setCell ⟨w.heap.size, 0, none⟩ (.slice A ms.length c)).setCell ⟨w.heap.size, 1, none⟩ (.slice A' al.length c')) ms al A c A' c' := by
  obtain ⟨A, c, A', c', rfl, ho, hb⟩ := h
  have hs : w.heap.size + 2 ≤ W0.heap.size := hb2.lt
  have B1 := hb1.call hb
  have B2' := hb2.call hb
  have hw := below_call hw0 (by omega) hb
  obtain ⟨k1, k2, k3, k4⟩ := B1.two
  have B3 := B1.set 0 (.slice A ms.length c)
  refine ⟨A, c, A', c', rfl, k1, k2, k3, k4, ⟨B3.set 1 (.slice A' al.length c'), ?_, ⟨?_, ?_⟩, (hw.setCell (Nat.le_refl _) _).setCell (Nat.le_refl _) _⟩⟩
  · exact (B2'.other (a := ⟨w.heap.size, 0, none⟩) (by show w.heap.size + 1 ≠ w.heap.size; omega) _).other (a := ⟨w.heap.size, 1, none⟩) (by show w.heap.size + 1 ≠ w.heap.size; omega) _
  · exact own_mono (own_set (own_set ho.1 B1 (by decide)) B3 (by decide)) hs
  · exact own_mono (own_set (own_set ho.2 B1 (by decide)) B3 (by decide)) hs

def thunkM (ms : List Mk) (al : List Al) : List Mk :=
  if next ms al = 1 then (match ms with | [] => [] | m :: r => ⟨false, true, 0⟩ :: { m with th := m.th - 1 } :: r) else ms
def thunkA (ms : List Mk) (al : List Al) : List Al :=
  if next ms al = 1 ∧ unw al = true then (match al with | [] => [] | a :: q => { a with run := (ms.length : Int) + 1 } :: q) else al

set_option maxHeartbeats 2000000 in
theorem thunk_no (w : World) (v : Value) (ms : List Mk) (al : List Al) (h : St w v ms al) (hn : next ms al ≠ 1) :
    Calls Try.prog 13 #[v] w (Gives id ms al w) := by
  have HS := Lib.hid h
  obtain ⟨A, c, A', c', rfl, _, _, hml, hal⟩ := h
  go_enter Try.func13, Try.ntmps13
  go_wp2_with fail
  have hb1 := (Blk.new w #[.slice A ms.length c, .slice A' al.length c'] 26).alloc (.cells #[.slice none 0 0, .slice none 0 0] 26)
  have hb2 := Blk.new' (w := w.alloc (.cells #[.slice A ms.length c, .slice A' al.length c'] 26)) (n := w.heap.size + 1) (by simp) #[.slice none 0 0, .slice none 0 0] 26
  have hw0 := fresh_alloc (fresh_alloc (Below.refl w.heap.size w) (.cells #[.slice A ms.length c, .slice A' al.length c'] 26)) (.cells #[.slice none 0 0, .slice none 0 0] 26)
  generalize (w.alloc (.cells #[.slice A ms.length c, .slice A' al.length c'] 26)).alloc (.cells #[.slice none 0 0, .slice none 0 0] 26) = w0 at *
  refine (next_any _ _ ms al (HS.out.below hw0)).mono ?_
  rintro e wn ⟨rfl, hb⟩
  have HB1 := Lib.hid (hb1.call hb)
  have HB2 := Lib.hid (hb2.call hb)
  have HW0 := Lib.hid (fresh_call hw0 hb)
  obtain ⟨x1, x2, x3, x4⟩ := HB1.out.two
  clear hb1 hb2 hw0 hb
  generalize next ms al = nx at *
  have hnx : (nx == 1) = false := by simpa using hn
  dsimp only
  go_wp2_with fail
  refine (own_any _ _ ms al (HS.out.below HW0.out)).mono ?_
  intro e w1 hg
  obtain ⟨A3, c3, A4, c4, rfl, k1, k2, k3, k4, hin⟩ := inner_own2 HB1.out HB2.out HW0.out hg
  skip
  have HIN := Lib.hid hin
  clear hg hin x1 x2 x3 x4
  have hlt := HIN.out.lt
  dsimp only
  obtain ⟨l1, l2, l3, l4, l5, l6, l7, l8⟩ := HIN.out.boxCells
  go_wp2_with fail
  exact bodyPost_ret (v := .agg #[.slice A3 ms.length c3, .slice A4 al.length c4]) (by simp [results, Try.results13, go_sem, l5, l6]) rfl (HIN.out.gives id)

set_option maxHeartbeats 2000000 in
theorem thunk_quiet (w : World) (v : Value) (lv df : Bool) (th : Int) (r : List Mk) (al : List Al) (h : St w v (⟨lv, df, th⟩ :: r) al) (hn : next (⟨lv, df, th⟩ :: r) al = 1) (hth : 0 < th) (hth2 : th ≤ 16) (hml : r.length ≤ 900) (hu : unw al = false) :
    Calls Try.prog 13 #[v] w (Gives id (⟨false, true, 0⟩ :: ⟨lv, df, th - 1⟩ :: r) al w) := by
  have HU := Lib.hid hu
  clear hu
  obtain ⟨i0, hi0, hz0, hz1, hz2⟩ := info_parts infoM
  have HI := Lib.hid (⟨hi0, hz0, hz1, hz2⟩ : Try.prog.info? 38 = some i0 ∧ i0.zero = some (.agg #[.bool false, .bool false, .int .i64 0]) ∧ i0.size = 3 ∧ i0.bytes = 16)
  have HS := Lib.hid h
  obtain ⟨A, c, A', c', rfl, _, _, _, hal⟩ := h
  clear hi0 hz0 hz1 hz2
  go_enter Try.func13, Try.ntmps13
  go_wp2_with fail
  have hb1 := (Blk.new w #[.slice A (r.length + 1) c, .slice A' al.length c'] 26).alloc (.cells #[.slice none 0 0, .slice none 0 0] 26)
  have hb2 := Blk.new' (w := w.alloc (.cells #[.slice A (r.length + 1) c, .slice A' al.length c'] 26)) (n := w.heap.size + 1) (by simp) #[.slice none 0 0, .slice none 0 0] 26
  have hw0 := fresh_alloc (fresh_alloc (Below.refl w.heap.size w) (.cells #[.slice A (r.length + 1) c, .slice A' al.length c'] 26)) (.cells #[.slice none 0 0, .slice none 0 0] 26)
  generalize (w.alloc (.cells #[.slice A (r.length + 1) c, .slice A' al.length c'] 26)).alloc (.cells #[.slice none 0 0, .slice none 0 0] 26) = w0 at *
  refine (next_any _ _ (⟨lv, df, th⟩ :: r) al (HS.out.below hw0)).mono ?_
  rintro e wn ⟨rfl, hb⟩
  have HB1 := Lib.hid (hb1.call hb)
  have HB2 := Lib.hid (hb2.call hb)
  have HW0 := Lib.hid (fresh_call hw0 hb)
  obtain ⟨x1, x2, x3, x4⟩ := HB1.out.two
  clear hb1 hb2 hw0 hb
  rw [hn]
  dsimp only
  go_wp2_with fail
  refine (own_any _ _ (⟨lv, df, th⟩ :: r) al (HS.out.below HW0.out)).mono ?_
  intro e w1 hg
  obtain ⟨A3, c3, A4, c4, rfl, k1, k2, k3, k4, hin⟩ := inner_own2 HB1.out HB2.out HW0.out hg
  simp only [List.length_cons, List.length_nil] at hin k1 k2
  have HIN := Lib.hid hin
  clear hg hin x1 x2 x3 x4
  have hlt := HIN.out.lt
  dsimp only
  obtain ⟨l1, l2, l3, l4, l5, l6, l7, l8⟩ := HIN.out.boxCells
  obtain ⟨g, rfl, hg, c0, c1, c2, hf⟩ := HIN.out.headM
  have f2 := hf (r.length * 3 + 2)
  have HI2 := Lib.hid (Inner.setM HIN.out (r.length * 3 + 2) (.int .i64 (th - 1)) (ms' := ⟨lv, df, th - 1⟩ :: r) rfl (set_th _ r (th - 1)))
  obtain ⟨n1, n2, n3, n4, n5, n6, n7, n8⟩ := HI2.out.boxCells
  simp only [List.length_cons, List.length_nil] at l1 l2 n1 n2
  clear hf
  have hz2 : w1.heap.size = (((((w1.setCell ⟨w.heap.size, 0, none⟩ (.slice (some ⟨g, 0, none⟩) (r.length + 1) c3)).setCell ⟨w.heap.size, 1, none⟩ (.slice A4 al.length c4)).setCell ⟨g, r.length * 3 + 2, none⟩ (.int .i64 (th - 1))))).heap.size := by simp [World.setCell]
  have HZ2 := Lib.hid hz2
  clear hz2
  go_wp2_with (first
    | (at_builtin; go_loud (refine wpList_app _ rfl _ _ 23 rfl (w.heap.size + 2) 38 i0 _ 3 16 Try.underlying23 HI.out.1 HI.out.2.1 HI.out.2.2.1 HI.out.2.2.2 rfl (by decide) _ (r.length + 1) (mc (⟨lv, df, th - 1⟩ :: r)) rfl (HI2.out.own.1.alloc _) (w1.heap.size + 1) _ 1 1 (Mk.cells ⟨false, true, 0⟩) rfl ?c1 ?c2 ?c3 ?c4 ?c5 ?_))
    | fail)
  case c1 => exact Blk.readsN (cs := #[.bool false, .bool true, .int .i64 0]) (Blk.new' HZ2.out.symm _ _) (Nat.lt_succ_self _) rfl rfl (by decide)
  case c2 => exact mc_one [⟨false, true, 0⟩]
  case c3 => unfold maxLen; omega
  case c4 => omega
  case c5 => first | omega | (simp [World.setCell]; omega)
  intro a' c5 w2 ho2 hg2 _
  obtain ⟨j1, j2, hin⟩ := Inner.moreM ⟨HI2.out.box.alloc _, HI2.out.res.alloc _, ⟨HI2.out.own.1.alloc _, HI2.out.own.2.alloc _⟩, fresh_alloc HI2.out.below _⟩ ⟨false, true, 0⟩ ho2 hg2
  have HI3 := Lib.hid hin
  clear hin ho2 hg2 l1 l2 l3 l4 l5 l6 l7 l8 n1 n2 n3 n4 n5 n6 n7 n8 c0 c1 c2 f2
  obtain ⟨l1, l2, l3, l4, l5, l6, l7, l8⟩ := HI3.out.boxCells
  simp only [List.length_cons, List.length_nil] at l1 l2 j1
  go_wp2_with fail
  generalize w2.setCell ⟨w.heap.size, 0, none⟩ (.slice a' (r.length + 1 + 1) c5) = w3 at *
  refine (unwinds_any _ _ _ al (HI3.out.st (by simp; omega) hal)).mono ?_
  rintro e w4 ⟨rfl, hb⟩
  have HI4 := Lib.hid (HI3.out.call hb)
  clear hb l1 l2 l3 l4 l5 l6 l7 l8
  obtain ⟨l1, l2, l3, l4, l5, l6, l7, l8⟩ := HI4.out.boxCells
  simp only [List.length_cons, List.length_nil] at l1 l2
  rw [HU.out]
  dsimp only
  go_wp2_with fail
  exact bodyPost_ret (v := .agg #[.slice a' (r.length + 1 + 1) c5, .slice A4 al.length c4]) (by simp [results, Try.results13, go_sem, l5, l6]) rfl (HI4.out.gives id)

set_option maxHeartbeats 2000000 in
theorem thunk_runs (w : World) (v : Value) (lv df : Bool) (th : Int) (r : List Mk) (code ptr : Int) (ex rc : Bool) (q : List Al) (h : St w v (⟨lv, df, th⟩ :: r) (⟨code, ptr, 0, ex, rc⟩ :: q)) (hn : next (⟨lv, df, th⟩ :: r) (⟨code, ptr, 0, ex, rc⟩ :: q) = 1) (hth : 0 < th) (hth2 : th ≤ 16) (hml : r.length ≤ 900) :
    Calls Try.prog 13 #[v] w (Gives id (⟨false, true, 0⟩ :: ⟨lv, df, th - 1⟩ :: r) (⟨code, ptr, (r.length : Int) + 1 + 1, ex, rc⟩ :: q) w) := by
  obtain ⟨i0, hi0, hz0, hz1, hz2⟩ := info_parts infoM
  have HI := Lib.hid (⟨hi0, hz0, hz1, hz2⟩ : Try.prog.info? 38 = some i0 ∧ i0.zero = some (.agg #[.bool false, .bool false, .int .i64 0]) ∧ i0.size = 3 ∧ i0.bytes = 16)
  have HS := Lib.hid h
  obtain ⟨A, c, A', c', rfl, _, _, _, hal⟩ := h
  clear hi0 hz0 hz1 hz2
  simp only [List.length_cons] at hal
  go_enter Try.func13, Try.ntmps13
  go_wp2_with fail
  have hb1 := (Blk.new w #[.slice A (r.length + 1) c, .slice A' (q.length + 1) c'] 26).alloc (.cells #[.slice none 0 0, .slice none 0 0] 26)
  have hb2 := Blk.new' (w := w.alloc (.cells #[.slice A (r.length + 1) c, .slice A' (q.length + 1) c'] 26)) (n := w.heap.size + 1) (by simp) #[.slice none 0 0, .slice none 0 0] 26
  have hw0 := fresh_alloc (fresh_alloc (Below.refl w.heap.size w) (.cells #[.slice A (r.length + 1) c, .slice A' (q.length + 1) c'] 26)) (.cells #[.slice none 0 0, .slice none 0 0] 26)
  generalize (w.alloc (.cells #[.slice A (r.length + 1) c, .slice A' (q.length + 1) c'] 26)).alloc (.cells #[.slice none 0 0, .slice none 0 0] 26) = w0 at *
  refine (next_any _ _ (⟨lv, df, th⟩ :: r) (⟨code, ptr, 0, ex, rc⟩ :: q) (HS.out.below hw0)).mono ?_
  rintro e wn ⟨rfl, hb⟩
  have HB1 := Lib.hid (hb1.call hb)
  have HB2 := Lib.hid (hb2.call hb)
  have HW0 := Lib.hid (fresh_call hw0 hb)
  obtain ⟨x1, x2, x3, x4⟩ := HB1.out.two
  clear hb1 hb2 hw0 hb
  rw [hn]
  dsimp only
  go_wp2_with fail
  refine (own_any _ _ (⟨lv, df, th⟩ :: r) (⟨code, ptr, 0, ex, rc⟩ :: q) (HS.out.below HW0.out)).mono ?_
  intro e w1 hg
  obtain ⟨A3, c3, A4, c4, rfl, k1, k2, k3, k4, hin⟩ := inner_own2 HB1.out HB2.out HW0.out hg
  simp only [List.length_cons, List.length_nil] at hin k1 k2
  have HIN := Lib.hid hin
  clear hg hin x1 x2 x3 x4
  have hlt := HIN.out.lt
  dsimp only
  obtain ⟨l1, l2, l3, l4, l5, l6, l7, l8⟩ := HIN.out.boxCells
  obtain ⟨g, rfl, hg, c0, c1, c2, hf⟩ := HIN.out.headM
  have f2 := hf (r.length * 3 + 2)
  have HI2 := Lib.hid (Inner.setM HIN.out (r.length * 3 + 2) (.int .i64 (th - 1)) (ms' := ⟨lv, df, th - 1⟩ :: r) rfl (set_th _ r (th - 1)))
  obtain ⟨n1, n2, n3, n4, n5, n6, n7, n8⟩ := HI2.out.boxCells
  simp only [List.length_cons, List.length_nil] at l1 l2 n1 n2
  clear hf
  have hz2 : w1.heap.size = (((((w1.setCell ⟨w.heap.size, 0, none⟩ (.slice (some ⟨g, 0, none⟩) (r.length + 1) c3)).setCell ⟨w.heap.size, 1, none⟩ (.slice A4 (q.length + 1) c4)).setCell ⟨g, r.length * 3 + 2, none⟩ (.int .i64 (th - 1))))).heap.size := by simp [World.setCell]
  have HZ2 := Lib.hid hz2
  clear hz2
  go_wp2_with (first
    | (at_builtin; go_loud (refine wpList_app _ rfl _ _ 23 rfl (w.heap.size + 2) 38 i0 _ 3 16 Try.underlying23 HI.out.1 HI.out.2.1 HI.out.2.2.1 HI.out.2.2.2 rfl (by decide) _ (r.length + 1) (mc (⟨lv, df, th - 1⟩ :: r)) rfl (HI2.out.own.1.alloc _) (w1.heap.size + 1) _ 1 1 (Mk.cells ⟨false, true, 0⟩) rfl ?c1 ?c2 ?c3 ?c4 ?c5 ?_))
    | fail)
  case c1 => exact Blk.readsN (cs := #[.bool false, .bool true, .int .i64 0]) (Blk.new' HZ2.out.symm _ _) (Nat.lt_succ_self _) rfl rfl (by decide)
  case c2 => exact mc_one [⟨false, true, 0⟩]
  case c3 => unfold maxLen; omega
  case c4 => omega
  case c5 => first | omega | (simp [World.setCell]; omega)
  intro a' c5 w2 ho2 hg2 _
  obtain ⟨j1, j2, hin⟩ := Inner.moreM ⟨HI2.out.box.alloc _, HI2.out.res.alloc _, ⟨HI2.out.own.1.alloc _, HI2.out.own.2.alloc _⟩, fresh_alloc HI2.out.below _⟩ ⟨false, true, 0⟩ ho2 hg2
  have HI3 := Lib.hid hin
  clear hin ho2 hg2 l1 l2 l3 l4 l5 l6 l7 l8 n1 n2 n3 n4 n5 n6 n7 n8 c0 c1 c2 f2
  obtain ⟨l1, l2, l3, l4, l5, l6, l7, l8⟩ := HI3.out.boxCells
  simp only [List.length_cons, List.length_nil] at l1 l2 j1
  go_wp2_with fail
  generalize w2.setCell ⟨w.heap.size, 0, none⟩ (.slice a' (r.length + 1 + 1) c5) = w3 at *
  refine (unwinds_any _ _ _ (⟨code, ptr, 0, ex, rc⟩ :: q) (HI3.out.st (by simp; omega) hal)).mono ?_
  rintro e w4 ⟨rfl, hb⟩
  have HI4 := Lib.hid (HI3.out.call hb)
  clear hb l1 l2 l3 l4 l5 l6 l7 l8
  obtain ⟨l1, l2, l3, l4, l5, l6, l7, l8⟩ := HI4.out.boxCells
  simp only [List.length_cons, List.length_nil] at l1 l2
  rw [show unw (⟨code, ptr, 0, ex, rc⟩ :: q) = true from rfl]
  dsimp only
  obtain ⟨g2, rfl, hg2, d0, d1, d2, d3, d4, hf⟩ := HI4.out.headA
  have f2 := hf (q.length * 5 + 2)
  have HI5 := Lib.hid (Inner.setA HI4.out (q.length * 5 + 2) (.int .i64 ((r.length : Int) + 1 + 1)) (al' := ⟨code, ptr, (r.length : Int) + 1 + 1, ex, rc⟩ :: q) rfl (set_run _ q _))
  obtain ⟨n1, n2, n3, n4, n5, n6, n7, n8⟩ := HI5.out.boxCells
  simp only [List.length_cons] at n1 n2
  clear hf
  go_wp2_with fail
  exact bodyPost_ret (v := .agg #[.slice a' (r.length + 1 + 1) c5, .slice (some ⟨g2, 0, none⟩) (q.length + 1) c4]) (by simp [results, Try.results13, go_sem, n5, n6]) rfl (HI5.out.gives id)

theorem next_cons (m : Mk) (r : List Mk) (al : List Al) : next (m :: r) al = if !unw al && !m.lv then 0 else if 0 < m.th then 1 else 2 := by cases al <;> rfl
theorem next_nil (al : List Al) : next [] al = 3 ∨ next [] al = 4 := by
  rcases al with _ | ⟨a, q⟩
  · exact .inl rfl
  · show (if a.ex then (3 : Int) else 4) = 3 ∨ (if a.ex then (3 : Int) else 4) = 4
    split
    · exact .inl rfl
    · exact .inr rfl
theorem next_one {m : Mk} {r : List Mk} {al : List Al} (h : next (m :: r) al = 1) : 0 < m.th := by
  rw [next_cons] at h
  split at h
  · simp at h
  · split at h
    · assumption
    · simp at h
theorem thunk_any (w : World) (v : Value) (ms : List Mk) (al : List Al) (h : St w v ms al) (hl : ms.length ≤ 900) (ht : okT ms) :
    Calls Try.prog 13 #[v] w (Gives id (thunkM ms al) (thunkA ms al) w) := by
  by_cases hn : next ms al = 1
  · rcases ms with _ | ⟨⟨lv, df, th⟩, r⟩
    · exfalso
      rcases next_nil al with h1 | h1 <;> rw [h1] at hn <;> simp at hn
    · have h0 := next_one hn
      have h16 := (ht _ List.mem_cons_self).2
      rw [List.length_cons] at hl
      unfold thunkM thunkA
      rw [if_pos hn]
      dsimp only
      by_cases hu : unw al = true
      · rw [if_pos ⟨hn, hu⟩]
        rcases al with _ | ⟨⟨code, ptr, run, ex, rc⟩, q⟩
        · simp [unw] at hu
        · have hrun : run = 0 := by simpa [unw] using hu
          subst hrun
          dsimp only
          rw [show ((⟨lv, df, th⟩ :: r : List Mk).length : Int) + 1 = (r.length : Int) + 1 + 1 by simp]
          exact thunk_runs w v lv df th r code ptr ex rc q h hn h0 h16 (by omega)
      · rw [if_neg (fun x => hu x.2)]
        exact thunk_quiet w v lv df th r al h hn h0 h16 (by omega) (by simpa using hu)
  · unfold thunkM thunkA
    rw [if_neg hn, if_neg (fun x => hn x.1)]
    exact thunk_no w v ms al h hn
end Go.Proofs.Ytjlbmelpoaffpaa.Unw
