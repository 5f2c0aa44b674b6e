/- The contracts of slices.Equal over integers and of shape.Same. (Printed by a program of mine.) -/
import Derived.Test.YtpdleckflcangaaShpR
namespace Go.Proofs.Ytpdleckflcangaa.Shp
open Go.RowKit Book
set_option linter.unusedSimpArgs false
set_option linter.unusedVariables false

set_option maxHeartbeats 400000 in
theorem equal_any (w : World) (B1 B2 : Nat) (A1 A2 : Option Addr) (n1 c1 n2 c2 : Nat) (xs ys : List Int) (h1 : RI w B1 A1 n1 c1 xs) (h2 : RI w B2 A2 n2 c2 ys) :
    Calls Try.prog 55 #[.slice A1 n1 c1, .slice A2 n2 c2] w fun e w' => e = .returned (.bool (decide (xs = ys))) ∧ ∃ k, w' = w.drewN k := by
  have hm1 : n1 ≤ 9223372036854775807 := by have := h1.2.1; have := h1.2.2.1; unfold maxLen at this; omega
  have hm2 : n2 ≤ 9223372036854775807 := by have := h2.2.1; have := h2.2.2.1; unfold maxLen at this; omega
  have HA := Lib.hid h1
  have HB := Lib.hid h2
  by_cases hn : n1 = n2
  · subst hn
    have hl := h1.1.trans h2.1.symm
    have HL := Lib.hid hl
    clear h1 h2 hl
    go_enter Try.func55, Try.ntmps55
    go_wp2_with fail
    go_loopw [13] (fun i wr => ∃ k d : Nat, k ≤ n1 ∧ i = .int .i64 k ∧ xs.take k = ys.take k ∧ wr = w.drewN d) (fun i _ => n1 - (intOf i).toNat)
    case atStart => exact ⟨0, 0, Nat.zero_le _, rfl, by simp, rfl⟩
    case round =>
      obtain ⟨k, d, hk, rfl, ht, rfl⟩ := hrel
      have HT := Lib.hid ht
      clear ht
      by_cases hlt : k < n1
      · have hx : k < xs.length := by have := HA.out.1; omega
        have hy : k < ys.length := by have := HB.out.1; omega
        have hxk : xs[k]? = some xs[k] := List.getElem?_eq_getElem hx
        have hyk : ys[k]? = some ys[k] := List.getElem?_eq_getElem hy
        obtain ⟨b1, o1, rfl, hb1, hc1⟩ := HA.out.at_ hxk
        obtain ⟨b2, o2, rfl, hb2, hc2⟩ := HB.out.at_ hyk
        have HX := Lib.hid hxk
        have HY := Lib.hid hyk
        clear hxk hyk
        have hk0 : (0 : Int) ≤ (k : Int) := by omega
        have hkn : (k : Int) < (n1 : Int) := by omega
        by_cases he : xs[k] = ys[k]
        · have HE := Lib.hid he
          rw [← he] at hc2
          clear he
          go_wp2_with fail
          go_quiet (fail)
          go_wp2_with fail
          refine ⟨⟨k + 1, _, by omega, by go_num, ?_, rfl⟩, by simp [intOf]; omega⟩
          rw [List.take_succ_eq_append_getElem hx, List.take_succ_eq_append_getElem hy, HT.out, HE.out]
        · have hne : (xs[k] != ys[k]) = true := by simpa using he
          have HE := Lib.hid he
          clear he
          go_wp2_with fail
          go_quiet (fail)
          go_wp2_with fail
          go_ret
          refine ⟨ret_bool ?_, _, World.drewN_drewN _ _ _⟩
          symm
          simp only [decide_eq_false_iff_not]
          intro e
          subst e
          exact HE.out rfl
      · have hkk : k = n1 := by omega
        subst hkk
        go_wp2_with fail
        go_ret
        refine ⟨ret_bool ?_, d, rfl⟩
        symm
        simp only [decide_eq_true_eq]
        have := HT.out
        rwa [List.take_of_length_le (by have := HA.out.1; omega), List.take_of_length_le (by have := HB.out.1; omega)] at this
  · have hne : ((n1 : Int) != (n2 : Int)) = true := by simp; omega
    clear h1 h2
    go_enter Try.func55, Try.ntmps55
    go_wp2_with fail
    go_ret
    refine ⟨ret_bool ?_, 0, rfl⟩
    symm
    simp only [decide_eq_false_iff_not]
    intro e
    subst e
    exact hn (HA.out.1.symm.trans HB.out.1)


theorem same_any (w : World) (B1 B2 : Nat) (A1 A2 : Option Addr) (n1 c1 n2 c2 : Nat) (xs ys : List Int) (h1 : RI w B1 A1 n1 c1 xs) (h2 : RI w B2 A2 n2 c2 ys) (hB1 : B1 ≤ w.heap.size) (hB2 : B2 ≤ w.heap.size) :
    Calls Try.prog 45 #[.agg #[.slice A1 n1 c1], .agg #[.slice A2 n2 c2]] w fun e w' => e = .returned (.bool (decide (xs = ys))) ∧ Below w.heap.size w w' := by
  have hw := fresh_alloc (fresh_alloc (Below.refl w.heap.size w) (.cells #[.slice A1 n1 c1] 48)) (.cells #[.slice A2 n2 c2] 48)
  have H1 := Lib.hid (show RI _ B1 A1 n1 c1 xs from ⟨h1.1, h1.2.below (hw.mono hB1)⟩)
  have H2 := Lib.hid (show RI _ B2 A2 n2 c2 ys from ⟨h2.1, h2.2.below (hw.mono hB2)⟩)
  clear h1 h2
  go_enter Try.func45, Try.ntmps45
  go_wp2_with fail
  generalize (w.alloc (.cells #[.slice A1 n1 c1] 48)).alloc (.cells #[.slice A2 n2 c2] 48) = w2 at *
  refine (equal_any w2 _ _ _ _ _ _ _ _ _ _ H1.out H2.out).mono ?_
  rintro e w3 ⟨rfl, k, rfl⟩
  dsimp only
  go_wp2_with fail
  go_ret
  exact ⟨rfl, below_drewN hw k⟩
end Go.Proofs.Ytpdleckflcangaa.Shp
