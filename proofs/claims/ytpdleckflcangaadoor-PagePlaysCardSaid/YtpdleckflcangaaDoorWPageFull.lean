/- The walk of besomlaw5.PageFull: it returns true, and writes nothing that was there. -/
import Derived.Test.YtpdleckflcangaaDoorPgA
import Derived.Deep.CutBlock
import Derived.Deep.CutRange
namespace Go.Proofs.YtpdleckflcangaaDoor.PageFull
open Go.RowKit Pg Bit
set_option linter.unusedSimpArgs false
set_option linter.unusedVariables false

theorem full_bit (n i : Nat) : (2 ^ n - 1).testBit i = decide (i < n) := Nat.testBit_two_pow_sub_one n i
theorem full_ins (k : Nat) : ins (2 ^ k - 1) k = 2 ^ (k + 1) - 1 := by
  apply Nat.eq_of_testBit_eq
  intro i
  rw [ins_bit, full_bit, full_bit]
  by_cases h1 : i < k
  · simp [h1]; omega
  · by_cases h2 : k = i
    · subst h2; simp
    · have : ¬ i < k + 1 := by omega
      simp [h1, h2, this]
theorem del_zero (k : Nat) : del 0 k = 0 := by simp [del]
theorem csz_csl (c : Int) : Cls.csz c ≠ 0 → ∃ n s : Nat, Cls.csl c = (n : Int) ∧ Cls.csz c = (s : Int) ∧ 0 < n ∧ n ≤ 32 ∧ 0 < s ∧ 32 / s = n := by
  intro h
  rcases Cls.csz_cases c with h1 | h1 | rfl | rfl | rfl | rfl | rfl | rfl | rfl | rfl
  · exact absurd (Cls.csz_out (.inl h1)) h
  · exact absurd (Cls.csz_out (.inr h1)) h
  · exact ⟨32, 1, by decide, by decide, by omega, by omega, by omega, by decide⟩
  · exact ⟨16, 2, by decide, by decide, by omega, by omega, by omega, by decide⟩
  · exact ⟨10, 3, by decide, by decide, by omega, by omega, by omega, by decide⟩
  · exact ⟨8, 4, by decide, by decide, by omega, by omega, by omega, by decide⟩
  · exact ⟨5, 6, by decide, by decide, by omega, by omega, by omega, by decide⟩
  · exact ⟨4, 8, by decide, by decide, by omega, by omega, by omega, by decide⟩
  · exact ⟨2, 12, by decide, by decide, by omega, by omega, by omega, by decide⟩
  · exact ⟨2, 16, by decide, by decide, by omega, by omega, by omega, by decide⟩
theorem div_fact {s n : Nat} (h : 32 / s = n) : (32 : Int) / (s : Int) = (n : Int) := by rw [← h]; rfl

set_option maxRecDepth 100000 in
theorem early (c back : Int) (w : World) (hT : Tab w) (h : Cls.csz c = 0) :
    Calls Tryd.prog 3 #[.int .i64 c, .int .i64 back] w fun e w' => e = .returned (.bool true) ∧ Below w.heap.size w w' := by
  have H := Lib.hid h
  have HT := Lib.hid hT
  clear h hT
  go_enter Tryd.func3, Tryd.ntmps3
  go_wp2_with fail
  refine (Cls.rsize_any _ _).mono ?_
  rw [H.out]
  rintro e w1 ⟨rfl, hb1⟩
  dsimp only
  go_wp2_with fail
  refine (alive _ (HT.out.call hb1)).mono ?_
  rintro e w2 ⟨rfl, hb2⟩
  dsimp only
  go_wp2_with fail
  go_ret
  exact ⟨rfl, fresh_call hb1 hb2⟩
set_option maxRecDepth 100000 in
set_option maxHeartbeats 4000000 in
theorem core (c back : Int) (n s : Nat) (w : World) (hT : Tab w) (hc : Cls.csl c = (n : Int)) (hs : Cls.csz c = (s : Int)) (hn : 0 < n) (hn2 : n ≤ 32) (hs0 : 0 < s) (hd : 32 / s = n) :
    Calls Tryd.prog 3 #[.int .i64 c, .int .i64 back] w fun e w' => e = .returned (.bool true) ∧ Below w.heap.size w w' := by
  have HC := Lib.hid hc
  have HS := Lib.hid hs
  have HT := Lib.hid hT
  have hs1 : ((s : Int) == 0) = false := by simp; omega
  have hs2 : (0 : Int) ≤ (s : Int) := by omega
  have hs3 : (1 : Int) ≤ (s : Int) := by omega
  have HD := Lib.hid (div_fact hd)
  clear hc hs hT hd
  go_enter Tryd.func3, Tryd.ntmps3
  go_wp2_with fail
  refine (Cls.rsize_any _ _).mono ?_
  rw [HS.out]
  rintro e w1 ⟨rfl, hb1⟩
  have HB1 := Lib.hid hb1
  clear hb1
  dsimp only
  go_wp2_with fail
  refine (alive _ (HT.out.call HB1.out)).mono ?_
  rintro e w2 ⟨rfl, hb2⟩
  have HB2 := Lib.hid (fresh_call HB1.out hb2)
  clear hb2 HB1
  dsimp only
  go_wp2_with fail
  refine (new_yes c n _ HC.out hn).mono ?_
  rintro e w3 ⟨rfl, hp, hb3⟩
  have H3 := Lib.hid (show PW w w3 w2.heap.size c n 0 0 from ⟨hp, HB2.out.size, fresh_call HB2.out hb3, HT.out.call (fresh_call HB2.out hb3)⟩)
  clear hp hb3 HB2
  generalize w2.heap.size = b at *
  dsimp only
  go_wp2_with fail
  refine (Cls.rsize_any _ _).mono ?_
  rw [HS.out]
  rintro e w4 ⟨rfl, hb4⟩
  have H4 := Lib.hid (H3.out.call hb4)
  clear hb4 H3
  dsimp only
  go_upto_region 7 with (fail)
  rw [HD.out]
  clear hs1 hs2 hs3 HD
  have hn1 : (1 : Int) ≤ (n : Int) := by omega
  have hn3 : (n : Int) ≤ 32 := by omega
  have H5 := Lib.hid (show PW w w4 b c n (2 ^ 0 - 1) 0 from H4.out)
  have hw0 := HT.out.1
  go_wp2_with fail
  go_loopw [8, 9, 10] (fun i _ _ wr => ∃ k : Nat, k ≤ n ∧ i = .int .i64 k ∧ PW w wr b c n (2 ^ k - 1) 0) (fun i _ _ _ => n - (intOf i).toNat)
  case atStart => exact ⟨0, Nat.zero_le _, rfl, H5.out⟩
  case round =>
    obtain ⟨k, hk, rfl, hp⟩ := hrel
    have H6 := Lib.hid hp
    clear hp H4 H5
    by_cases hlt : k < n
    · have hkn : (k : Int) < (n : Int) := by omega
      have hk0 : (0 : Int) ≤ (k : Int) := by omega
      go_wp2_with fail
      refine (take_yes _ _ _ _ _ k _ H6.out.page H6.out.tab hlt (by rw [full_bit]; simp) (by intro j hj; rw [full_bit]; simpa using hj)).mono ?_
      rw [full_ins, del_zero]
      rintro e w5 ⟨rfl, hp, hkk⟩
      have H7 := Lib.hid (H6.out.upd hw0 hp hkk)
      clear hp hkk
      dsimp only
      go_wp2_with fail
      go_roundw
      case rel => exact ⟨k + 1, by omega, by go_num, H7.out⟩
      case measure => simp [intOf]; omega
    · obtain rfl : k = n := by omega
      have hkk : ¬ (k : Int) < (k : Int) := by omega
      go_wp2_with fail
      refine (take_no _ _ _ _ _ _ H6.out.page H6.out.tab (by intro j hj; rw [full_bit]; simpa using hj)).mono ?_
      rintro e w5 ⟨rfl, rfl⟩
      dsimp only
      go_wp2_with fail
      obtain ⟨j, hjn, hj⟩ := idx back k hn (by omega)
      rw [hj]
      clear hj
      refine (free_yes _ _ _ _ _ j _ H6.out.page (by rw [full_bit]; simpa using hjn)).mono ?_
      rw [del_zero]
      rintro e w5 ⟨rfl, hp, hkk⟩
      have H7 := Lib.hid (H6.out.upd hw0 hp hkk)
      have HJ := Lib.hid (show (del (2 ^ k - 1) j).testBit j = false from by rw [del_bit H6.out.page.hU (by omega)]; simp)
      have HJ2 := Lib.hid (show ∀ i, i < j → (del (2 ^ k - 1) j).testBit i = true from by intro i hi; rw [del_bit H6.out.page.hU (by omega), full_bit]; simp; omega)
      have hj0 : (0 : Int) ≤ (j : Int) := by omega
      clear hp hkk H6
      generalize del (2 ^ k - 1) j = U1 at *
      dsimp only
      go_wp2_with fail
      refine (free_no _ _ _ _ _ _ _ H7.out.page (at_nat.trans HJ.out)).mono ?_
      rintro e w6 ⟨rfl, rfl⟩
      dsimp only
      go_wp2_with fail
      refine (used_any _ _ _ _ _ _ _ H7.out.page).mono ?_
      rw [at_nat, HJ.out]
      rintro e w6 ⟨rfl, rfl⟩
      dsimp only
      go_wp2_with fail
      refine (take_yes _ _ _ _ _ j _ H7.out.page H7.out.tab hjn HJ.out HJ2.out).mono ?_
      rw [del_zero]
      rintro e w6 ⟨rfl, hp, hkk⟩
      have H8 := Lib.hid (H7.out.upd hw0 hp hkk)
      clear hp hkk H7
      dsimp only
      go_wp2_with fail
      refine (marked_any _ _ _ _ _ _ _ H8.out.page).mono ?_
      rw [at_nat, Nat.zero_testBit]
      rintro e w7 ⟨rfl, rfl⟩
      dsimp only
      go_wp2_with fail
      go_ret
      exact ⟨rfl, H8.out.bel⟩
theorem walk (c back : Int) (w : World) (hT : Tab w) (_w0 : (Lit.int .i64 c).wf = true) (_w1 : (Lit.int .i64 back).wf = true) : Calls Tryd.prog 3 #[.int .i64 c, .int .i64 back] w fun e w' => e = .returned (.bool true) ∧ Below w.heap.size w w' := by
  by_cases h : Cls.csz c = 0
  · exact early c back w hT h
  · obtain ⟨n, s, h1, h2, h3, h4, h5, h6⟩ := csz_csl c h
    exact core c back n s w hT h1 h2 h3 h4 h5 h6
end Go.Proofs.YtpdleckflcangaaDoor.PageFull
