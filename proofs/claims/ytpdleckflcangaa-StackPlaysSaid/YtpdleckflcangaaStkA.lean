/- Package besomlaw13: its first call answers true. No conditions. -/
import Derived.Test.YtpdleckflcangaaStk2
namespace Go.Proofs.Ytpdleckflcangaa.Stk
open Go.RowKit
set_option linter.unusedSimpArgs false
set_option linter.unusedVariables false

theorem fit_two (w : World) : Calls Try.prog 50 #[.int .i64 2, .int .i64 7] w fun e w' => e = .returned (.int .i64 8) ∧ w = w' := by
  go_enter Try.func50, Try.ntmps50
  go_wp2
  go_loop [0] (fun f => f = .int .i64 2 ∨ f = .int .i64 4 ∨ f = .int .i64 8) (fun f => (8 - intOf f).toNat)
  case atStart => exact .inl rfl
  case round =>
    rcases hrel with rfl | rfl | rfl
    · go_wp2
      exact ⟨.inr (.inl rfl), by simp [intOf]⟩
    · go_wp2
      exact ⟨.inr (.inr rfl), by simp [intOf]⟩
    · go_wp2
      go_ret
      exact ⟨rfl, rfl⟩

theorem alive (w : World) : Calls Try.prog 12 #[] w fun e w' => e = .returned (.bool true) ∧ Below w.heap.size w w' := by
  go_enter Try.func12, Try.ntmps12
  go_wp2_with fail
  refine (new_any _ _ _).mono ?_
  rw [show (min (max (8 : Int) 1) 4096).toNat = 8 by decide, show 1073741824 + min (max (0 : Int) 0) 100000 * 8192 = 1073741824 by decide]
  rintro e w1 ⟨rfl, h1, hb1⟩
  have H1 := Lib.hid h1
  clear h1
  dsimp only
  go_wp2_with fail
  refine (copy_any _ _ _ _ _ _ _ H1.out).mono ?_
  rw [show (min (max (16 : Int) 1) 4096).toNat = 16 by decide, show 1073741824 + min (max (3 : Int) 0) 100000 * 8192 = 1073766400 by decide]
  rintro e w2 ⟨rfl, h2, hb2⟩
  have H2 := Lib.hid h2
  have HS := Lib.hid (H1.out.below hb2)
  have hw2 := fresh_call hb1 hb2
  clear h2 H1 hb1 hb2
  dsimp only
  go_wp2_with fail
  refine (addr_yes _ _ _ _ 5 _ HS.out (by simp) (by omega)).mono ?_
  rintro e w3 ⟨rfl, rfl⟩
  dsimp only
  go_wp2_with fail
  refine (moved_in _ _ _ _ _ _ _ _ 5 _ _ H2.out HS.out (by omega) (by omega) (by simp) (by simp)).mono ?_
  rw [if_pos (by rw [cp_length]; omega)]
  rintro e w3 ⟨rfl, k, rfl⟩
  dsimp only
  go_wp2_with (first
    | (go_at_call 35; refine (words_any _ _ _ _ _ (HS.out.drewN k)).mono ?_; rintro e w4 ⟨rfl, rfl⟩; dsimp only)
    | (go_at_call 50; refine (fit_two _).mono ?_; rintro e w4 ⟨rfl, rfl⟩; dsimp only))
  go_ret
  exact ⟨rfl, below_drewN hw2 k⟩
end Go.Proofs.Ytpdleckflcangaa.Stk
