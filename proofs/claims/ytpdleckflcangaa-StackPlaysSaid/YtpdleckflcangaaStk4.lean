/- Package stack: the methods at nil. (Printed by a program of mine.) -/
import Derived.Test.YtpdleckflcangaaStk3
namespace Go.Proofs.Ytpdleckflcangaa.Stk
open Go.RowKit
set_option linter.unusedSimpArgs false
set_option linter.unusedVariables false

theorem words_nil (w : World) :
    Calls Try.prog 35 #[.pointer none] w fun e w' => e = .returned (.int .i64 0) ∧ w = w' := by
  go_enter Try.func35, Try.ntmps35
  go_wp2_with fail
  go_ret
  exact ⟨rfl, rfl⟩
theorem base_nil (w : World) :
    Calls Try.prog 39 #[.pointer none] w fun e w' => e = .returned (.int .i64 0) ∧ w = w' := by
  go_enter Try.func39, Try.ntmps39
  go_wp2_with fail
  go_ret
  exact ⟨rfl, rfl⟩
theorem there_nil (k : Nat) (w : World) :
    Calls Try.prog 51 #[.pointer none, .int .i64 k] w fun e w' => e = .returned (.bool false) ∧ w = w' := by
  have h0 : (0 : Int) ≤ (k : Int) := by omega
  go_enter Try.func51, Try.ntmps51
  go_wp2_with fail
  refine (words_nil _).mono ?_
  rintro e w1 ⟨rfl, rfl⟩
  dsimp only
  go_wp2_with fail
  go_ret
  exact ⟨rfl, rfl⟩
theorem load_nil (w : World) :
    Calls Try.prog 36 #[.pointer none, .int .i64 0] w fun e w' => e = .returned (.tuple #[.int .i64 0, .bool false]) ∧ w = w' := by
  go_enter Try.func36, Try.ntmps36
  go_wp2_with fail
  refine (there_nil 0 _).mono ?_
  rintro e w1 ⟨rfl, rfl⟩
  dsimp only
  go_wp2_with fail
  go_ret2
  exact ⟨rfl, rfl⟩
theorem store_nil (w : World) :
    Calls Try.prog 33 #[.pointer none, .int .i64 0, .int .i64 1] w fun e w' => e = .returned (.bool false) ∧ w = w' := by
  go_enter Try.func33, Try.ntmps33
  go_wp2_with fail
  refine (there_nil 0 _).mono ?_
  rintro e w1 ⟨rfl, rfl⟩
  dsimp only
  go_wp2_with fail
  go_ret
  exact ⟨rfl, rfl⟩
theorem addr_nil (w : World) :
    Calls Try.prog 15 #[.pointer none, .int .i64 0] w fun e w' => e = .returned (.int .i64 0) ∧ w = w' := by
  go_enter Try.func15, Try.ntmps15
  go_wp2_with fail
  refine (there_nil 0 _).mono ?_
  rintro e w1 ⟨rfl, rfl⟩
  dsimp only
  go_wp2_with fail
  go_ret
  exact ⟨rfl, rfl⟩
theorem clear_nil (w : World) :
    Calls Try.prog 38 #[.pointer none, .int .i64 0, .int .i64 9] w fun e w' => e = .returned (.tuple #[]) ∧ w = w' := by
  go_enter Try.func38, Try.ntmps38
  go_wp2_with fail
  refine (words_nil _).mono ?_
  rintro e w1 ⟨rfl, rfl⟩
  dsimp only
  go_wp2_with fail
  go_end0
  exact ⟨rfl, rfl⟩
theorem moved_nil (b : Nat) (a : Int) (w : World) :
    Calls Try.prog 37 #[.pointer (some ⟨b, 0, none⟩), .pointer none, .int .i64 a] w fun e w' => e = .returned (.int .i64 a) ∧ ∃ n, w' = w.drewN n := by
  go_enter Try.func37, Try.ntmps37
  go_wp2_with fail
  refine (off_nil _ _).mono ?_
  rintro e w1 ⟨rfl, n, rfl⟩
  dsimp only
  go_wp2_with fail
  go_ret
  exact ⟨rfl, n, rfl⟩
end Go.Proofs.Ytpdleckflcangaa.Stk
