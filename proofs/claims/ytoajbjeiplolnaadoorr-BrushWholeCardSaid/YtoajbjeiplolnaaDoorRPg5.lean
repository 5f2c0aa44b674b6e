/- Package page: the contracts of Sweep and All; and those at nil. -/
import Derived.Test.YtoajbjeiplolnaaDoorRPg4
namespace Go.Proofs.YtoajbjeiplolnaaDoorR.Pg
open Go.RowKit Bit
set_option linter.unusedSimpArgs false
set_option linter.unusedVariables false

theorem all_any (b : Nat) (c : Int) (n U M : Nat) (w : World) (h : PageAt w b c n U M) (hT : Tab w) :
    Calls Tryd.prog 76 #[.pointer (some ⟨b, 0, none⟩)] w (Lists (bl U) w) := by
  obtain ⟨c0, c1, c2, c3, f0, f1, f2, f3⟩ := h.blk.four
  have HS := Lib.hid (slots_any U h.hU w hT)
  clear h hT
  go_enter Tryd.func76, Tryd.ntmps76
  go_wp2_with fail
  refine HS.out.mono ?_
  rintro e w1 ⟨a, l, rfl, ho, hb⟩
  have HO := Lib.hid (show Lists (bl U) w (.returned (.slice a (bl U).length l)) w1 from ⟨a, l, rfl, ho, hb⟩)
  clear ho hb
  dsimp only
  go_wp2_with fail
  go_ret
  exact HO.out
theorem class_nil (w : World) : Calls Tryd.prog 33 #[.pointer none] w fun e w' => e = .returned (.int .i64 (-1)) ∧ w = w' := by
  go_enter Tryd.func33, Tryd.ntmps33
  go_wp2_with fail
  go_ret
  exact ⟨rfl, rfl⟩
theorem take_nil (w : World) : Calls Tryd.prog 71 #[.pointer none] w fun e w' => e = .returned (.tuple #[.int .i64 0, .bool false]) ∧ w = w' := by
  go_enter Tryd.func71, Tryd.ntmps71
  go_wp2_with fail
  go_ret2
  exact ⟨rfl, rfl⟩
theorem count_nil (w : World) : Calls Tryd.prog 75 #[.pointer none] w fun e w' => e = .returned (.tuple #[.int .i64 0, .int .i64 0]) ∧ w = w' := by
  go_enter Tryd.func75, Tryd.ntmps75
  go_wp2_with fail
  go_ret2
  exact ⟨rfl, rfl⟩
theorem all_nil (w : World) : Calls Tryd.prog 76 #[.pointer none] w fun e w' => e = .returned (.slice none 0 0) ∧ w = w' := by
  go_enter Tryd.func76, Tryd.ntmps76
  go_wp2_with fail
  go_ret
  exact ⟨rfl, rfl⟩
theorem used_nil (k : Int) (w : World) : Calls Tryd.prog 116 #[.pointer none, .int .i64 k] w fun e w' => e = .returned (.bool false) ∧ w = w' := by
  go_enter Tryd.func116, Tryd.ntmps116
  go_wp2_with fail
  refine (bit_nil _ _).mono ?_
  rintro e w1 ⟨rfl, rfl⟩
  dsimp only
  go_wp2_with fail
  go_ret
  exact ⟨rfl, rfl⟩
theorem free_nil (k : Int) (w : World) : Calls Tryd.prog 74 #[.pointer none, .int .i64 k] w fun e w' => e = .returned (.bool false) ∧ w = w' := by
  go_enter Tryd.func74, Tryd.ntmps74
  go_wp2_with fail
  refine (used_nil _ _).mono ?_
  rintro e w1 ⟨rfl, rfl⟩
  dsimp only
  go_wp2_with fail
  go_ret
  exact ⟨rfl, rfl⟩
end Go.Proofs.YtoajbjeiplolnaaDoorR.Pg
