/- Package besomlaw22: its first call answers true. No conditions. -/
import Derived.Test.YtnolkgciapggdaaCyc
namespace Go.Proofs.Ytnolkgciapggdaa.Cyc
open Go.RowKit
set_option linter.unusedSimpArgs false

theorem alive (w : World) : Calls Try.prog 18 #[] w fun e w' => e = .returned (.bool true) ∧ Below w.heap.size w w' := by
  go_enter Try.func18, Try.ntmps18
  go_wp2_with fail
  refine (begin_yes _ _ _ _).mono ?_
  rintro e w1 ⟨rfl, hb1⟩
  dsimp only
  go_wp2_with fail
  refine (marked_yes _ _ _).mono ?_
  rintro e w2 ⟨rfl, hb2⟩
  dsimp only
  go_wp2_with fail
  refine (swept_lo _ _ _ (by omega)).mono ?_
  rw [show wrap64 (0 + 1) = 1 from wrap64_id (by omega)]
  rintro e w3 ⟨rfl, hb3⟩
  dsimp only
  go_wp2_with fail
  refine (due_idle _ _ _ _ _ (by omega) (by omega)).mono ?_
  rintro e w4 ⟨rfl, hb4⟩
  have B := ((Blk.new w3 _ _)).below hb4 (by simp <;> omega)
  obtain ⟨a0, a1, a2, a3, a4, a5⟩ := B.three
  have hd : decide ((4 : Int) ≤ 9 - 5) = true := by decide
  rw [hd]
  clear hd
  dsimp only
  go_wp2_with fail
  refine (due_idle _ _ _ _ _ (by omega) (by omega)).mono ?_
  rintro e w5 ⟨rfl, hb5⟩
  have hd : decide ((4 : Int) ≤ 8 - 5) = false := by decide
  rw [hd]
  clear hd
  dsimp only
  go_wp2_with fail
  go_ret
  refine ⟨rfl, ?_⟩
  exact fresh_call (fresh_call (fresh_alloc (fresh_call (fresh_alloc (fresh_call (fresh_alloc hb1 _) hb2) _) hb3) _) hb4) hb5
end Go.Proofs.Ytnolkgciapggdaa.Cyc
