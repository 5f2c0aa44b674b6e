/- The library's table of 32 numbers, as the program's text lays it. -/
import Derived.Test.YtfgpadkoonogpaaDoorRows
import Derived.Test.YtfgpadkoonogpaaDoorPgs
import Derived.Lib.LaidTab
import Derived.LaidMore
import Derived.ProofKit
namespace Go.Proofs.YtfgpadkoonogpaaDoor.Laid
open Go.RowKit Go.ChangeShapes Go.WideShapes Go.ChangeAt

def laid : List (String × DataW Unit) := [("math/bits.deBruijn32tab", Rows.laid_math_bits_deBruijn32tab)]
theorem door_met (os : Os) (args : Array Value) : laidMetH Tryd.prog laid ((World.doorLaid Tryd.prog 400 os).forCall (fun _ _ => 0) ⟨#[], args, []⟩).memory :=
  laidMetH_of_parts3 (fuel := 8) (laidMet_of_run' 8 (by kernel_rfl) (by kernel_rfl)) (by kernel_rfl) (by kernel_rfl)
theorem tab_eq : ∀ j, j < 32 → (Lib.deBruijn32tab.map (fun (n : Nat) => (n : Int))).getD j 0 = ((Lib.deBruijn32tab.getD j 0 : Nat) : Int) := by decide
theorem of_laid {W : World} (h : laidMetH Tryd.prog laid W) : Pg.Tab W := by
  rw [MakeChecks.laidMetH_plain _ _ _ (by kernel_rfl)] at h
  have hg : Tryd.prog.globalNamed "math/bits.deBruijn32tab" = some 0 := by kernel_rfl
  have h1 := Lib.tabIs_of_head (zs := Lib.deBruijn32tab.map (fun (n : Nat) => (n : Int))) (k := .u8) (t := 153) (e := 5) (n := 32) hg (by kernel_rfl) Tryd.underlying153 Tryd.underlying5 (by kernel_rfl) (by kernel_rfl) h
  have hc : ∀ j, j < 32 → W.cell? ⟨0, j, none⟩ = some (.int .u8 (Lib.deBruijn32tab.getD j 0)) := by
    intro j hj
    rw [h1.cell hg j (by rw [List.length_map]; exact hj), tab_eq j hj]
  exact ⟨World.block_lt_of_cell? _ _ (hc 0 (by omega)), hc⟩
end Go.Proofs.YtfgpadkoonogpaaDoor.Laid
