/- The library's tables of 32 and of 64 numbers, as the program's text lays them. -/
import Derived.Test.YtfgpadkoonogpaaDoorRows
import Derived.Test.YtfgpadkoonogpaaDoorTz
import Derived.Test.YtfgpadkoonogpaaDoorPgs
import Derived.Lib.LaidTab
import Derived.LaidMore
import Derived.ProofKit
namespace Go.Proofs.YtfgpadkoonogpaaDoor.Laid2
open Go.RowKit Go.ChangeShapes Go.WideShapes Go.ChangeAt

def laid : List (String × DataW Unit) := [("math/bits.deBruijn32tab", Rows.laid_math_bits_deBruijn32tab), ("math/bits.deBruijn64tab", Rows.laid_math_bits_deBruijn64tab)]
def laid64 : List (String × DataW Unit) := [("math/bits.deBruijn64tab", Rows.laid_math_bits_deBruijn64tab)]
theorem door_met (os : Os) (args : Array Value) : laidMetH Tryd.prog laid ((World.doorLaid Tryd.prog 400 os).forCall (fun _ _ => 0) ⟨#[], args, []⟩).memory :=
  laidMetH_of_parts3 (fuel := 8) (laidMet_of_run' 8 (by kernel_rfl) (by kernel_rfl)) (by kernel_rfl) (by kernel_rfl)
theorem tab32_eq : ∀ j, j < 32 → (Lib.deBruijn32tab.map (fun (n : Nat) => (n : Int))).getD j 0 = ((Lib.deBruijn32tab.getD j 0 : Nat) : Int) := by decide
theorem tab64_eq : ∀ j, j < 64 → (Lib.deBruijn64tab.map (fun (n : Nat) => (n : Int))).getD j 0 = ((Lib.deBruijn64tab.getD j 0 : Nat) : Int) := by decide
theorem of_laid32 {W : World} (h : laidMet Tryd.prog laid W) : Pg.Tab W := by
  have hg : Tryd.prog.globalNamed "math/bits.deBruijn32tab" = some 0 := by kernel_rfl
  have h1 := Lib.tabIs_of_head (zs := Lib.deBruijn32tab.map (fun (n : Nat) => (n : Int))) (k := .u8) (t := 153) (e := 5) (n := 32) hg (by kernel_rfl) Tryd.underlying153 Tryd.underlying5 (by kernel_rfl) (by kernel_rfl) h
  have hc : ∀ j, j < 32 → W.cell? ⟨0, j, none⟩ = some (.int .u8 (Lib.deBruijn32tab.getD j 0)) := by
    intro j hj
    rw [h1.cell hg j (by rw [List.length_map]; exact hj), tab32_eq j hj]
  exact ⟨World.block_lt_of_cell? _ _ (hc 0 (by omega)), hc⟩
theorem of_laid64 {W : World} (h : laidMet Tryd.prog laid64 W) : Tz.Tab W := by
  have hg : Tryd.prog.globalNamed "math/bits.deBruijn64tab" = some 1 := by kernel_rfl
  have h1 := Lib.tabIs_of_head (zs := Lib.deBruijn64tab.map (fun (n : Nat) => (n : Int))) (k := .u8) (t := 154) (e := 5) (n := 64) hg (by kernel_rfl) Tryd.underlying154 Tryd.underlying5 (by kernel_rfl) (by kernel_rfl) h
  have hc : ∀ j, j < 64 → W.cell? ⟨1, j, none⟩ = some (.int .u8 (Lib.deBruijn64tab.getD j 0)) := by
    intro j hj
    rw [h1.cell hg j (by rw [List.length_map]; exact hj), tab64_eq j hj]
  exact ⟨World.block_lt_of_cell? _ _ (hc 0 (by omega)), hc⟩
theorem tail_ {P : Program} {x : String × DataW Unit} {r : List (String × DataW Unit)} {W : World} (h : laidMet P (x :: r) W) : laidMet P r W := by
  obtain ⟨ps, ⟨g, t, cs, fuel, p, q, _, _, _, _, hr, rfl⟩, hnd, hall⟩ := h
  exact ⟨q, hr, (List.nodup_append.1 hnd).2.1, fun b off hm => hall b off (List.mem_append_right _ hm)⟩
theorem of_laid {W : World} (h : laidMetH Tryd.prog laid W) : Pg.Tab W ∧ Tz.Tab W := by
  rw [MakeChecks.laidMetH_plain _ _ _ (by kernel_rfl)] at h
  exact ⟨of_laid32 h, of_laid64 (tail_ h)⟩
end Go.Proofs.YtfgpadkoonogpaaDoor.Laid2
