/- Package besomlaw1: its first call answers true. -/
import Derived.Test.YtjlbmelpoaffpaaDoorSv7
namespace Go.Proofs.YtjlbmelpoaffpaaDoor.Sv
open Go.RowKit Bit Wd
set_option linter.unusedSimpArgs false
set_option linter.unusedVariables false

theorem run4 : runL 70 true (List.replicate ((70 + 63) / 64) 0) [3, 66, 3, 70] = ([8, 4], 2) := by decide
theorem nxt4 : Nxt (has [8, 4]) 4 66 := by
  refine .inr ⟨66, rfl, by omega, by decide, ?_⟩
  have h : ∀ i, i < 66 → 4 ≤ i → has [8, 4] i = false := by decide
  exact fun i h1 h2 => h i h2 h1
theorem cnt4 : cnt [8, 4] = 2 := by decide
theorem word4 : wordI [8, 4] 1 = 4 := by decide
theorem has4 : hasI [8, 4] 3 = true := by decide
set_option maxRecDepth 20000 in
set_option maxHeartbeats 1000000 in
theorem alive (w : World) (hT : Tab w) : Calls Tryd.prog 10 #[] w fun e w' => e = .returned (.bool true) ∧ Below w.heap.size w w' := by
  have HT := Lib.hid hT
  have hw := hT.1
  clear hT
  go_enter Tryd.func10, Tryd.ntmps10
  go_wp2_with fail
  refine (new_any 70 _).mono ?_
  rintro e w1 hm
  obtain ⟨b, g, rfl, hs⟩ := SW.made HT.out hm
  rw [show (min (max (70 : Int) 0) 4096).toNat = 70 by decide] at hs
  have H1 := Lib.hid hs
  clear hs hm
  dsimp only
  go_wp2_with fail
  have H2 := Lib.hid (H1.out.call ((Below.refl _ _).alloc (Nat.le_refl _) (.cells #[.int .i64 3, .int .i64 66, .int .i64 3, .int .i64 70] 3)))
  have HR := Lib.hid (Blk.reads (B := w1.heap.size + 1) (xs := [3, 66, 3, 70].map (Value.int .i64)) (n := 4) (Blk.new w1 #[.int .i64 3, .int .i64 66, .int .i64 3, .int .i64 70] 3) (by omega) rfl rfl (by decide))
  have hgb := H1.out.sv.row.lt
  refine (put_any b g 70 _ _ 4 4 (w1.heap.size + 1) [3, 66, 3, 70] _ H2.out.sv HR.out (by simp) (fun _ a e => by injection e with e; subst e; exact fun e => by have e : w1.heap.size = g := e; omega) (by decide) (by decide)).mono ?_
  rw [run4]
  rintro e w3 ⟨rfl, hs, hk⟩
  have H3 := Lib.hid (H2.out.step hw hs hk)
  clear hs hk H2 HR
  dsimp only
  go_wp2_with fail
  refine (next_any b g 70 _ 4 4 (by decide) (by decide) _ H3.out.sv H3.out.tab).mono ?_
  rintro e w4 ⟨r, rfl, hr, rfl⟩
  obtain rfl := hr.uniq nxt4
  dsimp only
  go_wp2_with fail
  refine (word_any b g 70 _ 1 _ H3.out.sv).mono ?_
  rw [word4]
  rintro e w4 ⟨rfl, rfl⟩
  dsimp only
  go_wp2_with fail
  refine (has_any b g 70 _ 3 _ H3.out.sv).mono ?_
  rw [has4]
  rintro e w4 ⟨rfl, hb4⟩
  have H4 := Lib.hid (H3.out.call hb4)
  clear hb4
  dsimp only
  go_wp2_with fail
  refine (count_any b g 70 _ _ H4.out.sv).mono ?_
  rw [cnt4]
  rintro e w5 ⟨rfl, d, rfl⟩
  dsimp only
  go_wp2_with fail
  go_ret
  exact ⟨by go_num, (H4.out.drewN d).bel⟩
end Go.Proofs.YtjlbmelpoaffpaaDoor.Sv
