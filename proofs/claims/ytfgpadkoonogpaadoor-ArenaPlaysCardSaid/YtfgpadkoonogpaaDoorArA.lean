/- Package besomlaw6: its first call answers true. -/
import Derived.Test.YtfgpadkoonogpaaDoorArz
namespace Go.Proofs.YtfgpadkoonogpaaDoor.Ar
open Go.RowKit Pg
set_option linter.unusedSimpArgs false
set_option linter.unusedVariables false

theorem slot_7 (bp : Nat) : slot [some ⟨bp, 4, 5, 3, 0⟩, none] 1048583 = some (0, ⟨bp, 4, 5, 3, 0⟩, 1) := by
  have : at_ 3 1 = true := by decide
  simp [slot, get, Cls.csl, Cls.csz, this]
theorem slot_6 (bp : Nat) : slot [some ⟨bp, 4, 5, 3, 0⟩, none] 1048582 = some (0, ⟨bp, 4, 5, 3, 0⟩, 1) := by
  have : at_ 3 1 = true := by decide
  simp [slot, get, Cls.csl, Cls.csz, this]
set_option maxRecDepth 20000 in
set_option maxHeartbeats 1000000 in
theorem alive (w : World) (hT : Tab w) : Calls Tryd.prog 6 #[] w fun e w' => e = .returned (.bool true) ∧ Below w.heap.size w w' := by
  have HT := Lib.hid hT
  have hw := hT.1
  clear hT
  go_enter Tryd.func6, Tryd.ntmps6
  go_wp2_with fail
  refine (new_any 2 _).mono ?_
  rintro e w1 hm
  obtain ⟨b, gp, gw, rfl, ha⟩ := AW.made HT.out hm
  rw [show (min (max (2 : Int) 0) 64).toNat = 2 by decide] at ha
  have H1 := Lib.hid ha
  clear ha hm
  dsimp only
  go_wp2_with fail
  refine (grow_any _ _ _ _ _ 4 5 _ H1.out.ar (by decide) (by omega)).mono ?_
  rintro e w2 hg
  obtain ⟨rfl, bp, hbp, ha, hk⟩ := grew_is hg (k := 0) rfl (fun i hi => by omega)
  have H2 := Lib.hid (H1.out.step hw ha hk (fun i e => e ▸ H1.out.new gp (.inr (.inl rfl))) (H1.out.foot_set (fun q e => by injection e with e; subst e; exact Nat.le_trans H1.out.bel.size hbp)))
  clear ha hk hg hbp H1
  dsimp only
  go_wp2_with fail
  have hz : Cls.csz 4 = ((6 : Nat) : Int) := by decide
  refine (take_any _ _ _ _ _ 4 _ H2.out.ar H2.out.tab (H2.out.foot0 hw)).mono ?_
  rintro e w3 hg
  obtain ⟨rfl, ha, hk⟩ := took_is hg (k := 0) (s := 0) (z := 6) (p := ⟨bp, 4, 5, 0, 0⟩) rfl rfl (fun i hi => by omega) (show 0 < 5 by decide) (show Nat.testBit 0 0 = false by decide) (fun i hi => by omega) hz
  have hbp2 : w.heap.size ≤ bp := H2.out.new bp (.inr (.inr (.inr ⟨0, ⟨bp, 4, 5, 0, 0⟩, rfl, rfl⟩)))
  have H3 := Lib.hid (H2.out.step hw ha hk (fun i e => by rcases e with e | e <;> subst e; exact hbp2; exact H2.out.new _ (.inr (.inr (.inl rfl)))) (H2.out.foot_set (fun q e => by injection e with e; subst e; exact hbp2)))
  clear ha hk hg H2
  dsimp only
  go_wp2_with fail
  obtain ⟨W3, hW3⟩ : ∃ W3, clr (List.replicate (32 * 2) 0) (32 * 0 + 0 * 6) 6 = W3 := ⟨_, rfl⟩
  have H4 := Lib.hid (show AW w w3 b gp gw [some ⟨bp, 4, 5, 1, 0⟩, none] W3 from by
    have := H3.out
    rw [hW3, show ins 0 0 = 1 by decide, show del 0 0 = 0 by decide] at this
    exact this)
  clear H3 hW3
  refine (take_any _ _ _ _ _ 4 _ H4.out.ar H4.out.tab (H4.out.foot0 hw)).mono ?_
  rintro e w4 hg
  obtain ⟨rfl, ha, hk⟩ := took_is hg (k := 0) (s := 1) (z := 6) (p := ⟨bp, 4, 5, 1, 0⟩) rfl rfl (fun i hi => by omega) (show 1 < 5 by decide) (show Nat.testBit 1 1 = false by decide) (fun i hi => (by have e : i = 0 := (by omega); subst e; exact (by decide : Nat.testBit 1 0 = true))) hz
  have H5' := Lib.hid (H4.out.step hw ha hk (fun i e => by rcases e with e | e <;> subst e; exact hbp2; exact H4.out.new _ (.inr (.inr (.inl rfl)))) (H4.out.foot_set (fun q e => by injection e with e; subst e; exact hbp2)))
  clear ha hk hg H4
  obtain ⟨W4, hW4⟩ : ∃ W4, clr W3 (32 * 0 + 1 * 6) 6 = W4 := ⟨_, rfl⟩
  have H5 := Lib.hid (show AW w w4 b gp gw [some ⟨bp, 4, 5, 3, 0⟩, none] W4 from by
    have := H5'.out
    rw [hW4, show ins 1 1 = 3 by decide, show del 0 1 = 0 by decide] at this
    exact this)
  clear H5' hW4
  dsimp only
  go_wp2_with fail
  have hs7 : slot [some ⟨bp, 4, 5, 3, 0⟩, none] 1048583 = some (0, ⟨bp, 4, 5, 3, 0⟩, 1) := slot_7 bp
  have hb7 : fbase [some ⟨bp, 4, 5, 3, 0⟩, none] 1048583 = 1048582 := by unfold fbase; rw [hs7]; simp [base, get, Cls.csz]
  refine (find_any _ _ _ _ _ 1048583 _ H5.out.ar (by decide)).mono ?_
  rw [hs7, hb7]
  rintro e w5 ⟨rfl, d, rfl⟩
  have H6 := Lib.hid (H5.out.drewN d)
  clear hs7 hb7 H5
  generalize w4.drewN d = w5 at *
  dsimp only [Option.isSome]
  go_wp2_with fail
  refine (store_yes _ _ _ _ _ 1048583 9 _ H6.out.ar (by decide) (by rw [slot_7 bp]; rfl)).mono ?_
  rintro e w6 ⟨rfl, ha, hk⟩
  have H7 := Lib.hid (H6.out.step hw ha hk (fun i e => by subst e; exact H6.out.new _ (.inr (.inr (.inl rfl)))) H6.out.new)
  clear ha hk H6
  dsimp only
  go_wp2_with fail
  refine (size_any _ _ _ _ _ 1048582 _ H7.out.ar (by decide)).mono ?_
  rw [show fsize [some ⟨bp, 4, 5, 3, 0⟩, none] 1048582 = 6 from by unfold fsize; rw [slot_6 bp]; rfl]
  rintro e w7 ⟨rfl, rfl⟩
  dsimp only
  go_wp2_with fail
  go_ret
  exact ⟨rfl, H7.out.bel⟩
end Go.Proofs.YtfgpadkoonogpaaDoor.Ar
