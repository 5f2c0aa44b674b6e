/- The walk of besomlaw21.alive: it returns true. -/
import Derived.Test.YtfgpadkoonogpaaDoorBrz
import Derived.Test.YtfgpadkoonogpaaDoorHpA
namespace Go.Proofs.YtfgpadkoonogpaaDoor.Br
open Go.RowKit Bit Wd Hp Ar
set_option linter.unusedSimpArgs false
set_option linter.unusedVariables false

theorem chk_0 : Shp.chk [[1]] = 0 := by decide
set_option maxRecDepth 100000 in
theorem alive (w : World) (hT : Pg.Tab w) (hT2 : Tz.Tab w) : Calls Tryd.prog 33 #[] w fun e w' => e = .returned (.bool true) ∧ Below w.heap.size w w' := by
  have HT := Lib.hid hT
  have HT2 := Lib.hid hT2
  have H0 := Lib.hid hT.1
  clear hT hT2
  go_enter Tryd.func33, Tryd.ntmps33
  go_wp2_with fail
  have hb1 := fresh_alloc (fresh_alloc (Below.refl w.heap.size w) (.cells #[.int .i64 1] 3)) (.cells #[.slice (some ⟨w.heap.size, 0, none⟩) 1 1] 64)
  have hrs := rs_lit w [1] #[.int .i64 1] rfl (by decide) (by decide)
  have HB1 := Lib.hid hb1
  have HT1 := Lib.hid (HT.out.call hb1)
  have HRS := Lib.hid hrs
  clear hb1 hrs
  refine (Hp.new_any 2 _ 1 1 [[1]] _ HRS.out chk_0).mono ?_
  intro e w1 hn
  obtain ⟨B, rfl, hw1⟩ := start_at HT1.out hn
  have HA := Lib.hid (fresh_alloc (Below.refl w1.heap.size w1) (.cells #[.int .u64 0] 79))
  have hw := (show HW w w1 B [[1]] (Hp.start 2) from ⟨hw1.hp, Nat.le_trans HB1.out.size hw1.newy, fresh_call HB1.out hw1.bel, hw1.tab⟩)
  have hfar : ¬ HFoot B (Hp.start 2) w1.heap.size := fun e => Nat.lt_irrefl _ (hw.hp.lt e)
  have hz : B.z ≤ w1.heap.size := Nat.le_of_lt hw.hp.z_lt
  have hz0 : w.heap.size ≤ B.z := hw.new
  have H1 := Lib.hid (hw.call HA.out)
  have HB := Lib.hid (show BrAt (w1.alloc (.cells #[.int .u64 0] 79)) w1.heap.size 0 from ⟨Blk.new w1 #[.int .u64 0] 79, by decide⟩)
  have HF := Lib.hid hfar
  clear hn hw1 HRS HT1 HB1 hw hfar HA
  dsimp only
  go_wp2_with fail
  generalize w1.alloc (.cells #[.int .u64 0] 79) = w2 at *
  obtain ⟨bb, hbb⟩ : ∃ bb, w1.heap.size = bb := ⟨_, rfl⟩
  rw [hbb] at HB HF hz ⊢
  refine (begin_any bb 0 2 _ HB.out).mono ?_
  rintro e w3 ⟨rfl, hb3, hk3⟩
  have H3 := Lib.hid (H1.out.aside H0.out hk3 (fun i hi => by cases hi; exact ⟨HF.out, hz⟩))
  have HB3 := Lib.hid hb3
  have HT3 := Lib.hid (HT2.out.call H3.out.bel)
  clear hb3 hk3 H1 HB
  dsimp only
  go_wp2_with fail
  refine (next_any bb _ B _ _ _ HB3.out H3.out.hp H3.out.tab HT3.out HF.out hz (by have := H0.out; omega)).mono ?_
  rintro e w4 (⟨_, hno, _⟩ | ⟨j, g, σ', rfl, hj64, hj, hno, hb4, hs4, hp4, hk4, hf4⟩)
  · have := hno 0
    exact absurd this (by decide)
  have hj0 : j = 0 := by
    rcases Nat.eq_zero_or_pos j with h | h
    · exact h
    · have := hno 0 h
      exact absurd this (by decide)
  subst hj0
  have hn0 : num (Hp.start 2) = 0 := by decide
  have hg : g = 0 := by have := hs4.num; omega
  subst hg
  have H4 := Lib.hid (show Below w.heap.size w w4 from H3.out.bel.trans (hk4.below H3.out.bel.size (fun i hi e => by
    rcases e with rfl | e
    · omega
    · have := H3.out.hp.new i e; omega)))
  have HB4 := Lib.hid hb4
  have HT4 := Lib.hid (HT2.out.call H4.out)
  clear hno hj hb4 hs4 hp4 hk4 hf4 H3 HB3 HT3
  dsimp only
  go_wp2_with fail
  refine (left_any bb _ _ HB4.out HT4.out).mono ?_
  rw [show lefts (rm (2 ^ (min (max (2 : Int) 0) 64).toNat - 1) 0) = [1] by decide]
  rintro e w5 ⟨a, c, rfl, ho, hb5⟩
  obtain ⟨g, rfl⟩ : ∃ g, a = some ⟨g, 0, none⟩ := by
    rcases ho.2 with ⟨_, h⟩ | ⟨g, cap, _, h, _⟩
    · exact absurd h (by decide)
    · injection h with h3; exact ⟨g, h3⟩
  have hcell := ho.cells (g := g) rfl 0 (.int .i64 1) (by simp [ints'])
  rw [add_form] at hcell
  have hcell : w5.cell? ⟨g, 0, none⟩ = some (.int .i64 1) := by simpa using hcell
  have HB5 := Lib.hid (fresh_call H4.out hb5)
  clear ho hb5
  dsimp only [List.length_cons, List.length_nil]
  go_wp2_with fail
  go_ret
  exact ⟨rfl, HB5.out⟩
end Go.Proofs.YtfgpadkoonogpaaDoor.Br
