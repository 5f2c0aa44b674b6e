/- Package besomlaw5: its first call answers true. -/
import Derived.Test.YtpdleckflcangaaDoorPg5
namespace Go.Proofs.YtpdleckflcangaaDoor.Pg
open Go.RowKit Bit
set_option linter.unusedSimpArgs false
set_option linter.unusedVariables false

/-- A page of the call's own. -/
structure PW (w wr : World) (b : Nat) (c : Int) (n U M : Nat) : Prop where
  page : PageAt wr b c n U M
  nb : w.heap.size ≤ b
  bel : Below w.heap.size w wr
  tab : Tab wr
namespace PW
variable {w wr w' : World} {b n U M U' M' : Nat} {c : Int}
theorem call (h : PW w wr b c n U M) (hb : Below wr.heap.size wr w') : PW w w' b c n U M := ⟨h.page.call hb, h.nb, fresh_call h.bel hb, h.tab.call hb⟩
theorem drewN (h : PW w wr b c n U M) (k : Nat) : PW w (wr.drewN k) b c n U M := h.call (below_drewN (Below.refl _ _) k)
theorem upd (h : PW w wr b c n U M) (hw : 0 < w.heap.size) (hp : PageAt w' b c n U' M') (hk : Kept (fun i => i = b) wr w') : PW w w' b c n U' M' :=
  ⟨hp, h.nb, h.bel.trans (hk.below h.bel.size (fun i hi e => by have := h.nb; omega)), h.tab.kept hk (by have := h.nb; omega)⟩
theorem sweep (h : PW w wr b c n U M) (hw : 0 < w.heap.size) (hp : PageAt w' b c n U' M') {w1 : World} (hk : Kept (fun i => i = b) wr w1) (hs : w1.heap.size = wr.heap.size) (hb : Below w1.heap.size w1 w') : PW w w' b c n U' M' := by
  have h1 : Below w.heap.size w w1 := h.bel.trans (hk.below h.bel.size (fun i hi e => by have := h.nb; omega))
  have h2 : Tab w1 := h.tab.kept hk (by have := h.nb; omega)
  exact ⟨hp, h.nb, below_call h1 h1.size hb, h2.call hb⟩
end PW
set_option maxRecDepth 100000 in
set_option maxHeartbeats 2000000 in
theorem alive (w : World) (hT : Tab w) : Calls Tryd.prog 7 #[] w fun e w' => e = .returned (.bool true) ∧ Below w.heap.size w w' := by
  have hw := hT.1
  have HT := Lib.hid hT
  clear hT
  go_enter Tryd.func7, Tryd.ntmps7
  go_wp2_with fail
  refine (new_yes 4 5 _ (by decide) (by omega)).mono ?_
  rintro e w1 ⟨rfl, hp, hb⟩
  have H1 := Lib.hid (show PW w w1 w.heap.size 4 5 0 0 from ⟨hp, Nat.le_refl _, hb, HT.out.call hb⟩)
  clear hp hb
  obtain ⟨b, hbb⟩ : ∃ b, w.heap.size = b := ⟨_, rfl⟩
  rw [hbb] at H1 ⊢
  have hb0 : b ≠ 0 := by omega
  clear hbb
  dsimp only
  go_wp2_with fail
  refine (take_yes _ _ _ _ _ 0 _ H1.out.page H1.out.tab (by omega) (by decide) (by omega)).mono ?_
  rw [show ins 0 0 = 1 by decide, show del 0 0 = 0 by decide]
  rintro e w2 ⟨rfl, hp, hk⟩
  have H2 := Lib.hid (H1.out.upd HT.out.1 hp hk)
  clear hp hk H1
  dsimp only
  go_wp2_with fail
  refine (take_yes _ _ _ _ _ 1 _ H2.out.page H2.out.tab (by omega) (by decide) (by decide)).mono ?_
  rw [show ins 1 1 = 3 by decide, show del 0 1 = 0 by decide]
  rintro e w3 ⟨rfl, hp, hk⟩
  have H3 := Lib.hid (H2.out.upd HT.out.1 hp hk)
  clear hp hk H2
  dsimp only
  go_wp2_with fail
  refine (mark_yes _ _ _ _ _ 1 _ H3.out.page (by decide) (by decide)).mono ?_
  rw [show ins 0 1 = 2 by decide]
  rintro e w4 ⟨rfl, hp, hk⟩
  have H4 := Lib.hid (H3.out.upd HT.out.1 hp hk)
  clear hp hk H3
  dsimp only
  go_wp2_with fail
  refine (sweep_any _ _ _ _ _ _ H4.out.page H4.out.tab hb0).mono ?_
  unfold Swept
  rw [show bl (3 &&& (4294967295 - 2)) = [0] by decide, show 3 &&& 2 = 2 by decide, show nats [0] = [.int .i64 0] from rfl]
  rintro e w5 ⟨a, l, w6, rfl, hp, ho, hk, hs, hb⟩
  have H5 := Lib.hid (H4.out.sweep HT.out.1 hp hk hs hb)
  obtain ⟨g, hg1, rfl⟩ : ∃ g, True ∧ a = some ⟨g, 0, none⟩ := by
    rcases ho.2 with ⟨_, h⟩ | ⟨g, cap, _, h, _⟩
    · simp at h
    · injection h with h3; exact ⟨g, trivial, h3⟩
  have hc := ho.cells (g := g) rfl 0 (.int .i64 0) rfl
  rw [add_form] at hc
  have hc : w5.cell? ⟨g, 0, none⟩ = some (.int .i64 0) := hc
  clear hp ho hk hs hb H4 hg1
  simp only [List.length_singleton]
  go_wp2_with fail
  refine (used_any _ _ _ _ _ _ _ H5.out.page).mono ?_
  rw [show at_ 2 1 = true by decide]
  rintro e w7 ⟨rfl, rfl⟩
  dsimp only
  go_wp2_with fail
  refine (marked_any _ _ _ _ _ _ _ H5.out.page).mono ?_
  rw [show at_ 0 1 = false by decide]
  rintro e w7 ⟨rfl, rfl⟩
  dsimp only
  go_wp2_with fail
  refine (class_any _ _ _ _ _ _ H5.out.page).mono ?_
  rintro e w7 ⟨rfl, rfl⟩
  dsimp only
  go_wp2_with fail
  go_ret
  exact ⟨rfl, H5.out.bel⟩
end Go.Proofs.YtpdleckflcangaaDoor.Pg
