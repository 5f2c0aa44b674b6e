/- Package besomlaw8: its first call answers true. No conditions. -/
import Derived.Test.YtnolkgciapggdaaPile
namespace Go.Proofs.Ytnolkgciapggdaa.Pil
open Go.RowKit
set_option linter.unusedSimpArgs false
set_option linter.unusedVariables false

set_option maxHeartbeats 400000 in
theorem alive (w : World) : Calls Try.prog 23 #[] w fun e w' => e = .returned (.bool true) ∧ Below w.heap.size w w' := by
  go_enter Try.func23, Try.ntmps23
  go_wp2_with fail
  refine (new_any _ _).mono ?_
  rintro e w1 ⟨rfl, h1, hb1⟩
  have H1 := Lib.hid h1
  clear h1
  dsimp only
  go_wp2_with fail
  have B1 := Blk.new w1 #[.int .i64 5, .int .i64 6, .int .i64 7] 3
  have hlt := H1.out.1.lt
  refine (put_any w.heap.size w.heap.size 2 [] false (.slice none 0 0) (some ⟨w1.heap.size, 0, none⟩) 3 3 [5, 6, 7] _ (H1.out.below ((Below.refl _ _).alloc (Nat.le_refl _) _)) rfl (by simp) (by omega) (by omega) (by decide) ?_).mono ?_
  · intro j z hz
    refine ⟨_, _, rfl, by simp, ?_, ?_⟩
    · rintro (h | h)
      · omega
      · simp [Value.ownBlock] at h
    · rw [Nat.zero_add, B1.cell j]
      match j, hz with
      | 0, hz => simp at hz; subst hz; rfl
      | 1, hz => simp at hz; subst hz; rfl
      | 2, hz => simp at hz; subst hz; rfl
  rintro e w2 ⟨rfl, ⟨v', h2, _⟩, hk2⟩
  have hw2 : Below w.heap.size w w2 := (fresh_alloc hb1 _).trans (kept_below (H1.out.below ((Below.refl _ _).alloc (Nat.le_refl _) _)) hk2)
  have H2 := Lib.hid (show PileAt w2 w.heap.size w.heap.size 2 ([5] ++ [6]) true v' from h2)
  clear h2 hk2 B1 H1 hb1
  have hmin : ((min 3 (2 - ([] : List Int).length) : Nat) : Int) = 2 := by decide
  rw [hmin]
  clear hmin
  dsimp only
  go_wp2_with fail
  refine (take_some _ _ _ _ _ _ _ _ H2.out).mono ?_
  rintro e w3 ⟨rfl, ⟨v3, h3, _⟩, hk3⟩
  have hw3 := hw2.trans (kept_below H2.out hk3)
  have H3 := Lib.hid h3
  clear h3 hk3 H2
  dsimp only
  go_wp2_with (first
    | (go_at_call 26; refine (lost_any _ _ _ _ _ _ _ H3.out).mono ?_; rintro e w4 ⟨rfl, rfl⟩; dsimp only)
    | (go_at_call 27; refine (len_any _ _ _ _ _ _ _ H3.out).mono ?_; rintro e w4 ⟨rfl, rfl⟩; dsimp only))
  go_ret
  exact ⟨rfl, hw3⟩
end Go.Proofs.Ytnolkgciapggdaa.Pil
