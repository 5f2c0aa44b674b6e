/- Package page: the contracts of Sweep and All; and those at nil. -/
import Derived.Test.YtpdleckflcangaaDoorPg4
namespace Go.Proofs.YtpdleckflcangaaDoor.Pg
open Go.RowKit Bit
set_option linter.unusedSimpArgs false
set_option linter.unusedVariables false

theorem all_any (b : Nat) (c : Int) (n U M : Nat) (w : World) (h : PageAt w b c n U M) (hT : Tab w) :
    Calls Tryd.prog 18 #[.pointer (some ⟨b, 0, none⟩)] w (Lists (bl U) w) := by
  obtain ⟨c0, c1, c2, c3, f0, f1, f2, f3⟩ := h.blk.four
  have HS := Lib.hid (slots_any U h.hU w hT)
  clear h hT
  go_enter Tryd.func18, Tryd.ntmps18
  go_wp2_with fail
  refine HS.out.mono ?_
  rintro e w1 ⟨a, l, rfl, ho, hb⟩
  have HO := Lib.hid (show Lists (bl U) w (.returned (.slice a (bl U).length l)) w1 from ⟨a, l, rfl, ho, hb⟩)
  clear ho hb
  dsimp only
  go_wp2_with fail
  go_ret
  exact HO.out
/-- Behind a sweep: what was used and not marked is told; what was marked is used. -/
def Swept (w : World) (b : Nat) (c : Int) (n U M : Nat) (e : Ending) (w' : World) : Prop :=
  ∃ a l w1, e = .returned (.slice a (bl (U &&& (4294967295 - M))).length l) ∧ PageAt w' b c n (U &&& M) 0 ∧ w'.ownsRow w.heap.size 3 1 (.slice a (bl (U &&& (4294967295 - M))).length l) (bl (U &&& (4294967295 - M))).length (nats (bl (U &&& (4294967295 - M)))) ∧ Kept (fun i => i = b) w w1 ∧ w1.heap.size = w.heap.size ∧ Below w1.heap.size w1 w'
set_option maxHeartbeats 1000000 in
theorem sweep_any (b : Nat) (c : Int) (n U M : Nat) (w : World) (h : PageAt w b c n U M) (hT : Tab w) (hb0 : b ≠ 0) :
    Calls Tryd.prog 14 #[.pointer (some ⟨b, 0, none⟩)] w (Swept w b c n U M) := by
  obtain ⟨c0, c1, c2, c3, f0, f1, f2, f3⟩ := h.blk.four
  have hand := andn32 U M h.hU h.hM
  have hand2 := and32 U M h.hU h.hM
  have hg : U &&& (4294967295 - M) < 4294967296 := by have : U &&& (4294967295 - M) ≤ U := Nat.and_le_left; have := h.hU; omega
  have hi : U &&& M < 4294967296 := by have : U &&& M ≤ U := Nat.and_le_left; have := h.hU; omega
  have HF := Lib.hid (fun (w' : World) (hb : Blk w' b #[.int .i64 c, .int .i64 n, .int .u32 (U &&& M : Nat), .int .u32 0] 55) => (⟨hb, h.hn, h.n0, hi, by omega, fun i hi => by
    rw [Nat.testBit_and] at hi
    exact h.inU i (Bool.and_eq_true_iff.1 hi).1, fun i hi => by simp at hi⟩ : PageAt w' b c n (U &&& M) 0))
  have H := Lib.hid h
  have HT := Lib.hid hT
  unfold Swept
  generalize U &&& (4294967295 - M) = G at *
  generalize U &&& M = V at *
  clear h hT
  go_enter Tryd.func14, Tryd.ntmps14
  go_wp2_with fail
  go_quiet (fail)
  go_wp2_with fail
  go_region
  go_wp2_with fail
  have HP := Lib.hid (show PageAt (((w.drewN (nq + 1)).setCell ⟨b, 2, none⟩ (.int .u32 V)).setCell ⟨b, 3, none⟩ (.int .u32 0)) b c n V 0 from HF.out _ ((((H.out.drewN (nq + 1)).blk.set 2 _).set 3 _).of_eq (by simp)))
  have HK := Lib.hid (show Kept (fun i => i = b) w (((w.drewN (nq + 1)).setCell ⟨b, 2, none⟩ (.int .u32 V)).setCell ⟨b, 3, none⟩ (.int .u32 0)) from (((Kept.refl (fun i => i = b) w).drewN (nq + 1)).set (p := ⟨b, 2, none⟩) (.inl rfl) _).set (p := ⟨b, 3, none⟩) (.inl rfl) _)
  have HZ := Lib.hid (show (((w.drewN (nq + 1)).setCell ⟨b, 2, none⟩ (.int .u32 V)).setCell ⟨b, 3, none⟩ (.int .u32 0)).heap.size = w.heap.size from by simp [World.setCell])
  generalize (((w.drewN (nq + 1)).setCell ⟨b, 2, none⟩ (.int .u32 V)).setCell ⟨b, 3, none⟩ (.int .u32 0)) = w3 at *
  clear c0 c1 c2 c3 f0 f1 f2 f3
  refine (slots_any G hg _ (HT.out.kept HK.out (fun e => hb0 e.symm))).mono ?_
  rintro e w4 ⟨a, l, rfl, ho, hb⟩
  have HO := Lib.hid ho
  have HB := Lib.hid hb
  clear ho hb
  dsimp only
  go_wp2_with fail
  go_ret
  exact ⟨a, l, w3, rfl, HP.out.call HB.out, by rw [← HZ.out]; exact HO.out, HK.out, HZ.out, HB.out⟩
theorem class_nil (w : World) : Calls Tryd.prog 19 #[.pointer none] w fun e w' => e = .returned (.int .i64 (-1)) ∧ w = w' := by
  go_enter Tryd.func19, Tryd.ntmps19
  go_wp2_with fail
  go_ret
  exact ⟨rfl, rfl⟩
theorem take_nil (w : World) : Calls Tryd.prog 9 #[.pointer none] w fun e w' => e = .returned (.tuple #[.int .i64 0, .bool false]) ∧ w = w' := by
  go_enter Tryd.func9, Tryd.ntmps9
  go_wp2_with fail
  go_ret2
  exact ⟨rfl, rfl⟩
theorem count_nil (w : World) : Calls Tryd.prog 15 #[.pointer none] w fun e w' => e = .returned (.tuple #[.int .i64 0, .int .i64 0]) ∧ w = w' := by
  go_enter Tryd.func15, Tryd.ntmps15
  go_wp2_with fail
  go_ret2
  exact ⟨rfl, rfl⟩
theorem all_nil (w : World) : Calls Tryd.prog 18 #[.pointer none] w fun e w' => e = .returned (.slice none 0 0) ∧ w = w' := by
  go_enter Tryd.func18, Tryd.ntmps18
  go_wp2_with fail
  go_ret
  exact ⟨rfl, rfl⟩
theorem sweep_nil (w : World) : Calls Tryd.prog 14 #[.pointer none] w fun e w' => e = .returned (.slice none 0 0) ∧ w = w' := by
  go_enter Tryd.func14, Tryd.ntmps14
  go_wp2_with fail
  go_ret
  exact ⟨rfl, rfl⟩
theorem used_nil (k : Int) (w : World) : Calls Tryd.prog 11 #[.pointer none, .int .i64 k] w fun e w' => e = .returned (.bool false) ∧ w = w' := by
  go_enter Tryd.func11, Tryd.ntmps11
  go_wp2_with fail
  refine (bit_nil _ _).mono ?_
  rintro e w1 ⟨rfl, rfl⟩
  dsimp only
  go_wp2_with fail
  go_ret
  exact ⟨rfl, rfl⟩
theorem marked_nil (k : Int) (w : World) : Calls Tryd.prog 12 #[.pointer none, .int .i64 k] w fun e w' => e = .returned (.bool false) ∧ w = w' := by
  go_enter Tryd.func12, Tryd.ntmps12
  go_wp2_with fail
  refine (bit_nil _ _).mono ?_
  rintro e w1 ⟨rfl, rfl⟩
  dsimp only
  go_wp2_with fail
  go_ret
  exact ⟨rfl, rfl⟩
theorem free_nil (k : Int) (w : World) : Calls Tryd.prog 10 #[.pointer none, .int .i64 k] w fun e w' => e = .returned (.bool false) ∧ w = w' := by
  go_enter Tryd.func10, Tryd.ntmps10
  go_wp2_with fail
  refine (used_nil _ _).mono ?_
  rintro e w1 ⟨rfl, rfl⟩
  dsimp only
  go_wp2_with fail
  go_ret
  exact ⟨rfl, rfl⟩
theorem mark_nil (k : Int) (w : World) : Calls Tryd.prog 13 #[.pointer none, .int .i64 k] w fun e w' => e = .returned (.bool false) ∧ w = w' := by
  go_enter Tryd.func13, Tryd.ntmps13
  go_wp2_with fail
  refine (used_nil _ _).mono ?_
  rintro e w1 ⟨rfl, rfl⟩
  dsimp only
  go_wp2_with fail
  go_ret
  exact ⟨rfl, rfl⟩
end Go.Proofs.YtpdleckflcangaaDoor.Pg
