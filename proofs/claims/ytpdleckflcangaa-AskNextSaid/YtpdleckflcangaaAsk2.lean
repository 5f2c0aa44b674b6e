/- Package ask: the contract of step. -/
import Derived.Test.YtpdleckflcangaaAsk
namespace Go.Proofs.Ytpdleckflcangaa.Ask
open Go.RowKit Go.Maps
set_option linter.unusedSimpArgs false
set_option linter.unusedVariables false

/-- The status behind a sign. -/
def stepF (st s : Int) : Option Int :=
  if st = 0 ∧ s = 0 then some 1 else if st = 1 ∧ s = 1 then some 2 else if st = 1 ∧ s = 2 then some 3 else if st = 2 ∧ s = 3 then some 0 else if st = 3 ∧ s = 3 then some 0 else none
theorem ent_ways (q : Int × Int × Int) (h : In [] q) : q = (0, 0, 1) ∨ q = (1, 1, 2) ∨ q = (1, 2, 3) ∨ q = (2, 3, 0) ∨ q = (3, 3, 0) := by
  obtain ⟨p, h1, _, rfl⟩ := h
  have hp : p = 0 ∨ p = 1 ∨ p = 2 ∨ p = 3 ∨ p = 4 := by omega
  rcases hp with rfl | rfl | rfl | rfl | rfl <;> simp [ent]
theorem ent_in (p : Nat) (h : p < 5) : In [] (ent p) := ⟨p, h, by simp, rfl⟩
theorem step_yes (st s v : Int) (h : In [] (st, s, v)) : stepF st s = some v := by
  rcases ent_ways _ h with h | h | h | h | h <;> (simp only [Prod.mk.injEq] at h; obtain ⟨rfl, rfl, rfl⟩ := h; rfl)
theorem step_no (st s : Int) (h : ∀ v, ¬ In [] (st, s, v)) : stepF st s = none := by
  unfold stepF
  rw [if_neg, if_neg, if_neg, if_neg, if_neg]
  · rintro ⟨rfl, rfl⟩; exact h 0 (ent_in 4 (by omega))
  · rintro ⟨rfl, rfl⟩; exact h 0 (ent_in 3 (by omega))
  · rintro ⟨rfl, rfl⟩; exact h 3 (ent_in 2 (by omega))
  · rintro ⟨rfl, rfl⟩; exact h 2 (ent_in 1 (by omega))
  · rintro ⟨rfl, rfl⟩; exact h 1 (ent_in 0 (by omega))

set_option maxHeartbeats 1000000 in
theorem step_any (st s : Int) (w : World) (ha : (Lit.int .i64 st).wf = true) (hb : (Lit.int .i64 s).wf = true) :
    Calls Try.prog 56 #[.int .i64 st, .int .i64 s] w fun e w' => e = .returned (.tuple #[.int .i64 ((stepF st s).getD 0), .bool (stepF st s).isSome]) ∧ Below w.heap.size w w' := by
  have hmm := @run_makeMap Try.prog
  have HA := Lib.hid ha
  have HB := Lib.hid hb
  clear ha hb
  go_enter Try.func56, Try.ntmps56
  go_wp2_with fail
  refine wp_region_any (by kernel_rfl) ?_
  change wpAny _ _ _ _ _ _ _ (World.drew _)
  refine wpAny_take (i := 1) (v := key 0 0) rfl (by kernel_rfl) (by kernel_rfl) (by kernel_rfl) (fun _ _ _ h => h) (Or.inl ⟨by rfl, fun w => by kernel_rfl⟩) ?_
  refine wpAny_take (i := 3) (v := key 1 1) rfl (by kernel_rfl) (by kernel_rfl) (by kernel_rfl) (fun _ _ _ h => h) (Or.inl ⟨by rfl, fun w => by kernel_rfl⟩) ?_
  refine wpAny_take (i := 5) (v := key 1 2) rfl (by kernel_rfl) (by kernel_rfl) (by kernel_rfl) (fun _ _ _ h => h) (Or.inl ⟨by rfl, fun w => by kernel_rfl⟩) ?_
  refine wpAny_take (i := 7) (v := key 2 3) rfl (by kernel_rfl) (by kernel_rfl) (by kernel_rfl) (fun _ _ _ h => h) (Or.inl ⟨by rfl, fun w => by kernel_rfl⟩) ?_
  refine wpAny_take (i := 9) (v := key 3 3) rfl (by kernel_rfl) (by kernel_rfl) (by kernel_rfl) (fun _ _ _ h => h) (Or.inl ⟨by rfl, fun w => by kernel_rfl⟩) ?_
  simp only [Act.put, List.setIfInBounds_toArray, List.set_cons_zero, List.set_cons_succ]
  refine wpAny_ready (rs := [0]) (by kernel_rfl) (by simp) ?_
  refine AllReady.cons rfl (fun K hK => ?_) AllReady.nil
  go_simp
  refine hK _ _ ?_
  clear hK K
  show wpAny _ _ _ _ (5 + 2) (lst all5) _ _
  refine inserts (r := w.heap.size) (W := w) (by kernel_rfl) ?_ rfl ?_ ?_ 5 all5 (by decide) rfl #[] 0 _ ?_ ?_ ?_
  · intro p hp
    have hp : p = 0 ∨ p = 1 ∨ p = 2 ∨ p = 3 ∨ p = 4 := by omega
    rcases hp with rfl | rfl | rfl | rfl | rfl <;> exact ⟨_, rfl, rfl, rfl, rfl⟩
  · intro p hp5
    have hp : p = 0 ∨ p = 1 ∨ p = 2 ∨ p = 3 ∨ p = 4 := by omega
    rcases hp with rfl | rfl | rfl | rfl | rfl <;> rfl
  · intro es clk w' hb hw hm
    have hl := run_look hb hm (in_wf []) HA.out HB.out (stepF st s) (fun v => step_yes st s v) (step_no st s)
    have HW := Lib.hid hw
    clear hb hw hm
    unfold key at hl
    refine wpAny_take (i := 11) (v := .map (some w.heap.size)) rfl (by kernel_rfl) (by kernel_rfl) (by kernel_rfl) (fun _ _ _ h => h) (Or.inl ⟨by rfl, fun w => rfl⟩) ?_
    refine wpAny_take (i := 12) (v := .map (some w.heap.size)) rfl (by kernel_rfl) (by kernel_rfl) (by kernel_rfl) (fun _ _ _ h => h) (Or.inl ⟨by rfl, fun w => rfl⟩) ?_
    simp only [Act.put, List.setIfInBounds_toArray, List.set_cons_zero, List.set_cons_succ]
    refine wpAny_done (by kernel_rfl) ?_ _
    go_wp2_with fail
    go_ret2
    exact ⟨rfl, HW.out⟩
  · exact heap_alloc_new _ _
  · exact ((Below.refl _ w).drew).alloc (Nat.le_refl _) _
  · exact ⟨by simp, fun q ⟨p, h1, h2, _⟩ => by exfalso; have hp : p = 0 ∨ p = 1 ∨ p = 2 ∨ p = 3 ∨ p = 4 := by omega
                                               rcases hp with rfl | rfl | rfl | rfl | rfl <;> simp [all5] at h2⟩
end Go.Proofs.Ytpdleckflcangaa.Ask
