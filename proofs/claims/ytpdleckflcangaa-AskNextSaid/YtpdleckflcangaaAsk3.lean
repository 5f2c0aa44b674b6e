/- Package ask: the contracts of a hand's methods. (Printed by a program of mine.) -/
import Derived.Test.YtpdleckflcangaaAsk2
namespace Go.Proofs.Ytpdleckflcangaa.Ask
open Go.RowKit Go.Maps
set_option linter.unusedSimpArgs false
set_option linter.unusedVariables false

/-- A hand. -/
def hv (st : Int) (bl : Bool) : Value := .agg #[.int .i64 st, .bool bl]
/-- The status behind a sign, whether it says something or not. -/
def nx (st s : Int) : Int := (stepF st s).getD st
theorem nx_wf {st : Int} (s : Int) (h : (Lit.int .i64 st).wf = true) : (Lit.int .i64 (nx st s)).wf = true := by
  unfold nx stepF
  split
  · exact (by decide : (Lit.int .i64 1).wf = true)
  · split
    · exact (by decide : (Lit.int .i64 2).wf = true)
    · split
      · exact (by decide : (Lit.int .i64 3).wf = true)
      · split
        · exact (by decide : (Lit.int .i64 0).wf = true)
        · split
          · exact (by decide : (Lit.int .i64 0).wf = true)
          · exact h
/-- Two boxes that a method made, behind a call. -/
theorem two_boxes {w w1 : World} {cs ds : Array Value} {T : TypeId} (hb : Below ((w.alloc (.cells cs T)).alloc (.cells ds T)).heap.size ((w.alloc (.cells cs T)).alloc (.cells ds T)) w1) :
    Blk w1 w.heap.size cs T ∧ Blk w1 (w.heap.size + 1) ds T ∧ Below w.heap.size w w1 := by
  have B2 := Blk.new (w.alloc (.cells cs T)) ds T
  rw [World.size_alloc] at B2
  exact ⟨((Blk.new w cs T).alloc _).call hb, B2.call hb, fresh_call (fresh_alloc (fresh_alloc (Below.refl _ _) _) _) hb⟩
theorem bset {B b o : Nat} {a w : World} (h : Below B a w) (hb : B ≤ b) (v : Value) : Below B a (w.setCell ⟨b, o, none⟩ v) := h.setCell hb v
theorem below_set2 {w w1 : World} (h : Below w.heap.size w w1) (i : Nat) (x y : Value) : Below w.heap.size w ((w1.setCell ⟨w.heap.size + i, 0, none⟩ x).setCell ⟨w.heap.size + i, 1, none⟩ y) :=
  (h.setCell (show w.heap.size ≤ w.heap.size + i by omega) _).setCell (show w.heap.size ≤ w.heap.size + i by omega) _

set_option maxHeartbeats 1000000 in
theorem take_any (st s : Int) (bl : Bool) (w : World) (h : (Lit.int .i64 st).wf = true) (hs : (Lit.int .i64 s).wf = true) :
    Calls Try.prog 52 #[.agg #[.int .i64 st, .bool bl], .int .i64 s] w fun e w' => e = .returned (.tuple #[.agg #[.int .i64 (nx st s), .bool bl], .bool (stepF st s).isSome]) ∧ Below w.heap.size w w' := by
  have HST := Lib.hid (fun w => step_any st s w h hs)
  clear h hs
  unfold nx
  generalize stepF st s = o at *
  go_enter Try.func52, Try.ntmps52
  go_wp2_with fail
  refine (HST.out _).mono ?_
  rintro e w1 ⟨rfl, hb⟩
  obtain ⟨B1, B2, hw⟩ := two_boxes hb
  obtain ⟨k1, k2, k3, k4⟩ := B1.two
  obtain ⟨l1, l2, l3, l4⟩ := B2.two
  have HW := Lib.hid hw
  clear hb hw B1 B2
  cases o with
  | none =>
    simp only [Option.getD, Option.isSome]
    go_wp2_with fail
    exact bodyPost_ret (v := .tuple #[.agg #[.int .i64 st, .bool bl], .bool false]) (by simp [results, Try.results52, go_sem, l1, l2]) rfl ⟨rfl, below_set2 HW.out 1 _ _⟩
  | some v =>
    simp only [Option.getD, Option.isSome]
    go_wp2_with fail
    exact bodyPost_ret (v := .tuple #[.agg #[.int .i64 v, .bool bl], .bool true]) (by simp [results, Try.results52, go_sem, l1, l2]) rfl ⟨rfl, below_set2 (HW.out.setCell (Nat.le_refl _) _) 1 _ _⟩

set_option maxHeartbeats 1000000 in
theorem ask_any (st : Int) (bl : Bool) (w : World) (h : (Lit.int .i64 st).wf = true) :
    Calls Try.prog 18 #[.agg #[.int .i64 st, .bool bl]] w fun e w' => e = .returned (.agg #[.int .i64 (nx st 0), .bool bl]) ∧ Below w.heap.size w w' := by
  have HST := Lib.hid (fun w => take_any st 0 bl w h (by decide))
  clear h
  generalize nx st 0 = n at *
  generalize stepF st 0 = o at *
  go_enter Try.func18, Try.ntmps18
  go_wp2_with fail
  refine (HST.out _).mono ?_
  rintro e w1 ⟨rfl, hb⟩
  obtain ⟨B1, B2, hw⟩ := two_boxes hb
  obtain ⟨k1, k2, k3, k4⟩ := B1.two
  obtain ⟨l1, l2, l3, l4⟩ := B2.two
  have HW := Lib.hid hw
  clear hb hw B1 B2
  dsimp only
  go_wp2_with fail
  exact bodyPost_ret (v := .agg #[.int .i64 n, .bool bl]) (by simp [results, Try.results18, go_sem, l1, l2]) rfl ⟨rfl, below_set2 (below_set2 HW.out 0 _ _) 1 _ _⟩

set_option maxHeartbeats 1000000 in
theorem jolt_any (st : Int) (bl : Bool) (w : World) (h : (Lit.int .i64 st).wf = true) :
    Calls Try.prog 19 #[.agg #[.int .i64 st, .bool bl]] w fun e w' => e = .returned (.agg #[.int .i64 (nx st 2), .bool bl]) ∧ Below w.heap.size w w' := by
  have HST := Lib.hid (fun w => take_any st 2 bl w h (by decide))
  clear h
  generalize nx st 2 = n at *
  generalize stepF st 2 = o at *
  go_enter Try.func19, Try.ntmps19
  go_wp2_with fail
  refine (HST.out _).mono ?_
  rintro e w1 ⟨rfl, hb⟩
  obtain ⟨B1, B2, hw⟩ := two_boxes hb
  obtain ⟨k1, k2, k3, k4⟩ := B1.two
  obtain ⟨l1, l2, l3, l4⟩ := B2.two
  have HW := Lib.hid hw
  clear hb hw B1 B2
  dsimp only
  go_wp2_with fail
  exact bodyPost_ret (v := .agg #[.int .i64 n, .bool bl]) (by simp [results, Try.results19, go_sem, l1, l2]) rfl ⟨rfl, below_set2 (below_set2 HW.out 0 _ _) 1 _ _⟩

set_option maxHeartbeats 1000000 in
theorem reach_no (st : Int) (bl : Bool) (w : World) :
    Calls Try.prog 20 #[.agg #[.int .i64 st, .bool bl], .bool false] w fun e w' => e = .returned (.tuple #[.agg #[.int .i64 st, .bool bl], .bool false]) ∧ Below w.heap.size w w' := by
  go_enter Try.func20, Try.ntmps20
  go_wp2_with fail
  exact bodyPost_ret (v := .tuple #[.agg #[.int .i64 st, .bool bl], .bool false]) (by simp [results, Try.results20, go_sem]) rfl ⟨rfl, by exact fresh_alloc (fresh_alloc (Below.refl _ _) _) _⟩
set_option maxHeartbeats 1000000 in
theorem reach_yes (st : Int) (bl : Bool) (w : World) (h : (Lit.int .i64 st).wf = true) :
    Calls Try.prog 20 #[.agg #[.int .i64 st, .bool bl], .bool true] w fun e w' => e = .returned (.tuple #[.agg #[.int .i64 (nx st 1), .bool bl], .bool (stepF st 1).isSome]) ∧ Below w.heap.size w w' := by
  have HST := Lib.hid (fun w => take_any st 1 bl w h (by decide))
  clear h
  generalize nx st 1 = n at *
  generalize (stepF st 1).isSome = o at *
  go_enter Try.func20, Try.ntmps20
  go_wp2_with fail
  refine (HST.out _).mono ?_
  rintro e w1 ⟨rfl, hb⟩
  obtain ⟨B1, B2, hw⟩ := two_boxes hb
  obtain ⟨l1, l2, l3, l4⟩ := B2.two
  have HW := Lib.hid hw
  clear hb hw B1 B2
  dsimp only
  go_wp2_with fail
  exact bodyPost_ret (v := .tuple #[.agg #[.int .i64 n, .bool bl], .bool o]) (by simp [results, Try.results20, go_sem, l1, l2]) rfl ⟨rfl, below_set2 HW.out 1 _ _⟩
set_option maxHeartbeats 1000000 in
theorem scan_any (st : Int) (bl : Bool) (w : World) (h : (Lit.int .i64 st).wf = true) :
    Calls Try.prog 21 #[.agg #[.int .i64 st, .bool bl]] w fun e w' => e = .returned (.tuple #[.agg #[.int .i64 (nx st 3), .bool (bl || (stepF st 3).isSome)], .bool (stepF st 3).isSome, .bool (st == 3)]) ∧ Below w.heap.size w w' := by
  have HST := Lib.hid (fun w => take_any st 3 bl w h (by decide))
  clear h
  generalize nx st 3 = n at *
  generalize (stepF st 3).isSome = o at *
  go_enter Try.func21, Try.ntmps21
  go_wp2_with fail
  refine (HST.out _).mono ?_
  rintro e w1 ⟨rfl, hb⟩
  obtain ⟨B1, B2, hw⟩ := two_boxes hb
  obtain ⟨k1, k2, k3, k4⟩ := B1.two
  obtain ⟨l1, l2, l3, l4⟩ := B2.two
  have HW := Lib.hid hw
  clear hb hw B1 B2
  dsimp only
  cases bl
  · cases o
    · go_wp2_with fail
      exact bodyPost_ret (v := .tuple #[.agg #[.int .i64 n, .bool false], .bool false, .bool (st == 3)]) (by simp [results, Try.results21, go_sem, l1, l2]) rfl ⟨rfl, by repeat (first | exact HW.out | refine bset ?_ (Nat.le_succ _) _ | refine bset ?_ (Nat.le_refl _) _)⟩
    · go_wp2_with fail
      exact bodyPost_ret (v := .tuple #[.agg #[.int .i64 n, .bool true], .bool true, .bool (st == 3)]) (by simp [results, Try.results21, go_sem, l1, l2]) rfl ⟨rfl, by repeat (first | exact HW.out | refine bset ?_ (Nat.le_succ _) _ | refine bset ?_ (Nat.le_refl _) _)⟩
  · cases o
    · go_wp2_with fail
      exact bodyPost_ret (v := .tuple #[.agg #[.int .i64 n, .bool true], .bool false, .bool (st == 3)]) (by simp [results, Try.results21, go_sem, l1, l2]) rfl ⟨rfl, by repeat (first | exact HW.out | refine bset ?_ (Nat.le_succ _) _ | refine bset ?_ (Nat.le_refl _) _)⟩
    · go_wp2_with fail
      exact bodyPost_ret (v := .tuple #[.agg #[.int .i64 n, .bool true], .bool true, .bool (st == 3)]) (by simp [results, Try.results21, go_sem, l1, l2]) rfl ⟨rfl, by repeat (first | exact HW.out | refine bset ?_ (Nat.le_succ _) _ | refine bset ?_ (Nat.le_refl _) _)⟩
set_option maxHeartbeats 1000000 in
theorem end_any (st : Int) (bl : Bool) (w : World) :
    Calls Try.prog 22 #[.agg #[.int .i64 st, .bool bl]] w fun e w' => e = .returned (.agg #[.int .i64 4, .bool bl]) ∧ Below w.heap.size w w' := by
  go_enter Try.func22, Try.ntmps22
  go_wp2_with fail
  exact bodyPost_ret (v := .agg #[.int .i64 4, .bool bl]) (by simp [results, Try.results22, go_sem]) rfl ⟨rfl, by exact fresh_alloc (fresh_alloc (Below.refl _ _) _) _⟩
/-- Behind Begin. -/
def bgS (st : Int) : Int := if st = 4 then 4 else 0
def bgB (st : Int) (bl : Bool) : Bool := if st = 4 then bl else false
set_option maxHeartbeats 1000000 in
theorem begin_any (st : Int) (bl : Bool) (w : World) :
    Calls Try.prog 23 #[.agg #[.int .i64 st, .bool bl]] w fun e w' => e = .returned (.agg #[.int .i64 (bgS st), .bool (bgB st bl)]) ∧ Below w.heap.size w w' := by
  unfold bgS bgB
  by_cases h4 : st = 4
  · subst h4
    simp only [if_true]
    go_enter Try.func23, Try.ntmps23
    go_wp2_with fail
    exact bodyPost_ret (v := .agg #[.int .i64 4, .bool bl]) (by simp [results, Try.results23, go_sem]) rfl ⟨rfl, by exact fresh_alloc (fresh_alloc (Below.refl _ _) _) _⟩
  · have hd : (st == 4) = false := by simpa using h4
    simp only [if_neg h4]
    clear h4
    go_enter Try.func23, Try.ntmps23
    go_wp2_with fail
    exact bodyPost_ret (v := .agg #[.int .i64 0, .bool false]) (by simp [results, Try.results23, go_sem]) rfl ⟨rfl, by exact fresh_alloc (fresh_alloc (Below.refl _ _) _) _⟩
def mayF (st : Int) : Bool := (st == 0) || (st == 1)
set_option maxHeartbeats 1000000 in
theorem may_any (st : Int) (bl : Bool) (w : World) :
    Calls Try.prog 24 #[.agg #[.int .i64 st, .bool bl]] w fun e w' => e = .returned (.bool (mayF st)) ∧ Below w.heap.size w w' := by
  unfold mayF
  by_cases h0 : st = 0
  · subst h0
    go_enter Try.func24, Try.ntmps24
    go_wp2_with fail
    go_ret
    exact ⟨rfl, fresh_alloc (Below.refl _ _) _⟩
  · have hd : (st == 0) = false := by simpa using h0
    rw [hd, Bool.false_or]
    clear h0
    go_enter Try.func24, Try.ntmps24
    go_wp2_with fail
    go_ret
    exact ⟨rfl, fresh_alloc (Below.refl _ _) _⟩
end Go.Proofs.Ytpdleckflcangaa.Ask
