/- The walk of besomlaw4.ShapeKinds: it returns true, and writes nothing that was there. (Printed by a program of mine.) -/
import Derived.Test.YtpdleckflcangaaShpA
namespace Go.Proofs.Ytpdleckflcangaa.ShapeKinds
open Go.RowKit Shp
set_option linter.unusedSimpArgs false
set_option linter.unusedVariables false

theorem field_valid {s k : Int} (h : 0 < kof s false k) : 0 < kof s true k := by
  unfold kof kd at *
  split at h
  · rw [if_pos (by assumption)]
    split at h
    · rename_i h1 h2
      rw [if_pos (by simp at h2 ⊢; omega)]
      decide
    · exact absurd h (by decide)
  · exact absurd h (by decide)
theorem field_loc {s k : Int} (h : 0 < kof s false k) : k < 64 := by
  unfold kof kd at h
  split at h
  · split at h
    · rename_i h1 h2
      simp at h2
      omega
    · exact absurd h (by decide)
  · exact absurd h (by decide)
theorem valid_one {s k : Int} (h : 0 < kof s true k) : k = 1 ∨ (16 ≤ k ∧ k < 32) ∨ (64 ≤ k ∧ k < 80) := by
  unfold kof kd at h
  split at h
  · split at h
    · rename_i h1 h2
      simp at h2
      omega
    · exact absurd h (by decide)
  · exact absurd h (by decide)
theorem valid_none (s : Int) : decide (0 < kof s true 0) = false := by
  rw [decide_eq_false_iff_not]
  intro h
  have := valid_one h
  omega


set_option maxRecDepth 100000 in
set_option maxHeartbeats 1000000 in
theorem at_int (s : Int) (w : World) (wa : (Lit.int .i64 1).wf = true)  :
    Calls Try.prog 6 #[.int .i64 1, .int .i64 s] w fun e w' => e = .returned (.bool true) ∧ Below w.heap.size w w' := by
  have HW := Lib.hid wa
  clear wa
  have hfv : decide (0 < kof s false 1) = true → decide (0 < kof s true 1) = true := fun h => decide_eq_true (field_valid (of_decide_eq_true h))
  have hfl : decide (0 < kof s false 1) = true → (1 : Int) < 64 := fun h => field_loc (of_decide_eq_true h)
  have hv1 : decide (0 < kof s true 1) = true → 1 = (1 : Int) ∨ (16 ≤ (1 : Int) ∧ (1 : Int) < 32) ∨ (64 ≤ (1 : Int) ∧ (1 : Int) < 80) := fun h => valid_one (of_decide_eq_true h)
  have HFV := Lib.hid hfv
  have HFL := Lib.hid hfl
  have HV1 := Lib.hid hv1
  clear hfv hfl hv1
  go_enter Try.func6, Try.ntmps6
  go_wp2_with fail
  refine (alive _).mono ?_
  rintro e w1 ⟨rfl, hb1⟩
  dsimp only
  go_wp2_with fail
  refine (points_no 1 w1 (.inl (by omega))).mono ?_
  rintro e w2 ⟨rfl, rfl⟩
  dsimp only
  go_wp2_with fail
  refine (places_no 1 w1 (.inl (by omega))).mono ?_
  rintro e w2 ⟨rfl, rfl⟩
  dsimp only
  go_wp2_with fail
  have B0 := Blk.new w1 #[Value.bool true, Value.bool false, Value.bool false] 4
  have hw := fresh_alloc hb1 (.cells #[Value.bool true, Value.bool false, Value.bool false] 4)
  clear hb1
  generalize w1.alloc (.cells #[Value.bool true, Value.bool false, Value.bool false] 4) = w2 at *
  have c3 := B0.three
  have lt3 := B0.lt
  clear B0
  go_loop [9, 30] (fun n i => (n = .int .i64 0 ∧ i = .int .i64 0) ∨ (n = .int .i64 1 ∧ i = .int .i64 1) ∨ (n = .int .i64 1 ∧ i = .int .i64 2) ∨ (n = .int .i64 1 ∧ i = .int .i64 3)) (fun _ i => (3 - intOf i).toNat)
  case atStart => exact .inl ⟨rfl, rfl⟩
  case round =>
    rcases hrel with ⟨rfl, rfl⟩ | ⟨rfl, rfl⟩ | ⟨rfl, rfl⟩ | ⟨rfl, rfl⟩
    · go_wp2_with fail
      first | exact ⟨.inr (.inl ⟨rfl, rfl⟩), by simp [intOf]⟩ | exact ⟨⟨_, _, _, .inr (.inl ⟨rfl, rfl⟩), rfl, rfl, rfl⟩, by simp [intOf]⟩
    · go_wp2_with fail
      first | exact ⟨.inr (.inr (.inl ⟨rfl, rfl⟩)), by simp [intOf]⟩ | exact ⟨⟨_, _, _, .inr (.inr (.inl ⟨rfl, rfl⟩)), rfl, rfl, rfl⟩, by simp [intOf]⟩
    · go_wp2_with fail
      first | exact ⟨.inr (.inr (.inr ⟨rfl, rfl⟩)), by simp [intOf]⟩ | exact ⟨⟨_, _, _, .inr (.inr (.inr ⟨rfl, rfl⟩)), rfl, rfl, rfl⟩, by simp [intOf]⟩
    · clear c3
      go_wp2_with fail
      refine (field_any _ _ _ HW.out).mono ?_
      rintro e w3 ⟨rfl, hb⟩
      have hw3 := Lib.hid (fresh_call hw hb)
      clear hw hb lt3
      dsimp only
      have HZ := Lib.hid (valid_none s)
      generalize hF : decide (0 < kof s false 1) = F at *
      have HVA := fun w => valid_any 1 s w HW.out
      generalize hV : decide (0 < kof s true 1) = V at *
      clear hF hV
      have HVA := Lib.hid HVA
      have hno : (F = true → V = true ∧ True) ∧ (V = true → True) := ⟨fun h => ⟨HFV.out h, by have := HFL.out h; trivial⟩, fun h => by have := HV1.out h; trivial⟩
      clear HFV HFL HV1
      rcases F with _ | _ <;> rcases V with _ | _
      · clear hno
        go_wp2_with fail
        refine (HVA.out _).mono ?_
        rintro e w4 ⟨rfl, hb4⟩
        have hw4 := Lib.hid (fresh_call hw3.out hb4)
        clear hb4 hw3
        have hw3 := Lib.hid hw4.out
        clear hw4
        dsimp only
        go_wp2_with fail
        refine (valid_any 0 s _ (by decide)).mono ?_
        rw [HZ.out]
        rintro e w5 ⟨rfl, hb5⟩
        have hw5 := Lib.hid (fresh_call hw3.out hb5)
        clear hb5
        dsimp only
        go_wp2_with fail
        go_ret
        exact ⟨rfl, hw5.out⟩
      · clear hno
        go_wp2_with fail
        refine (HVA.out _).mono ?_
        rintro e w4 ⟨rfl, hb4⟩
        have hw4 := Lib.hid (fresh_call hw3.out hb4)
        clear hb4 hw3
        have hw3 := Lib.hid hw4.out
        clear hw4
        dsimp only
        go_wp2_with fail
        refine (valid_any 0 s _ (by decide)).mono ?_
        rw [HZ.out]
        rintro e w5 ⟨rfl, hb5⟩
        have hw5 := Lib.hid (fresh_call hw3.out hb5)
        clear hb5
        dsimp only
        go_wp2_with fail
        go_ret
        exact ⟨rfl, hw5.out⟩
      · exact absurd hno (by decide)
      · clear hno
        go_wp2_with fail
        refine (HVA.out _).mono ?_
        rintro e w4 ⟨rfl, hb4⟩
        have hw4 := Lib.hid (fresh_call hw3.out hb4)
        clear hb4 hw3
        have hw3 := Lib.hid hw4.out
        clear hw4
        dsimp only
        go_wp2_with fail
        refine (HVA.out _).mono ?_
        rintro e w4 ⟨rfl, hb4⟩
        have hw4 := Lib.hid (fresh_call hw3.out hb4)
        clear hb4 hw3
        have hw3 := Lib.hid hw4.out
        clear hw4
        dsimp only
        go_wp2_with fail
        refine (valid_any 0 s _ (by decide)).mono ?_
        rw [HZ.out]
        rintro e w5 ⟨rfl, hb5⟩
        have hw5 := Lib.hid (fresh_call hw3.out hb5)
        clear hb5
        dsimp only
        go_wp2_with fail
        go_ret
        exact ⟨rfl, hw5.out⟩

set_option maxRecDepth 100000 in
set_option maxHeartbeats 1000000 in
theorem at_ptr (a : Int) (s : Int) (w : World) (wa : (Lit.int .i64 a).wf = true) (h1 : 16 ≤ a) (h2 : a < 32) (h1b : (a == 1) = false) :
    Calls Try.prog 6 #[.int .i64 a, .int .i64 s] w fun e w' => e = .returned (.bool true) ∧ Below w.heap.size w w' := by
  have HW := Lib.hid wa
  clear wa
  have hfv : decide (0 < kof s false a) = true → decide (0 < kof s true a) = true := fun h => decide_eq_true (field_valid (of_decide_eq_true h))
  have hfl : decide (0 < kof s false a) = true → (a : Int) < 64 := fun h => field_loc (of_decide_eq_true h)
  have hv1 : decide (0 < kof s true a) = true → a = (1 : Int) ∨ (16 ≤ (a : Int) ∧ (a : Int) < 32) ∨ (64 ≤ (a : Int) ∧ (a : Int) < 80) := fun h => valid_one (of_decide_eq_true h)
  have HFV := Lib.hid hfv
  have HFL := Lib.hid hfl
  have HV1 := Lib.hid hv1
  clear hfv hfl hv1
  go_enter Try.func6, Try.ntmps6
  go_wp2_with fail
  refine (alive _).mono ?_
  rintro e w1 ⟨rfl, hb1⟩
  dsimp only
  go_wp2_with fail
  refine (points_yes a w1 h1 h2).mono ?_
  rintro e w2 ⟨rfl, rfl⟩
  dsimp only
  go_wp2_with fail
  refine (places_no a w1 (.inl (by omega))).mono ?_
  rintro e w2 ⟨rfl, rfl⟩
  dsimp only
  go_wp2_with fail
  have B0 := Blk.new w1 #[Value.bool false, Value.bool true, Value.bool false] 4
  have hw := fresh_alloc hb1 (.cells #[Value.bool false, Value.bool true, Value.bool false] 4)
  clear hb1
  generalize w1.alloc (.cells #[Value.bool false, Value.bool true, Value.bool false] 4) = w2 at *
  have c3 := B0.three
  have lt3 := B0.lt
  clear B0
  go_loop [9, 30] (fun n i => (n = .int .i64 0 ∧ i = .int .i64 0) ∨ (n = .int .i64 0 ∧ i = .int .i64 1) ∨ (n = .int .i64 1 ∧ i = .int .i64 2) ∨ (n = .int .i64 1 ∧ i = .int .i64 3)) (fun _ i => (3 - intOf i).toNat)
  case atStart => exact .inl ⟨rfl, rfl⟩
  case round =>
    rcases hrel with ⟨rfl, rfl⟩ | ⟨rfl, rfl⟩ | ⟨rfl, rfl⟩ | ⟨rfl, rfl⟩
    · go_wp2_with fail
      first | exact ⟨.inr (.inl ⟨rfl, rfl⟩), by simp [intOf]⟩ | exact ⟨⟨_, _, _, .inr (.inl ⟨rfl, rfl⟩), rfl, rfl, rfl⟩, by simp [intOf]⟩
    · go_wp2_with fail
      first | exact ⟨.inr (.inr (.inl ⟨rfl, rfl⟩)), by simp [intOf]⟩ | exact ⟨⟨_, _, _, .inr (.inr (.inl ⟨rfl, rfl⟩)), rfl, rfl, rfl⟩, by simp [intOf]⟩
    · go_wp2_with fail
      first | exact ⟨.inr (.inr (.inr ⟨rfl, rfl⟩)), by simp [intOf]⟩ | exact ⟨⟨_, _, _, .inr (.inr (.inr ⟨rfl, rfl⟩)), rfl, rfl, rfl⟩, by simp [intOf]⟩
    · clear c3
      go_wp2_with fail
      refine (field_any _ _ _ HW.out).mono ?_
      rintro e w3 ⟨rfl, hb⟩
      have hw3 := Lib.hid (fresh_call hw hb)
      clear hw hb lt3
      dsimp only
      have HZ := Lib.hid (valid_none s)
      generalize hF : decide (0 < kof s false a) = F at *
      have HVA := fun w => valid_any a s w HW.out
      generalize hV : decide (0 < kof s true a) = V at *
      clear hF hV
      have HVA := Lib.hid HVA
      have hno : (F = true → V = true ∧ True) ∧ (V = true → True) := ⟨fun h => ⟨HFV.out h, by have := HFL.out h; trivial⟩, fun h => by have := HV1.out h; trivial⟩
      clear HFV HFL HV1
      rcases F with _ | _ <;> rcases V with _ | _
      · clear hno
        go_wp2_with fail
        refine (HVA.out _).mono ?_
        rintro e w4 ⟨rfl, hb4⟩
        have hw4 := Lib.hid (fresh_call hw3.out hb4)
        clear hb4 hw3
        have hw3 := Lib.hid hw4.out
        clear hw4
        dsimp only
        go_wp2_with fail
        refine (valid_any 0 s _ (by decide)).mono ?_
        rw [HZ.out]
        rintro e w5 ⟨rfl, hb5⟩
        have hw5 := Lib.hid (fresh_call hw3.out hb5)
        clear hb5
        dsimp only
        go_wp2_with fail
        go_ret
        exact ⟨rfl, hw5.out⟩
      · clear hno
        go_wp2_with fail
        refine (HVA.out _).mono ?_
        rintro e w4 ⟨rfl, hb4⟩
        have hw4 := Lib.hid (fresh_call hw3.out hb4)
        clear hb4 hw3
        have hw3 := Lib.hid hw4.out
        clear hw4
        dsimp only
        go_wp2_with fail
        refine (valid_any 0 s _ (by decide)).mono ?_
        rw [HZ.out]
        rintro e w5 ⟨rfl, hb5⟩
        have hw5 := Lib.hid (fresh_call hw3.out hb5)
        clear hb5
        dsimp only
        go_wp2_with fail
        go_ret
        exact ⟨rfl, hw5.out⟩
      · exact absurd hno (by decide)
      · clear hno
        go_wp2_with fail
        refine (HVA.out _).mono ?_
        rintro e w4 ⟨rfl, hb4⟩
        have hw4 := Lib.hid (fresh_call hw3.out hb4)
        clear hb4 hw3
        have hw3 := Lib.hid hw4.out
        clear hw4
        dsimp only
        go_wp2_with fail
        refine (HVA.out _).mono ?_
        rintro e w4 ⟨rfl, hb4⟩
        have hw4 := Lib.hid (fresh_call hw3.out hb4)
        clear hb4 hw3
        have hw3 := Lib.hid hw4.out
        clear hw4
        dsimp only
        go_wp2_with fail
        refine (valid_any 0 s _ (by decide)).mono ?_
        rw [HZ.out]
        rintro e w5 ⟨rfl, hb5⟩
        have hw5 := Lib.hid (fresh_call hw3.out hb5)
        clear hb5
        dsimp only
        go_wp2_with fail
        go_ret
        exact ⟨rfl, hw5.out⟩

set_option maxRecDepth 100000 in
set_option maxHeartbeats 1000000 in
theorem at_loc (a : Int) (s : Int) (w : World) (wa : (Lit.int .i64 a).wf = true) (h1 : 64 ≤ a) (h2 : a < 80) (h1b : (a == 1) = false) :
    Calls Try.prog 6 #[.int .i64 a, .int .i64 s] w fun e w' => e = .returned (.bool true) ∧ Below w.heap.size w w' := by
  have HW := Lib.hid wa
  clear wa
  have hfv : decide (0 < kof s false a) = true → decide (0 < kof s true a) = true := fun h => decide_eq_true (field_valid (of_decide_eq_true h))
  have hfl : decide (0 < kof s false a) = true → (a : Int) < 64 := fun h => field_loc (of_decide_eq_true h)
  have hv1 : decide (0 < kof s true a) = true → a = (1 : Int) ∨ (16 ≤ (a : Int) ∧ (a : Int) < 32) ∨ (64 ≤ (a : Int) ∧ (a : Int) < 80) := fun h => valid_one (of_decide_eq_true h)
  have HFV := Lib.hid hfv
  have HFL := Lib.hid hfl
  have HV1 := Lib.hid hv1
  clear hfv hfl hv1
  go_enter Try.func6, Try.ntmps6
  go_wp2_with fail
  refine (alive _).mono ?_
  rintro e w1 ⟨rfl, hb1⟩
  dsimp only
  go_wp2_with fail
  refine (points_no a w1 (.inr (by omega))).mono ?_
  rintro e w2 ⟨rfl, rfl⟩
  dsimp only
  go_wp2_with fail
  refine (places_yes a w1 h1 h2).mono ?_
  rintro e w2 ⟨rfl, rfl⟩
  dsimp only
  go_wp2_with fail
  have B0 := Blk.new w1 #[Value.bool false, Value.bool false, Value.bool true] 4
  have hw := fresh_alloc hb1 (.cells #[Value.bool false, Value.bool false, Value.bool true] 4)
  clear hb1
  generalize w1.alloc (.cells #[Value.bool false, Value.bool false, Value.bool true] 4) = w2 at *
  have c3 := B0.three
  have lt3 := B0.lt
  clear B0
  go_loop [9, 30] (fun n i => (n = .int .i64 0 ∧ i = .int .i64 0) ∨ (n = .int .i64 0 ∧ i = .int .i64 1) ∨ (n = .int .i64 0 ∧ i = .int .i64 2) ∨ (n = .int .i64 1 ∧ i = .int .i64 3)) (fun _ i => (3 - intOf i).toNat)
  case atStart => exact .inl ⟨rfl, rfl⟩
  case round =>
    rcases hrel with ⟨rfl, rfl⟩ | ⟨rfl, rfl⟩ | ⟨rfl, rfl⟩ | ⟨rfl, rfl⟩
    · go_wp2_with fail
      first | exact ⟨.inr (.inl ⟨rfl, rfl⟩), by simp [intOf]⟩ | exact ⟨⟨_, _, _, .inr (.inl ⟨rfl, rfl⟩), rfl, rfl, rfl⟩, by simp [intOf]⟩
    · go_wp2_with fail
      first | exact ⟨.inr (.inr (.inl ⟨rfl, rfl⟩)), by simp [intOf]⟩ | exact ⟨⟨_, _, _, .inr (.inr (.inl ⟨rfl, rfl⟩)), rfl, rfl, rfl⟩, by simp [intOf]⟩
    · go_wp2_with fail
      first | exact ⟨.inr (.inr (.inr ⟨rfl, rfl⟩)), by simp [intOf]⟩ | exact ⟨⟨_, _, _, .inr (.inr (.inr ⟨rfl, rfl⟩)), rfl, rfl, rfl⟩, by simp [intOf]⟩
    · clear c3
      go_wp2_with fail
      refine (field_any _ _ _ HW.out).mono ?_
      rintro e w3 ⟨rfl, hb⟩
      have hw3 := Lib.hid (fresh_call hw hb)
      clear hw hb lt3
      dsimp only
      have HZ := Lib.hid (valid_none s)
      generalize hF : decide (0 < kof s false a) = F at *
      have HVA := fun w => valid_any a s w HW.out
      generalize hV : decide (0 < kof s true a) = V at *
      clear hF hV
      have HVA := Lib.hid HVA
      have hno : (F = true → V = true ∧ False) ∧ (V = true → True) := ⟨fun h => ⟨HFV.out h, by have := HFL.out h; omega⟩, fun h => by have := HV1.out h; trivial⟩
      clear HFV HFL HV1
      rcases F with _ | _ <;> rcases V with _ | _
      · clear hno
        go_wp2_with fail
        refine (HVA.out _).mono ?_
        rintro e w4 ⟨rfl, hb4⟩
        have hw4 := Lib.hid (fresh_call hw3.out hb4)
        clear hb4 hw3
        have hw3 := Lib.hid hw4.out
        clear hw4
        dsimp only
        go_wp2_with fail
        refine (valid_any 0 s _ (by decide)).mono ?_
        rw [HZ.out]
        rintro e w5 ⟨rfl, hb5⟩
        have hw5 := Lib.hid (fresh_call hw3.out hb5)
        clear hb5
        dsimp only
        go_wp2_with fail
        go_ret
        exact ⟨rfl, hw5.out⟩
      · clear hno
        go_wp2_with fail
        refine (HVA.out _).mono ?_
        rintro e w4 ⟨rfl, hb4⟩
        have hw4 := Lib.hid (fresh_call hw3.out hb4)
        clear hb4 hw3
        have hw3 := Lib.hid hw4.out
        clear hw4
        dsimp only
        go_wp2_with fail
        refine (valid_any 0 s _ (by decide)).mono ?_
        rw [HZ.out]
        rintro e w5 ⟨rfl, hb5⟩
        have hw5 := Lib.hid (fresh_call hw3.out hb5)
        clear hb5
        dsimp only
        go_wp2_with fail
        go_ret
        exact ⟨rfl, hw5.out⟩
      · exact absurd hno (by decide)
      · exact absurd hno (by decide)

set_option maxRecDepth 100000 in
set_option maxHeartbeats 1000000 in
theorem at_none (a : Int) (s : Int) (w : World) (wa : (Lit.int .i64 a).wf = true) (h1 : a ≠ 1) (h2 : a < 16 ∨ 32 ≤ a) (h3 : a < 64 ∨ 80 ≤ a) (h1b : (a == 1) = false) :
    Calls Try.prog 6 #[.int .i64 a, .int .i64 s] w fun e w' => e = .returned (.bool true) ∧ Below w.heap.size w w' := by
  have HW := Lib.hid wa
  clear wa
  have hfv : decide (0 < kof s false a) = true → decide (0 < kof s true a) = true := fun h => decide_eq_true (field_valid (of_decide_eq_true h))
  have hfl : decide (0 < kof s false a) = true → (a : Int) < 64 := fun h => field_loc (of_decide_eq_true h)
  have hv1 : decide (0 < kof s true a) = true → a = (1 : Int) ∨ (16 ≤ (a : Int) ∧ (a : Int) < 32) ∨ (64 ≤ (a : Int) ∧ (a : Int) < 80) := fun h => valid_one (of_decide_eq_true h)
  have HFV := Lib.hid hfv
  have HFL := Lib.hid hfl
  have HV1 := Lib.hid hv1
  clear hfv hfl hv1
  go_enter Try.func6, Try.ntmps6
  go_wp2_with fail
  refine (alive _).mono ?_
  rintro e w1 ⟨rfl, hb1⟩
  dsimp only
  go_wp2_with fail
  refine (points_no a w1 h2).mono ?_
  rintro e w2 ⟨rfl, rfl⟩
  dsimp only
  go_wp2_with fail
  refine (places_no a w1 h3).mono ?_
  rintro e w2 ⟨rfl, rfl⟩
  dsimp only
  go_wp2_with fail
  have B0 := Blk.new w1 #[Value.bool false, Value.bool false, Value.bool false] 4
  have hw := fresh_alloc hb1 (.cells #[Value.bool false, Value.bool false, Value.bool false] 4)
  clear hb1
  generalize w1.alloc (.cells #[Value.bool false, Value.bool false, Value.bool false] 4) = w2 at *
  have c3 := B0.three
  have lt3 := B0.lt
  clear B0
  go_loop [9, 30] (fun n i => (n = .int .i64 0 ∧ i = .int .i64 0) ∨ (n = .int .i64 0 ∧ i = .int .i64 1) ∨ (n = .int .i64 0 ∧ i = .int .i64 2) ∨ (n = .int .i64 0 ∧ i = .int .i64 3)) (fun _ i => (3 - intOf i).toNat)
  case atStart => exact .inl ⟨rfl, rfl⟩
  case round =>
    rcases hrel with ⟨rfl, rfl⟩ | ⟨rfl, rfl⟩ | ⟨rfl, rfl⟩ | ⟨rfl, rfl⟩
    · go_wp2_with fail
      first | exact ⟨.inr (.inl ⟨rfl, rfl⟩), by simp [intOf]⟩ | exact ⟨⟨_, _, _, .inr (.inl ⟨rfl, rfl⟩), rfl, rfl, rfl⟩, by simp [intOf]⟩
    · go_wp2_with fail
      first | exact ⟨.inr (.inr (.inl ⟨rfl, rfl⟩)), by simp [intOf]⟩ | exact ⟨⟨_, _, _, .inr (.inr (.inl ⟨rfl, rfl⟩)), rfl, rfl, rfl⟩, by simp [intOf]⟩
    · go_wp2_with fail
      first | exact ⟨.inr (.inr (.inr ⟨rfl, rfl⟩)), by simp [intOf]⟩ | exact ⟨⟨_, _, _, .inr (.inr (.inr ⟨rfl, rfl⟩)), rfl, rfl, rfl⟩, by simp [intOf]⟩
    · clear c3
      go_wp2_with fail
      refine (field_any _ _ _ HW.out).mono ?_
      rintro e w3 ⟨rfl, hb⟩
      have hw3 := Lib.hid (fresh_call hw hb)
      clear hw hb lt3
      dsimp only
      have HZ := Lib.hid (valid_none s)
      generalize hF : decide (0 < kof s false a) = F at *
      have HVA := fun w => valid_any a s w HW.out
      generalize hV : decide (0 < kof s true a) = V at *
      clear hF hV
      have HVA := Lib.hid HVA
      have hno : (F = true → V = true ∧ True) ∧ (V = true → False) := ⟨fun h => ⟨HFV.out h, by have := HFL.out h; trivial⟩, fun h => by have := HV1.out h; omega⟩
      clear HFV HFL HV1
      rcases F with _ | _ <;> rcases V with _ | _
      · clear hno
        go_wp2_with fail
        refine (HVA.out _).mono ?_
        rintro e w4 ⟨rfl, hb4⟩
        have hw4 := Lib.hid (fresh_call hw3.out hb4)
        clear hb4 hw3
        have hw3 := Lib.hid hw4.out
        clear hw4
        dsimp only
        go_wp2_with fail
        refine (valid_any 0 s _ (by decide)).mono ?_
        rw [HZ.out]
        rintro e w5 ⟨rfl, hb5⟩
        have hw5 := Lib.hid (fresh_call hw3.out hb5)
        clear hb5
        dsimp only
        go_wp2_with fail
        go_ret
        exact ⟨rfl, hw5.out⟩
      · exact absurd hno (by decide)
      · exact absurd hno (by decide)
      · exact absurd hno (by decide)

theorem walk (a s : Int) (w : World) (wa : (Lit.int .i64 a).wf = true) (ws : (Lit.int .i64 s).wf = true) :
    Calls Try.prog 6 #[.int .i64 a, .int .i64 s] w fun e w' => e = .returned (.bool true) ∧ Below w.heap.size w w' := by
  by_cases h1 : a = 1
  · subst h1; exact at_int s w wa
  by_cases h2 : 16 ≤ a ∧ a < 32
  · exact at_ptr a s w wa h2.1 h2.2 (by simpa using h1)
  by_cases h3 : 64 ≤ a ∧ a < 80
  · exact at_loc a s w wa h3.1 h3.2 (by simpa using h1)
  · exact at_none a s w wa h1 (by omega) (by omega) (by simpa using h1)
end Go.Proofs.Ytpdleckflcangaa.ShapeKinds
