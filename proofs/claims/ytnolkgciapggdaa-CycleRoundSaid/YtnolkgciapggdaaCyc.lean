/- The contracts of package cycle: what each step of a collector's state gives. No conditions. -/
import Derived.Test.YtnolkgciapggdaaProg
import Derived.Test.YtnolkgciapggdaaLib
namespace Go.Proofs.Ytnolkgciapggdaa.Cyc
open Go.RowKit
set_option linter.unusedSimpArgs false

theorem turn_yes (p c s t : Int) (w : World) :
    Calls Try.prog 50 #[.agg #[.int .i64 p, .int .i64 c, .int .i64 s], .int .i64 p, .int .i64 t] w fun e w' => e = .returned (.tuple #[.agg #[.int .i64 t, .int .i64 c, .int .i64 s], .bool true]) ∧ Below w.heap.size w w' := by
  go_enter Try.func50, Try.ntmps50
  go_wp2
  exact bodyPost_ret (v := .tuple #[.agg #[.int .i64 t, .int .i64 c, .int .i64 s], .bool true]) (by simp [results, Try.results50, go_sem]) rfl ⟨rfl, ((Below.refl _ _).alloc (by simp) _).alloc (by simp) _⟩

theorem turn_no (p c s f t : Int) (w : World) (h : (p == f) = false) :
    Calls Try.prog 50 #[.agg #[.int .i64 p, .int .i64 c, .int .i64 s], .int .i64 f, .int .i64 t] w fun e w' => e = .returned (.tuple #[.agg #[.int .i64 p, .int .i64 c, .int .i64 s], .bool false]) ∧ Below w.heap.size w w' := by
  have h' : ¬ p = f := by simpa using h
  go_enter Try.func50, Try.ntmps50
  go_wp2
  exact bodyPost_ret (v := .tuple #[.agg #[.int .i64 p, .int .i64 c, .int .i64 s], .bool false]) (by simp [results, Try.results50, go_sem]) rfl ⟨rfl, ((Below.refl _ _).alloc (by simp) _).alloc (by simp) _⟩

theorem begin_yes (c s g : Int) (w : World) :
    Calls Try.prog 19 #[.agg #[.int .i64 0, .int .i64 c, .int .i64 s], .int .i64 g] w fun e w' => e = .returned (.tuple #[.agg #[.int .i64 1, .int .i64 c, .int .i64 g], .bool true]) ∧ Below w.heap.size w w' := by
  go_enter Try.func19, Try.ntmps19
  go_wp2_with fail
  refine (turn_yes _ _ _ _ _).mono ?_
  rintro e w1 ⟨rfl, hb⟩
  have B0 := ((Blk.new w _ _).alloc _).below hb (by simp <;> omega)
  have B1 := (Blk.new (w.alloc _) _ _).below hb (by simp <;> omega)
  obtain ⟨a0, a1, a2, a3, a4, a5⟩ := B0.three
  obtain ⟨b0, b1, b2, b3, b4, b5⟩ := B1.three
  rw [World.size_alloc] at b0 b1 b2 b3 b4 b5
  have hw : Below w.heap.size w w1 := below_call (((Below.refl _ _).alloc (by simp) _).alloc (by simp <;> omega) _) (by simp <;> omega) hb
  clear hb B0 B1
  dsimp only
  go_wp2
  refine bodyPost_ret (v := .tuple #[.agg #[.int .i64 1, .int .i64 c, .int .i64 g], .bool true]) (by simp [results, Try.results19, go_sem, a0, a1, a2, b0, b1, b2]) rfl ⟨rfl, ?_⟩
  repeat (first | with_reducible exact hw | refine Below.setCell ?_ (by simp <;> omega) _)

theorem begin_no (p c s g : Int) (w : World) (h : (p == 0) = false) :
    Calls Try.prog 19 #[.agg #[.int .i64 p, .int .i64 c, .int .i64 s], .int .i64 g] w fun e w' => e = .returned (.tuple #[.agg #[.int .i64 p, .int .i64 c, .int .i64 s], .bool false]) ∧ Below w.heap.size w w' := by
  go_enter Try.func19, Try.ntmps19
  go_wp2_with fail
  refine (turn_no _ _ _ _ _ _ h).mono ?_
  rintro e w1 ⟨rfl, hb⟩
  have B0 := ((Blk.new w _ _).alloc _).below hb (by simp <;> omega)
  have B1 := (Blk.new (w.alloc _) _ _).below hb (by simp <;> omega)
  obtain ⟨a0, a1, a2, a3, a4, a5⟩ := B0.three
  obtain ⟨b0, b1, b2, b3, b4, b5⟩ := B1.three
  rw [World.size_alloc] at b0 b1 b2 b3 b4 b5
  have hw : Below w.heap.size w w1 := below_call (((Below.refl _ _).alloc (by simp) _).alloc (by simp <;> omega) _) (by simp <;> omega) hb
  clear hb B0 B1
  dsimp only
  go_wp2
  refine bodyPost_ret (v := .tuple #[.agg #[.int .i64 p, .int .i64 c, .int .i64 s], .bool false]) (by simp [results, Try.results19, go_sem, a0, a1, a2, b0, b1, b2]) rfl ⟨rfl, ?_⟩
  repeat (first | with_reducible exact hw | refine Below.setCell ?_ (by simp <;> omega) _)

theorem swept_lo (c s : Int) (w : World) (h : c ≤ 999999) :
    Calls Try.prog 21 #[.agg #[.int .i64 2, .int .i64 c, .int .i64 s]] w fun e w' => e = .returned (.tuple #[.agg #[.int .i64 0, .int .i64 (wrap64 (c + 1)), .int .i64 s], .bool true]) ∧ Below w.heap.size w w' := by
  go_enter Try.func21, Try.ntmps21
  go_wp2_with fail
  refine (turn_yes _ _ _ _ _).mono ?_
  rintro e w1 ⟨rfl, hb⟩
  have B0 := ((Blk.new w _ _).alloc _).below hb (by simp <;> omega)
  have B1 := (Blk.new (w.alloc _) _ _).below hb (by simp <;> omega)
  obtain ⟨a0, a1, a2, a3, a4, a5⟩ := B0.three
  obtain ⟨b0, b1, b2, b3, b4, b5⟩ := B1.three
  rw [World.size_alloc] at b0 b1 b2 b3 b4 b5
  have hw : Below w.heap.size w w1 := below_call (((Below.refl _ _).alloc (by simp) _).alloc (by simp <;> omega) _) (by simp <;> omega) hb
  clear hb B0 B1
  dsimp only
  go_wp2
  refine bodyPost_ret (v := .tuple #[.agg #[.int .i64 0, .int .i64 (wrap64 (c + 1)), .int .i64 s], .bool true]) (by simp [results, Try.results21, go_sem, a0, a1, a2, b0, b1, b2]) rfl ⟨rfl, ?_⟩
  repeat (first | with_reducible exact hw | refine Below.setCell ?_ (by simp <;> omega) _)

theorem swept_hi (c s : Int) (w : World) (h : 999999 < c) :
    Calls Try.prog 21 #[.agg #[.int .i64 2, .int .i64 c, .int .i64 s]] w fun e w' => e = .returned (.tuple #[.agg #[.int .i64 0, .int .i64 1000000, .int .i64 s], .bool true]) ∧ Below w.heap.size w w' := by
  go_enter Try.func21, Try.ntmps21
  go_wp2_with fail
  refine (turn_yes _ _ _ _ _).mono ?_
  rintro e w1 ⟨rfl, hb⟩
  have B0 := ((Blk.new w _ _).alloc _).below hb (by simp <;> omega)
  have B1 := (Blk.new (w.alloc _) _ _).below hb (by simp <;> omega)
  obtain ⟨a0, a1, a2, a3, a4, a5⟩ := B0.three
  obtain ⟨b0, b1, b2, b3, b4, b5⟩ := B1.three
  rw [World.size_alloc] at b0 b1 b2 b3 b4 b5
  have hw : Below w.heap.size w w1 := below_call (((Below.refl _ _).alloc (by simp) _).alloc (by simp <;> omega) _) (by simp <;> omega) hb
  clear hb B0 B1
  dsimp only
  go_wp2
  refine bodyPost_ret (v := .tuple #[.agg #[.int .i64 0, .int .i64 1000000, .int .i64 s], .bool true]) (by simp [results, Try.results21, go_sem, a0, a1, a2, b0, b1, b2]) rfl ⟨rfl, ?_⟩
  repeat (first | with_reducible exact hw | refine Below.setCell ?_ (by simp <;> omega) _)

theorem swept_no (p c s : Int) (w : World) (h : (p == 2) = false) :
    Calls Try.prog 21 #[.agg #[.int .i64 p, .int .i64 c, .int .i64 s]] w fun e w' => e = .returned (.tuple #[.agg #[.int .i64 p, .int .i64 c, .int .i64 s], .bool false]) ∧ Below w.heap.size w w' := by
  go_enter Try.func21, Try.ntmps21
  go_wp2_with fail
  refine (turn_no _ _ _ _ _ _ h).mono ?_
  rintro e w1 ⟨rfl, hb⟩
  have B0 := ((Blk.new w _ _).alloc _).below hb (by simp <;> omega)
  have B1 := (Blk.new (w.alloc _) _ _).below hb (by simp <;> omega)
  obtain ⟨a0, a1, a2, a3, a4, a5⟩ := B0.three
  obtain ⟨b0, b1, b2, b3, b4, b5⟩ := B1.three
  rw [World.size_alloc] at b0 b1 b2 b3 b4 b5
  have hw : Below w.heap.size w w1 := below_call (((Below.refl _ _).alloc (by simp) _).alloc (by simp <;> omega) _) (by simp <;> omega) hb
  clear hb B0 B1
  dsimp only
  go_wp2
  refine bodyPost_ret (v := .tuple #[.agg #[.int .i64 p, .int .i64 c, .int .i64 s], .bool false]) (by simp [results, Try.results21, go_sem, a0, a1, a2, b0, b1, b2]) rfl ⟨rfl, ?_⟩
  repeat (first | with_reducible exact hw | refine Below.setCell ?_ (by simp <;> omega) _)

theorem marked_yes (c s : Int) (w : World) :
    Calls Try.prog 20 #[.agg #[.int .i64 1, .int .i64 c, .int .i64 s]] w fun e w' => e = .returned (.tuple #[.agg #[.int .i64 2, .int .i64 c, .int .i64 s], .bool true]) ∧ Below w.heap.size w w' := by
  go_enter Try.func20, Try.ntmps20
  go_wp2_with fail
  refine (turn_yes _ _ _ _ _).mono ?_
  rintro e w1 ⟨rfl, hb⟩
  have B0 := ((Blk.new w _ _).alloc _).below hb (by simp <;> omega)
  have B1 := (Blk.new (w.alloc _) _ _).below hb (by simp <;> omega)
  obtain ⟨a0, a1, a2, a3, a4, a5⟩ := B0.three
  obtain ⟨b0, b1, b2, b3, b4, b5⟩ := B1.three
  rw [World.size_alloc] at b0 b1 b2 b3 b4 b5
  have hw : Below w.heap.size w w1 := below_call (((Below.refl _ _).alloc (by simp) _).alloc (by simp <;> omega) _) (by simp <;> omega) hb
  clear hb B0 B1
  dsimp only
  go_wp2
  refine bodyPost_ret (v := .tuple #[.agg #[.int .i64 2, .int .i64 c, .int .i64 s], .bool true]) (by simp [results, Try.results20, go_sem, a0, a1, a2, b0, b1, b2]) rfl ⟨rfl, ?_⟩
  repeat (first | with_reducible exact hw | refine Below.setCell ?_ (by simp <;> omega) _)

theorem marked_no (p c s : Int) (w : World) (h : (p == 1) = false) :
    Calls Try.prog 20 #[.agg #[.int .i64 p, .int .i64 c, .int .i64 s]] w fun e w' => e = .returned (.tuple #[.agg #[.int .i64 p, .int .i64 c, .int .i64 s], .bool false]) ∧ Below w.heap.size w w' := by
  go_enter Try.func20, Try.ntmps20
  go_wp2_with fail
  refine (turn_no _ _ _ _ _ _ h).mono ?_
  rintro e w1 ⟨rfl, hb⟩
  have B0 := ((Blk.new w _ _).alloc _).below hb (by simp <;> omega)
  have B1 := (Blk.new (w.alloc _) _ _).below hb (by simp <;> omega)
  obtain ⟨a0, a1, a2, a3, a4, a5⟩ := B0.three
  obtain ⟨b0, b1, b2, b3, b4, b5⟩ := B1.three
  rw [World.size_alloc] at b0 b1 b2 b3 b4 b5
  have hw : Below w.heap.size w w1 := below_call (((Below.refl _ _).alloc (by simp) _).alloc (by simp <;> omega) _) (by simp <;> omega) hb
  clear hb B0 B1
  dsimp only
  go_wp2
  refine bodyPost_ret (v := .tuple #[.agg #[.int .i64 p, .int .i64 c, .int .i64 s], .bool false]) (by simp [results, Try.results20, go_sem, a0, a1, a2, b0, b1, b2]) rfl ⟨rfl, ?_⟩
  repeat (first | with_reducible exact hw | refine Below.setCell ?_ (by simp <;> omega) _)

theorem least_any (n o m : Int) (w : World) (hn : -4398046511104 ≤ n ∧ n ≤ 4398046511104) (ho : -4398046511104 ≤ o ∧ o ≤ 4398046511104) :
    Calls Try.prog 51 #[.int .i64 n, .int .i64 o, .int .i64 m] w fun e w' => e = .returned (.bool (decide (m ≤ n - o))) ∧ w = w' := by
  obtain ⟨hn1, hn2⟩ := hn
  obtain ⟨ho1, ho2⟩ := ho
  by_cases h : 0 ≤ o
  · go_enter Try.func51, Try.ntmps51
    go_wp2
    go_ret
    exact ⟨rfl, rfl⟩
  · have h' : o < 0 := by omega
    go_enter Try.func51, Try.ntmps51
    go_wp2
    go_ret
    exact ⟨rfl, rfl⟩

theorem due_idle (c s g t : Int) (w : World) (hn : -4398046511104 ≤ g ∧ g ≤ 4398046511104) (ho : -4398046511104 ≤ s ∧ s ≤ 4398046511104) :
    Calls Try.prog 22 #[.agg #[.int .i64 0, .int .i64 c, .int .i64 s], .int .i64 g, .int .i64 t] w fun e w' => e = .returned (.bool (decide (t ≤ g - s))) ∧ Below w.heap.size w w' := by
  go_enter Try.func22, Try.ntmps22
  go_wp2_with fail
  refine (least_any _ _ _ _ hn ho).mono ?_
  rintro e w1 ⟨rfl, rfl⟩
  dsimp only
  go_wp2
  go_ret
  exact ⟨rfl, (Below.refl _ _).alloc (by simp) _⟩
theorem due_busy (p c s g t : Int) (w : World) (h : (p == 0) = false) :
    Calls Try.prog 22 #[.agg #[.int .i64 p, .int .i64 c, .int .i64 s], .int .i64 g, .int .i64 t] w fun e w' => e = .returned (.bool false) ∧ Below w.heap.size w w' := by
  go_enter Try.func22, Try.ntmps22
  go_wp2_with fail
  go_ret
  exact ⟨rfl, (Below.refl _ _).alloc (by simp) _⟩

end Go.Proofs.Ytnolkgciapggdaa.Cyc
