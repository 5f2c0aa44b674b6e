/- Package shape: the contracts of kinds, Points. -/
import Derived.Test.YtfgpadkoonogpaaDoorMap
import Derived.Test.YtfgpadkoonogpaaDoorGn
namespace Go.Proofs.YtfgpadkoonogpaaDoor.Shp
open Go.RowKit
set_option linter.unusedSimpArgs false
set_option linter.unusedVariables false

theorem wf_i64 {x : Int} (h : -9223372036854775808 ≤ x ∧ x ≤ 9223372036854775807) : (Lit.int .i64 x).wf = true := by
  show (decide (IntKind.i64.min ≤ x) && decide (x ≤ IntKind.i64.max)) = true
  rw [show IntKind.i64.min = -9223372036854775808 by decide, show IntKind.i64.max = 9223372036854775807 by decide]
  simp only [Bool.and_eq_true, decide_eq_true_eq]
  exact h

/-- Which kinds there are behind n shapes. -/
def kd (places : Bool) (n : Nat) (v : Int) : Int := if v = 1 ∨ (16 ≤ v ∧ v < 16 + n) ∨ (places = true ∧ 64 ≤ v ∧ v < 64 + n) then 1 else 0
theorem kd_ptr (p : Bool) (n : Nat) (hn : n < 16) : kd p n (16 + n) = 0 := by unfold kd; rw [if_neg (by omega)]
theorem kd_loc (p : Bool) (n : Nat) (hn : n < 16) : (if (64 : Int) + n = 16 + n then (1 : Int) else kd p n (64 + n)) = 0 := by rw [if_neg (by omega)]; unfold kd; rw [if_neg (by omega)]
theorem kd_step_no (n : Nat) : (fun v : Int => if v = 16 + n then (1 : Int) else kd false n v) = kd false (n + 1) := by
  funext v
  unfold kd
  by_cases h : v = 16 + n
  · rw [if_pos h, if_pos (by omega)]
  · rw [if_neg h]
    by_cases h1 : v = 1 ∨ (16 ≤ v ∧ v < 16 + (n : Int)) ∨ (false = true ∧ 64 ≤ v ∧ v < 64 + (n : Int))
    · rw [if_pos h1, if_pos (by simp at h1 ⊢; omega)]
    · rw [if_neg h1, if_neg (by simp at h1 ⊢; omega)]
theorem kd_step_yes (n : Nat) : (fun v : Int => if v = 64 + n then (1 : Int) else if v = 16 + n then 1 else kd true n v) = kd true (n + 1) := by
  funext v
  unfold kd
  by_cases h0 : v = 64 + n
  · rw [if_pos h0, if_pos (by simp; omega)]
  · rw [if_neg h0]
    by_cases h : v = 16 + n
    · rw [if_pos h, if_pos (by omega)]
    · rw [if_neg h]
      by_cases h1 : v = 1 ∨ (16 ≤ v ∧ v < 16 + (n : Int)) ∨ (true = true ∧ 64 ≤ v ∧ v < 64 + (n : Int))
      · rw [if_pos h1, if_pos (by simp at h1 ⊢; omega)]
      · rw [if_neg h1, if_neg (by simp at h1 ⊢; omega)]
theorem kd_zero (p : Bool) : (fun v : Int => if v = 1 then (1 : Int) else 0) = kd p 0 := by
  funext v
  unfold kd
  by_cases h : v = 1
  · rw [if_pos h, if_pos (.inl h)]
  · rw [if_neg h, if_neg (by omega)]

/-- The kinds of so many shapes. -/
def kof (shapes : Int) (p : Bool) (v : Int) : Int := if 0 ≤ shapes ∧ shapes ≤ 16 then kd p shapes.toNat v else 0

/-- The answer of kinds: a map of its own. -/
def Kinds (shapes : Int) (p : Bool) (w : World) (e : Ending) (w' : World) : Prop :=
  e = .returned (.map (some w.heap.size)) ∧ IMap w' w.heap.size 40 (kof shapes p) ∧ Below w.heap.size w w'

theorem kinds_out (shapes : Int) (p : Bool) (w : World) (h : shapes < 0 ∨ 16 < shapes) : Calls Tryd.prog 99 #[.int .i64 shapes, .bool p] w (Kinds shapes p w) := by
  have hk : kof shapes p = fun _ => 0 := by funext v; unfold kof; rw [if_neg (by omega)]
  have hmm := @run_makeMap Tryd.prog
  by_cases h1 : shapes < 0
  · clear h
    go_enter Tryd.func99, Tryd.ntmps99
    go_wp2_with fail
    go_ret
    exact ⟨rfl, by rw [hk]; exact (IMap.made w).more (by omega), (Below.refl _ _).alloc (Nat.le_refl _) _⟩
  · have h2 : 16 < shapes := by omega
    clear h
    go_enter Tryd.func99, Tryd.ntmps99
    go_wp2_with fail
    go_ret
    exact ⟨rfl, by rw [hk]; exact (IMap.made w).more (by omega), (Below.refl _ _).alloc (Nat.le_refl _) _⟩

def Rel (p : Bool) (s b : Nat) (w : World) (i : Value) (wr : World) : Prop := ∃ n : Nat, n ≤ s ∧ i = .int .i64 n ∧ IMap wr b (2 * n + 1) (kd p n) ∧ Below w.heap.size w wr

set_option maxRecDepth 1000000 in
set_option maxHeartbeats 400000 in
theorem kinds_in (s : Nat) (p : Bool) (w : World) (h : s ≤ 16) : Calls Tryd.prog 99 #[.int .i64 s, .bool p] w (Kinds s p w) := by
  have hk : kof s p = kd p s := by funext v; unfold kof; rw [if_pos (by omega), Int.toNat_natCast]
  have HK := Lib.hid hk
  clear hk
  have hmm := @run_makeMap Tryd.prog
  have h0 := IMap.made w
  have hl := h0.look 149 Tryd.underlying149 1 (by decide)
  have HM := Lib.hid h0
  clear h0
  go_enter Tryd.func99, Tryd.ntmps99
  go_wp2_with (first
    | (at_mapUpdate; refine wpList_upd rfl _ _ _ 149 rfl Tryd.underlying149 1 1 rfl rfl rfl HM.out (by unfold maxLen; omega) (by decide) (by decide) ?_; intro w1 hi1 hg1)
    | fail)
  have hif : IMap w1 w.heap.size (2 * 0 + 1) (kd p 0) := by
    have := kd_zero p
    rw [← this]
    exact hi1
  have hw1 : Below w.heap.size w w1 := ((Below.refl _ _).alloc (Nat.le_refl _) _).grown hg1 (by simp) (fun k hk => by cases hk; exact Nat.le_refl _)
  have H0 := Lib.hid (show Rel p s w.heap.size w (.int .i64 0) w1 from ⟨0, Nat.zero_le _, rfl, hif, hw1⟩)
  clear hif hw1 hi1 hg1 hl hmm HM
  go_loopw [19] (fun i wr => Rel p s w.heap.size w i wr) (fun i _ => s - (intOf i).toNat)
  case atStart => exact H0.out
  case round =>
    clear H0
    obtain ⟨n, hn, rfl, hi, hw⟩ := hrel
    by_cases hlt : n < s
    · have hl := hi.look 149 Tryd.underlying149 (16 + n) (wf_i64 (by omega))
      rw [kd_ptr p n (by omega)] at hl
      have HI := Lib.hid hi
      clear hi
      cases p
      · go_wp2_with (first
          | (at_mapUpdate; refine wpList_upd rfl _ _ _ 149 rfl Tryd.underlying149 (16 + n) 1 rfl rfl rfl HI.out (by unfold maxLen; omega) (wf_i64 (by omega)) (by decide) ?_; intro w2 hi2 hg2)
          | fail)
        rw [kd_step_no n] at hi2
        have HI2 := Lib.hid (hi2.more (N' := 2 * (n + 1) + 1) (by omega))
        have HW2 := Lib.hid (show Below w.heap.size w w2 from hw.grown hg2 hw.size (fun k hk => by cases hk; exact Nat.le_refl _))
        clear hi2 hg2
        go_wp2_with fail
        exact ⟨⟨n + 1, by omega, by go_num, HI2.out, HW2.out⟩, by simp [intOf]; omega⟩
      · go_wp2_with (first
          | (at_mapUpdate; refine wpList_upd rfl (.tmp 22) (.tmp 24) (.tmp 26) 149 rfl Tryd.underlying149 (16 + n) 1 rfl rfl rfl HI.out (by unfold maxLen; omega) (wf_i64 (by omega)) (by decide) ?_; intro w2 hi2 hg2; have HI2 := Lib.hid hi2; have hl2 := hi2.look 149 Tryd.underlying149 (64 + n) (wf_i64 (by omega)); rw [kd_loc true n (by omega)] at hl2; clear hi2 hl)
          | (at_mapUpdate; refine wpList_upd rfl (.tmp 28) (.tmp 30) (.tmp 32) 149 rfl Tryd.underlying149 (64 + n) 1 rfl rfl rfl HI2.out (by unfold maxLen; omega) (wf_i64 (by omega)) (by decide) ?_; intro w3 hi3 hg3)
          | fail)
        rw [kd_step_yes n] at hi3
        have HI3 := Lib.hid (hi3.more (N' := 2 * (n + 1) + 1) (by omega))
        have HW3 := Lib.hid (show Below w.heap.size w w3 from (hw.grown hg2 hw.size (fun k hk => by cases hk; exact Nat.le_refl _)).grown hg3 (Nat.le_trans hw.size hg2.size) (fun k hk => by cases hk; exact Nat.le_refl _))
        clear hi3 hg3 hl2 hg2
        go_wp2_with fail
        exact ⟨⟨n + 1, by omega, by go_num, HI3.out, HW3.out⟩, by simp [intOf]; omega⟩
    · obtain rfl : n = s := by omega
      have HI := Lib.hid hi
      clear hi
      go_wp2_with fail
      go_ret
      exact ⟨rfl, by rw [HK.out]; exact HI.out.more (by omega), hw⟩

theorem kinds_any (s : Int) (p : Bool) (w : World) : Calls Tryd.prog 99 #[.int .i64 s, .bool p] w (Kinds s p w) := by
  by_cases h : s < 0 ∨ 16 < s
  · exact kinds_out s p w h
  · obtain ⟨n, rfl⟩ := Int.eq_ofNat_of_zero_le (a := s) (by omega)
    exact kinds_in n p w (by omega)

end Go.Proofs.YtfgpadkoonogpaaDoor.Shp
