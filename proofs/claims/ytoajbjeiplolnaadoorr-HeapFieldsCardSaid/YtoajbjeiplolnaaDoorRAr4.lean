/- Package arena: the contracts of New and Grow. Printed by gen/ar4.py. -/
import Derived.Test.YtoajbjeiplolnaaDoorRAr3
import Derived.Deep.OwnRows
namespace Go.Proofs.YtoajbjeiplolnaaDoorR.Ar
open Go.RowKit Pg
set_option linter.unusedSimpArgs false
set_option linter.unusedVariables false

theorem infoP : (Tryd.prog.info? 54).map (fun i => (i.zero, i.size, i.bytes)) = some (some (.pointer none), 1, 8) := by kernel_rfl
theorem made_ints (n : Nat) : madeCells #[.int .i64 0] n = cells (List.replicate n 0) := by
  apply Array.ext_getElem?
  intro j
  by_cases h : j < n <;> simp [madeCells, cells, h, Nat.mod_one]
theorem made_pgs (n : Nat) : madeCells #[.pointer none] n = pgs (List.replicate n none) := by
  apply Array.ext_getElem?
  intro j
  by_cases h : j < n <;> simp [madeCells, pgs, ptr, h, Nat.mod_one]
theorem make_pgs (n : Nat) (hn : n ≤ 64) (W : World) : (Instr.makeSlice 109 (.int .i64 n) (.int .i64 n)).run Tryd.prog W = .ok (.slice (some ⟨W.heap.size, 0, none⟩) n n) (W.alloc (.cells (pgs (List.replicate n none)) 54)) := by
  have := run_make_row' (P := Tryd.prog) 109 54 (.pointer none) 8 Tryd.underlying109 infoP rfl .i64 .i64 n (by omega) (by omega) W
  rw [made_pgs] at this
  exact this
theorem make_ints (n : Nat) (hn : n ≤ 2048) (W : World) : (Instr.makeSlice 27 (.int .i64 n) (.int .i64 n)).run Tryd.prog W = .ok (.slice (some ⟨W.heap.size, 0, none⟩) n n) (W.alloc (.cells (cells (List.replicate n 0)) 3)) := by
  have := run_make_row' (P := Tryd.prog) 27 3 (.int .i64 0) 8 Tryd.underlying27 infoI rfl .i64 .i64 n (by omega) (by omega) W
  rw [made_ints] at this
  exact this
theorem ArenaAt.made {w : World} {b gp gw n m : Nat} (hn : n ≤ 64) (hm : m = 32 * n) (h1 : Blk w b #[.slice (some ⟨gp, 0, none⟩) n n, .slice (some ⟨gw, 0, none⟩) m m] 112)
    (h2 : Blk w gp (pgs (List.replicate n none)) 54) (h3 : Blk w gw (cells (List.replicate m 0)) 3) : ArenaAt w b gp gw (List.replicate n none) (List.replicate m 0) := by
  have hx : ∀ (k : Nat) (p : PM), (List.replicate n (none : Option PM))[k]? = some (some p) → False := by
    intro k p hk
    rw [List.getElem?_replicate] at hk
    split at hk <;> simp at hk
  refine ⟨?_, h2, h3, by simpa using hn, by simpa using hm, fun k p hk => (hx k p hk).elim, fun j k p q hj => (hx j p hj).elim⟩
  simp only [List.length_replicate]
  exact h1
def Made (w : World) (n : Nat) (e : Ending) (w' : World) : Prop :=
  ∃ b gp gw, e = .returned (.pointer (some ⟨b, 0, none⟩)) ∧ ArenaAt w' b gp gw (List.replicate n none) (List.replicate (32 * n) 0) ∧ w.heap.size ≤ b ∧ w.heap.size ≤ gp ∧ w.heap.size ≤ gw ∧ Below w.heap.size w w'
theorem made_12 (w : World) (n m : Nat) (hn : n ≤ 64) (hm : m = 32 * n) (RP RI : Array Value) (hP : RP = pgs (List.replicate n none)) (hI : RI = cells (List.replicate m 0)) (d : Nat) :
    Made w n (.returned (.pointer (some ⟨w.heap.size + 2, 0, none⟩))) ((((w.drewN d).alloc (.cells RP 54)).alloc (.cells RI 3)).alloc (.cells #[.slice (some ⟨w.heap.size, 0, none⟩) n n, .slice (some ⟨w.heap.size + 1, 0, none⟩) m m] 112)) := by
  subst hm
  refine ⟨_, w.heap.size, w.heap.size + 1, rfl, ArenaAt.made hn rfl ?_ ?_ ?_, by omega, by omega, by omega, (((below_drewN (Below.refl _ _) d).alloc (by simp [World.drewN]) _).alloc (by simp) _).alloc (by simp; omega) _⟩
  · have := Blk.new (((w.drewN d).alloc (.cells RP 54)).alloc (.cells RI 3)) #[.slice (some ⟨w.heap.size, 0, none⟩) n n, .slice (some ⟨w.heap.size + 1, 0, none⟩) (32 * n) (32 * n)] 112
    rw [World.size_alloc, World.size_alloc] at this
    exact this
  · rw [← hP]
    exact ((Blk.new (w.drewN d) RP 54).alloc _).alloc _
  · rw [← hI]
    have := (Blk.new ((w.drewN d).alloc (.cells RP 54)) RI 3).alloc (.cells #[.slice (some ⟨w.heap.size, 0, none⟩) n n, .slice (some ⟨w.heap.size + 1, 0, none⟩) (32 * n) (32 * n)] 112)
    rw [World.size_alloc] at this
    exact this
theorem made_21 (w : World) (n m : Nat) (hn : n ≤ 64) (hm : m = 32 * n) (RP RI : Array Value) (hP : RP = pgs (List.replicate n none)) (hI : RI = cells (List.replicate m 0)) (d : Nat) :
    Made w n (.returned (.pointer (some ⟨w.heap.size + 2, 0, none⟩))) ((((w.drewN d).alloc (.cells RI 3)).alloc (.cells RP 54)).alloc (.cells #[.slice (some ⟨w.heap.size + 1, 0, none⟩) n n, .slice (some ⟨w.heap.size, 0, none⟩) m m] 112)) := by
  subst hm
  refine ⟨_, w.heap.size + 1, w.heap.size, rfl, ArenaAt.made hn rfl ?_ ?_ ?_, by omega, by omega, by omega, (((below_drewN (Below.refl _ _) d).alloc (by simp [World.drewN]) _).alloc (by simp) _).alloc (by simp; omega) _⟩
  · have := Blk.new (((w.drewN d).alloc (.cells RI 3)).alloc (.cells RP 54)) #[.slice (some ⟨w.heap.size + 1, 0, none⟩) n n, .slice (some ⟨w.heap.size, 0, none⟩) (32 * n) (32 * n)] 112
    rw [World.size_alloc, World.size_alloc] at this
    exact this
  · rw [← hP]
    have := (Blk.new ((w.drewN d).alloc (.cells RI 3)) RP 54).alloc (.cells #[.slice (some ⟨w.heap.size + 1, 0, none⟩) n n, .slice (some ⟨w.heap.size, 0, none⟩) (32 * n) (32 * n)] 112)
    rw [World.size_alloc] at this
    exact this
  · rw [← hI]
    exact ((Blk.new (w.drewN d) RI 3).alloc _).alloc _
theorem new_lo (pages : Int) (n m : Nat) (w : World) (RP RI : Array Value) (hp : pages < 0) (hn : n ≤ 64) (hm : m = 32 * n) (hP : RP = pgs (List.replicate n none)) (hI : RI = cells (List.replicate m 0))
    (hmp : ∀ W : World, (Instr.makeSlice 109 (.int .i64 0) (.int .i64 0)).run Tryd.prog W = .ok (.slice (some ⟨W.heap.size, 0, none⟩) n n) (W.alloc (.cells RP 54)))
    (hmi : ∀ W : World, (Instr.makeSlice 27 (.int .i64 0) (.int .i64 0)).run Tryd.prog W = .ok (.slice (some ⟨W.heap.size, 0, none⟩) m m) (W.alloc (.cells RI 3))) :
    Calls Tryd.prog 17 #[.int .i64 pages] w (Made w n) := by
  have H12 := Lib.hid (made_12 w n m hn hm RP RI hP hI)
  have H21 := Lib.hid (made_21 w n m hn hm RP RI hP hI)
  have h0 : wrap64 (pages * 32) = pages * 32 ∨ True := .inr trivial
  clear h0
  clear hn hm hP hI
  go_enter Tryd.func17, Tryd.ntmps17
  go_wp2_with fail
  go_region
  all_goals
    go_wp2_with fail
    go_ret
    first | exact H12.out _ | exact H21.out _
theorem new_hi (pages : Int) (n m : Nat) (w : World) (RP RI : Array Value) (hp : 64 < pages) (hn : n ≤ 64) (hm : m = 32 * n) (hP : RP = pgs (List.replicate n none)) (hI : RI = cells (List.replicate m 0))
    (hmp : ∀ W : World, (Instr.makeSlice 109 (.int .i64 64) (.int .i64 64)).run Tryd.prog W = .ok (.slice (some ⟨W.heap.size, 0, none⟩) n n) (W.alloc (.cells RP 54)))
    (hmi : ∀ W : World, (Instr.makeSlice 27 (.int .i64 2048) (.int .i64 2048)).run Tryd.prog W = .ok (.slice (some ⟨W.heap.size, 0, none⟩) m m) (W.alloc (.cells RI 3))) :
    Calls Tryd.prog 17 #[.int .i64 pages] w (Made w n) := by
  have H12 := Lib.hid (made_12 w n m hn hm RP RI hP hI)
  have H21 := Lib.hid (made_21 w n m hn hm RP RI hP hI)
  have h0 : wrap64 (pages * 32) = pages * 32 ∨ True := .inr trivial
  clear h0
  clear hn hm hP hI
  go_enter Tryd.func17, Tryd.ntmps17
  go_wp2_with fail
  go_region
  all_goals
    go_wp2_with fail
    go_ret
    first | exact H12.out _ | exact H21.out _
theorem new_mid (pages : Int) (n m : Nat) (w : World) (RP RI : Array Value) (hp : 0 ≤ pages) (hp2 : pages ≤ 64) (hn : n ≤ 64) (hm : m = 32 * n) (hP : RP = pgs (List.replicate n none)) (hI : RI = cells (List.replicate m 0))
    (hmp : ∀ W : World, (Instr.makeSlice 109 (.int .i64 pages) (.int .i64 pages)).run Tryd.prog W = .ok (.slice (some ⟨W.heap.size, 0, none⟩) n n) (W.alloc (.cells RP 54)))
    (hmi : ∀ W : World, (Instr.makeSlice 27 (.int .i64 (pages * 32)) (.int .i64 (pages * 32))).run Tryd.prog W = .ok (.slice (some ⟨W.heap.size, 0, none⟩) m m) (W.alloc (.cells RI 3))) :
    Calls Tryd.prog 17 #[.int .i64 pages] w (Made w n) := by
  have H12 := Lib.hid (made_12 w n m hn hm RP RI hP hI)
  have H21 := Lib.hid (made_21 w n m hn hm RP RI hP hI)
  have h0 : wrap64 (pages * 32) = pages * 32 ∨ True := .inr trivial
  clear h0
  clear hn hm hP hI
  go_enter Tryd.func17, Tryd.ntmps17
  go_wp2_with fail
  go_region
  all_goals
    go_wp2_with fail
    go_ret
    first | exact H12.out _ | exact H21.out _
theorem new_any (pages : Int) (w : World) : Calls Tryd.prog 17 #[.int .i64 pages] w (Made w (min (max pages 0) 64).toNat) := by
  by_cases h1 : pages < 0
  · rw [show (min (max pages 0) 64).toNat = 0 by omega]
    exact new_lo pages 0 0 w _ _ h1 (by omega) (by omega) rfl rfl (make_pgs 0 (by omega)) (make_ints 0 (by omega))
  by_cases h2 : 64 < pages
  · rw [show (min (max pages 0) 64).toNat = 64 by omega]
    exact new_hi pages 64 2048 w _ _ h2 (by omega) (by omega) rfl rfl (make_pgs 64 (by omega)) (make_ints 2048 (by omega))
  · obtain ⟨n, rfl⟩ : ∃ n : Nat, pages = n := ⟨pages.toNat, by omega⟩
    rw [show (min (max (n : Int) 0) 64).toNat = n by omega]
    exact new_mid n n (32 * n) w _ _ (by omega) (by omega) (by omega) (by omega) rfl rfl (make_pgs n (by omega)) (by have := make_ints (32 * n) (by omega); rw [show ((32 * n : Nat) : Int) = (n : Int) * 32 by omega] at this; exact this)
end Go.Proofs.YtoajbjeiplolnaaDoorR.Ar
