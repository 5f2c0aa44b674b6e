/- The walk of besomlaw18.BarrierPhases: it returns true, and writes nothing that was there. -/
import Derived.Test.YtnolkgciapggdaaBarS
import Derived.Test.YtnolkgciapggdaaArgs
namespace Go.Proofs.Ytnolkgciapggdaa.BarrierPhases
open Go.RowKit Bar
set_option linter.unusedSimpArgs false
set_option linter.unusedVariables false

/-- The first cells of an answer. -/
theorem cells1 {w : World} {B c : Nat} {a : Option Addr} {x : Int} {l : List Int} (h : w.ownsRow B 3 1 (.slice a (x :: l).length c) (x :: l).length ((x :: l).map (.int .i64))) :
    ∃ g, a = some ⟨g, 0, none⟩ ∧ g < w.heap.size ∧ ∀ j y, (x :: l)[j]? = some y → w.cell? ⟨g, j, none⟩ = some (.int .i64 y) := by
  obtain ⟨g, rfl⟩ : ∃ g, a = some ⟨g, 0, none⟩ := by
    rcases h.2 with ⟨_, h⟩ | ⟨g, _, _, h, _⟩
    · simp at h
    · injection h with h; exact ⟨g, h⟩
  refine ⟨g, rfl, (h.lt g rfl).2, fun j y hy => ?_⟩
  have := h.cells (g := g) rfl j (.int .i64 y) (by rw [List.getElem?_map, hy]; rfl)
  rw [show ((⟨g, 0, none⟩ : Addr).add j) = ⟨g, j, none⟩ by unfold Addr.add; split <;> simp_all] at this
  exact this

set_option maxRecDepth 100000 in
set_option maxHeartbeats 1000000 in
theorem idle (p o n : Int) (w : World) (wo : (Lit.int .i64 o).wf = true) (wn : (Lit.int .i64 n).wf = true) (h : (p == 1) = false) (h' : (p != 1) = true) :
    Calls Try.prog 3 #[.int .i64 p, .int .i64 o, .int .i64 n] w fun e w' => e = .returned (.bool true) ∧ Below w.heap.size w w' := by
  have ea : Bar.store p true o n = [] := by unfold Bar.store; rw [if_neg (by simpa using h)]
  have eb : Bar.store p false o n = [] := by unfold Bar.store; rw [if_neg (by simpa using h)]
  have HA := Lib.hid ea
  have HB := Lib.hid eb
  have HO := Lib.hid wo
  have HN := Lib.hid wn
  clear ea eb wo wn
  go_enter Try.func3, Try.ntmps3
  go_wp2_with fail
  refine (alive _).mono ?_
  rintro e w0 ⟨rfl, hb⟩
  have hw := hb
  clear hb
  dsimp only
  go_wp2_with fail
  refine (store_any _ _ _ _ _ HO.out HN.out).mono ?_
  rw [HA.out]
  rintro e w1 ⟨a, c, rfl, ho, hb⟩
  clear ho
  replace hw := fresh_call hw hb
  clear hb
  dsimp only
  go_wp2_with fail
  refine (store_any _ _ _ _ _ HO.out HN.out).mono ?_
  rw [HB.out]
  rintro e w2 ⟨a2, c2, rfl, ho2, hb2⟩
  clear ho2
  replace hw := fresh_call hw hb2
  clear hb2
  dsimp only
  go_wp2_with (go_at_call 17; refine (birth_any _ _).mono ?_; rintro e w1 ⟨rfl, rfl⟩; dsimp only)
  go_ret
  exact ⟨rfl, hw⟩

set_option maxRecDepth 100000 in
set_option maxHeartbeats 1000000 in
theorem m00 (_z : Int) (w : World) (wo : (Lit.int .i64 0).wf = true) (wn : (Lit.int .i64 0).wf = true)  :
    Calls Try.prog 3 #[.int .i64 1, .int .i64 0, .int .i64 0] w fun e w' => e = .returned (.bool true) ∧ Below w.heap.size w w' := by
  have ea : Bar.store 1 true 0 0 = [] := by decide
  have eb : Bar.store 1 false 0 0 = [] := by decide
  have HA := Lib.hid ea
  have HB := Lib.hid eb
  have HO := Lib.hid wo
  have HN := Lib.hid wn
  clear ea eb wo wn
  go_enter Try.func3, Try.ntmps3
  go_wp2_with fail
  refine (alive _).mono ?_
  rintro e w0 ⟨rfl, hb⟩
  have hw := hb
  clear hb
  dsimp only
  go_wp2_with fail
  refine (store_any _ _ _ _ _ HO.out HN.out).mono ?_
  rw [HA.out]
  rintro e w1 ⟨a, c, rfl, ho, hb⟩
  clear ho
  replace hw := fresh_call hw hb
  clear hb
  dsimp only
  go_wp2_with fail
  refine (store_any _ _ _ _ _ HO.out HN.out).mono ?_
  rw [HB.out]
  rintro e w2 ⟨a2, c2, rfl, ho2, hb2⟩
  clear ho2
  replace hw := fresh_call hw hb2
  clear hb2
  dsimp only
  go_wp2_with (go_at_call 17; refine (birth_any _ _).mono ?_; rintro e w1 ⟨rfl, rfl⟩; dsimp only)
  go_ret
  exact ⟨rfl, hw⟩

set_option maxRecDepth 100000 in
set_option maxHeartbeats 1000000 in
theorem m01 (n : Int) (w : World) (wo : (Lit.int .i64 0).wf = true) (wn : (Lit.int .i64 n).wf = true) (h2 : (n == 0) = false) (h2' : (n != 0) = true) :
    Calls Try.prog 3 #[.int .i64 1, .int .i64 0, .int .i64 n] w fun e w' => e = .returned (.bool true) ∧ Below w.heap.size w w' := by
  have ea : Bar.store 1 true 0 n = [] := by
    have h := (by simpa using h2 : ¬ n = 0)
    simp [Bar.store, padd, h]
  have eb : Bar.store 1 false 0 n = [n] := by
    have h := (by simpa using h2 : ¬ n = 0)
    simp [Bar.store, padd, h]
  have HA := Lib.hid ea
  have HB := Lib.hid eb
  have HO := Lib.hid wo
  have HN := Lib.hid wn
  clear ea eb wo wn
  go_enter Try.func3, Try.ntmps3
  go_wp2_with fail
  refine (alive _).mono ?_
  rintro e w0 ⟨rfl, hb⟩
  have hw := hb
  clear hb
  dsimp only
  go_wp2_with fail
  refine (store_any _ _ _ _ _ HO.out HN.out).mono ?_
  rw [HA.out]
  rintro e w1 ⟨a, c, rfl, ho, hb⟩
  clear ho
  replace hw := fresh_call hw hb
  clear hb
  dsimp only
  go_wp2_with fail
  refine (store_any _ _ _ _ _ HO.out HN.out).mono ?_
  rw [HB.out]
  rintro e w2 ⟨a2, c2, rfl, ho2, hb2⟩
  obtain ⟨g2, rfl, hg2, hc2⟩ := cells1 ho2
  have k1 := hc2 0 _ rfl
  clear hc2
  clear ho2
  replace hw := fresh_call hw hb2
  clear hb2
  dsimp only
  go_wp2_with (go_at_call 17; refine (birth_any _ _).mono ?_; rintro e w1 ⟨rfl, rfl⟩; dsimp only)
  go_ret
  exact ⟨rfl, hw⟩

set_option maxRecDepth 100000 in
set_option maxHeartbeats 1000000 in
theorem m10 (o : Int) (w : World) (wo : (Lit.int .i64 o).wf = true) (wn : (Lit.int .i64 0).wf = true) (h1 : (o == 0) = false) (h1' : (o != 0) = true) :
    Calls Try.prog 3 #[.int .i64 1, .int .i64 o, .int .i64 0] w fun e w' => e = .returned (.bool true) ∧ Below w.heap.size w w' := by
  have ea : Bar.store 1 true o 0 = [o] := by
    have h := (by simpa using h1 : ¬ o = 0)
    simp [Bar.store, padd, h]
  have eb : Bar.store 1 false o 0 = [o] := by
    have h := (by simpa using h1 : ¬ o = 0)
    simp [Bar.store, padd, h]
  have HA := Lib.hid ea
  have HB := Lib.hid eb
  have HO := Lib.hid wo
  have HN := Lib.hid wn
  clear ea eb wo wn
  go_enter Try.func3, Try.ntmps3
  go_wp2_with fail
  refine (alive _).mono ?_
  rintro e w0 ⟨rfl, hb⟩
  have hw := hb
  clear hb
  dsimp only
  go_wp2_with fail
  refine (store_any _ _ _ _ _ HO.out HN.out).mono ?_
  rw [HA.out]
  rintro e w1 ⟨a, c, rfl, ho, hb⟩
  obtain ⟨g, rfl, hg, hc⟩ := cells1 ho
  have HC := Lib.hid hc
  clear hc
  clear ho
  replace hw := fresh_call hw hb
  clear hb
  dsimp only
  go_wp2_with fail
  refine (store_any _ _ _ _ _ HO.out HN.out).mono ?_
  rw [HB.out]
  rintro e w2 ⟨a2, c2, rfl, ho2, hb2⟩
  have k0 : w2.cell? ⟨g, 0, none⟩ = some (.int .i64 o) := (hb2.cell (p := ⟨g, 0, none⟩) hg).trans (HC.out 0 _ rfl)
  obtain ⟨g2, rfl, hg2, hc2⟩ := cells1 ho2
  have k1 := hc2 0 _ rfl
  clear hc2
  clear ho2
  replace hw := fresh_call hw hb2
  clear hb2
  dsimp only
  go_wp2_with (go_at_call 17; refine (birth_any _ _).mono ?_; rintro e w1 ⟨rfl, rfl⟩; dsimp only)
  go_ret
  exact ⟨rfl, hw⟩

set_option maxRecDepth 100000 in
set_option maxHeartbeats 1000000 in
theorem m11 (o : Int) (w : World) (wo : (Lit.int .i64 o).wf = true) (wn : (Lit.int .i64 o).wf = true) (h1 : (o == 0) = false) (h1' : (o != 0) = true) :
    Calls Try.prog 3 #[.int .i64 1, .int .i64 o, .int .i64 o] w fun e w' => e = .returned (.bool true) ∧ Below w.heap.size w w' := by
  have ea : Bar.store 1 true o o = [o] := by
    have h := (by simpa using h1 : ¬ o = 0)
    simp [Bar.store, padd, h]
  have eb : Bar.store 1 false o o = [o] := by
    have h := (by simpa using h1 : ¬ o = 0)
    simp [Bar.store, padd, h]
  have HA := Lib.hid ea
  have HB := Lib.hid eb
  have HO := Lib.hid wo
  have HN := Lib.hid wn
  clear ea eb wo wn
  go_enter Try.func3, Try.ntmps3
  go_wp2_with fail
  refine (alive _).mono ?_
  rintro e w0 ⟨rfl, hb⟩
  have hw := hb
  clear hb
  dsimp only
  go_wp2_with fail
  refine (store_any _ _ _ _ _ HO.out HN.out).mono ?_
  rw [HA.out]
  rintro e w1 ⟨a, c, rfl, ho, hb⟩
  obtain ⟨g, rfl, hg, hc⟩ := cells1 ho
  have HC := Lib.hid hc
  clear hc
  clear ho
  replace hw := fresh_call hw hb
  clear hb
  dsimp only
  go_wp2_with fail
  refine (store_any _ _ _ _ _ HO.out HN.out).mono ?_
  rw [HB.out]
  rintro e w2 ⟨a2, c2, rfl, ho2, hb2⟩
  have k0 : w2.cell? ⟨g, 0, none⟩ = some (.int .i64 o) := (hb2.cell (p := ⟨g, 0, none⟩) hg).trans (HC.out 0 _ rfl)
  obtain ⟨g2, rfl, hg2, hc2⟩ := cells1 ho2
  have k1 := hc2 0 _ rfl
  clear hc2
  clear ho2
  replace hw := fresh_call hw hb2
  clear hb2
  dsimp only
  go_wp2_with (go_at_call 17; refine (birth_any _ _).mono ?_; rintro e w1 ⟨rfl, rfl⟩; dsimp only)
  go_ret
  exact ⟨rfl, hw⟩

set_option maxRecDepth 100000 in
set_option maxHeartbeats 1000000 in
theorem m12 (o n : Int) (w : World) (wo : (Lit.int .i64 o).wf = true) (wn : (Lit.int .i64 n).wf = true) (h1 : (o == 0) = false) (h1' : (o != 0) = true) (h2 : (n == 0) = false) (h2' : (n != 0) = true) (h3 : (n == o) = false) (h3' : (n != o) = true) :
    Calls Try.prog 3 #[.int .i64 1, .int .i64 o, .int .i64 n] w fun e w' => e = .returned (.bool true) ∧ Below w.heap.size w w' := by
  have ea : Bar.store 1 true o n = [o] := by
    have h := (by simpa using h1 : ¬ o = 0)
    have g := (by simpa using h2 : ¬ n = 0)
    have k := (by simpa using h3 : ¬ n = o)
    simp [Bar.store, padd, h, g, k]
  have eb : Bar.store 1 false o n = [o, n] := by
    have h := (by simpa using h1 : ¬ o = 0)
    have g := (by simpa using h2 : ¬ n = 0)
    have k := (by simpa using h3 : ¬ n = o)
    simp [Bar.store, padd, h, g, k]
  have HA := Lib.hid ea
  have HB := Lib.hid eb
  have HO := Lib.hid wo
  have HN := Lib.hid wn
  clear ea eb wo wn
  go_enter Try.func3, Try.ntmps3
  go_wp2_with fail
  refine (alive _).mono ?_
  rintro e w0 ⟨rfl, hb⟩
  have hw := hb
  clear hb
  dsimp only
  go_wp2_with fail
  refine (store_any _ _ _ _ _ HO.out HN.out).mono ?_
  rw [HA.out]
  rintro e w1 ⟨a, c, rfl, ho, hb⟩
  obtain ⟨g, rfl, hg, hc⟩ := cells1 ho
  have HC := Lib.hid hc
  clear hc
  clear ho
  replace hw := fresh_call hw hb
  clear hb
  dsimp only
  go_wp2_with fail
  refine (store_any _ _ _ _ _ HO.out HN.out).mono ?_
  rw [HB.out]
  rintro e w2 ⟨a2, c2, rfl, ho2, hb2⟩
  have k0 : w2.cell? ⟨g, 0, none⟩ = some (.int .i64 o) := (hb2.cell (p := ⟨g, 0, none⟩) hg).trans (HC.out 0 _ rfl)
  obtain ⟨g2, rfl, hg2, hc2⟩ := cells1 ho2
  have k1 := hc2 0 _ rfl
  have k2 := hc2 1 _ rfl
  clear hc2
  clear ho2
  replace hw := fresh_call hw hb2
  clear hb2
  dsimp only
  go_wp2_with (go_at_call 17; refine (birth_any _ _).mono ?_; rintro e w1 ⟨rfl, rfl⟩; dsimp only)
  go_ret
  exact ⟨rfl, hw⟩

theorem walk (p o n : Int) (w : World) (_wp : (Lit.int .i64 p).wf = true) (wo : (Lit.int .i64 o).wf = true) (wn : (Lit.int .i64 n).wf = true) :
    Calls Try.prog 3 #[.int .i64 p, .int .i64 o, .int .i64 n] w fun e w' => e = .returned (.bool true) ∧ Below w.heap.size w w' := by
  by_cases hp : p = 1
  · subst hp
    by_cases h1 : o = 0
    · subst h1
      by_cases h2 : n = 0
      · subst h2; exact m00 0 w wo wn
      · exact m01 n w wo wn (by simpa using h2) (by simpa using h2)
    · by_cases h2 : n = 0
      · subst h2; exact m10 o w wo wn (by simpa using h1) (by simpa using h1)
      · by_cases h3 : n = o
        · subst h3; exact m11 n w wo wn (by simpa using h1) (by simpa using h1)
        · exact m12 o n w wo wn (by simpa using h1) (by simpa using h1) (by simpa using h2) (by simpa using h2) (by simpa using h3) (by simpa using h3)
  · exact idle p o n w wo wn (by simpa using hp) (by simpa using hp)
end Go.Proofs.Ytnolkgciapggdaa.BarrierPhases
