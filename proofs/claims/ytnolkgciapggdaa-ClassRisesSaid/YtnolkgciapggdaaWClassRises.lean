/- The walk of besomlaw3.ClassRises: it returns true, and writes nothing that was there. -/
import Derived.Test.YtnolkgciapggdaaCls
import Derived.Test.YtnolkgciapggdaaArgs
namespace Go.Proofs.Ytnolkgciapggdaa.ClassRises
open Go.RowKit Cls
set_option linter.unusedSimpArgs false

set_option maxHeartbeats 4000000 in
theorem rises {a b : Int} (h1 : 1 ≤ a) (h2 : a ≤ b) (h3 : b ≤ 16) : cof a ≤ cof b ∧ csz (cof a) ≤ csz (cof b) ∧ csl (cof b) ≤ csl (cof a) := by
  have ha : a = 1 ∨ a = 2 ∨ a = 3 ∨ a = 4 ∨ a = 5 ∨ a = 6 ∨ a = 7 ∨ a = 8 ∨ a = 9 ∨ a = 10 ∨ a = 11 ∨ a = 12 ∨ a = 13 ∨ a = 14 ∨ a = 15 ∨ a = 16 := by omega
  have hb : b = 1 ∨ b = 2 ∨ b = 3 ∨ b = 4 ∨ b = 5 ∨ b = 6 ∨ b = 7 ∨ b = 8 ∨ b = 9 ∨ b = 10 ∨ b = 11 ∨ b = 12 ∨ b = 13 ∨ b = 14 ∨ b = 15 ∨ b = 16 := by omega
  rcases ha with rfl | rfl | rfl | rfl | rfl | rfl | rfl | rfl | rfl | rfl | rfl | rfl | rfl | rfl | rfl | rfl <;> rcases hb with rfl | rfl | rfl | rfl | rfl | rfl | rfl | rfl | rfl | rfl | rfl | rfl | rfl | rfl | rfl | rfl <;> first | (exfalso; revert h2; decide) | decide

theorem walk (a b : Int) (w : World) (wa : (Lit.int .i64 a).wf = true) (wb : (Lit.int .i64 b).wf = true) :
    Calls Try.prog 11 #[.int .i64 a, .int .i64 b] w fun e w' => e = .returned (.bool true) ∧ Below w.heap.size w w' := by
  clear wa wb
  by_cases h1 : a < 1
  · go_enter Try.func11, Try.ntmps11
    go_wp2_with ((go_at_call 40; refine (Cls.alive _).mono ?_; rintro e w1 ⟨rfl, rfl⟩; dsimp only))
    go_ret
    exact ⟨rfl, Below.refl _ _⟩
  by_cases h2 : b < a
  · go_enter Try.func11, Try.ntmps11
    go_wp2_with ((go_at_call 40; refine (Cls.alive _).mono ?_; rintro e w1 ⟨rfl, rfl⟩; dsimp only))
    go_ret
    exact ⟨rfl, Below.refl _ _⟩
  by_cases h3 : 16 < b
  · go_enter Try.func11, Try.ntmps11
    go_wp2_with ((go_at_call 40; refine (Cls.alive _).mono ?_; rintro e w1 ⟨rfl, rfl⟩; dsimp only))
    go_ret
    exact ⟨rfl, Below.refl _ _⟩
  obtain ⟨r1, r2, r3⟩ := rises (a := a) (b := b) (by omega) (by omega) (by omega)
  have d1 : decide (cof a ≤ cof b) = true := decide_eq_true r1
  have d2 : decide (csz (cof a) ≤ csz (cof b)) = true := decide_eq_true r2
  have d3 : decide (csl (cof b) ≤ csl (cof a)) = true := decide_eq_true r3
  clear r1 r2 r3
  go_enter Try.func11, Try.ntmps11
  go_wp2_with (first | (go_at_call 40; refine (Cls.alive _).mono ?_; rintro e w1 ⟨rfl, rfl⟩; dsimp only) | (go_at_call 41; refine (of_any _ _).mono ?_; rintro e w1 ⟨rfl, rfl⟩; dsimp only) | (go_at_call 42; refine (size_any _ _).mono ?_; rintro e w1 ⟨rfl, rfl⟩; dsimp only) | (go_at_call 43; refine (slots_any _ _).mono ?_; rintro e w1 ⟨rfl, rfl⟩; dsimp only) | (go_at_call 47; refine (tail_any _ _).mono ?_; rintro e w1 ⟨rfl, rfl⟩; dsimp only) | (go_at_call 48; refine (waste_any _ _).mono ?_; rintro e w1 ⟨rfl, rfl⟩; dsimp only))
  go_ways
  go_ret
  exact ⟨rfl, Below.refl _ _⟩
end Go.Proofs.Ytnolkgciapggdaa.ClassRises
