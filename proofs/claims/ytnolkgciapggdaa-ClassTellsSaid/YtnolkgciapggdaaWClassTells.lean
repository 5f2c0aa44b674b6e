/- The walk of besomlaw3.ClassTells: it returns true, and writes nothing that was there. -/
import Derived.Test.YtnolkgciapggdaaCls
import Derived.Test.YtnolkgciapggdaaArgs
namespace Go.Proofs.Ytnolkgciapggdaa.ClassTells
open Go.RowKit Cls
set_option linter.unusedSimpArgs false

set_option maxRecDepth 100000 in
set_option maxHeartbeats 2000000 in
theorem none_ (c n at_ : Int) (w : World) (hc : c < 0 ∨ 8 ≤ c) (hof : (0 ≤ cof n ∧ 1 ≤ n ∧ n ≤ 16 ∧ cused n = n) ∨ (cof n < 0 ∧ csz (cof n) = 0 ∧ cused n = 0)) :
    Calls Try.prog 13 #[.int .i64 c, .int .i64 n, .int .i64 at_] w fun e w' => e = .returned (.bool true) ∧ Below w.heap.size w w' := by
  have hz := csz_out hc
  have hl := csl_out hc
  have ht : ctail c = 0 := by unfold ctail; rw [hz]; rfl
  have hs : at_ < 0 ∨ csl c * csz c ≤ at_ := by rw [hl, hz]; omega
  have Hs := Lib.hid hs
  rcases hof with ⟨o1, o2, o3, o4⟩ | ⟨o1, o2, o3⟩
  · have b1 := (csz_bd (cof n)).1
    have b2 := (csz_bd (cof n)).2
    clear hs
    have hw : Below w.heap.size w w := Below.refl _ _
    go_enter Try.func13, Try.ntmps13
    go_wp2_with (first | (go_at_call 44; refine (rsize_any _ _).mono ?_; rintro e w1 ⟨rfl, hb⟩; replace hw := fresh_call hw hb; clear hb; dsimp only) | (go_at_call 45; refine (rclass_any _ _).mono ?_; rintro e w1 ⟨rfl, hb⟩; replace hw := fresh_call hw hb; clear hb; dsimp only) | (go_at_call 40; refine (Cls.alive _).mono ?_; rintro e w1 ⟨rfl, rfl⟩; dsimp only) | (go_at_call 46; refine (slot_out _ _ _ Hs.out).mono ?_; rintro e w1 ⟨rfl, rfl⟩; dsimp only) | (go_at_call 41; refine (of_any _ _).mono ?_; rintro e w1 ⟨rfl, rfl⟩; dsimp only) | (go_at_call 42; refine (size_any _ _).mono ?_; rintro e w1 ⟨rfl, rfl⟩; dsimp only) | (go_at_call 43; refine (slots_any _ _).mono ?_; rintro e w1 ⟨rfl, rfl⟩; dsimp only) | (go_at_call 47; refine (tail_any _ _).mono ?_; rintro e w1 ⟨rfl, rfl⟩; dsimp only) | (go_at_call 48; refine (waste_any _ _).mono ?_; rintro e w1 ⟨rfl, rfl⟩; dsimp only))
    go_ret
    exact ⟨rfl, hw⟩
  · have b0 : True := trivial
    clear hs
    have hw : Below w.heap.size w w := Below.refl _ _
    go_enter Try.func13, Try.ntmps13
    go_wp2_with (first | (go_at_call 44; refine (rsize_any _ _).mono ?_; rintro e w1 ⟨rfl, hb⟩; replace hw := fresh_call hw hb; clear hb; dsimp only) | (go_at_call 45; refine (rclass_any _ _).mono ?_; rintro e w1 ⟨rfl, hb⟩; replace hw := fresh_call hw hb; clear hb; dsimp only) | (go_at_call 40; refine (Cls.alive _).mono ?_; rintro e w1 ⟨rfl, rfl⟩; dsimp only) | (go_at_call 46; refine (slot_out _ _ _ Hs.out).mono ?_; rintro e w1 ⟨rfl, rfl⟩; dsimp only) | (go_at_call 41; refine (of_any _ _).mono ?_; rintro e w1 ⟨rfl, rfl⟩; dsimp only) | (go_at_call 42; refine (size_any _ _).mono ?_; rintro e w1 ⟨rfl, rfl⟩; dsimp only) | (go_at_call 43; refine (slots_any _ _).mono ?_; rintro e w1 ⟨rfl, rfl⟩; dsimp only) | (go_at_call 47; refine (tail_any _ _).mono ?_; rintro e w1 ⟨rfl, rfl⟩; dsimp only) | (go_at_call 48; refine (waste_any _ _).mono ?_; rintro e w1 ⟨rfl, rfl⟩; dsimp only))
    go_ret
    exact ⟨rfl, hw⟩

set_option maxRecDepth 100000 in
set_option maxHeartbeats 2000000 in
theorem one0 (c n at_ : Int) (w : World) (hc : c = 0) (hof : (0 ≤ cof n ∧ 1 ≤ n ∧ n ≤ 16 ∧ cused n = n) ∨ (cof n < 0 ∧ csz (cof n) = 0 ∧ cused n = 0)) :
    Calls Try.prog 13 #[.int .i64 c, .int .i64 n, .int .i64 at_] w fun e w' => e = .returned (.bool true) ∧ Below w.heap.size w w' := by
  subst hc
  have hz : csz 0 = 1 := by decide
  have hl : csl 0 = 32 := by decide
  have ht : ctail 0 = 0 := by decide
  rcases hof with ⟨o1, o2, o3, o4⟩ | ⟨o1, o2, o3⟩
  · have b1 := (csz_bd (cof n)).1
    have b2 := (csz_bd (cof n)).2
    by_cases h0 : at_ < 0
    · have Hs := Lib.hid (show at_ < 0 ∨ csl 0 * csz 0 ≤ at_ from .inl h0)
      have hw : Below w.heap.size w w := Below.refl _ _
      go_enter Try.func13, Try.ntmps13
      go_wp2_with (first | (go_at_call 44; refine (rsize_any _ _).mono ?_; rintro e w1 ⟨rfl, hb⟩; replace hw := fresh_call hw hb; clear hb; dsimp only) | (go_at_call 45; refine (rclass_any _ _).mono ?_; rintro e w1 ⟨rfl, hb⟩; replace hw := fresh_call hw hb; clear hb; dsimp only) | (go_at_call 40; refine (Cls.alive _).mono ?_; rintro e w1 ⟨rfl, rfl⟩; dsimp only) | (go_at_call 46; refine (slot_out _ _ _ Hs.out).mono ?_; rintro e w1 ⟨rfl, rfl⟩; dsimp only) | (go_at_call 41; refine (of_any _ _).mono ?_; rintro e w1 ⟨rfl, rfl⟩; dsimp only) | (go_at_call 42; refine (size_any _ _).mono ?_; rintro e w1 ⟨rfl, rfl⟩; dsimp only) | (go_at_call 43; refine (slots_any _ _).mono ?_; rintro e w1 ⟨rfl, rfl⟩; dsimp only) | (go_at_call 47; refine (tail_any _ _).mono ?_; rintro e w1 ⟨rfl, rfl⟩; dsimp only) | (go_at_call 48; refine (waste_any _ _).mono ?_; rintro e w1 ⟨rfl, rfl⟩; dsimp only))
      go_ret
      exact ⟨rfl, hw⟩
    by_cases h1 : 32 ≤ at_
    · have Hs := Lib.hid (show at_ < 0 ∨ csl 0 * csz 0 ≤ at_ from .inr (by rw [hl, hz]; omega))
      have hw : Below w.heap.size w w := Below.refl _ _
      go_enter Try.func13, Try.ntmps13
      go_wp2_with (first | (go_at_call 44; refine (rsize_any _ _).mono ?_; rintro e w1 ⟨rfl, hb⟩; replace hw := fresh_call hw hb; clear hb; dsimp only) | (go_at_call 45; refine (rclass_any _ _).mono ?_; rintro e w1 ⟨rfl, hb⟩; replace hw := fresh_call hw hb; clear hb; dsimp only) | (go_at_call 40; refine (Cls.alive _).mono ?_; rintro e w1 ⟨rfl, rfl⟩; dsimp only) | (go_at_call 46; refine (slot_out _ _ _ Hs.out).mono ?_; rintro e w1 ⟨rfl, rfl⟩; dsimp only) | (go_at_call 41; refine (of_any _ _).mono ?_; rintro e w1 ⟨rfl, rfl⟩; dsimp only) | (go_at_call 42; refine (size_any _ _).mono ?_; rintro e w1 ⟨rfl, rfl⟩; dsimp only) | (go_at_call 43; refine (slots_any _ _).mono ?_; rintro e w1 ⟨rfl, rfl⟩; dsimp only) | (go_at_call 47; refine (tail_any _ _).mono ?_; rintro e w1 ⟨rfl, rfl⟩; dsimp only) | (go_at_call 48; refine (waste_any _ _).mono ?_; rintro e w1 ⟨rfl, rfl⟩; dsimp only))
      go_ret
      exact ⟨rfl, hw⟩
    · have Hs := Lib.hid (show at_ < csl 0 * csz 0 by rw [hl, hz]; omega)
      have h2 : 0 ≤ at_ := by omega
      have hw : Below w.heap.size w w := Below.refl _ _
      go_enter Try.func13, Try.ntmps13
      go_wp2_with (first | (go_at_call 44; refine (rsize_any _ _).mono ?_; rintro e w1 ⟨rfl, hb⟩; replace hw := fresh_call hw hb; clear hb; dsimp only) | (go_at_call 45; refine (rclass_any _ _).mono ?_; rintro e w1 ⟨rfl, hb⟩; replace hw := fresh_call hw hb; clear hb; dsimp only) | (go_at_call 40; refine (Cls.alive _).mono ?_; rintro e w1 ⟨rfl, rfl⟩; dsimp only) | (go_at_call 46; refine (slot_in _ _ _ h2 Hs.out).mono ?_; rintro e w1 ⟨rfl, rfl⟩; dsimp only) | (go_at_call 41; refine (of_any _ _).mono ?_; rintro e w1 ⟨rfl, rfl⟩; dsimp only) | (go_at_call 42; refine (size_any _ _).mono ?_; rintro e w1 ⟨rfl, rfl⟩; dsimp only) | (go_at_call 43; refine (slots_any _ _).mono ?_; rintro e w1 ⟨rfl, rfl⟩; dsimp only) | (go_at_call 47; refine (tail_any _ _).mono ?_; rintro e w1 ⟨rfl, rfl⟩; dsimp only) | (go_at_call 48; refine (waste_any _ _).mono ?_; rintro e w1 ⟨rfl, rfl⟩; dsimp only))
      go_ret
      exact ⟨rfl, hw⟩
  · have b0 : True := trivial
    by_cases h0 : at_ < 0
    · have Hs := Lib.hid (show at_ < 0 ∨ csl 0 * csz 0 ≤ at_ from .inl h0)
      have hw : Below w.heap.size w w := Below.refl _ _
      go_enter Try.func13, Try.ntmps13
      go_wp2_with (first | (go_at_call 44; refine (rsize_any _ _).mono ?_; rintro e w1 ⟨rfl, hb⟩; replace hw := fresh_call hw hb; clear hb; dsimp only) | (go_at_call 45; refine (rclass_any _ _).mono ?_; rintro e w1 ⟨rfl, hb⟩; replace hw := fresh_call hw hb; clear hb; dsimp only) | (go_at_call 40; refine (Cls.alive _).mono ?_; rintro e w1 ⟨rfl, rfl⟩; dsimp only) | (go_at_call 46; refine (slot_out _ _ _ Hs.out).mono ?_; rintro e w1 ⟨rfl, rfl⟩; dsimp only) | (go_at_call 41; refine (of_any _ _).mono ?_; rintro e w1 ⟨rfl, rfl⟩; dsimp only) | (go_at_call 42; refine (size_any _ _).mono ?_; rintro e w1 ⟨rfl, rfl⟩; dsimp only) | (go_at_call 43; refine (slots_any _ _).mono ?_; rintro e w1 ⟨rfl, rfl⟩; dsimp only) | (go_at_call 47; refine (tail_any _ _).mono ?_; rintro e w1 ⟨rfl, rfl⟩; dsimp only) | (go_at_call 48; refine (waste_any _ _).mono ?_; rintro e w1 ⟨rfl, rfl⟩; dsimp only))
      go_ret
      exact ⟨rfl, hw⟩
    by_cases h1 : 32 ≤ at_
    · have Hs := Lib.hid (show at_ < 0 ∨ csl 0 * csz 0 ≤ at_ from .inr (by rw [hl, hz]; omega))
      have hw : Below w.heap.size w w := Below.refl _ _
      go_enter Try.func13, Try.ntmps13
      go_wp2_with (first | (go_at_call 44; refine (rsize_any _ _).mono ?_; rintro e w1 ⟨rfl, hb⟩; replace hw := fresh_call hw hb; clear hb; dsimp only) | (go_at_call 45; refine (rclass_any _ _).mono ?_; rintro e w1 ⟨rfl, hb⟩; replace hw := fresh_call hw hb; clear hb; dsimp only) | (go_at_call 40; refine (Cls.alive _).mono ?_; rintro e w1 ⟨rfl, rfl⟩; dsimp only) | (go_at_call 46; refine (slot_out _ _ _ Hs.out).mono ?_; rintro e w1 ⟨rfl, rfl⟩; dsimp only) | (go_at_call 41; refine (of_any _ _).mono ?_; rintro e w1 ⟨rfl, rfl⟩; dsimp only) | (go_at_call 42; refine (size_any _ _).mono ?_; rintro e w1 ⟨rfl, rfl⟩; dsimp only) | (go_at_call 43; refine (slots_any _ _).mono ?_; rintro e w1 ⟨rfl, rfl⟩; dsimp only) | (go_at_call 47; refine (tail_any _ _).mono ?_; rintro e w1 ⟨rfl, rfl⟩; dsimp only) | (go_at_call 48; refine (waste_any _ _).mono ?_; rintro e w1 ⟨rfl, rfl⟩; dsimp only))
      go_ret
      exact ⟨rfl, hw⟩
    · have Hs := Lib.hid (show at_ < csl 0 * csz 0 by rw [hl, hz]; omega)
      have h2 : 0 ≤ at_ := by omega
      have hw : Below w.heap.size w w := Below.refl _ _
      go_enter Try.func13, Try.ntmps13
      go_wp2_with (first | (go_at_call 44; refine (rsize_any _ _).mono ?_; rintro e w1 ⟨rfl, hb⟩; replace hw := fresh_call hw hb; clear hb; dsimp only) | (go_at_call 45; refine (rclass_any _ _).mono ?_; rintro e w1 ⟨rfl, hb⟩; replace hw := fresh_call hw hb; clear hb; dsimp only) | (go_at_call 40; refine (Cls.alive _).mono ?_; rintro e w1 ⟨rfl, rfl⟩; dsimp only) | (go_at_call 46; refine (slot_in _ _ _ h2 Hs.out).mono ?_; rintro e w1 ⟨rfl, rfl⟩; dsimp only) | (go_at_call 41; refine (of_any _ _).mono ?_; rintro e w1 ⟨rfl, rfl⟩; dsimp only) | (go_at_call 42; refine (size_any _ _).mono ?_; rintro e w1 ⟨rfl, rfl⟩; dsimp only) | (go_at_call 43; refine (slots_any _ _).mono ?_; rintro e w1 ⟨rfl, rfl⟩; dsimp only) | (go_at_call 47; refine (tail_any _ _).mono ?_; rintro e w1 ⟨rfl, rfl⟩; dsimp only) | (go_at_call 48; refine (waste_any _ _).mono ?_; rintro e w1 ⟨rfl, rfl⟩; dsimp only))
      go_ret
      exact ⟨rfl, hw⟩

set_option maxRecDepth 100000 in
set_option maxHeartbeats 2000000 in
theorem one1 (c n at_ : Int) (w : World) (hc : c = 1) (hof : (0 ≤ cof n ∧ 1 ≤ n ∧ n ≤ 16 ∧ cused n = n) ∨ (cof n < 0 ∧ csz (cof n) = 0 ∧ cused n = 0)) :
    Calls Try.prog 13 #[.int .i64 c, .int .i64 n, .int .i64 at_] w fun e w' => e = .returned (.bool true) ∧ Below w.heap.size w w' := by
  subst hc
  have hz : csz 1 = 2 := by decide
  have hl : csl 1 = 16 := by decide
  have ht : ctail 1 = 0 := by decide
  rcases hof with ⟨o1, o2, o3, o4⟩ | ⟨o1, o2, o3⟩
  · have b1 := (csz_bd (cof n)).1
    have b2 := (csz_bd (cof n)).2
    by_cases h0 : at_ < 0
    · have Hs := Lib.hid (show at_ < 0 ∨ csl 1 * csz 1 ≤ at_ from .inl h0)
      have hw : Below w.heap.size w w := Below.refl _ _
      go_enter Try.func13, Try.ntmps13
      go_wp2_with (first | (go_at_call 44; refine (rsize_any _ _).mono ?_; rintro e w1 ⟨rfl, hb⟩; replace hw := fresh_call hw hb; clear hb; dsimp only) | (go_at_call 45; refine (rclass_any _ _).mono ?_; rintro e w1 ⟨rfl, hb⟩; replace hw := fresh_call hw hb; clear hb; dsimp only) | (go_at_call 40; refine (Cls.alive _).mono ?_; rintro e w1 ⟨rfl, rfl⟩; dsimp only) | (go_at_call 46; refine (slot_out _ _ _ Hs.out).mono ?_; rintro e w1 ⟨rfl, rfl⟩; dsimp only) | (go_at_call 41; refine (of_any _ _).mono ?_; rintro e w1 ⟨rfl, rfl⟩; dsimp only) | (go_at_call 42; refine (size_any _ _).mono ?_; rintro e w1 ⟨rfl, rfl⟩; dsimp only) | (go_at_call 43; refine (slots_any _ _).mono ?_; rintro e w1 ⟨rfl, rfl⟩; dsimp only) | (go_at_call 47; refine (tail_any _ _).mono ?_; rintro e w1 ⟨rfl, rfl⟩; dsimp only) | (go_at_call 48; refine (waste_any _ _).mono ?_; rintro e w1 ⟨rfl, rfl⟩; dsimp only))
      go_ret
      exact ⟨rfl, hw⟩
    by_cases h1 : 32 ≤ at_
    · have Hs := Lib.hid (show at_ < 0 ∨ csl 1 * csz 1 ≤ at_ from .inr (by rw [hl, hz]; omega))
      have hw : Below w.heap.size w w := Below.refl _ _
      go_enter Try.func13, Try.ntmps13
      go_wp2_with (first | (go_at_call 44; refine (rsize_any _ _).mono ?_; rintro e w1 ⟨rfl, hb⟩; replace hw := fresh_call hw hb; clear hb; dsimp only) | (go_at_call 45; refine (rclass_any _ _).mono ?_; rintro e w1 ⟨rfl, hb⟩; replace hw := fresh_call hw hb; clear hb; dsimp only) | (go_at_call 40; refine (Cls.alive _).mono ?_; rintro e w1 ⟨rfl, rfl⟩; dsimp only) | (go_at_call 46; refine (slot_out _ _ _ Hs.out).mono ?_; rintro e w1 ⟨rfl, rfl⟩; dsimp only) | (go_at_call 41; refine (of_any _ _).mono ?_; rintro e w1 ⟨rfl, rfl⟩; dsimp only) | (go_at_call 42; refine (size_any _ _).mono ?_; rintro e w1 ⟨rfl, rfl⟩; dsimp only) | (go_at_call 43; refine (slots_any _ _).mono ?_; rintro e w1 ⟨rfl, rfl⟩; dsimp only) | (go_at_call 47; refine (tail_any _ _).mono ?_; rintro e w1 ⟨rfl, rfl⟩; dsimp only) | (go_at_call 48; refine (waste_any _ _).mono ?_; rintro e w1 ⟨rfl, rfl⟩; dsimp only))
      go_ret
      exact ⟨rfl, hw⟩
    · have Hs := Lib.hid (show at_ < csl 1 * csz 1 by rw [hl, hz]; omega)
      have h2 : 0 ≤ at_ := by omega
      have hw : Below w.heap.size w w := Below.refl _ _
      go_enter Try.func13, Try.ntmps13
      go_wp2_with (first | (go_at_call 44; refine (rsize_any _ _).mono ?_; rintro e w1 ⟨rfl, hb⟩; replace hw := fresh_call hw hb; clear hb; dsimp only) | (go_at_call 45; refine (rclass_any _ _).mono ?_; rintro e w1 ⟨rfl, hb⟩; replace hw := fresh_call hw hb; clear hb; dsimp only) | (go_at_call 40; refine (Cls.alive _).mono ?_; rintro e w1 ⟨rfl, rfl⟩; dsimp only) | (go_at_call 46; refine (slot_in _ _ _ h2 Hs.out).mono ?_; rintro e w1 ⟨rfl, rfl⟩; dsimp only) | (go_at_call 41; refine (of_any _ _).mono ?_; rintro e w1 ⟨rfl, rfl⟩; dsimp only) | (go_at_call 42; refine (size_any _ _).mono ?_; rintro e w1 ⟨rfl, rfl⟩; dsimp only) | (go_at_call 43; refine (slots_any _ _).mono ?_; rintro e w1 ⟨rfl, rfl⟩; dsimp only) | (go_at_call 47; refine (tail_any _ _).mono ?_; rintro e w1 ⟨rfl, rfl⟩; dsimp only) | (go_at_call 48; refine (waste_any _ _).mono ?_; rintro e w1 ⟨rfl, rfl⟩; dsimp only))
      go_ret
      exact ⟨rfl, hw⟩
  · have b0 : True := trivial
    by_cases h0 : at_ < 0
    · have Hs := Lib.hid (show at_ < 0 ∨ csl 1 * csz 1 ≤ at_ from .inl h0)
      have hw : Below w.heap.size w w := Below.refl _ _
      go_enter Try.func13, Try.ntmps13
      go_wp2_with (first | (go_at_call 44; refine (rsize_any _ _).mono ?_; rintro e w1 ⟨rfl, hb⟩; replace hw := fresh_call hw hb; clear hb; dsimp only) | (go_at_call 45; refine (rclass_any _ _).mono ?_; rintro e w1 ⟨rfl, hb⟩; replace hw := fresh_call hw hb; clear hb; dsimp only) | (go_at_call 40; refine (Cls.alive _).mono ?_; rintro e w1 ⟨rfl, rfl⟩; dsimp only) | (go_at_call 46; refine (slot_out _ _ _ Hs.out).mono ?_; rintro e w1 ⟨rfl, rfl⟩; dsimp only) | (go_at_call 41; refine (of_any _ _).mono ?_; rintro e w1 ⟨rfl, rfl⟩; dsimp only) | (go_at_call 42; refine (size_any _ _).mono ?_; rintro e w1 ⟨rfl, rfl⟩; dsimp only) | (go_at_call 43; refine (slots_any _ _).mono ?_; rintro e w1 ⟨rfl, rfl⟩; dsimp only) | (go_at_call 47; refine (tail_any _ _).mono ?_; rintro e w1 ⟨rfl, rfl⟩; dsimp only) | (go_at_call 48; refine (waste_any _ _).mono ?_; rintro e w1 ⟨rfl, rfl⟩; dsimp only))
      go_ret
      exact ⟨rfl, hw⟩
    by_cases h1 : 32 ≤ at_
    · have Hs := Lib.hid (show at_ < 0 ∨ csl 1 * csz 1 ≤ at_ from .inr (by rw [hl, hz]; omega))
      have hw : Below w.heap.size w w := Below.refl _ _
      go_enter Try.func13, Try.ntmps13
      go_wp2_with (first | (go_at_call 44; refine (rsize_any _ _).mono ?_; rintro e w1 ⟨rfl, hb⟩; replace hw := fresh_call hw hb; clear hb; dsimp only) | (go_at_call 45; refine (rclass_any _ _).mono ?_; rintro e w1 ⟨rfl, hb⟩; replace hw := fresh_call hw hb; clear hb; dsimp only) | (go_at_call 40; refine (Cls.alive _).mono ?_; rintro e w1 ⟨rfl, rfl⟩; dsimp only) | (go_at_call 46; refine (slot_out _ _ _ Hs.out).mono ?_; rintro e w1 ⟨rfl, rfl⟩; dsimp only) | (go_at_call 41; refine (of_any _ _).mono ?_; rintro e w1 ⟨rfl, rfl⟩; dsimp only) | (go_at_call 42; refine (size_any _ _).mono ?_; rintro e w1 ⟨rfl, rfl⟩; dsimp only) | (go_at_call 43; refine (slots_any _ _).mono ?_; rintro e w1 ⟨rfl, rfl⟩; dsimp only) | (go_at_call 47; refine (tail_any _ _).mono ?_; rintro e w1 ⟨rfl, rfl⟩; dsimp only) | (go_at_call 48; refine (waste_any _ _).mono ?_; rintro e w1 ⟨rfl, rfl⟩; dsimp only))
      go_ret
      exact ⟨rfl, hw⟩
    · have Hs := Lib.hid (show at_ < csl 1 * csz 1 by rw [hl, hz]; omega)
      have h2 : 0 ≤ at_ := by omega
      have hw : Below w.heap.size w w := Below.refl _ _
      go_enter Try.func13, Try.ntmps13
      go_wp2_with (first | (go_at_call 44; refine (rsize_any _ _).mono ?_; rintro e w1 ⟨rfl, hb⟩; replace hw := fresh_call hw hb; clear hb; dsimp only) | (go_at_call 45; refine (rclass_any _ _).mono ?_; rintro e w1 ⟨rfl, hb⟩; replace hw := fresh_call hw hb; clear hb; dsimp only) | (go_at_call 40; refine (Cls.alive _).mono ?_; rintro e w1 ⟨rfl, rfl⟩; dsimp only) | (go_at_call 46; refine (slot_in _ _ _ h2 Hs.out).mono ?_; rintro e w1 ⟨rfl, rfl⟩; dsimp only) | (go_at_call 41; refine (of_any _ _).mono ?_; rintro e w1 ⟨rfl, rfl⟩; dsimp only) | (go_at_call 42; refine (size_any _ _).mono ?_; rintro e w1 ⟨rfl, rfl⟩; dsimp only) | (go_at_call 43; refine (slots_any _ _).mono ?_; rintro e w1 ⟨rfl, rfl⟩; dsimp only) | (go_at_call 47; refine (tail_any _ _).mono ?_; rintro e w1 ⟨rfl, rfl⟩; dsimp only) | (go_at_call 48; refine (waste_any _ _).mono ?_; rintro e w1 ⟨rfl, rfl⟩; dsimp only))
      go_ret
      exact ⟨rfl, hw⟩

set_option maxRecDepth 100000 in
set_option maxHeartbeats 2000000 in
theorem one2 (c n at_ : Int) (w : World) (hc : c = 2) (hof : (0 ≤ cof n ∧ 1 ≤ n ∧ n ≤ 16 ∧ cused n = n) ∨ (cof n < 0 ∧ csz (cof n) = 0 ∧ cused n = 0)) :
    Calls Try.prog 13 #[.int .i64 c, .int .i64 n, .int .i64 at_] w fun e w' => e = .returned (.bool true) ∧ Below w.heap.size w w' := by
  subst hc
  have hz : csz 2 = 3 := by decide
  have hl : csl 2 = 10 := by decide
  have ht : ctail 2 = 2 := by decide
  rcases hof with ⟨o1, o2, o3, o4⟩ | ⟨o1, o2, o3⟩
  · have b1 := (csz_bd (cof n)).1
    have b2 := (csz_bd (cof n)).2
    by_cases h0 : at_ < 0
    · have Hs := Lib.hid (show at_ < 0 ∨ csl 2 * csz 2 ≤ at_ from .inl h0)
      have hw : Below w.heap.size w w := Below.refl _ _
      go_enter Try.func13, Try.ntmps13
      go_wp2_with (first | (go_at_call 44; refine (rsize_any _ _).mono ?_; rintro e w1 ⟨rfl, hb⟩; replace hw := fresh_call hw hb; clear hb; dsimp only) | (go_at_call 45; refine (rclass_any _ _).mono ?_; rintro e w1 ⟨rfl, hb⟩; replace hw := fresh_call hw hb; clear hb; dsimp only) | (go_at_call 40; refine (Cls.alive _).mono ?_; rintro e w1 ⟨rfl, rfl⟩; dsimp only) | (go_at_call 46; refine (slot_out _ _ _ Hs.out).mono ?_; rintro e w1 ⟨rfl, rfl⟩; dsimp only) | (go_at_call 41; refine (of_any _ _).mono ?_; rintro e w1 ⟨rfl, rfl⟩; dsimp only) | (go_at_call 42; refine (size_any _ _).mono ?_; rintro e w1 ⟨rfl, rfl⟩; dsimp only) | (go_at_call 43; refine (slots_any _ _).mono ?_; rintro e w1 ⟨rfl, rfl⟩; dsimp only) | (go_at_call 47; refine (tail_any _ _).mono ?_; rintro e w1 ⟨rfl, rfl⟩; dsimp only) | (go_at_call 48; refine (waste_any _ _).mono ?_; rintro e w1 ⟨rfl, rfl⟩; dsimp only))
      go_ret
      exact ⟨rfl, hw⟩
    by_cases h1 : 30 ≤ at_
    · have Hs := Lib.hid (show at_ < 0 ∨ csl 2 * csz 2 ≤ at_ from .inr (by rw [hl, hz]; omega))
      have hw : Below w.heap.size w w := Below.refl _ _
      go_enter Try.func13, Try.ntmps13
      go_wp2_with (first | (go_at_call 44; refine (rsize_any _ _).mono ?_; rintro e w1 ⟨rfl, hb⟩; replace hw := fresh_call hw hb; clear hb; dsimp only) | (go_at_call 45; refine (rclass_any _ _).mono ?_; rintro e w1 ⟨rfl, hb⟩; replace hw := fresh_call hw hb; clear hb; dsimp only) | (go_at_call 40; refine (Cls.alive _).mono ?_; rintro e w1 ⟨rfl, rfl⟩; dsimp only) | (go_at_call 46; refine (slot_out _ _ _ Hs.out).mono ?_; rintro e w1 ⟨rfl, rfl⟩; dsimp only) | (go_at_call 41; refine (of_any _ _).mono ?_; rintro e w1 ⟨rfl, rfl⟩; dsimp only) | (go_at_call 42; refine (size_any _ _).mono ?_; rintro e w1 ⟨rfl, rfl⟩; dsimp only) | (go_at_call 43; refine (slots_any _ _).mono ?_; rintro e w1 ⟨rfl, rfl⟩; dsimp only) | (go_at_call 47; refine (tail_any _ _).mono ?_; rintro e w1 ⟨rfl, rfl⟩; dsimp only) | (go_at_call 48; refine (waste_any _ _).mono ?_; rintro e w1 ⟨rfl, rfl⟩; dsimp only))
      go_ret
      exact ⟨rfl, hw⟩
    · have Hs := Lib.hid (show at_ < csl 2 * csz 2 by rw [hl, hz]; omega)
      have h2 : 0 ≤ at_ := by omega
      have hw : Below w.heap.size w w := Below.refl _ _
      go_enter Try.func13, Try.ntmps13
      go_wp2_with (first | (go_at_call 44; refine (rsize_any _ _).mono ?_; rintro e w1 ⟨rfl, hb⟩; replace hw := fresh_call hw hb; clear hb; dsimp only) | (go_at_call 45; refine (rclass_any _ _).mono ?_; rintro e w1 ⟨rfl, hb⟩; replace hw := fresh_call hw hb; clear hb; dsimp only) | (go_at_call 40; refine (Cls.alive _).mono ?_; rintro e w1 ⟨rfl, rfl⟩; dsimp only) | (go_at_call 46; refine (slot_in _ _ _ h2 Hs.out).mono ?_; rintro e w1 ⟨rfl, rfl⟩; dsimp only) | (go_at_call 41; refine (of_any _ _).mono ?_; rintro e w1 ⟨rfl, rfl⟩; dsimp only) | (go_at_call 42; refine (size_any _ _).mono ?_; rintro e w1 ⟨rfl, rfl⟩; dsimp only) | (go_at_call 43; refine (slots_any _ _).mono ?_; rintro e w1 ⟨rfl, rfl⟩; dsimp only) | (go_at_call 47; refine (tail_any _ _).mono ?_; rintro e w1 ⟨rfl, rfl⟩; dsimp only) | (go_at_call 48; refine (waste_any _ _).mono ?_; rintro e w1 ⟨rfl, rfl⟩; dsimp only))
      go_ret
      exact ⟨rfl, hw⟩
  · have b0 : True := trivial
    by_cases h0 : at_ < 0
    · have Hs := Lib.hid (show at_ < 0 ∨ csl 2 * csz 2 ≤ at_ from .inl h0)
      have hw : Below w.heap.size w w := Below.refl _ _
      go_enter Try.func13, Try.ntmps13
      go_wp2_with (first | (go_at_call 44; refine (rsize_any _ _).mono ?_; rintro e w1 ⟨rfl, hb⟩; replace hw := fresh_call hw hb; clear hb; dsimp only) | (go_at_call 45; refine (rclass_any _ _).mono ?_; rintro e w1 ⟨rfl, hb⟩; replace hw := fresh_call hw hb; clear hb; dsimp only) | (go_at_call 40; refine (Cls.alive _).mono ?_; rintro e w1 ⟨rfl, rfl⟩; dsimp only) | (go_at_call 46; refine (slot_out _ _ _ Hs.out).mono ?_; rintro e w1 ⟨rfl, rfl⟩; dsimp only) | (go_at_call 41; refine (of_any _ _).mono ?_; rintro e w1 ⟨rfl, rfl⟩; dsimp only) | (go_at_call 42; refine (size_any _ _).mono ?_; rintro e w1 ⟨rfl, rfl⟩; dsimp only) | (go_at_call 43; refine (slots_any _ _).mono ?_; rintro e w1 ⟨rfl, rfl⟩; dsimp only) | (go_at_call 47; refine (tail_any _ _).mono ?_; rintro e w1 ⟨rfl, rfl⟩; dsimp only) | (go_at_call 48; refine (waste_any _ _).mono ?_; rintro e w1 ⟨rfl, rfl⟩; dsimp only))
      go_ret
      exact ⟨rfl, hw⟩
    by_cases h1 : 30 ≤ at_
    · have Hs := Lib.hid (show at_ < 0 ∨ csl 2 * csz 2 ≤ at_ from .inr (by rw [hl, hz]; omega))
      have hw : Below w.heap.size w w := Below.refl _ _
      go_enter Try.func13, Try.ntmps13
      go_wp2_with (first | (go_at_call 44; refine (rsize_any _ _).mono ?_; rintro e w1 ⟨rfl, hb⟩; replace hw := fresh_call hw hb; clear hb; dsimp only) | (go_at_call 45; refine (rclass_any _ _).mono ?_; rintro e w1 ⟨rfl, hb⟩; replace hw := fresh_call hw hb; clear hb; dsimp only) | (go_at_call 40; refine (Cls.alive _).mono ?_; rintro e w1 ⟨rfl, rfl⟩; dsimp only) | (go_at_call 46; refine (slot_out _ _ _ Hs.out).mono ?_; rintro e w1 ⟨rfl, rfl⟩; dsimp only) | (go_at_call 41; refine (of_any _ _).mono ?_; rintro e w1 ⟨rfl, rfl⟩; dsimp only) | (go_at_call 42; refine (size_any _ _).mono ?_; rintro e w1 ⟨rfl, rfl⟩; dsimp only) | (go_at_call 43; refine (slots_any _ _).mono ?_; rintro e w1 ⟨rfl, rfl⟩; dsimp only) | (go_at_call 47; refine (tail_any _ _).mono ?_; rintro e w1 ⟨rfl, rfl⟩; dsimp only) | (go_at_call 48; refine (waste_any _ _).mono ?_; rintro e w1 ⟨rfl, rfl⟩; dsimp only))
      go_ret
      exact ⟨rfl, hw⟩
    · have Hs := Lib.hid (show at_ < csl 2 * csz 2 by rw [hl, hz]; omega)
      have h2 : 0 ≤ at_ := by omega
      have hw : Below w.heap.size w w := Below.refl _ _
      go_enter Try.func13, Try.ntmps13
      go_wp2_with (first | (go_at_call 44; refine (rsize_any _ _).mono ?_; rintro e w1 ⟨rfl, hb⟩; replace hw := fresh_call hw hb; clear hb; dsimp only) | (go_at_call 45; refine (rclass_any _ _).mono ?_; rintro e w1 ⟨rfl, hb⟩; replace hw := fresh_call hw hb; clear hb; dsimp only) | (go_at_call 40; refine (Cls.alive _).mono ?_; rintro e w1 ⟨rfl, rfl⟩; dsimp only) | (go_at_call 46; refine (slot_in _ _ _ h2 Hs.out).mono ?_; rintro e w1 ⟨rfl, rfl⟩; dsimp only) | (go_at_call 41; refine (of_any _ _).mono ?_; rintro e w1 ⟨rfl, rfl⟩; dsimp only) | (go_at_call 42; refine (size_any _ _).mono ?_; rintro e w1 ⟨rfl, rfl⟩; dsimp only) | (go_at_call 43; refine (slots_any _ _).mono ?_; rintro e w1 ⟨rfl, rfl⟩; dsimp only) | (go_at_call 47; refine (tail_any _ _).mono ?_; rintro e w1 ⟨rfl, rfl⟩; dsimp only) | (go_at_call 48; refine (waste_any _ _).mono ?_; rintro e w1 ⟨rfl, rfl⟩; dsimp only))
      go_ret
      exact ⟨rfl, hw⟩

set_option maxRecDepth 100000 in
set_option maxHeartbeats 2000000 in
theorem one3 (c n at_ : Int) (w : World) (hc : c = 3) (hof : (0 ≤ cof n ∧ 1 ≤ n ∧ n ≤ 16 ∧ cused n = n) ∨ (cof n < 0 ∧ csz (cof n) = 0 ∧ cused n = 0)) :
    Calls Try.prog 13 #[.int .i64 c, .int .i64 n, .int .i64 at_] w fun e w' => e = .returned (.bool true) ∧ Below w.heap.size w w' := by
  subst hc
  have hz : csz 3 = 4 := by decide
  have hl : csl 3 = 8 := by decide
  have ht : ctail 3 = 0 := by decide
  rcases hof with ⟨o1, o2, o3, o4⟩ | ⟨o1, o2, o3⟩
  · have b1 := (csz_bd (cof n)).1
    have b2 := (csz_bd (cof n)).2
    by_cases h0 : at_ < 0
    · have Hs := Lib.hid (show at_ < 0 ∨ csl 3 * csz 3 ≤ at_ from .inl h0)
      have hw : Below w.heap.size w w := Below.refl _ _
      go_enter Try.func13, Try.ntmps13
      go_wp2_with (first | (go_at_call 44; refine (rsize_any _ _).mono ?_; rintro e w1 ⟨rfl, hb⟩; replace hw := fresh_call hw hb; clear hb; dsimp only) | (go_at_call 45; refine (rclass_any _ _).mono ?_; rintro e w1 ⟨rfl, hb⟩; replace hw := fresh_call hw hb; clear hb; dsimp only) | (go_at_call 40; refine (Cls.alive _).mono ?_; rintro e w1 ⟨rfl, rfl⟩; dsimp only) | (go_at_call 46; refine (slot_out _ _ _ Hs.out).mono ?_; rintro e w1 ⟨rfl, rfl⟩; dsimp only) | (go_at_call 41; refine (of_any _ _).mono ?_; rintro e w1 ⟨rfl, rfl⟩; dsimp only) | (go_at_call 42; refine (size_any _ _).mono ?_; rintro e w1 ⟨rfl, rfl⟩; dsimp only) | (go_at_call 43; refine (slots_any _ _).mono ?_; rintro e w1 ⟨rfl, rfl⟩; dsimp only) | (go_at_call 47; refine (tail_any _ _).mono ?_; rintro e w1 ⟨rfl, rfl⟩; dsimp only) | (go_at_call 48; refine (waste_any _ _).mono ?_; rintro e w1 ⟨rfl, rfl⟩; dsimp only))
      go_ret
      exact ⟨rfl, hw⟩
    by_cases h1 : 32 ≤ at_
    · have Hs := Lib.hid (show at_ < 0 ∨ csl 3 * csz 3 ≤ at_ from .inr (by rw [hl, hz]; omega))
      have hw : Below w.heap.size w w := Below.refl _ _
      go_enter Try.func13, Try.ntmps13
      go_wp2_with (first | (go_at_call 44; refine (rsize_any _ _).mono ?_; rintro e w1 ⟨rfl, hb⟩; replace hw := fresh_call hw hb; clear hb; dsimp only) | (go_at_call 45; refine (rclass_any _ _).mono ?_; rintro e w1 ⟨rfl, hb⟩; replace hw := fresh_call hw hb; clear hb; dsimp only) | (go_at_call 40; refine (Cls.alive _).mono ?_; rintro e w1 ⟨rfl, rfl⟩; dsimp only) | (go_at_call 46; refine (slot_out _ _ _ Hs.out).mono ?_; rintro e w1 ⟨rfl, rfl⟩; dsimp only) | (go_at_call 41; refine (of_any _ _).mono ?_; rintro e w1 ⟨rfl, rfl⟩; dsimp only) | (go_at_call 42; refine (size_any _ _).mono ?_; rintro e w1 ⟨rfl, rfl⟩; dsimp only) | (go_at_call 43; refine (slots_any _ _).mono ?_; rintro e w1 ⟨rfl, rfl⟩; dsimp only) | (go_at_call 47; refine (tail_any _ _).mono ?_; rintro e w1 ⟨rfl, rfl⟩; dsimp only) | (go_at_call 48; refine (waste_any _ _).mono ?_; rintro e w1 ⟨rfl, rfl⟩; dsimp only))
      go_ret
      exact ⟨rfl, hw⟩
    · have Hs := Lib.hid (show at_ < csl 3 * csz 3 by rw [hl, hz]; omega)
      have h2 : 0 ≤ at_ := by omega
      have hw : Below w.heap.size w w := Below.refl _ _
      go_enter Try.func13, Try.ntmps13
      go_wp2_with (first | (go_at_call 44; refine (rsize_any _ _).mono ?_; rintro e w1 ⟨rfl, hb⟩; replace hw := fresh_call hw hb; clear hb; dsimp only) | (go_at_call 45; refine (rclass_any _ _).mono ?_; rintro e w1 ⟨rfl, hb⟩; replace hw := fresh_call hw hb; clear hb; dsimp only) | (go_at_call 40; refine (Cls.alive _).mono ?_; rintro e w1 ⟨rfl, rfl⟩; dsimp only) | (go_at_call 46; refine (slot_in _ _ _ h2 Hs.out).mono ?_; rintro e w1 ⟨rfl, rfl⟩; dsimp only) | (go_at_call 41; refine (of_any _ _).mono ?_; rintro e w1 ⟨rfl, rfl⟩; dsimp only) | (go_at_call 42; refine (size_any _ _).mono ?_; rintro e w1 ⟨rfl, rfl⟩; dsimp only) | (go_at_call 43; refine (slots_any _ _).mono ?_; rintro e w1 ⟨rfl, rfl⟩; dsimp only) | (go_at_call 47; refine (tail_any _ _).mono ?_; rintro e w1 ⟨rfl, rfl⟩; dsimp only) | (go_at_call 48; refine (waste_any _ _).mono ?_; rintro e w1 ⟨rfl, rfl⟩; dsimp only))
      go_ret
      exact ⟨rfl, hw⟩
  · have b0 : True := trivial
    by_cases h0 : at_ < 0
    · have Hs := Lib.hid (show at_ < 0 ∨ csl 3 * csz 3 ≤ at_ from .inl h0)
      have hw : Below w.heap.size w w := Below.refl _ _
      go_enter Try.func13, Try.ntmps13
      go_wp2_with (first | (go_at_call 44; refine (rsize_any _ _).mono ?_; rintro e w1 ⟨rfl, hb⟩; replace hw := fresh_call hw hb; clear hb; dsimp only) | (go_at_call 45; refine (rclass_any _ _).mono ?_; rintro e w1 ⟨rfl, hb⟩; replace hw := fresh_call hw hb; clear hb; dsimp only) | (go_at_call 40; refine (Cls.alive _).mono ?_; rintro e w1 ⟨rfl, rfl⟩; dsimp only) | (go_at_call 46; refine (slot_out _ _ _ Hs.out).mono ?_; rintro e w1 ⟨rfl, rfl⟩; dsimp only) | (go_at_call 41; refine (of_any _ _).mono ?_; rintro e w1 ⟨rfl, rfl⟩; dsimp only) | (go_at_call 42; refine (size_any _ _).mono ?_; rintro e w1 ⟨rfl, rfl⟩; dsimp only) | (go_at_call 43; refine (slots_any _ _).mono ?_; rintro e w1 ⟨rfl, rfl⟩; dsimp only) | (go_at_call 47; refine (tail_any _ _).mono ?_; rintro e w1 ⟨rfl, rfl⟩; dsimp only) | (go_at_call 48; refine (waste_any _ _).mono ?_; rintro e w1 ⟨rfl, rfl⟩; dsimp only))
      go_ret
      exact ⟨rfl, hw⟩
    by_cases h1 : 32 ≤ at_
    · have Hs := Lib.hid (show at_ < 0 ∨ csl 3 * csz 3 ≤ at_ from .inr (by rw [hl, hz]; omega))
      have hw : Below w.heap.size w w := Below.refl _ _
      go_enter Try.func13, Try.ntmps13
      go_wp2_with (first | (go_at_call 44; refine (rsize_any _ _).mono ?_; rintro e w1 ⟨rfl, hb⟩; replace hw := fresh_call hw hb; clear hb; dsimp only) | (go_at_call 45; refine (rclass_any _ _).mono ?_; rintro e w1 ⟨rfl, hb⟩; replace hw := fresh_call hw hb; clear hb; dsimp only) | (go_at_call 40; refine (Cls.alive _).mono ?_; rintro e w1 ⟨rfl, rfl⟩; dsimp only) | (go_at_call 46; refine (slot_out _ _ _ Hs.out).mono ?_; rintro e w1 ⟨rfl, rfl⟩; dsimp only) | (go_at_call 41; refine (of_any _ _).mono ?_; rintro e w1 ⟨rfl, rfl⟩; dsimp only) | (go_at_call 42; refine (size_any _ _).mono ?_; rintro e w1 ⟨rfl, rfl⟩; dsimp only) | (go_at_call 43; refine (slots_any _ _).mono ?_; rintro e w1 ⟨rfl, rfl⟩; dsimp only) | (go_at_call 47; refine (tail_any _ _).mono ?_; rintro e w1 ⟨rfl, rfl⟩; dsimp only) | (go_at_call 48; refine (waste_any _ _).mono ?_; rintro e w1 ⟨rfl, rfl⟩; dsimp only))
      go_ret
      exact ⟨rfl, hw⟩
    · have Hs := Lib.hid (show at_ < csl 3 * csz 3 by rw [hl, hz]; omega)
      have h2 : 0 ≤ at_ := by omega
      have hw : Below w.heap.size w w := Below.refl _ _
      go_enter Try.func13, Try.ntmps13
      go_wp2_with (first | (go_at_call 44; refine (rsize_any _ _).mono ?_; rintro e w1 ⟨rfl, hb⟩; replace hw := fresh_call hw hb; clear hb; dsimp only) | (go_at_call 45; refine (rclass_any _ _).mono ?_; rintro e w1 ⟨rfl, hb⟩; replace hw := fresh_call hw hb; clear hb; dsimp only) | (go_at_call 40; refine (Cls.alive _).mono ?_; rintro e w1 ⟨rfl, rfl⟩; dsimp only) | (go_at_call 46; refine (slot_in _ _ _ h2 Hs.out).mono ?_; rintro e w1 ⟨rfl, rfl⟩; dsimp only) | (go_at_call 41; refine (of_any _ _).mono ?_; rintro e w1 ⟨rfl, rfl⟩; dsimp only) | (go_at_call 42; refine (size_any _ _).mono ?_; rintro e w1 ⟨rfl, rfl⟩; dsimp only) | (go_at_call 43; refine (slots_any _ _).mono ?_; rintro e w1 ⟨rfl, rfl⟩; dsimp only) | (go_at_call 47; refine (tail_any _ _).mono ?_; rintro e w1 ⟨rfl, rfl⟩; dsimp only) | (go_at_call 48; refine (waste_any _ _).mono ?_; rintro e w1 ⟨rfl, rfl⟩; dsimp only))
      go_ret
      exact ⟨rfl, hw⟩

set_option maxRecDepth 100000 in
set_option maxHeartbeats 2000000 in
theorem one4 (c n at_ : Int) (w : World) (hc : c = 4) (hof : (0 ≤ cof n ∧ 1 ≤ n ∧ n ≤ 16 ∧ cused n = n) ∨ (cof n < 0 ∧ csz (cof n) = 0 ∧ cused n = 0)) :
    Calls Try.prog 13 #[.int .i64 c, .int .i64 n, .int .i64 at_] w fun e w' => e = .returned (.bool true) ∧ Below w.heap.size w w' := by
  subst hc
  have hz : csz 4 = 6 := by decide
  have hl : csl 4 = 5 := by decide
  have ht : ctail 4 = 2 := by decide
  rcases hof with ⟨o1, o2, o3, o4⟩ | ⟨o1, o2, o3⟩
  · have b1 := (csz_bd (cof n)).1
    have b2 := (csz_bd (cof n)).2
    by_cases h0 : at_ < 0
    · have Hs := Lib.hid (show at_ < 0 ∨ csl 4 * csz 4 ≤ at_ from .inl h0)
      have hw : Below w.heap.size w w := Below.refl _ _
      go_enter Try.func13, Try.ntmps13
      go_wp2_with (first | (go_at_call 44; refine (rsize_any _ _).mono ?_; rintro e w1 ⟨rfl, hb⟩; replace hw := fresh_call hw hb; clear hb; dsimp only) | (go_at_call 45; refine (rclass_any _ _).mono ?_; rintro e w1 ⟨rfl, hb⟩; replace hw := fresh_call hw hb; clear hb; dsimp only) | (go_at_call 40; refine (Cls.alive _).mono ?_; rintro e w1 ⟨rfl, rfl⟩; dsimp only) | (go_at_call 46; refine (slot_out _ _ _ Hs.out).mono ?_; rintro e w1 ⟨rfl, rfl⟩; dsimp only) | (go_at_call 41; refine (of_any _ _).mono ?_; rintro e w1 ⟨rfl, rfl⟩; dsimp only) | (go_at_call 42; refine (size_any _ _).mono ?_; rintro e w1 ⟨rfl, rfl⟩; dsimp only) | (go_at_call 43; refine (slots_any _ _).mono ?_; rintro e w1 ⟨rfl, rfl⟩; dsimp only) | (go_at_call 47; refine (tail_any _ _).mono ?_; rintro e w1 ⟨rfl, rfl⟩; dsimp only) | (go_at_call 48; refine (waste_any _ _).mono ?_; rintro e w1 ⟨rfl, rfl⟩; dsimp only))
      go_ret
      exact ⟨rfl, hw⟩
    by_cases h1 : 30 ≤ at_
    · have Hs := Lib.hid (show at_ < 0 ∨ csl 4 * csz 4 ≤ at_ from .inr (by rw [hl, hz]; omega))
      have hw : Below w.heap.size w w := Below.refl _ _
      go_enter Try.func13, Try.ntmps13
      go_wp2_with (first | (go_at_call 44; refine (rsize_any _ _).mono ?_; rintro e w1 ⟨rfl, hb⟩; replace hw := fresh_call hw hb; clear hb; dsimp only) | (go_at_call 45; refine (rclass_any _ _).mono ?_; rintro e w1 ⟨rfl, hb⟩; replace hw := fresh_call hw hb; clear hb; dsimp only) | (go_at_call 40; refine (Cls.alive _).mono ?_; rintro e w1 ⟨rfl, rfl⟩; dsimp only) | (go_at_call 46; refine (slot_out _ _ _ Hs.out).mono ?_; rintro e w1 ⟨rfl, rfl⟩; dsimp only) | (go_at_call 41; refine (of_any _ _).mono ?_; rintro e w1 ⟨rfl, rfl⟩; dsimp only) | (go_at_call 42; refine (size_any _ _).mono ?_; rintro e w1 ⟨rfl, rfl⟩; dsimp only) | (go_at_call 43; refine (slots_any _ _).mono ?_; rintro e w1 ⟨rfl, rfl⟩; dsimp only) | (go_at_call 47; refine (tail_any _ _).mono ?_; rintro e w1 ⟨rfl, rfl⟩; dsimp only) | (go_at_call 48; refine (waste_any _ _).mono ?_; rintro e w1 ⟨rfl, rfl⟩; dsimp only))
      go_ret
      exact ⟨rfl, hw⟩
    · have Hs := Lib.hid (show at_ < csl 4 * csz 4 by rw [hl, hz]; omega)
      have h2 : 0 ≤ at_ := by omega
      have hw : Below w.heap.size w w := Below.refl _ _
      go_enter Try.func13, Try.ntmps13
      go_wp2_with (first | (go_at_call 44; refine (rsize_any _ _).mono ?_; rintro e w1 ⟨rfl, hb⟩; replace hw := fresh_call hw hb; clear hb; dsimp only) | (go_at_call 45; refine (rclass_any _ _).mono ?_; rintro e w1 ⟨rfl, hb⟩; replace hw := fresh_call hw hb; clear hb; dsimp only) | (go_at_call 40; refine (Cls.alive _).mono ?_; rintro e w1 ⟨rfl, rfl⟩; dsimp only) | (go_at_call 46; refine (slot_in _ _ _ h2 Hs.out).mono ?_; rintro e w1 ⟨rfl, rfl⟩; dsimp only) | (go_at_call 41; refine (of_any _ _).mono ?_; rintro e w1 ⟨rfl, rfl⟩; dsimp only) | (go_at_call 42; refine (size_any _ _).mono ?_; rintro e w1 ⟨rfl, rfl⟩; dsimp only) | (go_at_call 43; refine (slots_any _ _).mono ?_; rintro e w1 ⟨rfl, rfl⟩; dsimp only) | (go_at_call 47; refine (tail_any _ _).mono ?_; rintro e w1 ⟨rfl, rfl⟩; dsimp only) | (go_at_call 48; refine (waste_any _ _).mono ?_; rintro e w1 ⟨rfl, rfl⟩; dsimp only))
      go_ret
      exact ⟨rfl, hw⟩
  · have b0 : True := trivial
    by_cases h0 : at_ < 0
    · have Hs := Lib.hid (show at_ < 0 ∨ csl 4 * csz 4 ≤ at_ from .inl h0)
      have hw : Below w.heap.size w w := Below.refl _ _
      go_enter Try.func13, Try.ntmps13
      go_wp2_with (first | (go_at_call 44; refine (rsize_any _ _).mono ?_; rintro e w1 ⟨rfl, hb⟩; replace hw := fresh_call hw hb; clear hb; dsimp only) | (go_at_call 45; refine (rclass_any _ _).mono ?_; rintro e w1 ⟨rfl, hb⟩; replace hw := fresh_call hw hb; clear hb; dsimp only) | (go_at_call 40; refine (Cls.alive _).mono ?_; rintro e w1 ⟨rfl, rfl⟩; dsimp only) | (go_at_call 46; refine (slot_out _ _ _ Hs.out).mono ?_; rintro e w1 ⟨rfl, rfl⟩; dsimp only) | (go_at_call 41; refine (of_any _ _).mono ?_; rintro e w1 ⟨rfl, rfl⟩; dsimp only) | (go_at_call 42; refine (size_any _ _).mono ?_; rintro e w1 ⟨rfl, rfl⟩; dsimp only) | (go_at_call 43; refine (slots_any _ _).mono ?_; rintro e w1 ⟨rfl, rfl⟩; dsimp only) | (go_at_call 47; refine (tail_any _ _).mono ?_; rintro e w1 ⟨rfl, rfl⟩; dsimp only) | (go_at_call 48; refine (waste_any _ _).mono ?_; rintro e w1 ⟨rfl, rfl⟩; dsimp only))
      go_ret
      exact ⟨rfl, hw⟩
    by_cases h1 : 30 ≤ at_
    · have Hs := Lib.hid (show at_ < 0 ∨ csl 4 * csz 4 ≤ at_ from .inr (by rw [hl, hz]; omega))
      have hw : Below w.heap.size w w := Below.refl _ _
      go_enter Try.func13, Try.ntmps13
      go_wp2_with (first | (go_at_call 44; refine (rsize_any _ _).mono ?_; rintro e w1 ⟨rfl, hb⟩; replace hw := fresh_call hw hb; clear hb; dsimp only) | (go_at_call 45; refine (rclass_any _ _).mono ?_; rintro e w1 ⟨rfl, hb⟩; replace hw := fresh_call hw hb; clear hb; dsimp only) | (go_at_call 40; refine (Cls.alive _).mono ?_; rintro e w1 ⟨rfl, rfl⟩; dsimp only) | (go_at_call 46; refine (slot_out _ _ _ Hs.out).mono ?_; rintro e w1 ⟨rfl, rfl⟩; dsimp only) | (go_at_call 41; refine (of_any _ _).mono ?_; rintro e w1 ⟨rfl, rfl⟩; dsimp only) | (go_at_call 42; refine (size_any _ _).mono ?_; rintro e w1 ⟨rfl, rfl⟩; dsimp only) | (go_at_call 43; refine (slots_any _ _).mono ?_; rintro e w1 ⟨rfl, rfl⟩; dsimp only) | (go_at_call 47; refine (tail_any _ _).mono ?_; rintro e w1 ⟨rfl, rfl⟩; dsimp only) | (go_at_call 48; refine (waste_any _ _).mono ?_; rintro e w1 ⟨rfl, rfl⟩; dsimp only))
      go_ret
      exact ⟨rfl, hw⟩
    · have Hs := Lib.hid (show at_ < csl 4 * csz 4 by rw [hl, hz]; omega)
      have h2 : 0 ≤ at_ := by omega
      have hw : Below w.heap.size w w := Below.refl _ _
      go_enter Try.func13, Try.ntmps13
      go_wp2_with (first | (go_at_call 44; refine (rsize_any _ _).mono ?_; rintro e w1 ⟨rfl, hb⟩; replace hw := fresh_call hw hb; clear hb; dsimp only) | (go_at_call 45; refine (rclass_any _ _).mono ?_; rintro e w1 ⟨rfl, hb⟩; replace hw := fresh_call hw hb; clear hb; dsimp only) | (go_at_call 40; refine (Cls.alive _).mono ?_; rintro e w1 ⟨rfl, rfl⟩; dsimp only) | (go_at_call 46; refine (slot_in _ _ _ h2 Hs.out).mono ?_; rintro e w1 ⟨rfl, rfl⟩; dsimp only) | (go_at_call 41; refine (of_any _ _).mono ?_; rintro e w1 ⟨rfl, rfl⟩; dsimp only) | (go_at_call 42; refine (size_any _ _).mono ?_; rintro e w1 ⟨rfl, rfl⟩; dsimp only) | (go_at_call 43; refine (slots_any _ _).mono ?_; rintro e w1 ⟨rfl, rfl⟩; dsimp only) | (go_at_call 47; refine (tail_any _ _).mono ?_; rintro e w1 ⟨rfl, rfl⟩; dsimp only) | (go_at_call 48; refine (waste_any _ _).mono ?_; rintro e w1 ⟨rfl, rfl⟩; dsimp only))
      go_ret
      exact ⟨rfl, hw⟩

set_option maxRecDepth 100000 in
set_option maxHeartbeats 2000000 in
theorem one5 (c n at_ : Int) (w : World) (hc : c = 5) (hof : (0 ≤ cof n ∧ 1 ≤ n ∧ n ≤ 16 ∧ cused n = n) ∨ (cof n < 0 ∧ csz (cof n) = 0 ∧ cused n = 0)) :
    Calls Try.prog 13 #[.int .i64 c, .int .i64 n, .int .i64 at_] w fun e w' => e = .returned (.bool true) ∧ Below w.heap.size w w' := by
  subst hc
  have hz : csz 5 = 8 := by decide
  have hl : csl 5 = 4 := by decide
  have ht : ctail 5 = 0 := by decide
  rcases hof with ⟨o1, o2, o3, o4⟩ | ⟨o1, o2, o3⟩
  · have b1 := (csz_bd (cof n)).1
    have b2 := (csz_bd (cof n)).2
    by_cases h0 : at_ < 0
    · have Hs := Lib.hid (show at_ < 0 ∨ csl 5 * csz 5 ≤ at_ from .inl h0)
      have hw : Below w.heap.size w w := Below.refl _ _
      go_enter Try.func13, Try.ntmps13
      go_wp2_with (first | (go_at_call 44; refine (rsize_any _ _).mono ?_; rintro e w1 ⟨rfl, hb⟩; replace hw := fresh_call hw hb; clear hb; dsimp only) | (go_at_call 45; refine (rclass_any _ _).mono ?_; rintro e w1 ⟨rfl, hb⟩; replace hw := fresh_call hw hb; clear hb; dsimp only) | (go_at_call 40; refine (Cls.alive _).mono ?_; rintro e w1 ⟨rfl, rfl⟩; dsimp only) | (go_at_call 46; refine (slot_out _ _ _ Hs.out).mono ?_; rintro e w1 ⟨rfl, rfl⟩; dsimp only) | (go_at_call 41; refine (of_any _ _).mono ?_; rintro e w1 ⟨rfl, rfl⟩; dsimp only) | (go_at_call 42; refine (size_any _ _).mono ?_; rintro e w1 ⟨rfl, rfl⟩; dsimp only) | (go_at_call 43; refine (slots_any _ _).mono ?_; rintro e w1 ⟨rfl, rfl⟩; dsimp only) | (go_at_call 47; refine (tail_any _ _).mono ?_; rintro e w1 ⟨rfl, rfl⟩; dsimp only) | (go_at_call 48; refine (waste_any _ _).mono ?_; rintro e w1 ⟨rfl, rfl⟩; dsimp only))
      go_ret
      exact ⟨rfl, hw⟩
    by_cases h1 : 32 ≤ at_
    · have Hs := Lib.hid (show at_ < 0 ∨ csl 5 * csz 5 ≤ at_ from .inr (by rw [hl, hz]; omega))
      have hw : Below w.heap.size w w := Below.refl _ _
      go_enter Try.func13, Try.ntmps13
      go_wp2_with (first | (go_at_call 44; refine (rsize_any _ _).mono ?_; rintro e w1 ⟨rfl, hb⟩; replace hw := fresh_call hw hb; clear hb; dsimp only) | (go_at_call 45; refine (rclass_any _ _).mono ?_; rintro e w1 ⟨rfl, hb⟩; replace hw := fresh_call hw hb; clear hb; dsimp only) | (go_at_call 40; refine (Cls.alive _).mono ?_; rintro e w1 ⟨rfl, rfl⟩; dsimp only) | (go_at_call 46; refine (slot_out _ _ _ Hs.out).mono ?_; rintro e w1 ⟨rfl, rfl⟩; dsimp only) | (go_at_call 41; refine (of_any _ _).mono ?_; rintro e w1 ⟨rfl, rfl⟩; dsimp only) | (go_at_call 42; refine (size_any _ _).mono ?_; rintro e w1 ⟨rfl, rfl⟩; dsimp only) | (go_at_call 43; refine (slots_any _ _).mono ?_; rintro e w1 ⟨rfl, rfl⟩; dsimp only) | (go_at_call 47; refine (tail_any _ _).mono ?_; rintro e w1 ⟨rfl, rfl⟩; dsimp only) | (go_at_call 48; refine (waste_any _ _).mono ?_; rintro e w1 ⟨rfl, rfl⟩; dsimp only))
      go_ret
      exact ⟨rfl, hw⟩
    · have Hs := Lib.hid (show at_ < csl 5 * csz 5 by rw [hl, hz]; omega)
      have h2 : 0 ≤ at_ := by omega
      have hw : Below w.heap.size w w := Below.refl _ _
      go_enter Try.func13, Try.ntmps13
      go_wp2_with (first | (go_at_call 44; refine (rsize_any _ _).mono ?_; rintro e w1 ⟨rfl, hb⟩; replace hw := fresh_call hw hb; clear hb; dsimp only) | (go_at_call 45; refine (rclass_any _ _).mono ?_; rintro e w1 ⟨rfl, hb⟩; replace hw := fresh_call hw hb; clear hb; dsimp only) | (go_at_call 40; refine (Cls.alive _).mono ?_; rintro e w1 ⟨rfl, rfl⟩; dsimp only) | (go_at_call 46; refine (slot_in _ _ _ h2 Hs.out).mono ?_; rintro e w1 ⟨rfl, rfl⟩; dsimp only) | (go_at_call 41; refine (of_any _ _).mono ?_; rintro e w1 ⟨rfl, rfl⟩; dsimp only) | (go_at_call 42; refine (size_any _ _).mono ?_; rintro e w1 ⟨rfl, rfl⟩; dsimp only) | (go_at_call 43; refine (slots_any _ _).mono ?_; rintro e w1 ⟨rfl, rfl⟩; dsimp only) | (go_at_call 47; refine (tail_any _ _).mono ?_; rintro e w1 ⟨rfl, rfl⟩; dsimp only) | (go_at_call 48; refine (waste_any _ _).mono ?_; rintro e w1 ⟨rfl, rfl⟩; dsimp only))
      go_ret
      exact ⟨rfl, hw⟩
  · have b0 : True := trivial
    by_cases h0 : at_ < 0
    · have Hs := Lib.hid (show at_ < 0 ∨ csl 5 * csz 5 ≤ at_ from .inl h0)
      have hw : Below w.heap.size w w := Below.refl _ _
      go_enter Try.func13, Try.ntmps13
      go_wp2_with (first | (go_at_call 44; refine (rsize_any _ _).mono ?_; rintro e w1 ⟨rfl, hb⟩; replace hw := fresh_call hw hb; clear hb; dsimp only) | (go_at_call 45; refine (rclass_any _ _).mono ?_; rintro e w1 ⟨rfl, hb⟩; replace hw := fresh_call hw hb; clear hb; dsimp only) | (go_at_call 40; refine (Cls.alive _).mono ?_; rintro e w1 ⟨rfl, rfl⟩; dsimp only) | (go_at_call 46; refine (slot_out _ _ _ Hs.out).mono ?_; rintro e w1 ⟨rfl, rfl⟩; dsimp only) | (go_at_call 41; refine (of_any _ _).mono ?_; rintro e w1 ⟨rfl, rfl⟩; dsimp only) | (go_at_call 42; refine (size_any _ _).mono ?_; rintro e w1 ⟨rfl, rfl⟩; dsimp only) | (go_at_call 43; refine (slots_any _ _).mono ?_; rintro e w1 ⟨rfl, rfl⟩; dsimp only) | (go_at_call 47; refine (tail_any _ _).mono ?_; rintro e w1 ⟨rfl, rfl⟩; dsimp only) | (go_at_call 48; refine (waste_any _ _).mono ?_; rintro e w1 ⟨rfl, rfl⟩; dsimp only))
      go_ret
      exact ⟨rfl, hw⟩
    by_cases h1 : 32 ≤ at_
    · have Hs := Lib.hid (show at_ < 0 ∨ csl 5 * csz 5 ≤ at_ from .inr (by rw [hl, hz]; omega))
      have hw : Below w.heap.size w w := Below.refl _ _
      go_enter Try.func13, Try.ntmps13
      go_wp2_with (first | (go_at_call 44; refine (rsize_any _ _).mono ?_; rintro e w1 ⟨rfl, hb⟩; replace hw := fresh_call hw hb; clear hb; dsimp only) | (go_at_call 45; refine (rclass_any _ _).mono ?_; rintro e w1 ⟨rfl, hb⟩; replace hw := fresh_call hw hb; clear hb; dsimp only) | (go_at_call 40; refine (Cls.alive _).mono ?_; rintro e w1 ⟨rfl, rfl⟩; dsimp only) | (go_at_call 46; refine (slot_out _ _ _ Hs.out).mono ?_; rintro e w1 ⟨rfl, rfl⟩; dsimp only) | (go_at_call 41; refine (of_any _ _).mono ?_; rintro e w1 ⟨rfl, rfl⟩; dsimp only) | (go_at_call 42; refine (size_any _ _).mono ?_; rintro e w1 ⟨rfl, rfl⟩; dsimp only) | (go_at_call 43; refine (slots_any _ _).mono ?_; rintro e w1 ⟨rfl, rfl⟩; dsimp only) | (go_at_call 47; refine (tail_any _ _).mono ?_; rintro e w1 ⟨rfl, rfl⟩; dsimp only) | (go_at_call 48; refine (waste_any _ _).mono ?_; rintro e w1 ⟨rfl, rfl⟩; dsimp only))
      go_ret
      exact ⟨rfl, hw⟩
    · have Hs := Lib.hid (show at_ < csl 5 * csz 5 by rw [hl, hz]; omega)
      have h2 : 0 ≤ at_ := by omega
      have hw : Below w.heap.size w w := Below.refl _ _
      go_enter Try.func13, Try.ntmps13
      go_wp2_with (first | (go_at_call 44; refine (rsize_any _ _).mono ?_; rintro e w1 ⟨rfl, hb⟩; replace hw := fresh_call hw hb; clear hb; dsimp only) | (go_at_call 45; refine (rclass_any _ _).mono ?_; rintro e w1 ⟨rfl, hb⟩; replace hw := fresh_call hw hb; clear hb; dsimp only) | (go_at_call 40; refine (Cls.alive _).mono ?_; rintro e w1 ⟨rfl, rfl⟩; dsimp only) | (go_at_call 46; refine (slot_in _ _ _ h2 Hs.out).mono ?_; rintro e w1 ⟨rfl, rfl⟩; dsimp only) | (go_at_call 41; refine (of_any _ _).mono ?_; rintro e w1 ⟨rfl, rfl⟩; dsimp only) | (go_at_call 42; refine (size_any _ _).mono ?_; rintro e w1 ⟨rfl, rfl⟩; dsimp only) | (go_at_call 43; refine (slots_any _ _).mono ?_; rintro e w1 ⟨rfl, rfl⟩; dsimp only) | (go_at_call 47; refine (tail_any _ _).mono ?_; rintro e w1 ⟨rfl, rfl⟩; dsimp only) | (go_at_call 48; refine (waste_any _ _).mono ?_; rintro e w1 ⟨rfl, rfl⟩; dsimp only))
      go_ret
      exact ⟨rfl, hw⟩

set_option maxRecDepth 100000 in
set_option maxHeartbeats 2000000 in
theorem one6 (c n at_ : Int) (w : World) (hc : c = 6) (hof : (0 ≤ cof n ∧ 1 ≤ n ∧ n ≤ 16 ∧ cused n = n) ∨ (cof n < 0 ∧ csz (cof n) = 0 ∧ cused n = 0)) :
    Calls Try.prog 13 #[.int .i64 c, .int .i64 n, .int .i64 at_] w fun e w' => e = .returned (.bool true) ∧ Below w.heap.size w w' := by
  subst hc
  have hz : csz 6 = 12 := by decide
  have hl : csl 6 = 2 := by decide
  have ht : ctail 6 = 8 := by decide
  rcases hof with ⟨o1, o2, o3, o4⟩ | ⟨o1, o2, o3⟩
  · have b1 := (csz_bd (cof n)).1
    have b2 := (csz_bd (cof n)).2
    by_cases h0 : at_ < 0
    · have Hs := Lib.hid (show at_ < 0 ∨ csl 6 * csz 6 ≤ at_ from .inl h0)
      have hw : Below w.heap.size w w := Below.refl _ _
      go_enter Try.func13, Try.ntmps13
      go_wp2_with (first | (go_at_call 44; refine (rsize_any _ _).mono ?_; rintro e w1 ⟨rfl, hb⟩; replace hw := fresh_call hw hb; clear hb; dsimp only) | (go_at_call 45; refine (rclass_any _ _).mono ?_; rintro e w1 ⟨rfl, hb⟩; replace hw := fresh_call hw hb; clear hb; dsimp only) | (go_at_call 40; refine (Cls.alive _).mono ?_; rintro e w1 ⟨rfl, rfl⟩; dsimp only) | (go_at_call 46; refine (slot_out _ _ _ Hs.out).mono ?_; rintro e w1 ⟨rfl, rfl⟩; dsimp only) | (go_at_call 41; refine (of_any _ _).mono ?_; rintro e w1 ⟨rfl, rfl⟩; dsimp only) | (go_at_call 42; refine (size_any _ _).mono ?_; rintro e w1 ⟨rfl, rfl⟩; dsimp only) | (go_at_call 43; refine (slots_any _ _).mono ?_; rintro e w1 ⟨rfl, rfl⟩; dsimp only) | (go_at_call 47; refine (tail_any _ _).mono ?_; rintro e w1 ⟨rfl, rfl⟩; dsimp only) | (go_at_call 48; refine (waste_any _ _).mono ?_; rintro e w1 ⟨rfl, rfl⟩; dsimp only))
      go_ret
      exact ⟨rfl, hw⟩
    by_cases h1 : 24 ≤ at_
    · have Hs := Lib.hid (show at_ < 0 ∨ csl 6 * csz 6 ≤ at_ from .inr (by rw [hl, hz]; omega))
      have hw : Below w.heap.size w w := Below.refl _ _
      go_enter Try.func13, Try.ntmps13
      go_wp2_with (first | (go_at_call 44; refine (rsize_any _ _).mono ?_; rintro e w1 ⟨rfl, hb⟩; replace hw := fresh_call hw hb; clear hb; dsimp only) | (go_at_call 45; refine (rclass_any _ _).mono ?_; rintro e w1 ⟨rfl, hb⟩; replace hw := fresh_call hw hb; clear hb; dsimp only) | (go_at_call 40; refine (Cls.alive _).mono ?_; rintro e w1 ⟨rfl, rfl⟩; dsimp only) | (go_at_call 46; refine (slot_out _ _ _ Hs.out).mono ?_; rintro e w1 ⟨rfl, rfl⟩; dsimp only) | (go_at_call 41; refine (of_any _ _).mono ?_; rintro e w1 ⟨rfl, rfl⟩; dsimp only) | (go_at_call 42; refine (size_any _ _).mono ?_; rintro e w1 ⟨rfl, rfl⟩; dsimp only) | (go_at_call 43; refine (slots_any _ _).mono ?_; rintro e w1 ⟨rfl, rfl⟩; dsimp only) | (go_at_call 47; refine (tail_any _ _).mono ?_; rintro e w1 ⟨rfl, rfl⟩; dsimp only) | (go_at_call 48; refine (waste_any _ _).mono ?_; rintro e w1 ⟨rfl, rfl⟩; dsimp only))
      go_ret
      exact ⟨rfl, hw⟩
    · have Hs := Lib.hid (show at_ < csl 6 * csz 6 by rw [hl, hz]; omega)
      have h2 : 0 ≤ at_ := by omega
      have hw : Below w.heap.size w w := Below.refl _ _
      go_enter Try.func13, Try.ntmps13
      go_wp2_with (first | (go_at_call 44; refine (rsize_any _ _).mono ?_; rintro e w1 ⟨rfl, hb⟩; replace hw := fresh_call hw hb; clear hb; dsimp only) | (go_at_call 45; refine (rclass_any _ _).mono ?_; rintro e w1 ⟨rfl, hb⟩; replace hw := fresh_call hw hb; clear hb; dsimp only) | (go_at_call 40; refine (Cls.alive _).mono ?_; rintro e w1 ⟨rfl, rfl⟩; dsimp only) | (go_at_call 46; refine (slot_in _ _ _ h2 Hs.out).mono ?_; rintro e w1 ⟨rfl, rfl⟩; dsimp only) | (go_at_call 41; refine (of_any _ _).mono ?_; rintro e w1 ⟨rfl, rfl⟩; dsimp only) | (go_at_call 42; refine (size_any _ _).mono ?_; rintro e w1 ⟨rfl, rfl⟩; dsimp only) | (go_at_call 43; refine (slots_any _ _).mono ?_; rintro e w1 ⟨rfl, rfl⟩; dsimp only) | (go_at_call 47; refine (tail_any _ _).mono ?_; rintro e w1 ⟨rfl, rfl⟩; dsimp only) | (go_at_call 48; refine (waste_any _ _).mono ?_; rintro e w1 ⟨rfl, rfl⟩; dsimp only))
      go_ret
      exact ⟨rfl, hw⟩
  · have b0 : True := trivial
    by_cases h0 : at_ < 0
    · have Hs := Lib.hid (show at_ < 0 ∨ csl 6 * csz 6 ≤ at_ from .inl h0)
      have hw : Below w.heap.size w w := Below.refl _ _
      go_enter Try.func13, Try.ntmps13
      go_wp2_with (first | (go_at_call 44; refine (rsize_any _ _).mono ?_; rintro e w1 ⟨rfl, hb⟩; replace hw := fresh_call hw hb; clear hb; dsimp only) | (go_at_call 45; refine (rclass_any _ _).mono ?_; rintro e w1 ⟨rfl, hb⟩; replace hw := fresh_call hw hb; clear hb; dsimp only) | (go_at_call 40; refine (Cls.alive _).mono ?_; rintro e w1 ⟨rfl, rfl⟩; dsimp only) | (go_at_call 46; refine (slot_out _ _ _ Hs.out).mono ?_; rintro e w1 ⟨rfl, rfl⟩; dsimp only) | (go_at_call 41; refine (of_any _ _).mono ?_; rintro e w1 ⟨rfl, rfl⟩; dsimp only) | (go_at_call 42; refine (size_any _ _).mono ?_; rintro e w1 ⟨rfl, rfl⟩; dsimp only) | (go_at_call 43; refine (slots_any _ _).mono ?_; rintro e w1 ⟨rfl, rfl⟩; dsimp only) | (go_at_call 47; refine (tail_any _ _).mono ?_; rintro e w1 ⟨rfl, rfl⟩; dsimp only) | (go_at_call 48; refine (waste_any _ _).mono ?_; rintro e w1 ⟨rfl, rfl⟩; dsimp only))
      go_ret
      exact ⟨rfl, hw⟩
    by_cases h1 : 24 ≤ at_
    · have Hs := Lib.hid (show at_ < 0 ∨ csl 6 * csz 6 ≤ at_ from .inr (by rw [hl, hz]; omega))
      have hw : Below w.heap.size w w := Below.refl _ _
      go_enter Try.func13, Try.ntmps13
      go_wp2_with (first | (go_at_call 44; refine (rsize_any _ _).mono ?_; rintro e w1 ⟨rfl, hb⟩; replace hw := fresh_call hw hb; clear hb; dsimp only) | (go_at_call 45; refine (rclass_any _ _).mono ?_; rintro e w1 ⟨rfl, hb⟩; replace hw := fresh_call hw hb; clear hb; dsimp only) | (go_at_call 40; refine (Cls.alive _).mono ?_; rintro e w1 ⟨rfl, rfl⟩; dsimp only) | (go_at_call 46; refine (slot_out _ _ _ Hs.out).mono ?_; rintro e w1 ⟨rfl, rfl⟩; dsimp only) | (go_at_call 41; refine (of_any _ _).mono ?_; rintro e w1 ⟨rfl, rfl⟩; dsimp only) | (go_at_call 42; refine (size_any _ _).mono ?_; rintro e w1 ⟨rfl, rfl⟩; dsimp only) | (go_at_call 43; refine (slots_any _ _).mono ?_; rintro e w1 ⟨rfl, rfl⟩; dsimp only) | (go_at_call 47; refine (tail_any _ _).mono ?_; rintro e w1 ⟨rfl, rfl⟩; dsimp only) | (go_at_call 48; refine (waste_any _ _).mono ?_; rintro e w1 ⟨rfl, rfl⟩; dsimp only))
      go_ret
      exact ⟨rfl, hw⟩
    · have Hs := Lib.hid (show at_ < csl 6 * csz 6 by rw [hl, hz]; omega)
      have h2 : 0 ≤ at_ := by omega
      have hw : Below w.heap.size w w := Below.refl _ _
      go_enter Try.func13, Try.ntmps13
      go_wp2_with (first | (go_at_call 44; refine (rsize_any _ _).mono ?_; rintro e w1 ⟨rfl, hb⟩; replace hw := fresh_call hw hb; clear hb; dsimp only) | (go_at_call 45; refine (rclass_any _ _).mono ?_; rintro e w1 ⟨rfl, hb⟩; replace hw := fresh_call hw hb; clear hb; dsimp only) | (go_at_call 40; refine (Cls.alive _).mono ?_; rintro e w1 ⟨rfl, rfl⟩; dsimp only) | (go_at_call 46; refine (slot_in _ _ _ h2 Hs.out).mono ?_; rintro e w1 ⟨rfl, rfl⟩; dsimp only) | (go_at_call 41; refine (of_any _ _).mono ?_; rintro e w1 ⟨rfl, rfl⟩; dsimp only) | (go_at_call 42; refine (size_any _ _).mono ?_; rintro e w1 ⟨rfl, rfl⟩; dsimp only) | (go_at_call 43; refine (slots_any _ _).mono ?_; rintro e w1 ⟨rfl, rfl⟩; dsimp only) | (go_at_call 47; refine (tail_any _ _).mono ?_; rintro e w1 ⟨rfl, rfl⟩; dsimp only) | (go_at_call 48; refine (waste_any _ _).mono ?_; rintro e w1 ⟨rfl, rfl⟩; dsimp only))
      go_ret
      exact ⟨rfl, hw⟩

set_option maxRecDepth 100000 in
set_option maxHeartbeats 2000000 in
theorem one7 (c n at_ : Int) (w : World) (hc : c = 7) (hof : (0 ≤ cof n ∧ 1 ≤ n ∧ n ≤ 16 ∧ cused n = n) ∨ (cof n < 0 ∧ csz (cof n) = 0 ∧ cused n = 0)) :
    Calls Try.prog 13 #[.int .i64 c, .int .i64 n, .int .i64 at_] w fun e w' => e = .returned (.bool true) ∧ Below w.heap.size w w' := by
  subst hc
  have hz : csz 7 = 16 := by decide
  have hl : csl 7 = 2 := by decide
  have ht : ctail 7 = 0 := by decide
  rcases hof with ⟨o1, o2, o3, o4⟩ | ⟨o1, o2, o3⟩
  · have b1 := (csz_bd (cof n)).1
    have b2 := (csz_bd (cof n)).2
    by_cases h0 : at_ < 0
    · have Hs := Lib.hid (show at_ < 0 ∨ csl 7 * csz 7 ≤ at_ from .inl h0)
      have hw : Below w.heap.size w w := Below.refl _ _
      go_enter Try.func13, Try.ntmps13
      go_wp2_with (first | (go_at_call 44; refine (rsize_any _ _).mono ?_; rintro e w1 ⟨rfl, hb⟩; replace hw := fresh_call hw hb; clear hb; dsimp only) | (go_at_call 45; refine (rclass_any _ _).mono ?_; rintro e w1 ⟨rfl, hb⟩; replace hw := fresh_call hw hb; clear hb; dsimp only) | (go_at_call 40; refine (Cls.alive _).mono ?_; rintro e w1 ⟨rfl, rfl⟩; dsimp only) | (go_at_call 46; refine (slot_out _ _ _ Hs.out).mono ?_; rintro e w1 ⟨rfl, rfl⟩; dsimp only) | (go_at_call 41; refine (of_any _ _).mono ?_; rintro e w1 ⟨rfl, rfl⟩; dsimp only) | (go_at_call 42; refine (size_any _ _).mono ?_; rintro e w1 ⟨rfl, rfl⟩; dsimp only) | (go_at_call 43; refine (slots_any _ _).mono ?_; rintro e w1 ⟨rfl, rfl⟩; dsimp only) | (go_at_call 47; refine (tail_any _ _).mono ?_; rintro e w1 ⟨rfl, rfl⟩; dsimp only) | (go_at_call 48; refine (waste_any _ _).mono ?_; rintro e w1 ⟨rfl, rfl⟩; dsimp only))
      go_ret
      exact ⟨rfl, hw⟩
    by_cases h1 : 32 ≤ at_
    · have Hs := Lib.hid (show at_ < 0 ∨ csl 7 * csz 7 ≤ at_ from .inr (by rw [hl, hz]; omega))
      have hw : Below w.heap.size w w := Below.refl _ _
      go_enter Try.func13, Try.ntmps13
      go_wp2_with (first | (go_at_call 44; refine (rsize_any _ _).mono ?_; rintro e w1 ⟨rfl, hb⟩; replace hw := fresh_call hw hb; clear hb; dsimp only) | (go_at_call 45; refine (rclass_any _ _).mono ?_; rintro e w1 ⟨rfl, hb⟩; replace hw := fresh_call hw hb; clear hb; dsimp only) | (go_at_call 40; refine (Cls.alive _).mono ?_; rintro e w1 ⟨rfl, rfl⟩; dsimp only) | (go_at_call 46; refine (slot_out _ _ _ Hs.out).mono ?_; rintro e w1 ⟨rfl, rfl⟩; dsimp only) | (go_at_call 41; refine (of_any _ _).mono ?_; rintro e w1 ⟨rfl, rfl⟩; dsimp only) | (go_at_call 42; refine (size_any _ _).mono ?_; rintro e w1 ⟨rfl, rfl⟩; dsimp only) | (go_at_call 43; refine (slots_any _ _).mono ?_; rintro e w1 ⟨rfl, rfl⟩; dsimp only) | (go_at_call 47; refine (tail_any _ _).mono ?_; rintro e w1 ⟨rfl, rfl⟩; dsimp only) | (go_at_call 48; refine (waste_any _ _).mono ?_; rintro e w1 ⟨rfl, rfl⟩; dsimp only))
      go_ret
      exact ⟨rfl, hw⟩
    · have Hs := Lib.hid (show at_ < csl 7 * csz 7 by rw [hl, hz]; omega)
      have h2 : 0 ≤ at_ := by omega
      have hw : Below w.heap.size w w := Below.refl _ _
      go_enter Try.func13, Try.ntmps13
      go_wp2_with (first | (go_at_call 44; refine (rsize_any _ _).mono ?_; rintro e w1 ⟨rfl, hb⟩; replace hw := fresh_call hw hb; clear hb; dsimp only) | (go_at_call 45; refine (rclass_any _ _).mono ?_; rintro e w1 ⟨rfl, hb⟩; replace hw := fresh_call hw hb; clear hb; dsimp only) | (go_at_call 40; refine (Cls.alive _).mono ?_; rintro e w1 ⟨rfl, rfl⟩; dsimp only) | (go_at_call 46; refine (slot_in _ _ _ h2 Hs.out).mono ?_; rintro e w1 ⟨rfl, rfl⟩; dsimp only) | (go_at_call 41; refine (of_any _ _).mono ?_; rintro e w1 ⟨rfl, rfl⟩; dsimp only) | (go_at_call 42; refine (size_any _ _).mono ?_; rintro e w1 ⟨rfl, rfl⟩; dsimp only) | (go_at_call 43; refine (slots_any _ _).mono ?_; rintro e w1 ⟨rfl, rfl⟩; dsimp only) | (go_at_call 47; refine (tail_any _ _).mono ?_; rintro e w1 ⟨rfl, rfl⟩; dsimp only) | (go_at_call 48; refine (waste_any _ _).mono ?_; rintro e w1 ⟨rfl, rfl⟩; dsimp only))
      go_ret
      exact ⟨rfl, hw⟩
  · have b0 : True := trivial
    by_cases h0 : at_ < 0
    · have Hs := Lib.hid (show at_ < 0 ∨ csl 7 * csz 7 ≤ at_ from .inl h0)
      have hw : Below w.heap.size w w := Below.refl _ _
      go_enter Try.func13, Try.ntmps13
      go_wp2_with (first | (go_at_call 44; refine (rsize_any _ _).mono ?_; rintro e w1 ⟨rfl, hb⟩; replace hw := fresh_call hw hb; clear hb; dsimp only) | (go_at_call 45; refine (rclass_any _ _).mono ?_; rintro e w1 ⟨rfl, hb⟩; replace hw := fresh_call hw hb; clear hb; dsimp only) | (go_at_call 40; refine (Cls.alive _).mono ?_; rintro e w1 ⟨rfl, rfl⟩; dsimp only) | (go_at_call 46; refine (slot_out _ _ _ Hs.out).mono ?_; rintro e w1 ⟨rfl, rfl⟩; dsimp only) | (go_at_call 41; refine (of_any _ _).mono ?_; rintro e w1 ⟨rfl, rfl⟩; dsimp only) | (go_at_call 42; refine (size_any _ _).mono ?_; rintro e w1 ⟨rfl, rfl⟩; dsimp only) | (go_at_call 43; refine (slots_any _ _).mono ?_; rintro e w1 ⟨rfl, rfl⟩; dsimp only) | (go_at_call 47; refine (tail_any _ _).mono ?_; rintro e w1 ⟨rfl, rfl⟩; dsimp only) | (go_at_call 48; refine (waste_any _ _).mono ?_; rintro e w1 ⟨rfl, rfl⟩; dsimp only))
      go_ret
      exact ⟨rfl, hw⟩
    by_cases h1 : 32 ≤ at_
    · have Hs := Lib.hid (show at_ < 0 ∨ csl 7 * csz 7 ≤ at_ from .inr (by rw [hl, hz]; omega))
      have hw : Below w.heap.size w w := Below.refl _ _
      go_enter Try.func13, Try.ntmps13
      go_wp2_with (first | (go_at_call 44; refine (rsize_any _ _).mono ?_; rintro e w1 ⟨rfl, hb⟩; replace hw := fresh_call hw hb; clear hb; dsimp only) | (go_at_call 45; refine (rclass_any _ _).mono ?_; rintro e w1 ⟨rfl, hb⟩; replace hw := fresh_call hw hb; clear hb; dsimp only) | (go_at_call 40; refine (Cls.alive _).mono ?_; rintro e w1 ⟨rfl, rfl⟩; dsimp only) | (go_at_call 46; refine (slot_out _ _ _ Hs.out).mono ?_; rintro e w1 ⟨rfl, rfl⟩; dsimp only) | (go_at_call 41; refine (of_any _ _).mono ?_; rintro e w1 ⟨rfl, rfl⟩; dsimp only) | (go_at_call 42; refine (size_any _ _).mono ?_; rintro e w1 ⟨rfl, rfl⟩; dsimp only) | (go_at_call 43; refine (slots_any _ _).mono ?_; rintro e w1 ⟨rfl, rfl⟩; dsimp only) | (go_at_call 47; refine (tail_any _ _).mono ?_; rintro e w1 ⟨rfl, rfl⟩; dsimp only) | (go_at_call 48; refine (waste_any _ _).mono ?_; rintro e w1 ⟨rfl, rfl⟩; dsimp only))
      go_ret
      exact ⟨rfl, hw⟩
    · have Hs := Lib.hid (show at_ < csl 7 * csz 7 by rw [hl, hz]; omega)
      have h2 : 0 ≤ at_ := by omega
      have hw : Below w.heap.size w w := Below.refl _ _
      go_enter Try.func13, Try.ntmps13
      go_wp2_with (first | (go_at_call 44; refine (rsize_any _ _).mono ?_; rintro e w1 ⟨rfl, hb⟩; replace hw := fresh_call hw hb; clear hb; dsimp only) | (go_at_call 45; refine (rclass_any _ _).mono ?_; rintro e w1 ⟨rfl, hb⟩; replace hw := fresh_call hw hb; clear hb; dsimp only) | (go_at_call 40; refine (Cls.alive _).mono ?_; rintro e w1 ⟨rfl, rfl⟩; dsimp only) | (go_at_call 46; refine (slot_in _ _ _ h2 Hs.out).mono ?_; rintro e w1 ⟨rfl, rfl⟩; dsimp only) | (go_at_call 41; refine (of_any _ _).mono ?_; rintro e w1 ⟨rfl, rfl⟩; dsimp only) | (go_at_call 42; refine (size_any _ _).mono ?_; rintro e w1 ⟨rfl, rfl⟩; dsimp only) | (go_at_call 43; refine (slots_any _ _).mono ?_; rintro e w1 ⟨rfl, rfl⟩; dsimp only) | (go_at_call 47; refine (tail_any _ _).mono ?_; rintro e w1 ⟨rfl, rfl⟩; dsimp only) | (go_at_call 48; refine (waste_any _ _).mono ?_; rintro e w1 ⟨rfl, rfl⟩; dsimp only))
      go_ret
      exact ⟨rfl, hw⟩

theorem walk (c n at_ : Int) (w : World) (_wc : (Lit.int .i64 c).wf = true) (_wn : (Lit.int .i64 n).wf = true) (_wa : (Lit.int .i64 at_).wf = true) :
    Calls Try.prog 13 #[.int .i64 c, .int .i64 n, .int .i64 at_] w fun e w' => e = .returned (.bool true) ∧ Below w.heap.size w w' := by
  have hof : (0 ≤ cof n ∧ 1 ≤ n ∧ n ≤ 16 ∧ cused n = n) ∨ (cof n < 0 ∧ csz (cof n) = 0 ∧ cused n = 0) := by
    by_cases h : n < 1 ∨ 16 < n
    · right
      have := cof_no h
      unfold cused
      rw [this]
      exact ⟨by omega, by decide, if_pos (by omega)⟩
    · left
      have := (cof_csz (n := n) (by omega)).1
      exact ⟨this, by omega, by omega, by unfold cused; rw [if_neg (by omega)]⟩
  rcases csz_cases c with h | h | h | h | h | h | h | h | h | h
  · exact none_ c n at_ w (.inl h) hof
  · exact none_ c n at_ w (.inr h) hof
  · exact one0 c n at_ w h hof
  · exact one1 c n at_ w h hof
  · exact one2 c n at_ w h hof
  · exact one3 c n at_ w h hof
  · exact one4 c n at_ w h hof
  · exact one5 c n at_ w h hof
  · exact one6 c n at_ w h hof
  · exact one7 c n at_ w h hof
end Go.Proofs.Ytnolkgciapggdaa.ClassTells
