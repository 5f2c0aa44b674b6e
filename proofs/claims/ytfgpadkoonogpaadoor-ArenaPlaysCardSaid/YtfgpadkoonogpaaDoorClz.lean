/- The contracts of package class and of the reference's two: sizes and classes. No conditions. class.Slot: which slot of a page a word is in. Package class: Of; besomref1.Class. -/
import Derived.Test.YtfgpadkoonogpaaDoorProg
import Derived.Test.YtfgpadkoonogpaaDoorGn
namespace Go.Proofs.YtfgpadkoonogpaaDoor.Cls
open Go.RowKit
set_option linter.unusedSimpArgs false

/-- A class's size. -/
def csz (c : Int) : Int := if c = 0 then 1 else if c = 1 then 2 else if c = 2 then 3 else if c = 3 then 4 else if c = 4 then 6 else if c = 5 then 8 else if c = 6 then 12 else if c = 7 then 16 else 0
/-- The least class for so many words. -/
def cof (n : Int) : Int := if n < 1 then -1 else if n ≤ 1 then 0 else if n ≤ 2 then 1 else if n ≤ 3 then 2 else if n ≤ 4 then 3 else if n ≤ 6 then 4 else if n ≤ 8 then 5 else if n ≤ 12 then 6 else if n ≤ 16 then 7 else -1
/-- How many slots a page has. -/
def csl (c : Int) : Int := if c = 0 then 32 else if c = 1 then 16 else if c = 2 then 10 else if c = 3 then 8 else if c = 4 then 5 else if c = 5 then 4 else if c = 6 then 2 else if c = 7 then 2 else 0
theorem csz_cases (c : Int) : c < 0 ∨ 8 ≤ c ∨ c = 0 ∨ c = 1 ∨ c = 2 ∨ c = 3 ∨ c = 4 ∨ c = 5 ∨ c = 6 ∨ c = 7 := by omega
theorem csz_out {c : Int} (h : c < 0 ∨ 8 ≤ c) : csz c = 0 := by unfold csz; repeat (rw [if_neg (by omega)])
theorem csl_out {c : Int} (h : c < 0 ∨ 8 ≤ c) : csl c = 0 := by unfold csl; repeat (rw [if_neg (by omega)])
theorem csz_bd (c : Int) : 0 ≤ csz c ∧ csz c ≤ 16 := by
  rcases csz_cases c with h | h | rfl | rfl | rfl | rfl | rfl | rfl | rfl | rfl
  · rw [csz_out (.inl h)]; omega
  · rw [csz_out (.inr h)]; omega
  all_goals decide
theorem csz_pos {c : Int} (h : 0 ≤ c ∧ c < 8) : 1 ≤ csz c := by
  rcases csz_cases c with h' | h' | rfl | rfl | rfl | rfl | rfl | rfl | rfl | rfl
  · omega
  · omega
  all_goals decide
theorem cof_is {n : Int} {k : Nat} (hk : k < 8) (h1 : 1 ≤ n) (h2 : n ≤ csz k) (h3 : ∀ j : Nat, j < k → csz j < n) : cof n = k := by
  have hk' : k = 0 ∨ k = 1 ∨ k = 2 ∨ k = 3 ∨ k = 4 ∨ k = 5 ∨ k = 6 ∨ k = 7 := by omega
  rcases hk' with rfl | rfl | rfl | rfl | rfl | rfl | rfl | rfl
  · simp [csz] at h2; unfold cof; rw [if_neg (by omega), if_pos (by omega)]; rfl
  all_goals
    have hp := h3 _ (Nat.lt_succ_self _)
    simp [csz] at h2 hp
    unfold cof
    repeat (first | rw [if_neg (by omega)] | rw [if_pos (by omega)])
    try rfl
theorem cof_no {n : Int} (h : n < 1 ∨ 16 < n) : cof n = -1 := by
  unfold cof
  rcases h with h | h
  · rw [if_pos h]
  · repeat (rw [if_neg (by omega)])
theorem cof_bd (n : Int) : -1 ≤ cof n ∧ cof n ≤ 7 := by
  unfold cof
  repeat' split
  all_goals omega
/-- The class of so many words holds them. -/
theorem cof_csz {n : Int} (h : 1 ≤ n ∧ n ≤ 16) : 0 ≤ cof n ∧ n ≤ csz (cof n) := by
  obtain ⟨h1, h2⟩ := h
  have hn : n = 1 ∨ n = 2 ∨ n = 3 ∨ n = 4 ∨ n = 5 ∨ n = 6 ∨ n = 7 ∨ n = 8 ∨ n = 9 ∨ n = 10 ∨ n = 11 ∨ n = 12 ∨ n = 13 ∨ n = 14 ∨ n = 15 ∨ n = 16 := by omega
  rcases hn with rfl | rfl | rfl | rfl | rfl | rfl | rfl | rfl | rfl | rfl | rfl | rfl | rfl | rfl | rfl | rfl <;> decide

theorem size_any (c : Int) (w : World) : Calls Tryd.prog 46 #[.int .i64 c] w fun e w' => e = .returned (.int .i64 (csz c)) ∧ w = w' := by
  rcases csz_cases c with h | h | rfl | rfl | rfl | rfl | rfl | rfl | rfl | rfl
  · rw [csz_out (.inl h)]
    go_enter Tryd.func46, Tryd.ntmps46
    go_wp2
    go_ret
    exact ⟨rfl, rfl⟩
  · rw [csz_out (.inr h)]
    go_enter Tryd.func46, Tryd.ntmps46
    go_wp2
    go_ret
    exact ⟨rfl, rfl⟩
  all_goals
    go_enter Tryd.func46, Tryd.ntmps46
    go_wp2
    go_ret
    exact ⟨by simp [csz], rfl⟩

theorem rsize_any (c : Int) (w : World) : Calls Tryd.prog 8 #[.int .i64 c] w fun e w' => e = .returned (.int .i64 (csz c)) ∧ Below w.heap.size w w' := by
  rcases csz_cases c with h | h | rfl | rfl | rfl | rfl | rfl | rfl | rfl | rfl
  · rw [csz_out (.inl h)]
    go_enter Tryd.func8, Tryd.ntmps8
    go_wp2
    go_ret
    exact ⟨rfl, Below.refl _ _⟩
  · rw [csz_out (.inr h)]
    go_enter Tryd.func8, Tryd.ntmps8
    go_wp2
    go_ret
    exact ⟨rfl, Below.refl _ _⟩
  all_goals
    go_enter Tryd.func8, Tryd.ntmps8
    go_wp2
    go_ret
    exact ⟨by simp [csz], (Below.refl _ _).alloc (Nat.le_refl _) _⟩

theorem slots_any (c : Int) (w : World) : Calls Tryd.prog 85 #[.int .i64 c] w fun e w' => e = .returned (.int .i64 (csl c)) ∧ w = w' := by
  rcases csz_cases c with h | h | rfl | rfl | rfl | rfl | rfl | rfl | rfl | rfl
  · have hz := csz_out (.inl h)
    have hl := csl_out (.inl h)
    rw [hl]
    go_enter Tryd.func85, Tryd.ntmps85
    go_wp2_with ((go_at_call 46; refine (size_any _ _).mono ?_; rintro e w1 ⟨rfl, rfl⟩; dsimp only))
    go_ret
    exact ⟨rfl, rfl⟩
  · have hz := csz_out (.inr h)
    have hl := csl_out (.inr h)
    rw [hl]
    go_enter Tryd.func85, Tryd.ntmps85
    go_wp2_with ((go_at_call 46; refine (size_any _ _).mono ?_; rintro e w1 ⟨rfl, rfl⟩; dsimp only))
    go_ret
    exact ⟨rfl, rfl⟩
  · have hz : csz 0 = 1 := by decide
    have hl : csl 0 = 32 := by decide
    rw [hl]
    go_enter Tryd.func85, Tryd.ntmps85
    go_wp2_with ((go_at_call 46; refine (size_any _ _).mono ?_; rintro e w1 ⟨rfl, rfl⟩; dsimp only))
    go_ret
    exact ⟨rfl, rfl⟩
  · have hz : csz 1 = 2 := by decide
    have hl : csl 1 = 16 := by decide
    rw [hl]
    go_enter Tryd.func85, Tryd.ntmps85
    go_wp2_with ((go_at_call 46; refine (size_any _ _).mono ?_; rintro e w1 ⟨rfl, rfl⟩; dsimp only))
    go_ret
    exact ⟨rfl, rfl⟩
  · have hz : csz 2 = 3 := by decide
    have hl : csl 2 = 10 := by decide
    rw [hl]
    go_enter Tryd.func85, Tryd.ntmps85
    go_wp2_with ((go_at_call 46; refine (size_any _ _).mono ?_; rintro e w1 ⟨rfl, rfl⟩; dsimp only))
    go_ret
    exact ⟨rfl, rfl⟩
  · have hz : csz 3 = 4 := by decide
    have hl : csl 3 = 8 := by decide
    rw [hl]
    go_enter Tryd.func85, Tryd.ntmps85
    go_wp2_with ((go_at_call 46; refine (size_any _ _).mono ?_; rintro e w1 ⟨rfl, rfl⟩; dsimp only))
    go_ret
    exact ⟨rfl, rfl⟩
  · have hz : csz 4 = 6 := by decide
    have hl : csl 4 = 5 := by decide
    rw [hl]
    go_enter Tryd.func85, Tryd.ntmps85
    go_wp2_with ((go_at_call 46; refine (size_any _ _).mono ?_; rintro e w1 ⟨rfl, rfl⟩; dsimp only))
    go_ret
    exact ⟨rfl, rfl⟩
  · have hz : csz 5 = 8 := by decide
    have hl : csl 5 = 4 := by decide
    rw [hl]
    go_enter Tryd.func85, Tryd.ntmps85
    go_wp2_with ((go_at_call 46; refine (size_any _ _).mono ?_; rintro e w1 ⟨rfl, rfl⟩; dsimp only))
    go_ret
    exact ⟨rfl, rfl⟩
  · have hz : csz 6 = 12 := by decide
    have hl : csl 6 = 2 := by decide
    rw [hl]
    go_enter Tryd.func85, Tryd.ntmps85
    go_wp2_with ((go_at_call 46; refine (size_any _ _).mono ?_; rintro e w1 ⟨rfl, rfl⟩; dsimp only))
    go_ret
    exact ⟨rfl, rfl⟩
  · have hz : csz 7 = 16 := by decide
    have hl : csl 7 = 2 := by decide
    rw [hl]
    go_enter Tryd.func85, Tryd.ntmps85
    go_wp2_with ((go_at_call 46; refine (size_any _ _).mono ?_; rintro e w1 ⟨rfl, rfl⟩; dsimp only))
    go_ret
    exact ⟨rfl, rfl⟩
end Go.Proofs.YtfgpadkoonogpaaDoor.Cls

namespace Go.Proofs.YtfgpadkoonogpaaDoor.Cls
open Go.RowKit
set_option linter.unusedSimpArgs false

theorem slot_in (c at_ : Int) (w : World) (h1 : 0 ≤ at_) (h2 : at_ < csl c * csz c) :
    Calls Tryd.prog 76 #[.int .i64 c, .int .i64 at_] w fun e w' => e = .returned (.tuple #[.int .i64 (at_ / csz c), .bool true]) ∧ w = w' := by
  rcases csz_cases c with h | h | rfl | rfl | rfl | rfl | rfl | rfl | rfl | rfl
  · have hz := csz_out (.inl h)
    have hl := csl_out (.inl h)
    rw [hl, hz] at h2
    omega
  · have hz := csz_out (.inr h)
    have hl := csl_out (.inr h)
    rw [hl, hz] at h2
    omega
  · have hz : csz 0 = 1 := by decide
    have hl : csl 0 = 32 := by decide
    rw [hl, hz] at h2
    rw [hz]
    have hne : ((1 : Int) == 0) = false := by decide
    go_enter Tryd.func76, Tryd.ntmps76
    go_wp2_with (first | (go_at_call 46; refine (size_any _ _).mono ?_; rintro e w1 ⟨rfl, rfl⟩; dsimp only) | (go_at_call 85; refine (slots_any _ _).mono ?_; rintro e w1 ⟨rfl, rfl⟩; dsimp only))
    go_ret2
    exact ⟨by rw [Int.ediv_one]; rfl, rfl⟩
  · have hz : csz 1 = 2 := by decide
    have hl : csl 1 = 16 := by decide
    rw [hl, hz] at h2
    rw [hz]
    have hne : ((2 : Int) == 0) = false := by decide
    go_enter Tryd.func76, Tryd.ntmps76
    go_wp2_with (first | (go_at_call 46; refine (size_any _ _).mono ?_; rintro e w1 ⟨rfl, rfl⟩; dsimp only) | (go_at_call 85; refine (slots_any _ _).mono ?_; rintro e w1 ⟨rfl, rfl⟩; dsimp only))
    go_ret2
    exact ⟨rfl, rfl⟩
  · have hz : csz 2 = 3 := by decide
    have hl : csl 2 = 10 := by decide
    rw [hl, hz] at h2
    rw [hz]
    have hne : ((3 : Int) == 0) = false := by decide
    go_enter Tryd.func76, Tryd.ntmps76
    go_wp2_with (first | (go_at_call 46; refine (size_any _ _).mono ?_; rintro e w1 ⟨rfl, rfl⟩; dsimp only) | (go_at_call 85; refine (slots_any _ _).mono ?_; rintro e w1 ⟨rfl, rfl⟩; dsimp only))
    go_ret2
    exact ⟨rfl, rfl⟩
  · have hz : csz 3 = 4 := by decide
    have hl : csl 3 = 8 := by decide
    rw [hl, hz] at h2
    rw [hz]
    have hne : ((4 : Int) == 0) = false := by decide
    go_enter Tryd.func76, Tryd.ntmps76
    go_wp2_with (first | (go_at_call 46; refine (size_any _ _).mono ?_; rintro e w1 ⟨rfl, rfl⟩; dsimp only) | (go_at_call 85; refine (slots_any _ _).mono ?_; rintro e w1 ⟨rfl, rfl⟩; dsimp only))
    go_ret2
    exact ⟨rfl, rfl⟩
  · have hz : csz 4 = 6 := by decide
    have hl : csl 4 = 5 := by decide
    rw [hl, hz] at h2
    rw [hz]
    have hne : ((6 : Int) == 0) = false := by decide
    go_enter Tryd.func76, Tryd.ntmps76
    go_wp2_with (first | (go_at_call 46; refine (size_any _ _).mono ?_; rintro e w1 ⟨rfl, rfl⟩; dsimp only) | (go_at_call 85; refine (slots_any _ _).mono ?_; rintro e w1 ⟨rfl, rfl⟩; dsimp only))
    go_ret2
    exact ⟨rfl, rfl⟩
  · have hz : csz 5 = 8 := by decide
    have hl : csl 5 = 4 := by decide
    rw [hl, hz] at h2
    rw [hz]
    have hne : ((8 : Int) == 0) = false := by decide
    go_enter Tryd.func76, Tryd.ntmps76
    go_wp2_with (first | (go_at_call 46; refine (size_any _ _).mono ?_; rintro e w1 ⟨rfl, rfl⟩; dsimp only) | (go_at_call 85; refine (slots_any _ _).mono ?_; rintro e w1 ⟨rfl, rfl⟩; dsimp only))
    go_ret2
    exact ⟨rfl, rfl⟩
  · have hz : csz 6 = 12 := by decide
    have hl : csl 6 = 2 := by decide
    rw [hl, hz] at h2
    rw [hz]
    have hne : ((12 : Int) == 0) = false := by decide
    go_enter Tryd.func76, Tryd.ntmps76
    go_wp2_with (first | (go_at_call 46; refine (size_any _ _).mono ?_; rintro e w1 ⟨rfl, rfl⟩; dsimp only) | (go_at_call 85; refine (slots_any _ _).mono ?_; rintro e w1 ⟨rfl, rfl⟩; dsimp only))
    go_ret2
    exact ⟨rfl, rfl⟩
  · have hz : csz 7 = 16 := by decide
    have hl : csl 7 = 2 := by decide
    rw [hl, hz] at h2
    rw [hz]
    have hne : ((16 : Int) == 0) = false := by decide
    go_enter Tryd.func76, Tryd.ntmps76
    go_wp2_with (first | (go_at_call 46; refine (size_any _ _).mono ?_; rintro e w1 ⟨rfl, rfl⟩; dsimp only) | (go_at_call 85; refine (slots_any _ _).mono ?_; rintro e w1 ⟨rfl, rfl⟩; dsimp only))
    go_ret2
    exact ⟨rfl, rfl⟩

theorem slot_out (c at_ : Int) (w : World) (h : at_ < 0 ∨ csl c * csz c ≤ at_) :
    Calls Tryd.prog 76 #[.int .i64 c, .int .i64 at_] w fun e w' => e = .returned (.tuple #[.int .i64 0, .bool false]) ∧ w = w' := by
  rcases csz_cases c with g | g | rfl | rfl | rfl | rfl | rfl | rfl | rfl | rfl
  · have hz := csz_out (.inl g)
    have hl := csl_out (.inl g)
    rw [hl, hz] at h
    by_cases h0 : at_ < 0
    · go_enter Tryd.func76, Tryd.ntmps76
      go_wp2_with (first | (go_at_call 46; refine (size_any _ _).mono ?_; rintro e w1 ⟨rfl, rfl⟩; dsimp only) | (go_at_call 85; refine (slots_any _ _).mono ?_; rintro e w1 ⟨rfl, rfl⟩; dsimp only))
      go_ret2
      exact ⟨rfl, rfl⟩
    · have h1 : 0 ≤ at_ := by omega
      clear h
      go_enter Tryd.func76, Tryd.ntmps76
      go_wp2_with (first | (go_at_call 46; refine (size_any _ _).mono ?_; rintro e w1 ⟨rfl, rfl⟩; dsimp only) | (go_at_call 85; refine (slots_any _ _).mono ?_; rintro e w1 ⟨rfl, rfl⟩; dsimp only))
      go_ret2
      exact ⟨rfl, rfl⟩
  · have hz := csz_out (.inr g)
    have hl := csl_out (.inr g)
    rw [hl, hz] at h
    by_cases h0 : at_ < 0
    · go_enter Tryd.func76, Tryd.ntmps76
      go_wp2_with (first | (go_at_call 46; refine (size_any _ _).mono ?_; rintro e w1 ⟨rfl, rfl⟩; dsimp only) | (go_at_call 85; refine (slots_any _ _).mono ?_; rintro e w1 ⟨rfl, rfl⟩; dsimp only))
      go_ret2
      exact ⟨rfl, rfl⟩
    · have h1 : 0 ≤ at_ := by omega
      clear h
      go_enter Tryd.func76, Tryd.ntmps76
      go_wp2_with (first | (go_at_call 46; refine (size_any _ _).mono ?_; rintro e w1 ⟨rfl, rfl⟩; dsimp only) | (go_at_call 85; refine (slots_any _ _).mono ?_; rintro e w1 ⟨rfl, rfl⟩; dsimp only))
      go_ret2
      exact ⟨rfl, rfl⟩
  · have hz : csz 0 = 1 := by decide
    have hl : csl 0 = 32 := by decide
    rw [hl, hz] at h
    by_cases h0 : at_ < 0
    · go_enter Tryd.func76, Tryd.ntmps76
      go_wp2_with (first | (go_at_call 46; refine (size_any _ _).mono ?_; rintro e w1 ⟨rfl, rfl⟩; dsimp only) | (go_at_call 85; refine (slots_any _ _).mono ?_; rintro e w1 ⟨rfl, rfl⟩; dsimp only))
      go_ret2
      exact ⟨rfl, rfl⟩
    · have h1 : 32 ≤ at_ := by omega
      clear h
      go_enter Tryd.func76, Tryd.ntmps76
      go_wp2_with (first | (go_at_call 46; refine (size_any _ _).mono ?_; rintro e w1 ⟨rfl, rfl⟩; dsimp only) | (go_at_call 85; refine (slots_any _ _).mono ?_; rintro e w1 ⟨rfl, rfl⟩; dsimp only))
      go_ret2
      exact ⟨rfl, rfl⟩
  · have hz : csz 1 = 2 := by decide
    have hl : csl 1 = 16 := by decide
    rw [hl, hz] at h
    by_cases h0 : at_ < 0
    · go_enter Tryd.func76, Tryd.ntmps76
      go_wp2_with (first | (go_at_call 46; refine (size_any _ _).mono ?_; rintro e w1 ⟨rfl, rfl⟩; dsimp only) | (go_at_call 85; refine (slots_any _ _).mono ?_; rintro e w1 ⟨rfl, rfl⟩; dsimp only))
      go_ret2
      exact ⟨rfl, rfl⟩
    · have h1 : 32 ≤ at_ := by omega
      clear h
      go_enter Tryd.func76, Tryd.ntmps76
      go_wp2_with (first | (go_at_call 46; refine (size_any _ _).mono ?_; rintro e w1 ⟨rfl, rfl⟩; dsimp only) | (go_at_call 85; refine (slots_any _ _).mono ?_; rintro e w1 ⟨rfl, rfl⟩; dsimp only))
      go_ret2
      exact ⟨rfl, rfl⟩
  · have hz : csz 2 = 3 := by decide
    have hl : csl 2 = 10 := by decide
    rw [hl, hz] at h
    by_cases h0 : at_ < 0
    · go_enter Tryd.func76, Tryd.ntmps76
      go_wp2_with (first | (go_at_call 46; refine (size_any _ _).mono ?_; rintro e w1 ⟨rfl, rfl⟩; dsimp only) | (go_at_call 85; refine (slots_any _ _).mono ?_; rintro e w1 ⟨rfl, rfl⟩; dsimp only))
      go_ret2
      exact ⟨rfl, rfl⟩
    · have h1 : 30 ≤ at_ := by omega
      clear h
      go_enter Tryd.func76, Tryd.ntmps76
      go_wp2_with (first | (go_at_call 46; refine (size_any _ _).mono ?_; rintro e w1 ⟨rfl, rfl⟩; dsimp only) | (go_at_call 85; refine (slots_any _ _).mono ?_; rintro e w1 ⟨rfl, rfl⟩; dsimp only))
      go_ret2
      exact ⟨rfl, rfl⟩
  · have hz : csz 3 = 4 := by decide
    have hl : csl 3 = 8 := by decide
    rw [hl, hz] at h
    by_cases h0 : at_ < 0
    · go_enter Tryd.func76, Tryd.ntmps76
      go_wp2_with (first | (go_at_call 46; refine (size_any _ _).mono ?_; rintro e w1 ⟨rfl, rfl⟩; dsimp only) | (go_at_call 85; refine (slots_any _ _).mono ?_; rintro e w1 ⟨rfl, rfl⟩; dsimp only))
      go_ret2
      exact ⟨rfl, rfl⟩
    · have h1 : 32 ≤ at_ := by omega
      clear h
      go_enter Tryd.func76, Tryd.ntmps76
      go_wp2_with (first | (go_at_call 46; refine (size_any _ _).mono ?_; rintro e w1 ⟨rfl, rfl⟩; dsimp only) | (go_at_call 85; refine (slots_any _ _).mono ?_; rintro e w1 ⟨rfl, rfl⟩; dsimp only))
      go_ret2
      exact ⟨rfl, rfl⟩
  · have hz : csz 4 = 6 := by decide
    have hl : csl 4 = 5 := by decide
    rw [hl, hz] at h
    by_cases h0 : at_ < 0
    · go_enter Tryd.func76, Tryd.ntmps76
      go_wp2_with (first | (go_at_call 46; refine (size_any _ _).mono ?_; rintro e w1 ⟨rfl, rfl⟩; dsimp only) | (go_at_call 85; refine (slots_any _ _).mono ?_; rintro e w1 ⟨rfl, rfl⟩; dsimp only))
      go_ret2
      exact ⟨rfl, rfl⟩
    · have h1 : 30 ≤ at_ := by omega
      clear h
      go_enter Tryd.func76, Tryd.ntmps76
      go_wp2_with (first | (go_at_call 46; refine (size_any _ _).mono ?_; rintro e w1 ⟨rfl, rfl⟩; dsimp only) | (go_at_call 85; refine (slots_any _ _).mono ?_; rintro e w1 ⟨rfl, rfl⟩; dsimp only))
      go_ret2
      exact ⟨rfl, rfl⟩
  · have hz : csz 5 = 8 := by decide
    have hl : csl 5 = 4 := by decide
    rw [hl, hz] at h
    by_cases h0 : at_ < 0
    · go_enter Tryd.func76, Tryd.ntmps76
      go_wp2_with (first | (go_at_call 46; refine (size_any _ _).mono ?_; rintro e w1 ⟨rfl, rfl⟩; dsimp only) | (go_at_call 85; refine (slots_any _ _).mono ?_; rintro e w1 ⟨rfl, rfl⟩; dsimp only))
      go_ret2
      exact ⟨rfl, rfl⟩
    · have h1 : 32 ≤ at_ := by omega
      clear h
      go_enter Tryd.func76, Tryd.ntmps76
      go_wp2_with (first | (go_at_call 46; refine (size_any _ _).mono ?_; rintro e w1 ⟨rfl, rfl⟩; dsimp only) | (go_at_call 85; refine (slots_any _ _).mono ?_; rintro e w1 ⟨rfl, rfl⟩; dsimp only))
      go_ret2
      exact ⟨rfl, rfl⟩
  · have hz : csz 6 = 12 := by decide
    have hl : csl 6 = 2 := by decide
    rw [hl, hz] at h
    by_cases h0 : at_ < 0
    · go_enter Tryd.func76, Tryd.ntmps76
      go_wp2_with (first | (go_at_call 46; refine (size_any _ _).mono ?_; rintro e w1 ⟨rfl, rfl⟩; dsimp only) | (go_at_call 85; refine (slots_any _ _).mono ?_; rintro e w1 ⟨rfl, rfl⟩; dsimp only))
      go_ret2
      exact ⟨rfl, rfl⟩
    · have h1 : 24 ≤ at_ := by omega
      clear h
      go_enter Tryd.func76, Tryd.ntmps76
      go_wp2_with (first | (go_at_call 46; refine (size_any _ _).mono ?_; rintro e w1 ⟨rfl, rfl⟩; dsimp only) | (go_at_call 85; refine (slots_any _ _).mono ?_; rintro e w1 ⟨rfl, rfl⟩; dsimp only))
      go_ret2
      exact ⟨rfl, rfl⟩
  · have hz : csz 7 = 16 := by decide
    have hl : csl 7 = 2 := by decide
    rw [hl, hz] at h
    by_cases h0 : at_ < 0
    · go_enter Tryd.func76, Tryd.ntmps76
      go_wp2_with (first | (go_at_call 46; refine (size_any _ _).mono ?_; rintro e w1 ⟨rfl, rfl⟩; dsimp only) | (go_at_call 85; refine (slots_any _ _).mono ?_; rintro e w1 ⟨rfl, rfl⟩; dsimp only))
      go_ret2
      exact ⟨rfl, rfl⟩
    · have h1 : 32 ≤ at_ := by omega
      clear h
      go_enter Tryd.func76, Tryd.ntmps76
      go_wp2_with (first | (go_at_call 46; refine (size_any _ _).mono ?_; rintro e w1 ⟨rfl, rfl⟩; dsimp only) | (go_at_call 85; refine (slots_any _ _).mono ?_; rintro e w1 ⟨rfl, rfl⟩; dsimp only))
      go_ret2
      exact ⟨rfl, rfl⟩

end Go.Proofs.YtfgpadkoonogpaaDoor.Cls

namespace Go.Proofs.YtfgpadkoonogpaaDoor.Cls
open Go.RowKit
set_option linter.unusedSimpArgs false

theorem of_any (n : Int) (w : World) : Calls Tryd.prog 75 #[.int .i64 n] w fun e w' => e = .returned (.int .i64 (cof n)) ∧ w = w' := by
  go_enter Tryd.func75, Tryd.ntmps75
  go_wp2
  go_loop [4] (fun i => ∃ k : Nat, k ≤ 8 ∧ i = .int .i64 k ∧ ∀ j : Nat, j < k → (1 ≤ n → csz j < n)) (fun i => 8 - (intOf i).toNat)
  case atStart => exact ⟨0, by omega, rfl, fun j hj => by omega⟩
  case round =>
    obtain ⟨k, hk, rfl, hj⟩ := hrel
    have HJ := Lib.hid hj
    clear hj
    by_cases hlt : k < 8
    · by_cases h1 : 1 ≤ n
      · by_cases h2 : n ≤ csz k
        · go_wp2_with fail
          refine (size_any _ _).mono ?_
          rintro e w1 ⟨rfl, rfl⟩
          dsimp only
          go_wp2
          go_ret
          exact ⟨ret_int (cof_is hlt h1 h2 (fun j hj => HJ.out j hj h1)).symm, rfl⟩
        · go_wp2_with fail
          refine (size_any _ _).mono ?_
          rintro e w1 ⟨rfl, rfl⟩
          dsimp only
          go_wp2
          refine ⟨⟨k + 1, by omega, by go_num, fun j hj _ => ?_⟩, by simp [intOf]; omega⟩
          by_cases hjk : j = k
          · subst hjk; omega
          · exact HJ.out j (by omega) h1
      · go_wp2
        refine ⟨⟨k + 1, by omega, by go_num, fun j hj h => absurd h h1⟩, by simp [intOf]; omega⟩
    · obtain rfl : k = 8 := by omega
      go_wp2
      go_ret
      refine ⟨ret_int (cof_no ?_).symm, rfl⟩
      by_cases h1 : n < 1
      · exact .inl h1
      · have := HJ.out 7 (by omega) (by omega)
        simp [csz] at this
        omega

theorem rclass_any (n : Int) (w : World) : Calls Tryd.prog 79 #[.int .i64 n] w fun e w' => e = .returned (.int .i64 (cof n)) ∧ Below w.heap.size w w' := by
  go_enter Tryd.func79, Tryd.ntmps79
  go_wp2
  go_loopw [3] (fun i wr => ∃ k : Nat, k ≤ 8 ∧ i = .int .i64 k ∧ (∀ j : Nat, j < k → (1 ≤ n → csz j < n)) ∧ Below w.heap.size w wr) (fun i _ => 8 - (intOf i).toNat)
  case atStart => exact ⟨0, by omega, rfl, fun j hj => by omega, Below.refl _ _⟩
  case round =>
    obtain ⟨k, hk, rfl, hj, hw⟩ := hrel
    have HJ := Lib.hid hj
    clear hj
    by_cases hlt : k < 8
    · by_cases h1 : 1 ≤ n
      · by_cases h2 : n ≤ csz k
        · go_wp2_with fail
          refine (rsize_any _ _).mono ?_
          rintro e w1 ⟨rfl, hb⟩
          dsimp only
          go_wp2
          go_ret
          exact ⟨ret_int (cof_is hlt h1 h2 (fun j hj => HJ.out j hj h1)).symm, fresh_call hw hb⟩
        · go_wp2_with fail
          refine (rsize_any _ _).mono ?_
          rintro e w1 ⟨rfl, hb⟩
          dsimp only
          go_wp2
          refine ⟨⟨k + 1, by omega, by go_num, fun j hj _ => ?_, fresh_call hw hb⟩, by simp [intOf]; omega⟩
          by_cases hjk : j = k
          · subst hjk; omega
          · exact HJ.out j (by omega) h1
      · go_wp2
        refine ⟨⟨k + 1, by omega, by go_num, fun j hj h => absurd h h1, hw⟩, by simp [intOf]; omega⟩
    · obtain rfl : k = 8 := by omega
      go_wp2
      go_ret
      refine ⟨ret_int (cof_no ?_).symm, hw⟩
      by_cases h1 : n < 1
      · exact .inl h1
      · have := HJ.out 7 (by omega) (by omega)
        simp [csz] at this
        omega

end Go.Proofs.YtfgpadkoonogpaaDoor.Cls
