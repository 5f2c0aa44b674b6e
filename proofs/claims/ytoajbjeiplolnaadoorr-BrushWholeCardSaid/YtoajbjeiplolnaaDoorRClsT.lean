/- class.Slot: which slot of a page a word is in. -/
import Derived.Test.YtoajbjeiplolnaaDoorRClsS
namespace Go.Proofs.YtoajbjeiplolnaaDoorR.Cls
open Go.RowKit
set_option linter.unusedSimpArgs false

theorem slot_in (c at_ : Int) (w : World) (h1 : 0 ≤ at_) (h2 : at_ < csl c * csz c) :
    Calls Tryd.prog 101 #[.int .i64 c, .int .i64 at_] w fun e w' => e = .returned (.tuple #[.int .i64 (at_ / csz c), .bool true]) ∧ w = w' := by
  rcases csz_cases c with h | h | rfl | rfl | rfl | rfl | rfl | rfl | rfl | rfl
  · have hz := csz_out (.inl h)
    have hl := csl_out (.inl h)
    rw [hl, hz] at h2
    omega
  · have hz := csz_out (.inr h)
    have hl := csl_out (.inr h)
    rw [hl, hz] at h2
    omega
  · have hz : csz 0 = 1 := by decide
    have hl : csl 0 = 32 := by decide
    rw [hl, hz] at h2
    rw [hz]
    have hne : ((1 : Int) == 0) = false := by decide
    go_enter Tryd.func101, Tryd.ntmps101
    go_wp2_with (first | (go_at_call 72; refine (size_any _ _).mono ?_; rintro e w1 ⟨rfl, rfl⟩; dsimp only) | (go_at_call 113; refine (slots_any _ _).mono ?_; rintro e w1 ⟨rfl, rfl⟩; dsimp only))
    go_ret2
    exact ⟨by rw [Int.ediv_one]; rfl, rfl⟩
  · have hz : csz 1 = 2 := by decide
    have hl : csl 1 = 16 := by decide
    rw [hl, hz] at h2
    rw [hz]
    have hne : ((2 : Int) == 0) = false := by decide
    go_enter Tryd.func101, Tryd.ntmps101
    go_wp2_with (first | (go_at_call 72; refine (size_any _ _).mono ?_; rintro e w1 ⟨rfl, rfl⟩; dsimp only) | (go_at_call 113; refine (slots_any _ _).mono ?_; rintro e w1 ⟨rfl, rfl⟩; dsimp only))
    go_ret2
    exact ⟨rfl, rfl⟩
  · have hz : csz 2 = 3 := by decide
    have hl : csl 2 = 10 := by decide
    rw [hl, hz] at h2
    rw [hz]
    have hne : ((3 : Int) == 0) = false := by decide
    go_enter Tryd.func101, Tryd.ntmps101
    go_wp2_with (first | (go_at_call 72; refine (size_any _ _).mono ?_; rintro e w1 ⟨rfl, rfl⟩; dsimp only) | (go_at_call 113; refine (slots_any _ _).mono ?_; rintro e w1 ⟨rfl, rfl⟩; dsimp only))
    go_ret2
    exact ⟨rfl, rfl⟩
  · have hz : csz 3 = 4 := by decide
    have hl : csl 3 = 8 := by decide
    rw [hl, hz] at h2
    rw [hz]
    have hne : ((4 : Int) == 0) = false := by decide
    go_enter Tryd.func101, Tryd.ntmps101
    go_wp2_with (first | (go_at_call 72; refine (size_any _ _).mono ?_; rintro e w1 ⟨rfl, rfl⟩; dsimp only) | (go_at_call 113; refine (slots_any _ _).mono ?_; rintro e w1 ⟨rfl, rfl⟩; dsimp only))
    go_ret2
    exact ⟨rfl, rfl⟩
  · have hz : csz 4 = 6 := by decide
    have hl : csl 4 = 5 := by decide
    rw [hl, hz] at h2
    rw [hz]
    have hne : ((6 : Int) == 0) = false := by decide
    go_enter Tryd.func101, Tryd.ntmps101
    go_wp2_with (first | (go_at_call 72; refine (size_any _ _).mono ?_; rintro e w1 ⟨rfl, rfl⟩; dsimp only) | (go_at_call 113; refine (slots_any _ _).mono ?_; rintro e w1 ⟨rfl, rfl⟩; dsimp only))
    go_ret2
    exact ⟨rfl, rfl⟩
  · have hz : csz 5 = 8 := by decide
    have hl : csl 5 = 4 := by decide
    rw [hl, hz] at h2
    rw [hz]
    have hne : ((8 : Int) == 0) = false := by decide
    go_enter Tryd.func101, Tryd.ntmps101
    go_wp2_with (first | (go_at_call 72; refine (size_any _ _).mono ?_; rintro e w1 ⟨rfl, rfl⟩; dsimp only) | (go_at_call 113; refine (slots_any _ _).mono ?_; rintro e w1 ⟨rfl, rfl⟩; dsimp only))
    go_ret2
    exact ⟨rfl, rfl⟩
  · have hz : csz 6 = 12 := by decide
    have hl : csl 6 = 2 := by decide
    rw [hl, hz] at h2
    rw [hz]
    have hne : ((12 : Int) == 0) = false := by decide
    go_enter Tryd.func101, Tryd.ntmps101
    go_wp2_with (first | (go_at_call 72; refine (size_any _ _).mono ?_; rintro e w1 ⟨rfl, rfl⟩; dsimp only) | (go_at_call 113; refine (slots_any _ _).mono ?_; rintro e w1 ⟨rfl, rfl⟩; dsimp only))
    go_ret2
    exact ⟨rfl, rfl⟩
  · have hz : csz 7 = 16 := by decide
    have hl : csl 7 = 2 := by decide
    rw [hl, hz] at h2
    rw [hz]
    have hne : ((16 : Int) == 0) = false := by decide
    go_enter Tryd.func101, Tryd.ntmps101
    go_wp2_with (first | (go_at_call 72; refine (size_any _ _).mono ?_; rintro e w1 ⟨rfl, rfl⟩; dsimp only) | (go_at_call 113; refine (slots_any _ _).mono ?_; rintro e w1 ⟨rfl, rfl⟩; dsimp only))
    go_ret2
    exact ⟨rfl, rfl⟩

theorem slot_out (c at_ : Int) (w : World) (h : at_ < 0 ∨ csl c * csz c ≤ at_) :
    Calls Tryd.prog 101 #[.int .i64 c, .int .i64 at_] w fun e w' => e = .returned (.tuple #[.int .i64 0, .bool false]) ∧ w = w' := by
  rcases csz_cases c with g | g | rfl | rfl | rfl | rfl | rfl | rfl | rfl | rfl
  · have hz := csz_out (.inl g)
    have hl := csl_out (.inl g)
    rw [hl, hz] at h
    by_cases h0 : at_ < 0
    · go_enter Tryd.func101, Tryd.ntmps101
      go_wp2_with (first | (go_at_call 72; refine (size_any _ _).mono ?_; rintro e w1 ⟨rfl, rfl⟩; dsimp only) | (go_at_call 113; refine (slots_any _ _).mono ?_; rintro e w1 ⟨rfl, rfl⟩; dsimp only))
      go_ret2
      exact ⟨rfl, rfl⟩
    · have h1 : 0 ≤ at_ := by omega
      clear h
      go_enter Tryd.func101, Tryd.ntmps101
      go_wp2_with (first | (go_at_call 72; refine (size_any _ _).mono ?_; rintro e w1 ⟨rfl, rfl⟩; dsimp only) | (go_at_call 113; refine (slots_any _ _).mono ?_; rintro e w1 ⟨rfl, rfl⟩; dsimp only))
      go_ret2
      exact ⟨rfl, rfl⟩
  · have hz := csz_out (.inr g)
    have hl := csl_out (.inr g)
    rw [hl, hz] at h
    by_cases h0 : at_ < 0
    · go_enter Tryd.func101, Tryd.ntmps101
      go_wp2_with (first | (go_at_call 72; refine (size_any _ _).mono ?_; rintro e w1 ⟨rfl, rfl⟩; dsimp only) | (go_at_call 113; refine (slots_any _ _).mono ?_; rintro e w1 ⟨rfl, rfl⟩; dsimp only))
      go_ret2
      exact ⟨rfl, rfl⟩
    · have h1 : 0 ≤ at_ := by omega
      clear h
      go_enter Tryd.func101, Tryd.ntmps101
      go_wp2_with (first | (go_at_call 72; refine (size_any _ _).mono ?_; rintro e w1 ⟨rfl, rfl⟩; dsimp only) | (go_at_call 113; refine (slots_any _ _).mono ?_; rintro e w1 ⟨rfl, rfl⟩; dsimp only))
      go_ret2
      exact ⟨rfl, rfl⟩
  · have hz : csz 0 = 1 := by decide
    have hl : csl 0 = 32 := by decide
    rw [hl, hz] at h
    by_cases h0 : at_ < 0
    · go_enter Tryd.func101, Tryd.ntmps101
      go_wp2_with (first | (go_at_call 72; refine (size_any _ _).mono ?_; rintro e w1 ⟨rfl, rfl⟩; dsimp only) | (go_at_call 113; refine (slots_any _ _).mono ?_; rintro e w1 ⟨rfl, rfl⟩; dsimp only))
      go_ret2
      exact ⟨rfl, rfl⟩
    · have h1 : 32 ≤ at_ := by omega
      clear h
      go_enter Tryd.func101, Tryd.ntmps101
      go_wp2_with (first | (go_at_call 72; refine (size_any _ _).mono ?_; rintro e w1 ⟨rfl, rfl⟩; dsimp only) | (go_at_call 113; refine (slots_any _ _).mono ?_; rintro e w1 ⟨rfl, rfl⟩; dsimp only))
      go_ret2
      exact ⟨rfl, rfl⟩
  · have hz : csz 1 = 2 := by decide
    have hl : csl 1 = 16 := by decide
    rw [hl, hz] at h
    by_cases h0 : at_ < 0
    · go_enter Tryd.func101, Tryd.ntmps101
      go_wp2_with (first | (go_at_call 72; refine (size_any _ _).mono ?_; rintro e w1 ⟨rfl, rfl⟩; dsimp only) | (go_at_call 113; refine (slots_any _ _).mono ?_; rintro e w1 ⟨rfl, rfl⟩; dsimp only))
      go_ret2
      exact ⟨rfl, rfl⟩
    · have h1 : 32 ≤ at_ := by omega
      clear h
      go_enter Tryd.func101, Tryd.ntmps101
      go_wp2_with (first | (go_at_call 72; refine (size_any _ _).mono ?_; rintro e w1 ⟨rfl, rfl⟩; dsimp only) | (go_at_call 113; refine (slots_any _ _).mono ?_; rintro e w1 ⟨rfl, rfl⟩; dsimp only))
      go_ret2
      exact ⟨rfl, rfl⟩
  · have hz : csz 2 = 3 := by decide
    have hl : csl 2 = 10 := by decide
    rw [hl, hz] at h
    by_cases h0 : at_ < 0
    · go_enter Tryd.func101, Tryd.ntmps101
      go_wp2_with (first | (go_at_call 72; refine (size_any _ _).mono ?_; rintro e w1 ⟨rfl, rfl⟩; dsimp only) | (go_at_call 113; refine (slots_any _ _).mono ?_; rintro e w1 ⟨rfl, rfl⟩; dsimp only))
      go_ret2
      exact ⟨rfl, rfl⟩
    · have h1 : 30 ≤ at_ := by omega
      clear h
      go_enter Tryd.func101, Tryd.ntmps101
      go_wp2_with (first | (go_at_call 72; refine (size_any _ _).mono ?_; rintro e w1 ⟨rfl, rfl⟩; dsimp only) | (go_at_call 113; refine (slots_any _ _).mono ?_; rintro e w1 ⟨rfl, rfl⟩; dsimp only))
      go_ret2
      exact ⟨rfl, rfl⟩
  · have hz : csz 3 = 4 := by decide
    have hl : csl 3 = 8 := by decide
    rw [hl, hz] at h
    by_cases h0 : at_ < 0
    · go_enter Tryd.func101, Tryd.ntmps101
      go_wp2_with (first | (go_at_call 72; refine (size_any _ _).mono ?_; rintro e w1 ⟨rfl, rfl⟩; dsimp only) | (go_at_call 113; refine (slots_any _ _).mono ?_; rintro e w1 ⟨rfl, rfl⟩; dsimp only))
      go_ret2
      exact ⟨rfl, rfl⟩
    · have h1 : 32 ≤ at_ := by omega
      clear h
      go_enter Tryd.func101, Tryd.ntmps101
      go_wp2_with (first | (go_at_call 72; refine (size_any _ _).mono ?_; rintro e w1 ⟨rfl, rfl⟩; dsimp only) | (go_at_call 113; refine (slots_any _ _).mono ?_; rintro e w1 ⟨rfl, rfl⟩; dsimp only))
      go_ret2
      exact ⟨rfl, rfl⟩
  · have hz : csz 4 = 6 := by decide
    have hl : csl 4 = 5 := by decide
    rw [hl, hz] at h
    by_cases h0 : at_ < 0
    · go_enter Tryd.func101, Tryd.ntmps101
      go_wp2_with (first | (go_at_call 72; refine (size_any _ _).mono ?_; rintro e w1 ⟨rfl, rfl⟩; dsimp only) | (go_at_call 113; refine (slots_any _ _).mono ?_; rintro e w1 ⟨rfl, rfl⟩; dsimp only))
      go_ret2
      exact ⟨rfl, rfl⟩
    · have h1 : 30 ≤ at_ := by omega
      clear h
      go_enter Tryd.func101, Tryd.ntmps101
      go_wp2_with (first | (go_at_call 72; refine (size_any _ _).mono ?_; rintro e w1 ⟨rfl, rfl⟩; dsimp only) | (go_at_call 113; refine (slots_any _ _).mono ?_; rintro e w1 ⟨rfl, rfl⟩; dsimp only))
      go_ret2
      exact ⟨rfl, rfl⟩
  · have hz : csz 5 = 8 := by decide
    have hl : csl 5 = 4 := by decide
    rw [hl, hz] at h
    by_cases h0 : at_ < 0
    · go_enter Tryd.func101, Tryd.ntmps101
      go_wp2_with (first | (go_at_call 72; refine (size_any _ _).mono ?_; rintro e w1 ⟨rfl, rfl⟩; dsimp only) | (go_at_call 113; refine (slots_any _ _).mono ?_; rintro e w1 ⟨rfl, rfl⟩; dsimp only))
      go_ret2
      exact ⟨rfl, rfl⟩
    · have h1 : 32 ≤ at_ := by omega
      clear h
      go_enter Tryd.func101, Tryd.ntmps101
      go_wp2_with (first | (go_at_call 72; refine (size_any _ _).mono ?_; rintro e w1 ⟨rfl, rfl⟩; dsimp only) | (go_at_call 113; refine (slots_any _ _).mono ?_; rintro e w1 ⟨rfl, rfl⟩; dsimp only))
      go_ret2
      exact ⟨rfl, rfl⟩
  · have hz : csz 6 = 12 := by decide
    have hl : csl 6 = 2 := by decide
    rw [hl, hz] at h
    by_cases h0 : at_ < 0
    · go_enter Tryd.func101, Tryd.ntmps101
      go_wp2_with (first | (go_at_call 72; refine (size_any _ _).mono ?_; rintro e w1 ⟨rfl, rfl⟩; dsimp only) | (go_at_call 113; refine (slots_any _ _).mono ?_; rintro e w1 ⟨rfl, rfl⟩; dsimp only))
      go_ret2
      exact ⟨rfl, rfl⟩
    · have h1 : 24 ≤ at_ := by omega
      clear h
      go_enter Tryd.func101, Tryd.ntmps101
      go_wp2_with (first | (go_at_call 72; refine (size_any _ _).mono ?_; rintro e w1 ⟨rfl, rfl⟩; dsimp only) | (go_at_call 113; refine (slots_any _ _).mono ?_; rintro e w1 ⟨rfl, rfl⟩; dsimp only))
      go_ret2
      exact ⟨rfl, rfl⟩
  · have hz : csz 7 = 16 := by decide
    have hl : csl 7 = 2 := by decide
    rw [hl, hz] at h
    by_cases h0 : at_ < 0
    · go_enter Tryd.func101, Tryd.ntmps101
      go_wp2_with (first | (go_at_call 72; refine (size_any _ _).mono ?_; rintro e w1 ⟨rfl, rfl⟩; dsimp only) | (go_at_call 113; refine (slots_any _ _).mono ?_; rintro e w1 ⟨rfl, rfl⟩; dsimp only))
      go_ret2
      exact ⟨rfl, rfl⟩
    · have h1 : 32 ≤ at_ := by omega
      clear h
      go_enter Tryd.func101, Tryd.ntmps101
      go_wp2_with (first | (go_at_call 72; refine (size_any _ _).mono ?_; rintro e w1 ⟨rfl, rfl⟩; dsimp only) | (go_at_call 113; refine (slots_any _ _).mono ?_; rintro e w1 ⟨rfl, rfl⟩; dsimp only))
      go_ret2
      exact ⟨rfl, rfl⟩

end Go.Proofs.YtoajbjeiplolnaaDoorR.Cls
