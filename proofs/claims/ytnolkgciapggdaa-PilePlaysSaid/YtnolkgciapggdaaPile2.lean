/- Package pile: the answers of a pile that is nil; rows of other element types; a row cut shorter by one. -/
import Derived.Test.YtnolkgciapggdaaPileA
import Derived.Test.YtnolkgciapggdaaBookI
namespace Go.Proofs.Ytnolkgciapggdaa.Pil
open Go.RowKit
set_option linter.unusedSimpArgs false
set_option linter.unusedVariables false

theorem own_own_ne {w : World} {B B' n n' s s' : Nat} {v v' : Value} {xs xs' : List Value} {e e' : TypeId} (h : w.ownsRow B e s v n xs) (h' : w.ownsRow B' e' s' v' n' xs') (hne : e ≠ e') : ∀ k, v.ownBlock = some k → v'.ownBlock ≠ some k := by
  intro k hk
  rcases h.2 with ⟨rfl, _⟩ | ⟨g, _, cur, rfl, _, hh, _⟩
  · simp [Value.ownBlock] at hk
  · obtain rfl : g = k := by simpa [Value.ownBlock] using hk
    have hb : Blk w g cur e → some g ≠ v'.ownBlock := fun hb => own_ne h' hb (fun e => hne e.symm)
    intro e2
    have := own_ne h' (show Blk w g cur e from hh) (fun e => hne e.symm)
    exact this e2.symm
theorem own_short {w : World} {B : Nat} {a : Option Addr} {n c : Nat} {l : List Int} {x : Int} {e : TypeId} (h : w.ownsRow B e 1 (.slice a (n + 1) c) (n + 1) ((l ++ [x]).map (.int .i64))) (hn : l.length = n) :
    w.ownsRow B e 1 (.slice a n c) n (l.map (.int .i64)) ∧ ∃ g, a = some ⟨g, 0, none⟩ ∧ w.cell? ⟨g, n, none⟩ = some (.int .i64 x) ∧ n + 1 ≤ c ∧ c ≤ maxLen := by
  subst hn
  rcases h.2 with ⟨h1, h2⟩ | ⟨g, cap, cur, hv, hg, hh, hn, hm, hs, ht⟩
  · injection h1 with _ h3 _
    omega
  · injection hv with h1 h2 h3
    subst h1 h3
    refine ⟨⟨by simp, .inr ⟨g, c, cur, rfl, hg, hh, by omega, hm, hs, ?_⟩⟩, g, rfl, ?_, hn, hm⟩
    · have h2 : (cur.toList.take ((l.length + 1) * 1)).take (l.length * 1) = l.map (.int .i64) := by rw [ht]; simp
      rwa [List.take_take, Nat.min_eq_left (by omega)] at h2
    · have := h.cells (g := g) rfl l.length (.int .i64 x) (by simp)
      rwa [add_form, Nat.zero_add] at this
theorem len_nil (w : World) : Calls Try.prog 27 #[.pointer none] w fun e w' => e = .returned (.int .i64 0) ∧ w = w' := by
  go_enter Try.func27, Try.ntmps27
  go_wp2_with fail
  go_ret
  exact ⟨rfl, rfl⟩
theorem lost_nil (w : World) : Calls Try.prog 26 #[.pointer none] w fun e w' => e = .returned (.bool false) ∧ w = w' := by
  go_enter Try.func26, Try.ntmps26
  go_wp2_with fail
  go_ret
  exact ⟨rfl, rfl⟩
theorem found_nil (w : World) : Calls Try.prog 29 #[.pointer none] w fun e w' => e = .returned (.tuple #[]) ∧ w = w' := by
  go_enter Try.func29, Try.ntmps29
  go_wp2_with fail
  go_end0
  exact ⟨rfl, rfl⟩
theorem clear_nil (w : World) : Calls Try.prog 30 #[.pointer none] w fun e w' => e = .returned (.tuple #[]) ∧ w = w' := by
  go_enter Try.func30, Try.ntmps30
  go_wp2_with fail
  go_end0
  exact ⟨rfl, rfl⟩
theorem take_nil (w : World) : Calls Try.prog 28 #[.pointer none] w fun e w' => e = .returned (.tuple #[.int .i64 0, .bool false]) ∧ w = w' := by
  go_enter Try.func28, Try.ntmps28
  go_wp2_with fail
  refine (len_nil _).mono ?_
  rintro e w1 ⟨rfl, rfl⟩
  dsimp only
  go_wp2_with fail
  go_ret2
  exact ⟨rfl, rfl⟩
theorem put_nil (A : Option Addr) (n c : Nat) (w : World) : Calls Try.prog 25 #[.pointer none, .slice A n c] w fun e w' => e = .returned (.int .i64 0) ∧ w = w' := by
  go_enter Try.func25, Try.ntmps25
  go_wp2_with fail
  go_ret
  exact ⟨rfl, rfl⟩
end Go.Proofs.Ytnolkgciapggdaa.Pil
