/- A lent row of integers reads as these integers, with the mark behind them. -/
import Derived.Test.YtnolkgciapggdaaBookI
namespace Go.Proofs.Ytnolkgciapggdaa.Book
open Go.RowKit
set_option linter.unusedVariables false

theorem lent_reads {w : World} {base g c : Nat} {l : List Int} (h : w.ownsRow base 3 1 (.slice (some ⟨g, 0, none⟩) (l.length + 1) c) (l.length + 1) (l.map (.int .i64) ++ [.int .i64 (-77)])) :
    RI w (g + 1) (some ⟨g, 0, none⟩) l.length c l ∧ w.cell? ⟨g, 0 + l.length, none⟩ = some (.int .i64 (-77)) ∧ l.length + 1 ≤ c ∧ c ≤ maxLen ∧ g < w.heap.size ∧ base ≤ g := by
  have hc := h.cellAt
  rcases h.2 with ⟨he, _⟩ | ⟨g', cap, cur, he, hb, hg, h1, h2, _, _⟩
  · injection he with h3 h4 h5
    cases h3
  · injection he with h3 h4 h5
    injection h3 with h3
    injection h3 with h3
    subst h3
    subst h5
    refine ⟨⟨rfl, by omega, h2, by simp, fun _ => ⟨g, 0, rfl, by omega, fun j u hu => ?_⟩⟩, ?_, h1, h2, (Array.getElem?_eq_some_iff.1 hg).1, hb⟩
    · have hj : j < l.length := by have := (List.getElem?_eq_some_iff.1 hu).1; simpa using this
      rw [Nat.zero_add, hc j (by omega), List.getElem?_append_left (by simpa using hj)]
      exact hu
    · rw [Nat.zero_add, hc l.length (by omega), List.getElem?_append_right (by simp)]
      simp
end Go.Proofs.Ytnolkgciapggdaa.Book
