/- Plain facts for besomlaw6.ArenaPages: an arena whose first pages are of a class and empty. -/
import Derived.Test.YtfgpadkoonogpaaDoorArA
namespace Go.Proofs.YtfgpadkoonogpaaDoor.Ar
open Go.RowKit Pg
set_option linter.unusedSimpArgs false
set_option linter.unusedVariables false

structure Filled (ps : List (Option PM)) (n j : Nat) (c : Int) (m : Nat) : Prop where
  len : ps.length = n
  some_ : ∀ i, i < j → ∃ bp, ps[i]? = some (some ⟨bp, c, m, 0, 0⟩)
  none_ : ∀ i, j ≤ i → i < n → ps[i]? = some none
theorem nf_cons (p : Option PM) (ps : List (Option PM)) : nf (p :: ps) = nf ps + if p.isNone then 1 else 0 := by
  unfold nf
  rw [List.countP_cons]
theorem nf_set : ∀ (ps : List (Option PM)) (j : Nat) (p : PM), ps[j]? = some none → nf (ps.set j (some p)) + 1 = nf ps
  | [], j, p, h => by simp at h
  | q :: ps, 0, p, h => by
    simp at h
    subst h
    rw [List.set_cons_zero, nf_cons, nf_cons]
    simp
  | q :: ps, j + 1, p, h => by
    rw [List.set_cons_succ, nf_cons, nf_cons]
    have := nf_set ps j p (by simpa using h)
    omega
theorem Filled.start (n : Nat) (c : Int) (m : Nat) : Filled (List.replicate n none) n 0 c m := ⟨by simp, fun i hi => by omega, fun i _ hi => by simp [hi]⟩
theorem nf_start (n : Nat) : nf (List.replicate n none) = n := by
  induction n with
  | zero => rfl
  | succ n ih => rw [List.replicate_succ, nf_cons, ih]; simp
theorem Filled.next {ps : List (Option PM)} {n j m : Nat} {c : Int} (h : Filled ps n j c m) (hj : j < n) (bp : Nat) : Filled (ps.set j (some ⟨bp, c, m, 0, 0⟩)) n (j + 1) c m := by
  refine ⟨by rw [List.length_set]; exact h.len, fun i hi => ?_, fun i hi hn => ?_⟩
  · by_cases e : j = i
    · subst e
      exact ⟨bp, List.getElem?_set_self (by rw [h.len]; exact hj)⟩
    · rw [List.getElem?_set_ne e]
      exact h.some_ i (by omega)
  · rw [List.getElem?_set_ne (by omega)]
    exact h.none_ i (by omega) hn
end Go.Proofs.YtfgpadkoonogpaaDoor.Ar
