/- Plain: the bits of a shape, from the highest one down. No program in sight. -/
import Derived.Test.YtpdleckflcangaaShpP
namespace Go.Proofs.Ytpdleckflcangaa.Shp
set_option linter.unusedVariables false

/-- Is the field at m a pointer? -/
def bit (l : List Int) (m : Nat) : Nat := if (l[m]?.map isP) = some true then 1 else 0
theorem pt_succ {l : List Int} {m : Nat} (h : m < 16) : pt l (m + 1) = pt l m + bit l m * 2 ^ m := by
  unfold bit
  rw [pt]
  by_cases hb : (l[m]?.map isP) = some true
  · rw [if_pos ⟨h, hb⟩, if_pos hb, Nat.one_mul]
  · rw [if_neg (fun x => hb x.2), if_neg hb, Nat.zero_mul]
theorem pt_high {l : List Int} {n : Nat} (h : 16 ≤ n) : pt l n = pt l 16 := by
  induction n with
  | zero => omega
  | succ n ih =>
    by_cases hn : n = 15
    · subst hn; rfl
    · rw [pt, if_neg (fun x => by have := x.1; omega), Nat.add_zero]
      exact ih (by omega)
theorem pt_past {l : List Int} {n k : Nat} (h : l.length ≤ n) : pt l (n + k) = pt l n := by
  induction k with
  | zero => rfl
  | succ k ih =>
    rw [show n + (k + 1) = (n + k) + 1 by omega, pt, if_neg (fun x => by have := x.2; rw [List.getElem?_eq_none (by omega)] at this; simp at this), Nat.add_zero]
    exact ih
theorem pt_len (l : List Int) : pt l l.length = pt l 16 := by
  by_cases h : 16 ≤ l.length
  · exact pt_high h
  · have := pt_past (l := l) (n := l.length) (k := 16 - l.length) (Nat.le_refl _)
    rw [show l.length + (16 - l.length) = 16 by omega] at this
    exact this.symm
/-- What the loop from 15 down to 0 has behind the fields from m on: the bits from m on. -/
def Down (l : List Int) (m : Nat) (want : Nat) : Prop := want * 2 ^ m + pt l m = pt l 16
theorem down_zero (l : List Int) : Down l 16 0 := by unfold Down; omega
theorem down_next {l : List Int} {m want : Nat} (h : Down l (m + 1) want) (hm : m < 16) : Down l m (2 * want + bit l m) := by
  unfold Down at *
  rw [pt_succ hm, Nat.pow_succ] at h
  rw [Nat.add_mul, ← h, Nat.mul_comm 2 want, Nat.mul_assoc, Nat.mul_comm 2 (2 ^ m)]
  omega
theorem down_end {l : List Int} {want : Nat} (h : Down l 0 want) : want = pt l l.length := by
  unfold Down at h
  rw [pt_len, ← h]
  simp [pt]
theorem down_lt {l : List Int} {m want : Nat} (h : Down l m want) : want < 65536 := by
  have h1 := pt_lt l 16
  unfold Down at h
  have h2 : want ≤ want * 2 ^ m := Nat.le_mul_of_pos_right _ (Nat.two_pow_pos m)
  have h3 : 2 ^ 16 = 65536 := by decide
  omega
end Go.Proofs.Ytpdleckflcangaa.Shp
