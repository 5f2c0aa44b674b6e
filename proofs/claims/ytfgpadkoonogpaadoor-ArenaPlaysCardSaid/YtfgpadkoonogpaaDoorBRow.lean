/- Rows of bools, as functions. Over any program. -/
import Derived.Test.YtfgpadkoonogpaaDoorGn
import Derived.Test.YtfgpadkoonogpaaDoorBt
namespace Go.Proofs.YtfgpadkoonogpaaDoor
open Go.RowKit
set_option linter.unusedSimpArgs false

/-- The cells of a row of n bools. -/
def bcf (n : Nat) (f : Nat → Bool) : Array Value := ((List.range n).map fun i => Value.bool (f i)).toArray
theorem bcf_get {n j : Nat} (f : Nat → Bool) (h : j < n) : (bcf n f)[j]? = some (.bool (f j)) := by simp [bcf, h]
theorem bcf_size (n : Nat) (f : Nat → Bool) : (bcf n f).size = n := by simp [bcf]
theorem bcf_congr {n : Nat} {f g : Nat → Bool} (h : ∀ i, i < n → f i = g i) : bcf n f = bcf n g := by
  unfold bcf
  congr 1
  apply List.map_congr_left
  intro i hi
  rw [h i (List.mem_range.1 hi)]
theorem bcf_set {n j : Nat} (f : Nat → Bool) (b : Bool) : (bcf n f).setIfInBounds j (.bool b) = bcf n (fun i => if i = j then b else f i) := by
  apply Array.ext_getElem?
  intro k
  rw [Array.getElem?_setIfInBounds, bcf_size]
  by_cases hk : k < n
  · rw [bcf_get _ hk, bcf_get _ hk]
    by_cases hj : j = k
    · subst hj; simp [hk]
    · have : ¬ k = j := fun e => hj e.symm
      simp [hj, this]
  · have h1 : (bcf n f)[k]? = none := by simp [bcf]; omega
    have h2 : (bcf n fun i => if i = j then b else f i)[k]? = none := by simp [bcf]; omega
    rw [h1, h2]
    by_cases hj : j = k
    · subst hj; simp [hk]
    · simp [hj]
theorem bcf_made (n : Nat) : madeCells #[.bool false] n = bcf n (fun _ => false) := by
  apply Array.ext_getElem?
  intro j
  by_cases h : j < n <;> simp [madeCells, bcf, h, Nat.mod_one]
theorem bcf_cell {w : World} {b n j : Nat} {f : Nat → Bool} {T : TypeId} (h : Blk w b (bcf n f) T) (hj : j < n) : w.cell? ⟨b, j, none⟩ = some (.bool (f j)) ∧ w.frozen? ⟨b, j, none⟩ = false :=
  ⟨(h.cell j).trans (bcf_get f hj), h.free j⟩
/-- Is a number one of n? -/
def inb (n : Nat) (k : Int) : Bool := decide (0 ≤ k ∧ k < (n : Int))
theorem inb_cases (n : Nat) (k : Int) : (inb n k = true ∧ ∃ j : Nat, k = j ∧ j < n) ∨ (inb n k = false ∧ (k < 0 ∨ (n : Int) ≤ k)) := by
  unfold inb
  by_cases h : 0 ≤ k ∧ k < (n : Int)
  · exact .inl ⟨by simpa using h, k.toNat, by omega, by omega⟩
  · exact .inr ⟨by simpa using h, by omega⟩
theorem Bit.sl_succ (n : Nat) (p : Nat → Bool) : Bit.sl (n + 1) p = Bit.sl n p ++ if p n then [n] else [] := by
  unfold Bit.sl
  rw [List.range_succ, List.filter_append]
  congr 1
  cases h : p n <;> simp [h]
end Go.Proofs.YtfgpadkoonogpaaDoor
