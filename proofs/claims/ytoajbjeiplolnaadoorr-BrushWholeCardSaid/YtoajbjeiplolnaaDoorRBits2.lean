/- The small numbers in a word of 32 bits, as a list that rises. No program is named. -/
import Derived.Test.YtoajbjeiplolnaaDoorRBits
namespace Go.Proofs.YtoajbjeiplolnaaDoorR.Bit
open Go.RowKit

/-- The numbers below n that are in a set. -/
def sl (n : Nat) (p : Nat → Bool) : List Nat := (List.range n).filter p
theorem sl_congr {n : Nat} {p q : Nat → Bool} (h : ∀ i, i < n → p i = q i) : sl n p = sl n q := by
  unfold sl
  apply List.filter_congr
  intro i hi
  exact h i (List.mem_range.1 hi)
theorem range_cut {n k : Nat} (hk : k < n) : List.range n = List.range k ++ k :: List.range' (k + 1) (n - k - 1) := by
  rw [List.range_eq_range', List.range_eq_range']
  have h1 : n = k + (1 + (n - k - 1)) := by omega
  conv => lhs; rw [h1, ← List.range'_append_1]
  rw [Nat.zero_add, Nat.add_comm 1 (n - k - 1), List.range'_succ]
theorem sl_cons {n k : Nat} {p q : Nat → Bool} (hk : k < n) (h1 : p k = true) (h2 : ∀ j, j < k → p j = false) (h3 : ∀ i, i < n → q i = (p i && decide (i ≠ k))) : sl n p = k :: sl n q := by
  unfold sl
  rw [range_cut hk, List.filter_append, List.filter_append, List.filter_cons, List.filter_cons]
  have e1 : (List.range k).filter p = [] := by
    rw [List.filter_eq_nil_iff]
    intro i hi
    rw [h2 i (List.mem_range.1 hi)]
    simp
  have e2 : (List.range k).filter q = [] := by
    rw [List.filter_eq_nil_iff]
    intro i hi
    have := List.mem_range.1 hi
    rw [h3 i (by omega), h2 i this]
    simp
  have e3 : (List.range' (k + 1) (n - k - 1)).filter p = (List.range' (k + 1) (n - k - 1)).filter q := by
    apply List.filter_congr
    intro i hi
    have := List.mem_range'_1.1 hi
    rw [h3 i (by omega)]
    have : decide (i ≠ k) = true := by simp; omega
    rw [this, Bool.and_true]
  rw [e1, e2, e3, h1, h3 k hk]
  simp
theorem sl_nil {n : Nat} {p : Nat → Bool} (h : ∀ i, i < n → p i = false) : sl n p = [] := by
  unfold sl
  rw [List.filter_eq_nil_iff]
  intro i hi
  rw [h i (List.mem_range.1 hi)]
  simp
theorem sl_mem {n i : Nat} {p : Nat → Bool} : i ∈ sl n p ↔ i < n ∧ p i = true := by
  unfold sl
  rw [List.mem_filter, List.mem_range]
theorem sl_short {n m : Nat} {p : Nat → Bool} (h : n ≤ m) (hp : ∀ i, n ≤ i → p i = false) : sl m p = sl n p := by
  obtain ⟨d, rfl⟩ : ∃ d, m = n + d := ⟨m - n, by omega⟩
  unfold sl
  rw [List.range_add, List.filter_append]
  have : (List.map (fun x => n + x) (List.range d)).filter p = [] := by
    rw [List.filter_eq_nil_iff]
    intro i hi
    obtain ⟨x, _, rfl⟩ := List.mem_map.1 hi
    rw [hp _ (by omega)]
    simp
  rw [this, List.append_nil]
theorem sl_len (n : Nat) (p : Nat → Bool) : (sl n p).length ≤ n := by
  unfold sl
  have := List.length_filter_le p (List.range n)
  simpa using this
/-- The bits of a word of 32. -/
def bl (x : Nat) : List Nat := sl 32 x.testBit
theorem bl_zero : bl 0 = [] := sl_nil fun i _ => by simp
theorem bl_step {x : Nat} (h0 : x ≠ 0) (hx : x < 4294967296) : bl x = Lib.ctz 32 x :: bl (x &&& (x - 1)) := by
  obtain ⟨a, b, c⟩ := ctz_spec 32 x h0 (by omega)
  exact sl_cons a b c fun i _ => strike x h0 i 32 (by omega)
theorem strike_lt {x : Nat} (h0 : x ≠ 0) : x &&& (x - 1) < x := by
  have := Nat.and_le_right (n := x) (m := x - 1)
  omega
theorem onesCount_bits : ∀ b : Fin 256, Lib.onesCount b.val = (sl 8 b.val.testBit).length := by decide +kernel
theorem byte_bit (x s i : Nat) (hi : i < 8) : (x / 2 ^ s % 256).testBit i = x.testBit (s + i) := by
  rw [show (256 : Nat) = 2 ^ 8 from rfl, Nat.testBit_mod_two_pow, Nat.testBit_div_two_pow]
  simp [hi]
  rw [Nat.add_comm]
theorem bl_bytes (x : Nat) (hx : x < 4294967296) : (bl x).length = Lib.onesCount (x / 16777216) + Lib.onesCount (x / 65536 % 256) + Lib.onesCount (x / 256 % 256) + Lib.onesCount (x % 256) := by
  have seg : ∀ s, Lib.onesCount (x / 2 ^ s % 256) = (((List.range 8).map fun k => s + k).filter x.testBit).length := by
    intro s
    rw [onesCount_bits ⟨x / 2 ^ s % 256, Nat.mod_lt _ (by omega)⟩]
    unfold sl
    rw [List.filter_map, List.length_map]
    congr 1
    apply List.filter_congr
    intro i hi
    exact byte_bit x s i (List.mem_range.1 hi)
  have s0 := seg 0
  have s1 := seg 8
  have s2 := seg 16
  have s3 := seg 24
  rw [show x / 2 ^ 24 % 256 = x / 16777216 by omega] at s3
  rw [show x / 2 ^ 16 % 256 = x / 65536 % 256 from rfl] at s2
  rw [show x / 2 ^ 8 % 256 = x / 256 % 256 from rfl] at s1
  rw [show x / 2 ^ 0 % 256 = x % 256 by omega] at s0
  rw [s0, s1, s2, s3]
  unfold bl sl
  rw [show List.range 32 = ((List.range 8).map fun k => 0 + k) ++ ((List.range 8).map fun k => 8 + k) ++ ((List.range 8).map fun k => 16 + k) ++ ((List.range 8).map fun k => 24 + k) from by decide]
  simp only [List.filter_append, List.length_append]
  omega
/-- '(x % n + n) % n' names one of n. -/
theorem idx (x : Int) (n : Nat) (hn : 0 < n) (hn2 : n ≤ 1000000) : ∃ j : Nat, j < n ∧ (wrap64 (x.tmod (n : Int) + (n : Int))).tmod (n : Int) = (j : Int) := by
  have h1 := Int.tmod_lt_of_pos x (show (0 : Int) < (n : Int) by omega)
  have h2 : -(n : Int) < x.tmod (n : Int) := Int.lt_tmod_of_pos x (by omega)
  have h3 : wrap64 (x.tmod (n : Int) + (n : Int)) = x.tmod (n : Int) + (n : Int) := by unfold wrap64; omega
  rw [h3]
  have h4 : 0 ≤ x.tmod (n : Int) + (n : Int) := by omega
  rw [Int.tmod_eq_emod_of_nonneg h4]
  have h5 := Int.emod_nonneg (x.tmod (n : Int) + (n : Int)) (show (n : Int) ≠ 0 by omega)
  have h6 := Int.emod_lt_of_pos (x.tmod (n : Int) + (n : Int)) (show (0 : Int) < (n : Int) by omega)
  exact ⟨((x.tmod (n : Int) + (n : Int)) % (n : Int)).toNat, by omega, by omega⟩
end Go.Proofs.YtoajbjeiplolnaaDoorR.Bit
