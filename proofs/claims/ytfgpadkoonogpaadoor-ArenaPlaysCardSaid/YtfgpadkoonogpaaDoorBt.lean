/- Words of 32 bits as sets of small numbers: plain lemmas, and the spelling of the walk's bit operations. No program is named. The small numbers in a word of 32 bits, as a list that rises. No program is named. Words of 64 bits as sets of small numbers: plain lemmas, and the spelling of the walk's bit operations. No program is named. -/
import Derived.WalkKit
import Derived.Lib.TrailingZeros
import Derived.Lib.BitFns
import Derived.Lib.Hide
namespace Go.Proofs.YtfgpadkoonogpaaDoor.Bit
open Go.RowKit

theorem ofInt_nat {n x : Nat} (h : x < 2 ^ n) : (BitVec.ofInt n (x : Int)).toNat = x := by
  rw [BitVec.ofInt_natCast, BitVec.toNat_ofNat]; exact Nat.mod_eq_of_lt h
theorem wrap_u32 {x : Nat} (h : x < 4294967296) : IntKind.u32.wrap (x : Int) = (x : Int) := by
  simp [IntKind.wrap, IntKind.signed, IntKind.bits]; omega
theorem and32 (a b : Nat) (ha : a < 4294967296) (hb : b < 4294967296) : bits .and .u32 (a : Int) (b : Int) = ((a &&& b : Nat) : Int) := by
  have hx : a &&& b < 2 ^ 32 := Nat.and_lt_two_pow _ (by omega)
  show IntKind.u32.wrap ((BitVec.ofInt 32 (a : Int) &&& BitVec.ofInt 32 (b : Int)).toNat : Int) = _
  rw [BitVec.toNat_and, ofInt_nat (by omega), ofInt_nat (by omega), wrap_u32 (by omega)]
theorem or32 (a b : Nat) (ha : a < 4294967296) (hb : b < 4294967296) : bits .or .u32 (a : Int) (b : Int) = ((a ||| b : Nat) : Int) := by
  have hx : a ||| b < 2 ^ 32 := Nat.or_lt_two_pow (by omega) (by omega)
  show IntKind.u32.wrap ((BitVec.ofInt 32 (a : Int) ||| BitVec.ofInt 32 (b : Int)).toNat : Int) = _
  rw [BitVec.toNat_or, ofInt_nat (by omega), ofInt_nat (by omega), wrap_u32 (by omega)]
theorem andn32 (a b : Nat) (ha : a < 4294967296) (hb : b < 4294967296) : bits .andNot .u32 (a : Int) (b : Int) = ((a &&& (4294967295 - b) : Nat) : Int) := by
  have hx : a &&& (4294967295 - b) < 2 ^ 32 := Nat.and_lt_two_pow _ (by omega)
  show IntKind.u32.wrap ((BitVec.ofInt 32 (a : Int) &&& ~~~(BitVec.ofInt 32 (b : Int))).toNat : Int) = _
  rw [BitVec.toNat_and, BitVec.toNat_not, ofInt_nat (by omega), ofInt_nat (by omega)]
  rw [show (2 : Nat) ^ 32 - 1 - b = 4294967295 - b by omega, wrap_u32 (by omega)]
theorem not32 (a : Nat) (ha : a < 4294967296) : bits .xor .u32 IntKind.u32.max (a : Int) = ((4294967295 - a : Nat) : Int) := by
  have hm : IntKind.u32.max = ((4294967295 : Nat) : Int) := by decide
  have hx : (4294967295 : Nat) ^^^ a = 4294967295 - a := by
    apply Nat.eq_of_testBit_eq
    intro i
    have e : 4294967295 - a = 2 ^ 32 - (a + 1) := by omega
    have e2 : (4294967295 : Nat) = 2 ^ 32 - 1 := by decide
    rw [e, Nat.testBit_two_pow_sub_succ (by omega), e2, Nat.testBit_xor, Nat.testBit_two_pow_sub_one]
    by_cases hi : i < 32
    · simp [hi]
    · have : a.testBit i = false := Nat.testBit_lt_two_pow (Nat.lt_of_lt_of_le (show a < 2 ^ 32 by omega) (Nat.pow_le_pow_right (by omega) (by omega)))
      simp [hi, this]
  rw [hm]
  show IntKind.u32.wrap ((BitVec.ofInt 32 ((4294967295 : Nat) : Int) ^^^ BitVec.ofInt 32 (a : Int)).toNat : Int) = _
  rw [BitVec.toNat_xor, ofInt_nat (by omega), ofInt_nat (by omega), hx, wrap_u32 (by omega)]
theorem and255 (a : Nat) (ha : a < 4294967296) : bits .and .u32 (a : Int) 255 = ((a % 256 : Nat) : Int) := by
  have h := and32 a 255 ha (by omega)
  rw [show ((255 : Nat) : Int) = 255 from rfl] at h
  rw [h, show (255 : Nat) = 2 ^ 8 - 1 from rfl, Nat.and_two_pow_sub_one_eq_mod]
/-- The complement's bits. -/
theorem comp_bit (b i : Nat) (hb : b < 4294967296) : (4294967295 - b).testBit i = (decide (i < 32) && !b.testBit i) := by
  rw [show 4294967295 - b = 2 ^ 32 - (b + 1) by omega, Nat.testBit_two_pow_sub_succ (by omega)]
theorem high_bit {x i : Nat} (hx : x < 4294967296) (hi : 32 ≤ i) : x.testBit i = false :=
  Nat.testBit_lt_two_pow (Nat.lt_of_lt_of_le (show x < 2 ^ 32 by omega) (Nat.pow_le_pow_right (by omega) hi))
theorem andn_bit (a b i : Nat) (ha : a < 4294967296) (hb : b < 4294967296) : (a &&& (4294967295 - b)).testBit i = (a.testBit i && !b.testBit i) := by
  rw [Nat.testBit_and, comp_bit b i hb]
  by_cases hi : i < 32
  · simp [hi]
  · rw [high_bit (i := i) ha (by omega)]; simp
theorem pow_bit (k i : Nat) : (2 ^ k).testBit i = decide (k = i) := by
  rw [Nat.testBit_two_pow]
theorem pow_lt {k : Nat} (h : k < 32) : 2 ^ k < 4294967296 := by
  have : (2 : Nat) ^ k < 2 ^ 32 := Nat.pow_lt_pow_right (by omega) h
  omega
theorem and_pow (x k : Nat) : (x &&& 2 ^ k = 0) ↔ x.testBit k = false := by
  constructor
  · intro h
    have : (x &&& 2 ^ k).testBit k = false := by rw [h]; simp
    rw [Nat.testBit_and, pow_bit] at this
    simpa using this
  · intro h
    apply Nat.eq_of_testBit_eq
    intro i
    rw [Nat.testBit_and, pow_bit]
    by_cases hi : k = i
    · subst hi; simp [h]
    · simp [hi]
/-- The lowest bit: ctz names it. -/
theorem ctz_spec (n x : Nat) (h0 : x ≠ 0) (h : x < 2 ^ n) : Lib.ctz n x < n ∧ x.testBit (Lib.ctz n x) = true ∧ ∀ j, j < Lib.ctz n x → x.testBit j = false := by
  obtain ⟨m, hm, hk⟩ := Lib.ctzFrom_spec n x (by omega) h
  have e : Lib.ctz n x = Lib.ctzFrom n x := by simp [Lib.ctz, h0]
  rw [e]
  generalize Lib.ctzFrom n x = k at *
  subst hm
  refine ⟨hk, ?_, ?_⟩
  · rw [Nat.testBit_two_pow_mul]
    simp
  · intro j hj
    rw [Nat.testBit_two_pow_mul]
    simp; omega
theorem ctz_unique {n x k : Nat} (h : x < 2 ^ n) (h1 : x.testBit k = true) (h2 : ∀ j, j < k → x.testBit j = false) : Lib.ctz n x = k := by
  have h0 : x ≠ 0 := by rintro rfl; simp at h1
  obtain ⟨a, b, c⟩ := ctz_spec n x h0 h
  rcases Nat.lt_trichotomy (Lib.ctz n x) k with hh | hh | hh
  · rw [h2 _ hh] at b; cases b
  · exact hh
  · rw [c _ hh] at h1; cases h1
/-- The lowest bit struck. -/
theorem strike (x : Nat) (h0 : x ≠ 0) (i : Nat) (n : Nat) (h : x < 2 ^ n) : (x &&& (x - 1)).testBit i = (x.testBit i && decide (i ≠ Lib.ctz n x)) := by
  obtain ⟨m, hm, hk⟩ := Lib.ctzFrom_spec n x (by omega) h
  have e : Lib.ctz n x = Lib.ctzFrom n x := by simp [Lib.ctz, h0]
  rw [e]
  generalize Lib.ctzFrom n x = k at *
  have hx1 : x - 1 = 2 ^ k * (2 * m) + (2 ^ k - 1) := by
    have : 0 < 2 ^ k := Nat.two_pow_pos k
    rw [hm, Nat.mul_add, Nat.mul_one]; omega
  rw [Nat.testBit_and]
  conv => lhs; rw [hx1, hm]
  rw [Nat.testBit_two_pow_mul_add _ (by have := Nat.two_pow_pos k; omega), Nat.testBit_two_pow_mul]
  conv => rhs; rw [hm]
  rw [Nat.testBit_two_pow_mul]
  by_cases h1 : i < k
  · simp [h1]; omega
  · simp only [h1, if_false]
    by_cases h2 : i = k
    · subst h2; simp
    · have h3 : k ≤ i := by omega
      obtain ⟨d, rfl⟩ : ∃ d, i = k + (d + 1) := ⟨i - k - 1, by omega⟩
      have e1 : k + (d + 1) - k = d + 1 := by omega
      have a1 : (2 * m).testBit (d + 1) = m.testBit d := by rw [Nat.testBit_succ]; congr 1; omega
      have a2 : (2 * m + 1).testBit (d + 1) = m.testBit d := by rw [Nat.testBit_succ]; congr 1; omega
      rw [e1, a1, a2]
      simp
end Go.Proofs.YtfgpadkoonogpaaDoor.Bit

namespace Go.Proofs.YtfgpadkoonogpaaDoor.Bit
open Go.RowKit

/-- The numbers below n that are in a set. -/
def sl (n : Nat) (p : Nat → Bool) : List Nat := (List.range n).filter p
theorem sl_congr {n : Nat} {p q : Nat → Bool} (h : ∀ i, i < n → p i = q i) : sl n p = sl n q := by
  unfold sl
  apply List.filter_congr
  intro i hi
  exact h i (List.mem_range.1 hi)
theorem range_cut {n k : Nat} (hk : k < n) : List.range n = List.range k ++ k :: List.range' (k + 1) (n - k - 1) := by
  rw [List.range_eq_range', List.range_eq_range']
  have h1 : n = k + (1 + (n - k - 1)) := by omega
  conv => lhs; rw [h1, ← List.range'_append_1]
  rw [Nat.zero_add, Nat.add_comm 1 (n - k - 1), List.range'_succ]
theorem sl_cons {n k : Nat} {p q : Nat → Bool} (hk : k < n) (h1 : p k = true) (h2 : ∀ j, j < k → p j = false) (h3 : ∀ i, i < n → q i = (p i && decide (i ≠ k))) : sl n p = k :: sl n q := by
  unfold sl
  rw [range_cut hk, List.filter_append, List.filter_append, List.filter_cons, List.filter_cons]
  have e1 : (List.range k).filter p = [] := by
    rw [List.filter_eq_nil_iff]
    intro i hi
    rw [h2 i (List.mem_range.1 hi)]
    simp
  have e2 : (List.range k).filter q = [] := by
    rw [List.filter_eq_nil_iff]
    intro i hi
    have := List.mem_range.1 hi
    rw [h3 i (by omega), h2 i this]
    simp
  have e3 : (List.range' (k + 1) (n - k - 1)).filter p = (List.range' (k + 1) (n - k - 1)).filter q := by
    apply List.filter_congr
    intro i hi
    have := List.mem_range'_1.1 hi
    rw [h3 i (by omega)]
    have : decide (i ≠ k) = true := by simp; omega
    rw [this, Bool.and_true]
  rw [e1, e2, e3, h1, h3 k hk]
  simp
theorem sl_nil {n : Nat} {p : Nat → Bool} (h : ∀ i, i < n → p i = false) : sl n p = [] := by
  unfold sl
  rw [List.filter_eq_nil_iff]
  intro i hi
  rw [h i (List.mem_range.1 hi)]
  simp
theorem sl_mem {n i : Nat} {p : Nat → Bool} : i ∈ sl n p ↔ i < n ∧ p i = true := by
  unfold sl
  rw [List.mem_filter, List.mem_range]
theorem sl_short {n m : Nat} {p : Nat → Bool} (h : n ≤ m) (hp : ∀ i, n ≤ i → p i = false) : sl m p = sl n p := by
  obtain ⟨d, rfl⟩ : ∃ d, m = n + d := ⟨m - n, by omega⟩
  unfold sl
  rw [List.range_add, List.filter_append]
  have : (List.map (fun x => n + x) (List.range d)).filter p = [] := by
    rw [List.filter_eq_nil_iff]
    intro i hi
    obtain ⟨x, _, rfl⟩ := List.mem_map.1 hi
    rw [hp _ (by omega)]
    simp
  rw [this, List.append_nil]
theorem sl_len (n : Nat) (p : Nat → Bool) : (sl n p).length ≤ n := by
  unfold sl
  have := List.length_filter_le p (List.range n)
  simpa using this
/-- The bits of a word of 32. -/
def bl (x : Nat) : List Nat := sl 32 x.testBit
theorem bl_zero : bl 0 = [] := sl_nil fun i _ => by simp
theorem bl_step {x : Nat} (h0 : x ≠ 0) (hx : x < 4294967296) : bl x = Lib.ctz 32 x :: bl (x &&& (x - 1)) := by
  obtain ⟨a, b, c⟩ := ctz_spec 32 x h0 (by omega)
  exact sl_cons a b c fun i _ => strike x h0 i 32 (by omega)
theorem strike_lt {x : Nat} (h0 : x ≠ 0) : x &&& (x - 1) < x := by
  have := Nat.and_le_right (n := x) (m := x - 1)
  omega
theorem onesCount_bits : ∀ b : Fin 256, Lib.onesCount b.val = (sl 8 b.val.testBit).length := by decide +kernel
theorem byte_bit (x s i : Nat) (hi : i < 8) : (x / 2 ^ s % 256).testBit i = x.testBit (s + i) := by
  rw [show (256 : Nat) = 2 ^ 8 from rfl, Nat.testBit_mod_two_pow, Nat.testBit_div_two_pow]
  simp [hi]
  rw [Nat.add_comm]
theorem bl_bytes (x : Nat) (hx : x < 4294967296) : (bl x).length = Lib.onesCount (x / 16777216) + Lib.onesCount (x / 65536 % 256) + Lib.onesCount (x / 256 % 256) + Lib.onesCount (x % 256) := by
  have seg : ∀ s, Lib.onesCount (x / 2 ^ s % 256) = (((List.range 8).map fun k => s + k).filter x.testBit).length := by
    intro s
    rw [onesCount_bits ⟨x / 2 ^ s % 256, Nat.mod_lt _ (by omega)⟩]
    unfold sl
    rw [List.filter_map, List.length_map]
    congr 1
    apply List.filter_congr
    intro i hi
    exact byte_bit x s i (List.mem_range.1 hi)
  have s0 := seg 0
  have s1 := seg 8
  have s2 := seg 16
  have s3 := seg 24
  rw [show x / 2 ^ 24 % 256 = x / 16777216 by omega] at s3
  rw [show x / 2 ^ 16 % 256 = x / 65536 % 256 from rfl] at s2
  rw [show x / 2 ^ 8 % 256 = x / 256 % 256 from rfl] at s1
  rw [show x / 2 ^ 0 % 256 = x % 256 by omega] at s0
  rw [s0, s1, s2, s3]
  unfold bl sl
  rw [show List.range 32 = ((List.range 8).map fun k => 0 + k) ++ ((List.range 8).map fun k => 8 + k) ++ ((List.range 8).map fun k => 16 + k) ++ ((List.range 8).map fun k => 24 + k) from by decide]
  simp only [List.filter_append, List.length_append]
  omega
/-- '(x % n + n) % n' names one of n. -/
theorem idx (x : Int) (n : Nat) (hn : 0 < n) (hn2 : n ≤ 1000000) : ∃ j : Nat, j < n ∧ (wrap64 (x.tmod (n : Int) + (n : Int))).tmod (n : Int) = (j : Int) := by
  have h1 := Int.tmod_lt_of_pos x (show (0 : Int) < (n : Int) by omega)
  have h2 : -(n : Int) < x.tmod (n : Int) := Int.lt_tmod_of_pos x (by omega)
  have h3 : wrap64 (x.tmod (n : Int) + (n : Int)) = x.tmod (n : Int) + (n : Int) := by unfold wrap64; omega
  rw [h3]
  have h4 : 0 ≤ x.tmod (n : Int) + (n : Int) := by omega
  rw [Int.tmod_eq_emod_of_nonneg h4]
  have h5 := Int.emod_nonneg (x.tmod (n : Int) + (n : Int)) (show (n : Int) ≠ 0 by omega)
  have h6 := Int.emod_lt_of_pos (x.tmod (n : Int) + (n : Int)) (show (0 : Int) < (n : Int) by omega)
  exact ⟨((x.tmod (n : Int) + (n : Int)) % (n : Int)).toNat, by omega, by omega⟩
end Go.Proofs.YtfgpadkoonogpaaDoor.Bit

namespace Go.Proofs.YtfgpadkoonogpaaDoor.Wd
open Go.RowKit Bit

theorem wrap_u64 {x : Nat} (h : x < 18446744073709551616) : IntKind.u64.wrap (x : Int) = (x : Int) := by
  simp [IntKind.wrap, IntKind.signed, IntKind.bits]; omega
theorem and64 (a b : Nat) (ha : a < 18446744073709551616) (hb : b < 18446744073709551616) : bits .and .u64 (a : Int) (b : Int) = ((a &&& b : Nat) : Int) := by
  have hx : a &&& b < 2 ^ 64 := Nat.and_lt_two_pow _ (by omega)
  show IntKind.u64.wrap ((BitVec.ofInt 64 (a : Int) &&& BitVec.ofInt 64 (b : Int)).toNat : Int) = _
  rw [BitVec.toNat_and, ofInt_nat (by omega), ofInt_nat (by omega), wrap_u64 (by omega)]
theorem or64 (a b : Nat) (ha : a < 18446744073709551616) (hb : b < 18446744073709551616) : bits .or .u64 (a : Int) (b : Int) = ((a ||| b : Nat) : Int) := by
  have hx : a ||| b < 2 ^ 64 := Nat.or_lt_two_pow (by omega) (by omega)
  show IntKind.u64.wrap ((BitVec.ofInt 64 (a : Int) ||| BitVec.ofInt 64 (b : Int)).toNat : Int) = _
  rw [BitVec.toNat_or, ofInt_nat (by omega), ofInt_nat (by omega), wrap_u64 (by omega)]
theorem andn64 (a b : Nat) (ha : a < 18446744073709551616) (hb : b < 18446744073709551616) : bits .andNot .u64 (a : Int) (b : Int) = ((a &&& (18446744073709551615 - b) : Nat) : Int) := by
  have hx : a &&& (18446744073709551615 - b) < 2 ^ 64 := Nat.and_lt_two_pow _ (by omega)
  show IntKind.u64.wrap ((BitVec.ofInt 64 (a : Int) &&& ~~~(BitVec.ofInt 64 (b : Int))).toNat : Int) = _
  rw [BitVec.toNat_and, BitVec.toNat_not, ofInt_nat (by omega), ofInt_nat (by omega)]
  rw [show (2 : Nat) ^ 64 - 1 - b = 18446744073709551615 - b by omega, wrap_u64 (by omega)]
theorem comp_bit (b i : Nat) (hb : b < 18446744073709551616) : (18446744073709551615 - b).testBit i = (decide (i < 64) && !b.testBit i) := by
  rw [show 18446744073709551615 - b = 2 ^ 64 - (b + 1) by omega, Nat.testBit_two_pow_sub_succ (by omega)]
theorem high_bit {x i : Nat} (hx : x < 18446744073709551616) (hi : 64 ≤ i) : x.testBit i = false :=
  Nat.testBit_lt_two_pow (Nat.lt_of_lt_of_le (show x < 2 ^ 64 by omega) (Nat.pow_le_pow_right (by omega) hi))
theorem not64 (a : Nat) (ha : a < 18446744073709551616) : bits .xor .u64 IntKind.u64.max (a : Int) = ((18446744073709551615 - a : Nat) : Int) := by
  have hm : IntKind.u64.max = ((18446744073709551615 : Nat) : Int) := by decide
  have hx : (18446744073709551615 : Nat) ^^^ a = 18446744073709551615 - a := by
    apply Nat.eq_of_testBit_eq
    intro i
    rw [comp_bit a i ha]
    have e2 : (18446744073709551615 : Nat) = 2 ^ 64 - 1 := by decide
    rw [e2, Nat.testBit_xor, Nat.testBit_two_pow_sub_one]
    by_cases hi : i < 64
    · simp [hi]
    · simp [hi, high_bit ha (show 64 ≤ i by omega)]
  rw [hm]
  show IntKind.u64.wrap ((BitVec.ofInt 64 ((18446744073709551615 : Nat) : Int) ^^^ BitVec.ofInt 64 (a : Int)).toNat : Int) = _
  rw [BitVec.toNat_xor, ofInt_nat (by omega), ofInt_nat (by omega), hx, wrap_u64 (by omega)]
theorem pow_lt {k : Nat} (h : k < 64) : 2 ^ k < 18446744073709551616 := by
  have : (2 : Nat) ^ k < 2 ^ 64 := Nat.pow_lt_pow_right (by omega) h
  omega
theorem and_lt {a b : Nat} (ha : a < 18446744073709551616) : a &&& b < 18446744073709551616 := Nat.lt_of_le_of_lt Nat.and_le_left ha
theorem or_lt {a b : Nat} (ha : a < 18446744073709551616) (hb : b < 18446744073709551616) : a ||| b < 18446744073709551616 := by
  have : a ||| b < 2 ^ 64 := Nat.or_lt_two_pow (by omega) (by omega)
  omega
/-- A run of bits. -/
def mask (f t : Nat) : Nat := if f < t then (2 ^ (t - f) - 1) * 2 ^ f else 0
theorem mask_bit (f t i : Nat) : (mask f t).testBit i = (decide (f ≤ i) && decide (i < t)) := by
  unfold mask
  by_cases h : f < t
  · rw [if_pos h, Nat.mul_comm, Nat.testBit_two_pow_mul, Nat.testBit_two_pow_sub_one]
    by_cases h1 : f ≤ i
    · simp [h1]; omega
    · simp [h1]
  · rw [if_neg h]
    simp; omega
theorem mask_lt {f t : Nat} (ht : t ≤ 64) : mask f t < 18446744073709551616 := by
  have : mask f t < 2 ^ 64 := by
    apply Nat.lt_pow_two_of_testBit
    intro i hi
    rw [mask_bit]
    simp; omega
  omega
/-- The code's way to a run of bits. -/
theorem mask_way {f t : Nat} (h : f < t) (ht : t ≤ 64) : 18446744073709551615 / 2 ^ (64 - (t - f)) * 2 ^ f = mask f t := by
  unfold mask
  rw [if_pos h]
  congr 1
  have e : (18446744073709551615 : Nat) = 2 ^ 64 - 1 := by decide
  rw [e, ← Nat.shiftRight_eq_div_pow]
  apply Nat.eq_of_testBit_eq
  intro i
  rw [Nat.testBit_shiftRight, Nat.testBit_two_pow_sub_one, Nat.testBit_two_pow_sub_one]
  congr 1
  apply propext
  omega
/-! How many bits are set, as the code counts. -/
theorem land_base (p a b c d : Nat) (hb : b < 2 ^ p) (hd : d < 2 ^ p) : (2 ^ p * a + b) &&& (2 ^ p * c + d) = 2 ^ p * (a &&& c) + (b &&& d) := by
  have hbd : b &&& d < 2 ^ p := Nat.lt_of_le_of_lt Nat.and_le_left hb
  apply Nat.eq_of_testBit_eq
  intro i
  rw [Nat.testBit_and, Nat.testBit_two_pow_mul_add _ hb, Nat.testBit_two_pow_mul_add _ hd, Nat.testBit_two_pow_mul_add _ hbd]
  by_cases h : i < p
  · simp [h]
  · simp [h]
/-- How many of the lowest k bits are set. -/
def tot : Nat → Nat → Nat
  | 0, _ => 0
  | k + 1, x => x % 2 + tot k (x / 2)
theorem tot_sl : ∀ (k x : Nat), tot k x = (sl k x.testBit).length
  | 0, x => rfl
  | k + 1, x => by
    unfold tot sl
    rw [tot_sl k, List.range_succ_eq_map, List.filter_cons, List.filter_map, sl]
    have e : (Nat.testBit x ∘ Nat.succ) = (x / 2).testBit := by
      funext i
      exact Nat.testBit_succ x i
    rw [e]
    have h0 : x.testBit 0 = decide (x % 2 = 1) := Nat.testBit_zero x
    by_cases h : x % 2 = 1
    · rw [h0]; simp [h]; omega
    · rw [h0]; simp [h]; omega
/-- k lanes of p bits, each at most L, together s. -/
def Lanes (p L : Nat) : Nat → Nat → Nat → Prop
  | 0, y, s => y = 0 ∧ s = 0
  | k + 1, y, s => ∃ y' d s', y = p * y' + d ∧ d ≤ L ∧ s = s' + d ∧ Lanes p L k y' s'
def rep (p m : Nat) : Nat → Nat
  | 0 => 0
  | k + 1 => p * rep p m k + m
theorem and1 (y : Nat) : y &&& 1 = y % 2 := Nat.and_two_pow_sub_one_eq_mod y 1
theorem and3 (y : Nat) : y &&& 3 = y % 4 := Nat.and_two_pow_sub_one_eq_mod y 2
theorem and15 (y : Nat) : y &&& 15 = y % 16 := Nat.and_two_pow_sub_one_eq_mod y 4
theorem lane4 (y R m : Nat) (hm : m < 4) : y &&& (4 * R + m) = 4 * (y / 4 &&& R) + (y % 4 &&& m) := by
  have h := land_base 2 (y / 4) (y % 4) R m (by omega) (by omega)
  rw [show (2 : Nat) ^ 2 = 4 from rfl, Nat.div_add_mod] at h
  exact h
theorem lane16 (y R m : Nat) (hm : m < 16) : y &&& (16 * R + m) = 16 * (y / 16 &&& R) + (y % 16 &&& m) := by
  have h := land_base 4 (y / 16) (y % 16) R m (by omega) (by omega)
  rw [show (2 : Nat) ^ 4 = 16 from rfl, Nat.div_add_mod] at h
  exact h
theorem lane256 (y R m : Nat) (hm : m < 256) : y &&& (256 * R + m) = 256 * (y / 256 &&& R) + (y % 256 &&& m) := by
  have h := land_base 8 (y / 256) (y % 256) R m (by omega) (by omega)
  rw [show (2 : Nat) ^ 8 = 256 from rfl, Nat.div_add_mod] at h
  exact h
theorem stepA : ∀ (k x : Nat), Lanes 4 2 k ((x / 2 &&& rep 4 1 k) + (x &&& rep 4 1 k)) (tot (2 * k) x)
  | 0, x => ⟨by simp [rep], rfl⟩
  | k + 1, x => by
    refine ⟨(x / 4 / 2 &&& rep 4 1 k) + (x / 4 &&& rep 4 1 k), x % 2 + x / 2 % 2, tot (2 * k) (x / 4), ?_, by omega, ?_, stepA k (x / 4)⟩
    · show (x / 2 &&& (4 * rep 4 1 k + 1)) + (x &&& (4 * rep 4 1 k + 1)) = _
      rw [lane4 (x / 2) _ 1 (by omega), lane4 x _ 1 (by omega), and1, and1, show x / 2 / 4 = x / 4 / 2 by omega]
      omega
    · rw [show 2 * (k + 1) = 2 * k + 1 + 1 by omega]
      show x % 2 + (x / 2 % 2 + tot (2 * k) (x / 2 / 2)) = _
      rw [show x / 2 / 2 = x / 4 by omega]
      omega
theorem stepB : ∀ (k y s : Nat), Lanes 4 2 (2 * k) y s → Lanes 16 4 k ((y / 4 &&& rep 16 3 k) + (y &&& rep 16 3 k)) s
  | 0, y, s, h => ⟨by simp [rep], h.2⟩
  | k + 1, y, s, h => by
    rw [show 2 * (k + 1) = 2 * k + 1 + 1 by omega] at h
    obtain ⟨y1, d0, s1, rfl, hd0, rfl, y2, d1, s2, rfl, hd1, rfl, hl⟩ := h
    refine ⟨(y2 / 4 &&& rep 16 3 k) + (y2 &&& rep 16 3 k), d0 + d1, s2, ?_, by omega, by omega, stepB k y2 s2 hl⟩
    show ((4 * (4 * y2 + d1) + d0) / 4 &&& (16 * rep 16 3 k + 3)) + (4 * (4 * y2 + d1) + d0 &&& (16 * rep 16 3 k + 3)) = _
    rw [lane16 _ _ 3 (by omega), lane16 _ _ 3 (by omega), and3, and3, show (4 * (4 * y2 + d1) + d0) / 4 / 16 = y2 / 4 by omega, show (4 * (4 * y2 + d1) + d0) / 16 = y2 by omega]
    omega
theorem Lanes.low {p L k y s : Nat} (h : Lanes p L k y s) (hL : L < p) : y % p ≤ L := by
  cases k with
  | zero => rw [h.1]; simp
  | succ k =>
    obtain ⟨y', d, s', rfl, hd, _, _⟩ := h
    rw [Nat.mul_add_mod, Nat.mod_eq_of_lt (by omega)]
    exact hd
theorem stepC : ∀ (k z s : Nat), Lanes 16 4 (2 * k) z s → Lanes 256 8 k (z / 16 + z &&& rep 256 15 k) s
  | 0, z, s, h => ⟨by simp [rep], h.2⟩
  | k + 1, z, s, h => by
    rw [show 2 * (k + 1) = 2 * k + 1 + 1 by omega] at h
    obtain ⟨z1, d0, s1, rfl, hd0, rfl, z2, d1, s2, rfl, hd1, rfl, hl⟩ := h
    have h2 := hl.low (by omega)
    refine ⟨z2 / 16 + z2 &&& rep 256 15 k, d0 + d1, s2, ?_, by omega, by omega, stepC k z2 s2 hl⟩
    show (16 * (16 * z2 + d1) + d0) / 16 + (16 * (16 * z2 + d1) + d0) &&& (256 * rep 256 15 k + 15) = _
    rw [lane256 _ _ 15 (by omega), and15, show ((16 * (16 * z2 + d1) + d0) / 16 + (16 * (16 * z2 + d1) + d0)) / 256 = z2 / 16 + z2 by omega]
    omega
theorem div1 (a b : Nat) (hb : b ≤ 8) : (256 * a + b) / 256 = a := by omega
theorem stepD {u s : Nat} (h : Lanes 256 8 8 u s) : u + u / 256 < 18446744073709551616 ∧ u + u / 256 + (u + u / 256) / 65536 < 18446744073709551616 ∧
    u + u / 256 + (u + u / 256) / 65536 + (u + u / 256 + (u + u / 256) / 65536) / 4294967296 < 9223372036854775808 ∧
    (u + u / 256 + (u + u / 256) / 65536 + (u + u / 256 + (u + u / 256) / 65536) / 4294967296) % 128 = s := by
  obtain ⟨u1, b0, s1, rfl, h0, rfl, u2, b1, s2, rfl, h1, rfl, u3, b2, s3, rfl, h2, rfl, u4, b3, s4, rfl, h3, rfl, u5, b4, s5, rfl, h4, rfl, u6, b5, s6, rfl, h5, rfl, u7, b6, s7, rfl, h6, rfl, u8, b7, s8, rfl, h7, rfl, rfl, rfl⟩ := h
  rw [div1 _ b0 h0]
  obtain ⟨v, hv⟩ : ∃ v, 256 * (256 * (256 * (256 * (256 * (256 * (256 * (256 * 0 + b7) + b6) + b5) + b4) + b3) + b2) + b1) + b0 + (256 * (256 * (256 * (256 * (256 * (256 * (256 * 0 + b7) + b6) + b5) + b4) + b3) + b2) + b1) = v := ⟨_, rfl⟩
  rw [hv]
  have hv' : v = 65536 * ((b2 + b3) + 256 * (b3 + b4) + 65536 * (b4 + b5) + 16777216 * (b5 + b6) + 4294967296 * (b6 + b7) + 1099511627776 * b7) + (256 * (b1 + b2) + (b0 + b1)) := by omega
  clear hv
  have e2 : v / 65536 = (b2 + b3) + 256 * (b3 + b4) + 65536 * (b4 + b5) + 16777216 * (b5 + b6) + 4294967296 * (b6 + b7) + 1099511627776 * b7 := by
    generalize (b2 + b3) + 256 * (b3 + b4) + 65536 * (b4 + b5) + 16777216 * (b5 + b6) + 4294967296 * (b6 + b7) + 1099511627776 * b7 = q at *
    omega
  rw [e2]
  obtain ⟨x, hx⟩ : ∃ x, v + ((b2 + b3) + 256 * (b3 + b4) + 65536 * (b4 + b5) + 16777216 * (b5 + b6) + 4294967296 * (b6 + b7) + 1099511627776 * b7) = x := ⟨_, rfl⟩
  rw [hx]
  have hv1 : v < 18446744073709551616 := by omega
  have hx' : x = 4294967296 * ((b4 + b5 + b6 + b7) + 256 * (b5 + b6 + b7) + 65536 * (b6 + b7) + 16777216 * b7) + (16777216 * (b3 + b4 + b5 + b6) + 65536 * (b2 + b3 + b4 + b5) + 256 * (b1 + b2 + b3 + b4) + (b0 + b1 + b2 + b3)) := by omega
  clear hx hv' e2
  have e3 : x / 4294967296 = (b4 + b5 + b6 + b7) + 256 * (b5 + b6 + b7) + 65536 * (b6 + b7) + 16777216 * b7 := by
    generalize (b4 + b5 + b6 + b7) + 256 * (b5 + b6 + b7) + 65536 * (b6 + b7) + 16777216 * b7 = q at *
    omega
  rw [e3]
  refine ⟨hv1, by omega, by omega, ?_⟩
  omega
/-- How many bits are set. -/
def pop (x : Nat) : Nat := tot 64 x
theorem pop_le (x : Nat) : pop x ≤ 64 := by
  unfold pop
  rw [tot_sl]
  exact sl_len 64 _
theorem rep1 : rep 4 1 32 = 6148914691236517205 := by decide
theorem rep3 : rep 16 3 16 = 3689348814741910323 := by decide
theorem rep15 : rep 256 15 8 = 1085102592571150095 := by decide
/-- The code's way to how many bits are set: the sums, and that none is too large. -/
theorem pop_way (x y z u : Nat) (hy : y = (x / 2 &&& 6148914691236517205) + (x &&& 6148914691236517205)) (hz : z = (y / 4 &&& 3689348814741910323) + (y &&& 3689348814741910323)) (hu : u = z / 16 + z &&& 1085102592571150095) :
    y < 18446744073709551616 ∧ z < 18446744073709551616 ∧ z / 16 + z < 18446744073709551616 ∧ u < 18446744073709551616 ∧ u + u / 256 < 18446744073709551616 ∧ u + u / 256 + (u + u / 256) / 65536 < 18446744073709551616 ∧
    u + u / 256 + (u + u / 256) / 65536 + (u + u / 256 + (u + u / 256) / 65536) / 4294967296 < 9223372036854775808 ∧
    (u + u / 256 + (u + u / 256) / 65536 + (u + u / 256 + (u + u / 256) / 65536) / 4294967296) % 128 = pop x := by
  have a := stepA 32 x
  rw [rep1, ← hy] at a
  have b := stepB 16 y _ a
  rw [rep3, ← hz] at b
  have c := stepC 8 z _ b
  rw [rep15, ← hu] at c
  have d := stepD c
  have h1 : x / 2 &&& 6148914691236517205 ≤ 6148914691236517205 := Nat.and_le_right
  have h2 : x &&& 6148914691236517205 ≤ 6148914691236517205 := Nat.and_le_right
  have h3 : y / 4 &&& 3689348814741910323 ≤ 3689348814741910323 := Nat.and_le_right
  have h4 : y &&& 3689348814741910323 ≤ 3689348814741910323 := Nat.and_le_right
  have h5 : z / 16 + z &&& 1085102592571150095 ≤ 1085102592571150095 := Nat.and_le_right
  exact ⟨by omega, by omega, by omega, by omega, d.1, d.2.1, d.2.2.1, d.2.2.2⟩
end Go.Proofs.YtfgpadkoonogpaaDoor.Wd
