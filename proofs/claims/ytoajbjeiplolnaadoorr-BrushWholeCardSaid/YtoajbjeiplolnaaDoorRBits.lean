/- Words of 32 bits as sets of small numbers: plain lemmas, and the spelling of the walk's bit operations. No program is named. -/
import Derived.WalkKit
import Derived.Lib.TrailingZeros
import Derived.Lib.BitFns
import Derived.Lib.Hide
namespace Go.Proofs.YtoajbjeiplolnaaDoorR.Bit
open Go.RowKit

theorem ofInt_nat {n x : Nat} (h : x < 2 ^ n) : (BitVec.ofInt n (x : Int)).toNat = x := by
  rw [BitVec.ofInt_natCast, BitVec.toNat_ofNat]; exact Nat.mod_eq_of_lt h
theorem wrap_u32 {x : Nat} (h : x < 4294967296) : IntKind.u32.wrap (x : Int) = (x : Int) := by
  simp [IntKind.wrap, IntKind.signed, IntKind.bits]; omega
theorem and32 (a b : Nat) (ha : a < 4294967296) (hb : b < 4294967296) : bits .and .u32 (a : Int) (b : Int) = ((a &&& b : Nat) : Int) := by
  have hx : a &&& b < 2 ^ 32 := Nat.and_lt_two_pow _ (by omega)
  show IntKind.u32.wrap ((BitVec.ofInt 32 (a : Int) &&& BitVec.ofInt 32 (b : Int)).toNat : Int) = _
  rw [BitVec.toNat_and, ofInt_nat (by omega), ofInt_nat (by omega), wrap_u32 (by omega)]
theorem or32 (a b : Nat) (ha : a < 4294967296) (hb : b < 4294967296) : bits .or .u32 (a : Int) (b : Int) = ((a ||| b : Nat) : Int) := by
  have hx : a ||| b < 2 ^ 32 := Nat.or_lt_two_pow (by omega) (by omega)
  show IntKind.u32.wrap ((BitVec.ofInt 32 (a : Int) ||| BitVec.ofInt 32 (b : Int)).toNat : Int) = _
  rw [BitVec.toNat_or, ofInt_nat (by omega), ofInt_nat (by omega), wrap_u32 (by omega)]
theorem andn32 (a b : Nat) (ha : a < 4294967296) (hb : b < 4294967296) : bits .andNot .u32 (a : Int) (b : Int) = ((a &&& (4294967295 - b) : Nat) : Int) := by
  have hx : a &&& (4294967295 - b) < 2 ^ 32 := Nat.and_lt_two_pow _ (by omega)
  show IntKind.u32.wrap ((BitVec.ofInt 32 (a : Int) &&& ~~~(BitVec.ofInt 32 (b : Int))).toNat : Int) = _
  rw [BitVec.toNat_and, BitVec.toNat_not, ofInt_nat (by omega), ofInt_nat (by omega)]
  rw [show (2 : Nat) ^ 32 - 1 - b = 4294967295 - b by omega, wrap_u32 (by omega)]
theorem not32 (a : Nat) (ha : a < 4294967296) : bits .xor .u32 IntKind.u32.max (a : Int) = ((4294967295 - a : Nat) : Int) := by
  have hm : IntKind.u32.max = ((4294967295 : Nat) : Int) := by decide
  have hx : (4294967295 : Nat) ^^^ a = 4294967295 - a := by
    apply Nat.eq_of_testBit_eq
    intro i
    have e : 4294967295 - a = 2 ^ 32 - (a + 1) := by omega
    have e2 : (4294967295 : Nat) = 2 ^ 32 - 1 := by decide
    rw [e, Nat.testBit_two_pow_sub_succ (by omega), e2, Nat.testBit_xor, Nat.testBit_two_pow_sub_one]
    by_cases hi : i < 32
    · simp [hi]
    · have : a.testBit i = false := Nat.testBit_lt_two_pow (Nat.lt_of_lt_of_le (show a < 2 ^ 32 by omega) (Nat.pow_le_pow_right (by omega) (by omega)))
      simp [hi, this]
  rw [hm]
  show IntKind.u32.wrap ((BitVec.ofInt 32 ((4294967295 : Nat) : Int) ^^^ BitVec.ofInt 32 (a : Int)).toNat : Int) = _
  rw [BitVec.toNat_xor, ofInt_nat (by omega), ofInt_nat (by omega), hx, wrap_u32 (by omega)]
theorem and255 (a : Nat) (ha : a < 4294967296) : bits .and .u32 (a : Int) 255 = ((a % 256 : Nat) : Int) := by
  have h := and32 a 255 ha (by omega)
  rw [show ((255 : Nat) : Int) = 255 from rfl] at h
  rw [h, show (255 : Nat) = 2 ^ 8 - 1 from rfl, Nat.and_two_pow_sub_one_eq_mod]
/-- The complement's bits. -/
theorem comp_bit (b i : Nat) (hb : b < 4294967296) : (4294967295 - b).testBit i = (decide (i < 32) && !b.testBit i) := by
  rw [show 4294967295 - b = 2 ^ 32 - (b + 1) by omega, Nat.testBit_two_pow_sub_succ (by omega)]
theorem high_bit {x i : Nat} (hx : x < 4294967296) (hi : 32 ≤ i) : x.testBit i = false :=
  Nat.testBit_lt_two_pow (Nat.lt_of_lt_of_le (show x < 2 ^ 32 by omega) (Nat.pow_le_pow_right (by omega) hi))
theorem andn_bit (a b i : Nat) (ha : a < 4294967296) (hb : b < 4294967296) : (a &&& (4294967295 - b)).testBit i = (a.testBit i && !b.testBit i) := by
  rw [Nat.testBit_and, comp_bit b i hb]
  by_cases hi : i < 32
  · simp [hi]
  · rw [high_bit (i := i) ha (by omega)]; simp
theorem pow_bit (k i : Nat) : (2 ^ k).testBit i = decide (k = i) := by
  rw [Nat.testBit_two_pow]
theorem pow_lt {k : Nat} (h : k < 32) : 2 ^ k < 4294967296 := by
  have : (2 : Nat) ^ k < 2 ^ 32 := Nat.pow_lt_pow_right (by omega) h
  omega
theorem and_pow (x k : Nat) : (x &&& 2 ^ k = 0) ↔ x.testBit k = false := by
  constructor
  · intro h
    have : (x &&& 2 ^ k).testBit k = false := by rw [h]; simp
    rw [Nat.testBit_and, pow_bit] at this
    simpa using this
  · intro h
    apply Nat.eq_of_testBit_eq
    intro i
    rw [Nat.testBit_and, pow_bit]
    by_cases hi : k = i
    · subst hi; simp [h]
    · simp [hi]
/-- The lowest bit: ctz names it. -/
theorem ctz_spec (n x : Nat) (h0 : x ≠ 0) (h : x < 2 ^ n) : Lib.ctz n x < n ∧ x.testBit (Lib.ctz n x) = true ∧ ∀ j, j < Lib.ctz n x → x.testBit j = false := by
  obtain ⟨m, hm, hk⟩ := Lib.ctzFrom_spec n x (by omega) h
  have e : Lib.ctz n x = Lib.ctzFrom n x := by simp [Lib.ctz, h0]
  rw [e]
  generalize Lib.ctzFrom n x = k at *
  subst hm
  refine ⟨hk, ?_, ?_⟩
  · rw [Nat.testBit_two_pow_mul]
    simp
  · intro j hj
    rw [Nat.testBit_two_pow_mul]
    simp; omega
theorem ctz_unique {n x k : Nat} (h : x < 2 ^ n) (h1 : x.testBit k = true) (h2 : ∀ j, j < k → x.testBit j = false) : Lib.ctz n x = k := by
  have h0 : x ≠ 0 := by rintro rfl; simp at h1
  obtain ⟨a, b, c⟩ := ctz_spec n x h0 h
  rcases Nat.lt_trichotomy (Lib.ctz n x) k with hh | hh | hh
  · rw [h2 _ hh] at b; cases b
  · exact hh
  · rw [c _ hh] at h1; cases h1
/-- The lowest bit struck. -/
theorem strike (x : Nat) (h0 : x ≠ 0) (i : Nat) (n : Nat) (h : x < 2 ^ n) : (x &&& (x - 1)).testBit i = (x.testBit i && decide (i ≠ Lib.ctz n x)) := by
  obtain ⟨m, hm, hk⟩ := Lib.ctzFrom_spec n x (by omega) h
  have e : Lib.ctz n x = Lib.ctzFrom n x := by simp [Lib.ctz, h0]
  rw [e]
  generalize Lib.ctzFrom n x = k at *
  have hx1 : x - 1 = 2 ^ k * (2 * m) + (2 ^ k - 1) := by
    have : 0 < 2 ^ k := Nat.two_pow_pos k
    rw [hm, Nat.mul_add, Nat.mul_one]; omega
  rw [Nat.testBit_and]
  conv => lhs; rw [hx1, hm]
  rw [Nat.testBit_two_pow_mul_add _ (by have := Nat.two_pow_pos k; omega), Nat.testBit_two_pow_mul]
  conv => rhs; rw [hm]
  rw [Nat.testBit_two_pow_mul]
  by_cases h1 : i < k
  · simp [h1]; omega
  · simp only [h1, if_false]
    by_cases h2 : i = k
    · subst h2; simp
    · have h3 : k ≤ i := by omega
      obtain ⟨d, rfl⟩ : ∃ d, i = k + (d + 1) := ⟨i - k - 1, by omega⟩
      have e1 : k + (d + 1) - k = d + 1 := by omega
      have a1 : (2 * m).testBit (d + 1) = m.testBit d := by rw [Nat.testBit_succ]; congr 1; omega
      have a2 : (2 * m + 1).testBit (d + 1) = m.testBit d := by rw [Nat.testBit_succ]; congr 1; omega
      rw [e1, a1, a2]
      simp
end Go.Proofs.YtoajbjeiplolnaaDoorR.Bit
