/- Plain facts for besomlaw6.ArenaInside: an arena of three pages, the first of which has its first slots used. -/
import Derived.Test.YtjlbmelpoaffpaaDoorArP
namespace Go.Proofs.YtjlbmelpoaffpaaDoor.Ar
open Go.RowKit Pg
set_option linter.unusedSimpArgs false
set_option linter.unusedVariables false

theorem full_bit (n i : Nat) : (2 ^ n - 1).testBit i = decide (i < n) := Nat.testBit_two_pow_sub_one n i
theorem full_ins (k : Nat) : ins (2 ^ k - 1) k = 2 ^ (k + 1) - 1 := by
  apply Nat.eq_of_testBit_eq
  intro i
  rw [ins_bit, full_bit, full_bit]
  by_cases h1 : i < k
  · simp [h1]; omega
  · by_cases h2 : k = i
    · subst h2; simp
    · have : ¬ i < k + 1 := by omega
      simp [h1, h2, this]
theorem del_zero (k : Nat) : del 0 k = 0 := by simp [del]
theorem csz_csl (c : Int) : Cls.csz c ≠ 0 → ∃ n s : Nat, Cls.csl c = (n : Int) ∧ Cls.csz c = (s : Int) ∧ 0 < n ∧ n ≤ 32 ∧ 0 < s ∧ 32 / s = n ∧ n * s ≤ 32 := by
  intro h
  rcases Cls.csz_cases c with h1 | h1 | rfl | rfl | rfl | rfl | rfl | rfl | rfl | rfl
  · exact absurd (Cls.csz_out (.inl h1)) h
  · exact absurd (Cls.csz_out (.inr h1)) h
  · exact ⟨32, 1, by decide, by decide, by omega, by omega, by omega, by decide, by omega⟩
  · exact ⟨16, 2, by decide, by decide, by omega, by omega, by omega, by decide, by omega⟩
  · exact ⟨10, 3, by decide, by decide, by omega, by omega, by omega, by decide, by omega⟩
  · exact ⟨8, 4, by decide, by decide, by omega, by omega, by omega, by decide, by omega⟩
  · exact ⟨5, 6, by decide, by decide, by omega, by omega, by omega, by decide, by omega⟩
  · exact ⟨4, 8, by decide, by decide, by omega, by omega, by omega, by decide, by omega⟩
  · exact ⟨2, 12, by decide, by decide, by omega, by omega, by omega, by decide, by omega⟩
  · exact ⟨2, 16, by decide, by decide, by omega, by omega, by omega, by decide, by omega⟩
/-- Three pages: the first one of a class, its first k slots used. -/
def one (bp : Nat) (c : Int) (m k : Nat) : List (Option PM) := [some ⟨bp, c, m, 2 ^ k - 1, 0⟩, none, none]
theorem one_next (bp : Nat) (c : Int) (m k : Nat) : (one bp c m k).set 0 (some ⟨bp, c, m, ins (2 ^ k - 1) k, del 0 k⟩) = one bp c m (k + 1) := by
  rw [full_ins, del_zero]; rfl
theorem get_one0 (bp : Nat) (c : Int) (m k : Nat) : get (one bp c m k) 0 = some ⟨bp, c, m, 2 ^ k - 1, 0⟩ := get_nat (one bp c m k) 0
theorem get_one1 (bp : Nat) (c : Int) (m k j : Nat) (hj : 1 ≤ j) : get (one bp c m k) (j : Int) = none := by
  rw [get_nat]
  match j, hj with
  | 1, _ => rfl
  | 2, _ => rfl
  | j + 3, _ => rfl
theorem one_in {bp m k z f : Nat} {c a : Int} (ha : a - 1048576 = (f : Int)) (hc : Cls.csl c = (m : Int)) (hz : Cls.csz c = (z : Int)) (hk : k ≤ m) (h0 : 0 < z) (hmz : m * z ≤ 32) (h : f < k * z) :
    (slot (one bp c m k) a).isSome = true ∧ ∃ B : Int, fbase (one bp c m k) a = B ∧ B ≤ a ∧ a < B + (z : Int) ∧ 1048576 ≤ B ∧ B ≤ 1048672 := by
  have hkm : k * z ≤ m * z := Nat.mul_le_mul_right z hk
  have hq : f / z < k := (Nat.div_lt_iff_lt_mul h0).2 h
  have e0 : (f : Int) / 32 = 0 := by omega
  have e1 : (f : Int) % 32 = (f : Int) := by omega
  have e2 : (f : Int) / (z : Int) = ((f / z : Nat) : Int) := rfl
  have e3 : (f : Int) < (m : Int) * (z : Int) := by
    have : ((m * z : Nat) : Int) = (m : Int) * (z : Int) := Int.natCast_mul m z
    rw [← this]; omega
  have hs : slot (one bp c m k) a = some (0, ⟨bp, c, m, 2 ^ k - 1, 0⟩, f / z) := by
    unfold slot
    rw [if_neg (by omega), ha, e0, get_one0]
    dsimp only
    rw [e1, hc, hz, e2, if_pos ⟨e3, by rw [at_nat, full_bit]; simpa using hq⟩]
    rfl
  refine ⟨by rw [hs]; rfl, 1048576 + ((f / z * z : Nat) : Int), ?_, ?_⟩
  · unfold fbase
    rw [hs]
    dsimp only
    rw [base_some (show get (one bp c m k) ((0 : Nat) : Int) = some ⟨bp, c, m, 2 ^ k - 1, 0⟩ from get_one0 bp c m k), if_pos ⟨Int.natCast_nonneg _, Int.ofNat_lt.2 (show f / z < m by omega)⟩]
    dsimp only
    rw [hz, Int.natCast_mul]
    simp
  · have hd := Nat.div_add_mod' f z
    have hm := Nat.mod_lt f h0
    generalize f / z * z = q at *
    omega
theorem one_out {bp m k z f : Nat} {c a : Int} (ha : a - 1048576 = (f : Int)) (hc : Cls.csl c = (m : Int)) (hz : Cls.csz c = (z : Int)) (h0 : 0 < z) (h : k * z ≤ f) : slot (one bp c m k) a = none := by
  unfold slot
  rw [if_neg (by omega), ha]
  by_cases hf : f < 32
  · have e0 : (f : Int) / 32 = 0 := by omega
    have e1 : (f : Int) % 32 = (f : Int) := by omega
    have e2 : (f : Int) / (z : Int) = ((f / z : Nat) : Int) := rfl
    have hq : ¬ f / z < k := by
      intro e
      have := (Nat.div_lt_iff_lt_mul h0).1 e
      omega
    rw [e0, get_one0]
    dsimp only
    rw [e1, hz, e2, if_neg (by rw [at_nat, full_bit]; simp [hq])]
  · rw [show (f : Int) / 32 = ((f / 32 : Nat) : Int) from rfl, get_one1 _ _ _ _ _ (by omega)]
theorem div_fact {s n : Nat} (h : 32 / s = n) : (32 : Int) / (s : Int) = (n : Int) := by rw [← h]; rfl
theorem mul_nat (k s : Nat) (h : k * s ≤ 32) : wrap64 ((k : Int) * (s : Int)) = ((k * s : Nat) : Int) := by
  rw [← Int.natCast_mul]
  exact wrap64_id (by omega)
/-- What a list of the call's own does, that lies behind the arena. -/
theorem AW.told {w wr w' : World} {b gp gw z : Nat} {ps : List (Option PM)} {ws : List Int} (h : AW w wr b gp gw ps ws) (hk : Kept (fun i => z ≤ i) wr w') (hf : ∀ i, Foot b gp gw ps i → i < z) (hz : w.heap.size ≤ z) (h0 : 1 < w.heap.size) : AW w w' b gp gw ps ws :=
  ⟨h.ar.kept hk (fun i hi e => by have := hf i hi; omega), h.new, h.bel.trans (hk.below h.bel.size (fun i hi e => by omega)), h.tab.kept hk (by omega)⟩
theorem foot_one {b gp gw bp m k k' i : Nat} {c : Int} (h : Foot b gp gw (one bp c m k) i) : Foot b gp gw (one bp c m k') i := by
  rcases h with h | h | h | ⟨j, p, hj, h⟩
  · exact .inl h
  · exact .inr (.inl h)
  · exact .inr (.inr (.inl h))
  · have : i = bp := by
      match j, hj with
      | 0, hj => rw [← h]; injection hj with hj; injection hj with hj; rw [← hj]
      | 1, hj => cases hj
      | 2, hj => cases hj
      | j + 3, hj => cases hj
    exact .inr (.inr (.inr ⟨0, _, rfl, this.symm⟩))
end Go.Proofs.YtjlbmelpoaffpaaDoor.Ar
