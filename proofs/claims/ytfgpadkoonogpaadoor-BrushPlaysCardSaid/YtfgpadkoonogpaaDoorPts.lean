/- Package shape: the contract of Pointers; besomref1.IsPtr. -/
import Derived.Test.YtfgpadkoonogpaaDoorShpK
import Derived.Test.YtfgpadkoonogpaaDoorBookS
namespace Go.Proofs.YtfgpadkoonogpaaDoor.Shp
open Go.RowKit Book
set_option linter.unusedSimpArgs false
set_option linter.unusedVariables false

/-- Is a kind a pointer? -/
def isP (k : Int) : Bool := decide (16 ≤ k ∧ k < 32)
/-- A bit for each of the first n fields that points. -/
def pt (l : List Int) : Nat → Nat
  | 0 => 0
  | n + 1 => pt l n + if n < 16 ∧ (l[n]?.map isP) = some true then 2 ^ n else 0


theorem pt_lt (l : List Int) (k : Nat) : pt l k < 2 ^ k := by
  induction k with
  | zero => exact (by decide : (0:Nat) < 1)
  | succ k ih =>
    unfold pt
    have : 2 ^ (k + 1) = 2 ^ k + 2 ^ k := by rw [Nat.pow_succ]; omega
    split <;> omega
theorem or16 (o k : Nat) (hk : k < 16) (ho : o < 2 ^ k) : bits BinOp.or IntKind.u16 (o : Int) (IntKind.u16.wrap (1 * 2 ^ k)) = ((o + 2 ^ k : Nat) : Int) := by
  have h2 : 2 ^ k < 65536 := by
    have : 2 ^ k < 2 ^ 16 := Nat.pow_lt_pow_right (by decide) hk
    simpa using this
  have h3 : 2 ^ k + 2 ^ k ≤ 65536 := by
    have : 2 ^ (k + 1) ≤ 2 ^ 16 := Nat.pow_le_pow_right (by decide) (by omega)
    rw [Nat.pow_succ] at this
    simp at this
    omega
  have hw : IntKind.u16.wrap (1 * 2 ^ k) = ((2 ^ k : Nat) : Int) := by
    have : ((1 : Int) * 2 ^ k) = ((2 ^ k : Nat) : Int) := by simp
    rw [this]
    generalize 2 ^ k = x at *
    unfold IntKind.wrap
    simp [IntKind.bits, IntKind.signed]
    omega
  rw [hw]
  unfold bits
  have ha : (BitVec.ofInt IntKind.u16.bits (o : Int)).toNat = o := by
    show (BitVec.ofInt 16 (o : Int)).toNat = o
    simp [BitVec.toNat_ofInt]
    omega
  have hb : (BitVec.ofInt IntKind.u16.bits ((2 ^ k : Nat) : Int)).toNat = 2 ^ k := by
    show (BitVec.ofInt 16 ((2 ^ k : Nat) : Int)).toNat = 2 ^ k
    rw [BitVec.toNat_ofInt]
    generalize 2 ^ k = x at *
    omega
  have hor : o ||| 2 ^ k = o + 2 ^ k := by
    have := Nat.two_pow_add_eq_or_of_lt ho 1
    rw [Nat.mul_one] at this
    rw [Nat.or_comm, ← this, Nat.add_comm]
  dsimp only
  rw [BitVec.toNat_or, ha, hb, hor]
  generalize 2 ^ k = x at *
  unfold IntKind.wrap
  simp [IntKind.bits, IntKind.signed]
  omega

theorem isptr_any (k : Int) (w : World) : Calls Tryd.prog 80 #[.int .i64 k] w fun e w' => e = .returned (.bool (isP k)) ∧ w = w' := by
  unfold isP
  by_cases h1 : k < 16
  · rw [show decide (16 ≤ k ∧ k < 32) = false by simp; omega]
    go_enter Tryd.func80, Tryd.ntmps80
    go_wp2_with fail
    go_ret
    exact ⟨rfl, rfl⟩
  by_cases h2 : k < 32
  · rw [show decide (16 ≤ k ∧ k < 32) = true by simp; omega]
    go_enter Tryd.func80, Tryd.ntmps80
    go_wp2_with fail
    go_ret
    exact ⟨rfl, rfl⟩
  · rw [show decide (16 ≤ k ∧ k < 32) = false by simp; omega]
    go_enter Tryd.func80, Tryd.ntmps80
    go_wp2_with fail
    go_ret
    exact ⟨rfl, rfl⟩
end Go.Proofs.YtfgpadkoonogpaaDoor.Shp
