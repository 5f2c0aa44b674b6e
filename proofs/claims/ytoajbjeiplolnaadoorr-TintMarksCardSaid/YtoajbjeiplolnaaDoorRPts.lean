/- Package shape: the contract of Pointers; besomref1.IsPtr. -/
import Derived.Test.YtoajbjeiplolnaaDoorRShpK
import Derived.Test.YtoajbjeiplolnaaDoorRBookS
namespace Go.Proofs.YtoajbjeiplolnaaDoorR.Shp
open Go.RowKit Book
set_option linter.unusedSimpArgs false
set_option linter.unusedVariables false

/-- Is a kind a pointer? -/
def isP (k : Int) : Bool := decide (16 ≤ k ∧ k < 32)
/-- A bit for each of the first n fields that points. -/
def pt (l : List Int) : Nat → Nat
  | 0 => 0
  | n + 1 => pt l n + if n < 16 ∧ (l[n]?.map isP) = some true then 2 ^ n else 0


theorem pt_lt (l : List Int) (k : Nat) : pt l k < 2 ^ k := by
  induction k with
  | zero => exact (by decide : (0:Nat) < 1)
  | succ k ih =>
    unfold pt
    have : 2 ^ (k + 1) = 2 ^ k + 2 ^ k := by rw [Nat.pow_succ]; omega
    split <;> omega
theorem or16 (o k : Nat) (hk : k < 16) (ho : o < 2 ^ k) : bits BinOp.or IntKind.u16 (o : Int) (IntKind.u16.wrap (1 * 2 ^ k)) = ((o + 2 ^ k : Nat) : Int) := by
  have h2 : 2 ^ k < 65536 := by
    have : 2 ^ k < 2 ^ 16 := Nat.pow_lt_pow_right (by decide) hk
    simpa using this
  have h3 : 2 ^ k + 2 ^ k ≤ 65536 := by
    have : 2 ^ (k + 1) ≤ 2 ^ 16 := Nat.pow_le_pow_right (by decide) (by omega)
    rw [Nat.pow_succ] at this
    simp at this
    omega
  have hw : IntKind.u16.wrap (1 * 2 ^ k) = ((2 ^ k : Nat) : Int) := by
    have : ((1 : Int) * 2 ^ k) = ((2 ^ k : Nat) : Int) := by simp
    rw [this]
    generalize 2 ^ k = x at *
    unfold IntKind.wrap
    simp [IntKind.bits, IntKind.signed]
    omega
  rw [hw]
  unfold bits
  have ha : (BitVec.ofInt IntKind.u16.bits (o : Int)).toNat = o := by
    show (BitVec.ofInt 16 (o : Int)).toNat = o
    simp [BitVec.toNat_ofInt]
    omega
  have hb : (BitVec.ofInt IntKind.u16.bits ((2 ^ k : Nat) : Int)).toNat = 2 ^ k := by
    show (BitVec.ofInt 16 ((2 ^ k : Nat) : Int)).toNat = 2 ^ k
    rw [BitVec.toNat_ofInt]
    generalize 2 ^ k = x at *
    omega
  have hor : o ||| 2 ^ k = o + 2 ^ k := by
    have := Nat.two_pow_add_eq_or_of_lt ho 1
    rw [Nat.mul_one] at this
    rw [Nat.or_comm, ← this, Nat.add_comm]
  dsimp only
  rw [BitVec.toNat_or, ha, hb, hor]
  generalize 2 ^ k = x at *
  unfold IntKind.wrap
  simp [IntKind.bits, IntKind.signed]
  omega

set_option maxHeartbeats 1000000 in
theorem pointers_any (w : World) (B : Nat) (A : Option Addr) (n c : Nat) (l : List Int) (h : RI w B A n c l) (hB : B ≤ w.heap.size) :
    Calls Tryd.prog 130 #[.agg #[.slice A n c]] w fun e w' => e = .returned (.int .u16 (pt l n)) ∧ Below w.heap.size w w' := by
  have hm : n ≤ 9223372036854775807 := by have := h.2.1; have := h.2.2.1; unfold maxLen at this; omega
  have HL := Lib.hid (show RI (w.alloc (.cells #[.slice A n c] 64)) B A n c l from ⟨h.1, h.2.below ((Below.refl B w).alloc hB _)⟩)
  have hw := (Below.refl w.heap.size w).alloc (Nat.le_refl _) (.cells #[.slice A n c] 64)
  clear h
  go_enter Tryd.func130, Tryd.ntmps130
  go_wp2_with fail
  generalize w.alloc (.cells #[.slice A n c] 64) = w2 at *
  go_loop [3, 11] (fun o i => ∃ k : Nat, k ≤ n ∧ i = .int .i64 k ∧ o = .int .u16 (pt l k)) (fun _ i => n - (intOf i).toNat)
  case atStart => exact ⟨0, Nat.zero_le _, rfl, rfl⟩
  case round =>
    obtain ⟨k, hk, rfl, rfl⟩ := hrel
    by_cases hlt : k < n
    · have hkl : k < l.length := by have := HL.out.1; omega
      have hlk : l[k]? = some l[k] := List.getElem?_eq_getElem hkl
      obtain ⟨b, off, rfl, hbb, hcell⟩ := HL.out.at_ hlk
      have HK := Lib.hid hlk
      clear hlk
      generalize hx : l[k] = x at *
      clear hx
      have HP := Lib.hid (show pt l (k + 1) = pt l k + if k < 16 ∧ (l[k]?.map isP) = some true then 2 ^ k else 0 from rfl)
      have HT := Lib.hid (pt_lt l k)
      by_cases hp : 16 ≤ x ∧ x < 32
      · by_cases h16 : k < 16
        · generalize hpt : pt l k = o at *
          have HO := Lib.hid hpt
          clear hpt
          go_wp2_with fail
          refine (points_yes _ _ hp.1 hp.2).mono ?_
          rintro e w3 ⟨rfl, rfl⟩
          dsimp only
          go_wp2_with fail
          refine ⟨⟨k + 1, by omega, by go_num, ?_⟩, by simp [intOf]; omega⟩
          rw [HP.out, HK.out, if_pos ⟨h16, by simp [isP]; omega⟩]
          first
            | exact congrArg (Value.int .u16) (or16 o k h16 HT.out)
            | (have := or16 o k h16 HT.out; rw [Int.one_mul] at this; exact congrArg (Value.int .u16) this)
        · generalize hpt : pt l k = o at *
          have HO := Lib.hid hpt
          clear hpt
          go_wp2_with fail
          refine (points_yes _ _ hp.1 hp.2).mono ?_
          rintro e w3 ⟨rfl, rfl⟩
          dsimp only
          go_wp2_with fail
          refine ⟨⟨k + 1, by omega, by go_num, ?_⟩, by simp [intOf]; omega⟩
          rw [HP.out, if_neg (fun h => h16 h.1), Nat.add_zero]
      · have hp2 : x < 16 ∨ 32 ≤ x := by omega
        generalize hpt : pt l k = o at *
        have HO := Lib.hid hpt
        clear hpt hp
        go_wp2_with fail
        refine (points_no _ _ hp2).mono ?_
        rintro e w3 ⟨rfl, rfl⟩
        dsimp only
        go_wp2_with fail
        refine ⟨⟨k + 1, by omega, by go_num, ?_⟩, by simp [intOf]; omega⟩
        rw [HP.out, HK.out, if_neg (fun h => by have := h.2; simp [isP] at this; omega), Nat.add_zero]
    · have hkn : k = n := by omega
      subst hkn
      generalize hpt : pt l k = o at *
      have HO := Lib.hid hpt
      clear hpt
      go_wp2_with fail
      go_ret
      exact ⟨by rw [HO.out]; rfl, hw⟩
theorem isptr_any (k : Int) (w : World) : Calls Tryd.prog 105 #[.int .i64 k] w fun e w' => e = .returned (.bool (isP k)) ∧ w = w' := by
  unfold isP
  by_cases h1 : k < 16
  · rw [show decide (16 ≤ k ∧ k < 32) = false by simp; omega]
    go_enter Tryd.func105, Tryd.ntmps105
    go_wp2_with fail
    go_ret
    exact ⟨rfl, rfl⟩
  by_cases h2 : k < 32
  · rw [show decide (16 ≤ k ∧ k < 32) = true by simp; omega]
    go_enter Tryd.func105, Tryd.ntmps105
    go_wp2_with fail
    go_ret
    exact ⟨rfl, rfl⟩
  · rw [show decide (16 ≤ k ∧ k < 32) = false by simp; omega]
    go_enter Tryd.func105, Tryd.ntmps105
    go_wp2_with fail
    go_ret
    exact ⟨rfl, rfl⟩
end Go.Proofs.YtoajbjeiplolnaaDoorR.Shp
