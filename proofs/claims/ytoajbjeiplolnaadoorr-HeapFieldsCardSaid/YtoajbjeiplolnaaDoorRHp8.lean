/- Package heap: where a slot's address leads; what a sweep does, in plain words. -/
import Derived.Test.YtoajbjeiplolnaaDoorRHp7
namespace Go.Proofs.YtoajbjeiplolnaaDoorR.Hp
open Go.RowKit Pg Ar Tm
set_option linter.unusedSimpArgs false
set_option linter.unusedVariables false

/-- The address of a used slot's word leads to it. -/
theorem slot_at {w : World} {b gp gw : Nat} {ps : List (Option PM)} {ws : List Int} (h : ArenaAt w b gp gw ps ws) {k s z : Nat} {p : PM} (hk : ps[k]? = some (some p)) (hs : s < p.n) (hU : p.U.testBit s = true) (hz : Cls.csz p.c = (z : Int)) :
    base ps k s = ((1048576 + 32 * k + s * z : Nat) : Int) ∧ k < 64 ∧ s < 32 ∧ 32 * k + s * z + z ≤ ws.length ∧ 0 < z ∧ z ≤ 16 ∧ ∀ f : Nat, f < z → slot ps ((1048576 + 32 * k + s * z : Nat) + (f : Int)) = some (k, p, s) := by
  have hpg := h.page k p hk
  have hfit := fit (c := p.c) (n := p.n) (s := s) hpg.2 hz hs
  have hkl := (List.getElem?_eq_some_iff.1 hk).1
  have hn := h.hn
  have hw := h.hw
  have hzb := Cls.csz_bd p.c
  have hg : get ps (k : Int) = some p := by rw [get_nat, hk]; rfl
  have hpn := hpg.1.hn
  refine ⟨?_, by omega, by omega, by omega, by omega, by omega, fun f hf => ?_⟩
  · rw [base_some hg, if_pos (by omega), hz, cast3]
  obtain ⟨g, hgg⟩ : ∃ g, s * z = g := ⟨_, rfl⟩
  have hx : ((1048576 + 32 * k + s * z : Nat) : Int) + f - 1048576 = ((32 * k + (g + f) : Nat) : Int) := by omega
  have hd : ((32 * k + (g + f) : Nat) : Int) / 32 = (k : Int) := by omega
  have hm : ((32 * k + (g + f) : Nat) : Int) % 32 = ((g + f : Nat) : Int) := by omega
  have hq : ((g + f : Nat) : Int) / (z : Int) = (s : Int) := by
    rw [← Int.natCast_ediv, ← hgg, Nat.mul_comm, Nat.mul_add_div (by omega), Nat.div_eq_of_lt hf, Nat.add_zero]
  have hlt : ((g + f : Nat) : Int) < Cls.csl p.c * Cls.csz p.c := by
    rw [hpg.2, hz, ← Int.natCast_mul]
    apply Int.ofNat_lt.2
    have : (s + 1) * z ≤ p.n * z := Nat.mul_le_mul_right z hs
    rw [Nat.add_mul] at this
    omega
  unfold slot
  rw [if_neg (by omega), hx, hd, hg]
  dsimp only
  rw [hm, hz, hq, at_nat, hU, if_pos ⟨by rw [← hz]; exact hlt, rfl⟩]
  simp
theorem hat_of {σ : HS} {k s : Nat} {p : PM} {A : Int} (h1 : base σ.ps k s = A) (h4 : slot σ.ps A = some (k, p, s)) : hat σ A = some (k, s) := by
  unfold hat
  rw [h4]
  dsimp only
  rw [if_pos h1]
theorem add_zero_nat (A : Int) : A + ((0 : Nat) : Int) = A := Int.add_zero A
theorem hat_at {w : World} {B : HB} {ls : List (List Int)} {σ : HS} (h : HpAt w B ls σ) {k s z : Nat} {p : PM} (hk : σ.ps[k]? = some (some p)) (hs : s < p.n) (hU : p.U.testBit s = true) (hz : Cls.csz p.c = (z : Int)) :
    hat σ ((1048576 + 32 * k + s * z : Nat) : Int) = some (k, s) := by
  obtain ⟨h1, -, -, -, h2, -, h3⟩ := slot_at h.ar hk hs hU hz
  exact hat_of h1 ((add_zero_nat _).symm ▸ h3 0 h2)
theorem gone_inv {w : World} {B : HB} {ls : List (List Int)} {σ : HS} (h : HpAt w B ls σ) {k : Nat} {p : PM} (hk : σ.ps[k]? = some (some p)) {s : Nat} (hs : s < 32) :
    (∀ i j, (put σ.M k s none i j).isSome = true ↔ ∃ q, (σ.ps.set k (some ⟨p.b, p.c, p.n, del p.U s, del p.M s⟩))[i]? = some (some q) ∧ q.U.testBit j = true) ∧
    (∀ i j t q, put σ.M k s none i j = some t → (σ.ps.set k (some ⟨p.b, p.c, p.n, del p.U s, del p.M s⟩))[i]? = some (some q) → ∃ l', ls[t.1.toNat]? = some l' ∧ 0 ≤ t.1 ∧ Cls.cof l'.length = q.c) := by
  have hlt := (List.getElem?_eq_some_iff.1 hk).1
  have hU := (h.ar.page k p hk).1.hU
  constructor
  · intro i j
    unfold put
    by_cases hi : i = k
    · subst hi
      by_cases hj : j = s
      · subst hj
        rw [if_pos ⟨rfl, rfl⟩]
        simp only [Option.isSome_none, Bool.false_eq_true, false_iff]
        rintro ⟨q, hq, hb⟩
        rw [List.getElem?_set_self hlt] at hq
        have hq := Option.some.inj (Option.some.inj hq)
        subst hq
        rw [del_bit hU hs] at hb
        simp at hb
      · rw [if_neg (fun e => hj e.2), h.inv i j]
        have hne : ¬ s = j := fun e => hj e.symm
        constructor
        · rintro ⟨q, hq, hb⟩
          rw [hk] at hq
          have hq := Option.some.inj (Option.some.inj hq)
          subst hq
          exact ⟨_, List.getElem?_set_self hlt, by rw [del_bit hU hs, hb]; simp [hne]⟩
        · rintro ⟨q, hq, hb⟩
          rw [List.getElem?_set_self hlt] at hq
          have hq := Option.some.inj (Option.some.inj hq)
          subst hq
          rw [del_bit hU hs] at hb
          exact ⟨p, hk, (Bool.and_eq_true_iff.1 hb).1⟩
    · rw [if_neg (fun e => hi e.1), h.inv i j, List.getElem?_set_ne (fun e => hi e.symm)]
  · intro i j t q ht hq
    unfold put at ht
    by_cases hi : i = k
    · subst hi
      rw [List.getElem?_set_self hlt] at hq
      have hq := Option.some.inj (Option.some.inj hq)
      subst hq
      by_cases hj : j = s
      · subst hj
        rw [if_pos ⟨rfl, rfl⟩] at ht
        cases ht
      · rw [if_neg (fun e => hj e.2)] at ht
        exact h.fit i j t p ht hk
    · rw [if_neg (fun e => hi e.1)] at ht
      rw [List.getElem?_set_ne (fun e => hi e.symm)] at hq
      exact h.fit i j t q ht hq
/-- What stands behind a sweep of some slots of a page. -/
def swM (M : Nat → Nat → Option Thing) (k : Nat) (D : List Nat) : Nat → Nat → Option Thing := fun i j => if i = k ∧ j ∈ D then (match M i j with | some t => if t.2.2 = 0 then none else some (t.1, t.2.1, 0) | none => none) else M i j
def white (M : Nat → Nat → Option Thing) (k s : Nat) : Bool := ((M k s).getD (0, 0, 1)).2.2 == 0
theorem swM_nil (M : Nat → Nat → Option Thing) (k : Nat) : swM M k [] = M := by
  funext i j
  simp [swM]
theorem swM_out {M : Nat → Nat → Option Thing} {k s : Nat} {D : List Nat} (h : s ∉ D) : swM M k D k s = M k s := by simp [swM, h]
theorem swM_white {M : Nat → Nat → Option Thing} {k s : Nat} {D : List Nat} {t : Thing} (ht : M k s = some t) (hw : t.2.2 = 0) : put (swM M k D) k s none = swM M k (D ++ [s]) := by
  funext i j
  unfold put swM
  by_cases hi : i = k
  · subst hi
    by_cases hj : j = s
    · subst hj
      simp [ht, hw]
    · by_cases hd : j ∈ D <;> simp [hj, hd]
  · simp [hi]
theorem swM_black {M : Nat → Nat → Option Thing} {k s : Nat} {D : List Nat} {t : Thing} (ht : M k s = some t) (hw : t.2.2 ≠ 0) : put (swM M k D) k s (some (t.1, t.2.1, 0)) = swM M k (D ++ [s]) := by
  funext i j
  unfold put swM
  by_cases hi : i = k
  · subst hi
    by_cases hj : j = s
    · subst hj
      simp [ht, hw]
    · by_cases hd : j ∈ D <;> simp [hj, hd]
  · simp [hi]
def goneN (M : Nat → Nat → Option Thing) (k : Nat) (D : List Nat) : Nat := (D.filter (white M k)).length
theorem goneN_white {M : Nat → Nat → Option Thing} {k s : Nat} {D : List Nat} {t : Thing} (ht : M k s = some t) (hw : t.2.2 = 0) : goneN M k (D ++ [s]) = goneN M k D + 1 := by
  unfold goneN
  rw [List.filter_append, List.length_append]
  simp [white, ht, hw]
theorem goneN_black {M : Nat → Nat → Option Thing} {k s : Nat} {D : List Nat} {t : Thing} (ht : M k s = some t) (hw : t.2.2 ≠ 0) : goneN M k (D ++ [s]) = goneN M k D := by
  unfold goneN
  rw [List.filter_append, List.length_append]
  simp [white, ht, hw]
theorem goneN_le (M : Nat → Nat → Option Thing) (k : Nat) (D : List Nat) : goneN M k D ≤ D.length := List.length_filter_le _ _
/-- SweepPage's answer, where there is a page. -/
def Sw (B : HB) (ls : List (List Int)) (σ : HS) (k : Nat) (p : PM) (w : World) (e : Ending) (w' : World) : Prop :=
  ∃ x : Option PM, e = .returned (.int .i64 (goneN σ.M k (Bit.bl p.U))) ∧ HpAt w' B ls { σ with ps := σ.ps.set k x, M := swM σ.M k (Bit.bl p.U) } ∧ Kept (fun i => i = p.b ∨ i = B.bm ∨ i = B.gp) w w' ∧
    ((x = none ∧ ∀ s, swM σ.M k (Bit.bl p.U) k s = none) ∨ ∃ q, x = some q ∧ q.b = p.b ∧ q.c = p.c ∧ q.n = p.n ∧ ∃ s, (swM σ.M k (Bit.bl p.U) k s).isSome = true)
end Go.Proofs.YtoajbjeiplolnaaDoorR.Hp
