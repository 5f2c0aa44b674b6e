/- A heap of the call's own; what Alloc and Fresh have done, told from what was there. -/
import Derived.Test.YtoajbjeiplolnaaDoorRHp10
namespace Go.Proofs.YtoajbjeiplolnaaDoorR.Hp
open Go.RowKit Pg Ar Tm
set_option linter.unusedSimpArgs false
set_option linter.unusedVariables false

structure HW (w wr : World) (B : HB) (ls : List (List Int)) (σ : HS) : Prop where
  hp : HpAt wr B ls σ
  new : w.heap.size ≤ B.z
  bel : Below w.heap.size w wr
  tab : Tab wr
namespace HW
variable {w wr w' : World} {B : HB} {ls : List (List Int)} {σ σ' : HS}
theorem call (h : HW w wr B ls σ) (hb : Below wr.heap.size wr w') : HW w w' B ls σ := ⟨h.hp.call hb, h.new, fresh_call h.bel hb, h.tab.call hb⟩
theorem drewN (h : HW w wr B ls σ) (k : Nat) : HW w (wr.drewN k) B ls σ := h.call (below_drewN (Below.refl _ _) k)
theorem foot_new (h : HW w wr B ls σ) {i : Nat} (hi : HFoot B σ i) : w.heap.size ≤ i := Nat.le_trans h.new (h.hp.new i hi)
theorem foot0 (h : HW w wr B ls σ) (h0 : 0 < w.heap.size) : ¬ Foot B.ba B.gp B.gw σ.ps 0 := fun e => by have := h.foot_new (.inr (.inr e)); omega
theorem step {S : Nat → Prop} (h : HW w wr B ls σ) (h0 : 0 < w.heap.size) (ha : HpAt w' B ls σ') (hk : Kept S wr w') (hS : ∀ i, S i → HFoot B σ i) : HW w w' B ls σ' :=
  ⟨ha, h.new, h.bel.trans (hk.below h.bel.size (fun i hi e => by have := h.foot_new (hS i e); omega)), h.tab.kept hk (fun e => by have := h.foot_new (hS _ e); omega)⟩
end HW
theorem foot_b (B : HB) (σ : HS) : HFoot B σ B.b := .inl rfl
theorem foot_bm (B : HB) (σ : HS) : HFoot B σ B.bm := .inr (.inl rfl)
theorem foot_gp (B : HB) (σ : HS) : HFoot B σ B.gp := .inr (.inr (.inr (.inl rfl)))
theorem foot_gw (B : HB) (σ : HS) : HFoot B σ B.gw := .inr (.inr (.inr (.inr (.inl rfl))))
theorem foot_pg {B : HB} {σ : HS} {k : Nat} {p : PM} (h : σ.ps[k]? = some (some p)) : HFoot B σ p.b := .inr (.inr (.inr (.inr (.inr ⟨k, p, h, rfl⟩))))
theorem foot_al {B : HB} {σ : HS} {k : Nat} {p : PM} (h : σ.ps[k]? = some (some p)) : ∀ i, (i = B.b ∨ i = p.b ∨ i = B.gw ∨ i = B.bm) → HFoot B σ i := by
  rintro i (rfl | rfl | rfl | rfl)
  · exact foot_b B σ
  · exact foot_pg h
  · exact foot_gw B σ
  · exact foot_bm B σ
theorem foot_sw {B : HB} {σ : HS} {k : Nat} {p : PM} (h : σ.ps[k]? = some (some p)) : ∀ i, (i = p.b ∨ i = B.bm ∨ i = B.gp) → HFoot B σ i := by
  rintro i (rfl | rfl | rfl)
  · exact foot_pg h
  · exact foot_bm B σ
  · exact foot_gp B σ
theorem al_no {B : HB} {ls : List (List Int)} {σ : HS} {sh n : Nat} {bl : Bool} {w w' : World} {e : Ending} (h : Al B ls σ sh n bl w e w') (hF : Full σ.ps (Cls.cof n) σ.ps.length) : e = .returned (.tuple #[.int .i64 0, .int .i64 5]) ∧ HpAt w' B ls σ ∧ Below w.heap.size w w' := by
  rcases h with ⟨h1, _, h3, h4⟩ | ⟨k, p, s, z, h1, h2, h3, h4, h5, h6, h7, _⟩
  · exact ⟨h1, h3, h4⟩
  · have := hF k (List.getElem?_eq_some_iff.1 h3).1 p h3 h4 s h6
    rw [h7] at this; cases this
theorem al_is {B : HB} {ls : List (List Int)} {σ : HS} {sh n : Nat} {bl : Bool} {w w' : World} {e : Ending} (h : Al B ls σ sh n bl w e w') {k s z : Nat} {p : PM}
    (hk : σ.ps[k]? = some (some p)) (hc : p.c = Cls.cof n) (hF : Full σ.ps (Cls.cof n) k) (hs : s < p.n) (hU : p.U.testBit s = false) (hall : ∀ i, i < s → p.U.testBit i = true) (hz : Cls.csz p.c = (z : Int)) :
    e = .returned (.tuple #[.int .i64 (1048576 + 32 * k + s * z : Nat), .int .i64 0]) ∧ HpAt w' B ls (made σ k p s z sh n bl) ∧ Kept (fun i => i = B.b ∨ i = p.b ∨ i = B.gw ∨ i = B.bm) w w' := by
  rcases h with ⟨_, h1, _⟩ | ⟨k', p', s', z', he, h1, h2, h3, h4, h5, h6, h7, h8, h9⟩
  · have := h1 k (List.getElem?_eq_some_iff.1 hk).1 p hk hc s hs
    rw [hU] at this; cases this
  · have hkk : k = k' := by
      rcases Nat.lt_trichotomy k k' with hlt | rfl | hlt
      · have := h1 k hlt p hk hc s hs
        rw [hU] at this; cases this
      · rfl
      · have := hF k' hlt p' h2 h3 s' h5
        rw [h6] at this; cases this
    subst hkk
    have hpp : p = p' := Option.some.inj (Option.some.inj (hk.symm.trans h2))
    subst hpp
    have hss : s = s' := by
      rcases Nat.lt_trichotomy s s' with hlt | rfl | hlt
      · have := h7 s hlt
        rw [hU] at this; cases this
      · rfl
      · have := hall s' hlt
        rw [h6] at this; cases this
    subst hss
    have hzz : z = z' := by omega
    subst hzz
    exact ⟨he, h8, h9⟩
theorem fr_is {B : HB} {ls : List (List Int)} {σ : HS} {c : Int} {n : Nat} {w w' : World} {e : Ending} (h : Fr B ls σ c n w e w') {k : Nat} (hk : σ.ps[k]? = some none) (hF : ∀ i : Nat, i < k → σ.ps[i]? ≠ some none) :
    ∃ bp, e = .returned (.bool true) ∧ w.heap.size ≤ bp ∧ HpAt w' B ls { σ with ps := σ.ps.set k (some ⟨bp, c, n, 0, 0⟩) } ∧ Kept (fun i => i = B.gp) w w' := by
  rcases h with ⟨_, h1, _⟩ | ⟨k', bp, he, h1, h2, h3, h4, h5⟩
  · exact absurd hk (h1 k (List.getElem?_eq_some_iff.1 hk).1)
  · have hkk : k = k' := by
      rcases Nat.lt_trichotomy k k' with hlt | rfl | hlt
      · exact absurd hk (h2 k hlt)
      · rfl
      · exact absurd h1 (hF k' hlt)
    subst hkk
    exact ⟨bp, he, h3, h4, h5⟩
/-- Where nothing stands no object begins. -/
theorem hat_gone {w : World} {B : HB} {ls : List (List Int)} {σ : HS} (h : HpAt w B ls σ) {A : Int} (hn : ∀ k s : Nat, ∀ z : Nat, 0 < z → A - 1048576 = ((32 * k + s * z : Nat) : Int) → s * z < 32 → σ.M k s = none) : hat σ A = none := by
  rcases hh : hat σ A with _ | ⟨k, s⟩
  · rfl
  · obtain ⟨p, z, f, g, h1, h2, h3, h4, h5, h6, h7, h8, h9, h10, h11, h12, h13, h14, h15, h16, h17, h18, h19, h20, h21⟩ := hat_some h hh
    rw [hn k s z h7 (by rw [h14, h13, h12]) (by omega)] at h21
    cases h21
end Go.Proofs.YtoajbjeiplolnaaDoorR.Hp
