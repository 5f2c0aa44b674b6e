/- Two heaps that are one but for places, swept alike, are one again (plain). -/
import Derived.Test.YtfgpadkoonogpaaDoorTw
namespace Go.Proofs.YtfgpadkoonogpaaDoor.Hp
open Go.RowKit Pg Ar Tm Br
set_option linter.unusedSimpArgs false
set_option linter.unusedVariables false

theorem Same.at_eq {σ τ : HS} (h : Same σ τ) (i : Nat) : (σ.ps[i]?).map (fun o => o.map er) = (τ.ps[i]?).map (fun o => o.map er) := by
  have : (erp σ.ps)[i]? = (erp τ.ps)[i]? := by rw [h.ps]
  rwa [erp_at, erp_at] at this
/-- The objects are those whose slots are used. -/
def InvX (σ : HS) : Prop := ∀ k s, (σ.M k s).isSome = true ↔ ∃ p, σ.ps[k]? = some (some p) ∧ p.U.testBit s = true
theorem InvX.of {w : World} {B : HB} {ls : List (List Int)} {σ : HS} (h : HpAt w B ls σ) : InvX σ := h.inv
theorem Same.swP {σ τ σ2 τ2 : HS} {p : Nat → Bool} {g g' : Nat} (h : Same σ τ) (h1 : InvX σ2) (h2 : InvX τ2) (s1 : SwP σ p g σ2) (s2 : SwP τ p g' τ2) : Same σ2 τ2 ∧ g = g' := by
  have hM : σ2.M = τ2.M := by
    funext i s
    rw [s1.M, s2.M, h.M]
  have hs : Same σ2 τ2 := by
    refine ⟨List.ext_getElem? fun i => ?_, by rw [s1.ws, s2.ws, h.ws], hM, by rw [s1.sr, s2.sr, h.sr], by rw [s1.gv, s2.gv, h.gv]⟩
    rw [erp_at, erp_at]
    rcases hp : p i with _ | _
    · rw [s1.other i hp, s2.other i hp]
      exact h.at_eq i
    · obtain ⟨a1, b1⟩ := s1.pg i hp
      obtain ⟨a2, b2⟩ := s2.pg i hp
      by_cases hx : ∃ q, σ.ps[i]? = some (some q)
      · obtain ⟨q, hq⟩ := hx
        obtain ⟨q', hq', e1, e2, _⟩ := h.at_ hq
        rcases a1 q hq with ⟨c1, c2⟩ | ⟨r, c1, c2, c3, s, c4⟩
        · rcases a2 q' hq' with ⟨d1, _⟩ | ⟨r', d1, d2, d3, s, d4⟩
          · rw [c1, d1]
          · rw [← hM, c2 s] at d4
            cases d4
        · rcases a2 q' hq' with ⟨d1, d2⟩ | ⟨r', d1, d2, d3, _⟩
          · rw [hM, d2 s] at c4
            cases c4
          · rw [c1, d1]
            have hU : r.U = r'.U := Nat.eq_of_testBit_eq fun j => by
              have g1 := h1 i j
              have g2 := h2 i j
              rw [hM] at g1
              have g3 := g1.symm.trans g2
              rw [Bool.eq_iff_iff]
              constructor
              · intro hj
                obtain ⟨x, hx1, hx2⟩ := g3.1 ⟨r, c1, hj⟩
                rw [d1] at hx1
                injection hx1 with hx1
                injection hx1 with hx1
                rw [hx1]
                exact hx2
              · intro hj
                obtain ⟨x, hx1, hx2⟩ := g3.2 ⟨r', d1, hj⟩
                rw [c1] at hx1
                injection hx1 with hx1
                injection hx1 with hx1
                rw [hx1]
                exact hx2
            show some (some (er r)) = some (some (er r'))
            unfold er
            rw [hU, c2, c3, d2, d3, e1, e2]
      · have hn1 : ∀ q, σ.ps[i]? ≠ some (some q) := fun q e => hx ⟨q, e⟩
        have hn2 : ∀ q, τ.ps[i]? ≠ some (some q) := fun q e => by
          obtain ⟨q', e', _⟩ := h.symm.at_ e
          exact hn1 q' e'
        rw [b1 hn1, b2 hn2]
        exact h.at_eq i
  have n1 := s1.num
  have n2 := s2.num
  have n3 := h.num_
  have n4 := hs.num_
  exact ⟨hs, by omega⟩
theorem SwP.one {σ σ' : HS} {k g : Nat} (h : Sw1 σ k g σ') : SwP σ (fun i => decide (i = k)) g σ' := by
  have := (SwP.start σ).step rfl h
  rw [Nat.zero_add] at this
  exact this.eq fun i => by simp
theorem Same.sw1 {σ τ σ2 τ2 : HS} {k g g' : Nat} (h : Same σ τ) (h1 : InvX σ2) (h2 : InvX τ2) (s1 : Sw1 σ k g σ2) (s2 : Sw1 τ k g' τ2) : Same σ2 τ2 ∧ g = g' := h.swP h1 h2 (SwP.one s1) (SwP.one s2)
theorem Same.pcl_ {σ τ : HS} (h : Same σ τ) (k : Nat) : pcl σ k = pcl τ k := by
  obtain ⟨b, hb⟩ := kcl_pcl σ k
  obtain ⟨b', hb'⟩ := kcl_pcl τ k
  have := h.kcl_ (k : Int)
  rw [hb, hb'] at this
  injection this with this
  injection this with this
  injection this with this _
  injection this with _ this
/-- Pages of a class swept from one on, till one has a slot. -/
def Nd (c : Int) : Nat → Nat → HS → Nat → Bool → HS → Nat → Prop
  | 0, _, σ, U, b, σ', U' => b = false ∧ σ' = σ ∧ U' = U
  | n + 1, k, σ, U, b, σ', U' =>
    (U.testBit k = true ∧ pcl σ k = c ∧ 0 ≤ c → ∃ g σ1, Sw1 σ k g σ1 ∧ InvX σ1 ∧ ((kcl σ1 k = .tuple #[.int .i64 c, .bool true] ∧ b = true ∧ σ' = σ1 ∧ U' = rm U k) ∨ (kcl σ1 k ≠ .tuple #[.int .i64 c, .bool true] ∧ Nd c n (k + 1) σ1 (rm U k) b σ' U'))) ∧
    (¬ (U.testBit k = true ∧ pcl σ k = c ∧ 0 ≤ c) → Nd c n (k + 1) σ U b σ' U')
theorem Nd.uniq {c : Int} : ∀ {n k : Nat} {σ τ : HS} {U : Nat} {b b' : Bool} {σ' τ' : HS} {U' U'' : Nat}, Same σ τ → Nd c n k σ U b σ' U' → Nd c n k τ U b' τ' U'' → b = b' ∧ Same σ' τ' ∧ U' = U''
  | 0, _, _, _, _, _, _, _, _, _, _, h, ⟨h1, h2, h3⟩, ⟨g1, g2, g3⟩ => by
    subst h1 h2 h3 g1 g2 g3
    exact ⟨rfl, h, rfl⟩
  | n + 1, k, σ, τ, U, b, b', σ', τ', U', U'', h, ⟨h1, h2⟩, ⟨g1, g2⟩ => by
    by_cases hc : U.testBit k = true ∧ pcl σ k = c ∧ 0 ≤ c
    · obtain ⟨g, σ1, s1, i1, h3⟩ := h1 hc
      obtain ⟨g', τ1, s2, i2, g3⟩ := g1 ⟨hc.1, (h.pcl_ k).symm.trans hc.2.1, hc.2.2⟩
      obtain ⟨hs, _⟩ := h.sw1 i1 i2 s1 s2
      rcases h3 with ⟨a1, a2, a3, a4⟩ | ⟨a1, a2⟩
      · rcases g3 with ⟨b1, b2, b3, b4⟩ | ⟨b1, _⟩
        · subst a2 a3 a4 b2 b3 b4
          exact ⟨rfl, hs, rfl⟩
        · exact absurd ((hs.kcl_ k).symm.trans a1) b1
      · rcases g3 with ⟨b1, _⟩ | ⟨_, b2⟩
        · exact absurd ((hs.kcl_ k).trans b1) a1
        · exact Nd.uniq hs a2 b2
    · exact Nd.uniq h (h2 hc) (g2 fun e => hc ⟨e.1, (h.pcl_ k).trans e.2.1, e.2.2⟩)
theorem Nd.skip {c : Int} {n k : Nat} {σ σ' : HS} {U U' : Nat} {b : Bool} (hU : ¬ (U.testBit k = true ∧ pcl σ k = c ∧ 0 ≤ c)) (h : Nd c n (k + 1) σ U b σ' U') : Nd c (n + 1) k σ U b σ' U' := ⟨fun e => absurd e hU, fun _ => h⟩
theorem Nd.jump {c : Int} {σ σ' : HS} {U U' : Nat} {b : Bool} : ∀ (d f n : Nat), (∀ i, f ≤ i → i < f + d → U.testBit i = false) → Nd c n (f + d) σ U b σ' U' → Nd c (n + d) f σ U b σ' U'
  | 0, f, n, _, h => h
  | d + 1, f, n, hU, h => by
    refine Nd.skip (fun e => ?_) (Nd.jump d (f + 1) n (fun i h1 h2 => hU i (by omega) (by omega)) ?_)
    · rw [hU f (Nat.le_refl _) (by omega)] at e
      cases e.1
    · rw [show f + 1 + d = f + (d + 1) by omega]
      exact h
theorem Nd.none_ {c : Int} {σ : HS} {U : Nat} (n f : Nat) (hU : ∀ i, f ≤ i → U.testBit i = false) : Nd c n f σ U false σ U := by
  have h : Nd c 0 (f + n) σ U false σ U := ⟨rfl, rfl, rfl⟩
  have := Nd.jump n f 0 (fun i h1 _ => hU i h1) h
  rwa [Nat.zero_add] at this
end Go.Proofs.YtfgpadkoonogpaaDoor.Hp
