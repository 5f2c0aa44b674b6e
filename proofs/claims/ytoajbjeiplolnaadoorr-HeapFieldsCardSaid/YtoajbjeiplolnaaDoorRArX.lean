/- What Grow and Take have done, told from what was there. -/
import Derived.Test.YtoajbjeiplolnaaDoorRArW
namespace Go.Proofs.YtoajbjeiplolnaaDoorR.Ar
open Go.RowKit Pg
set_option linter.unusedSimpArgs false
set_option linter.unusedVariables false

theorem took_is {b gp gw : Nat} {ps : List (Option PM)} {ws : List Int} {c : Int} {w w' : World} {e : Ending} (h : Took b gp gw ps ws c w e w') {k s z : Nat} {p : PM}
    (hk : ps[k]? = some (some p)) (hc : p.c = c) (hF : Full ps c k) (hs : s < p.n) (hU : p.U.testBit s = false) (hall : ∀ i, i < s → p.U.testBit i = true) (hz : Cls.csz c = (z : Int)) :
    e = .returned (.tuple #[.int .i64 (1048576 + 32 * k + s * z : Nat), .bool true]) ∧ ArenaAt w' b gp gw (ps.set k (some ⟨p.b, p.c, p.n, ins p.U s, del p.M s⟩)) (clr ws (32 * k + s * z) z) ∧ Kept (fun i => i = p.b ∨ i = gw) w w' := by
  rcases h with ⟨_, h1, _⟩ | ⟨k', p', s', z', he, h1, h2, h3, h4, h5, h6, h7, h8, h9⟩
  · have := h1 k (List.getElem?_eq_some_iff.1 hk).1 p hk hc s hs
    rw [hU] at this; cases this
  · have hkk : k = k' := by
      rcases Nat.lt_trichotomy k k' with hlt | rfl | hlt
      · have := h1 k hlt p hk hc s hs
        rw [hU] at this; cases this
      · rfl
      · have := hF k' hlt p' h2 h3 s' h5
        rw [h6] at this; cases this
    subst hkk
    have hpp : p = p' := Option.some.inj (Option.some.inj (hk.symm.trans h2))
    subst hpp
    have hss : s = s' := by
      rcases Nat.lt_trichotomy s s' with hlt | rfl | hlt
      · have := h7 s hlt
        rw [hU] at this; cases this
      · rfl
      · have := hall s' hlt
        rw [h6] at this; cases this
    subst hss
    have hzz : z = z' := by omega
    subst hzz
    exact ⟨he, h8, h9⟩
theorem took_no {b gp gw : Nat} {ps : List (Option PM)} {ws : List Int} {c : Int} {w w' : World} {e : Ending} (h : Took b gp gw ps ws c w e w') (hF : Full ps c ps.length) : e = .returned (.tuple #[.int .i64 0, .bool false]) ∧ w = w' := by
  rcases h with ⟨h0, h1, h2⟩ | ⟨k', p', s', z', he, h1, h2, h3, h4, h5, h6, h7, h8, h9⟩
  · exact ⟨h0, h2⟩
  · have := hF k' (List.getElem?_eq_some_iff.1 h2).1 p' h2 h3 s' h5
    rw [h6] at this; cases this
theorem grew_is {b gp gw : Nat} {ps : List (Option PM)} {ws : List Int} {c : Int} {n : Nat} {w w' : World} {e : Ending} (h : Grew b gp gw ps ws c n w e w') {k : Nat} (hk : ps[k]? = some none) (hF : ∀ i : Nat, i < k → ps[i]? ≠ some none) :
    e = .returned (.bool true) ∧ ∃ bp, w.heap.size ≤ bp ∧ ArenaAt w' b gp gw (ps.set k (some ⟨bp, c, n, 0, 0⟩)) ws ∧ Kept (fun i => i = gp) w w' := by
  rcases h with ⟨_, h1, _⟩ | ⟨he, k', bp, h1, h2, h3, h4, h5⟩
  · exact absurd hk (h1 k (List.getElem?_eq_some_iff.1 hk).1)
  · have hkk : k = k' := by
      rcases Nat.lt_trichotomy k k' with hlt | rfl | hlt
      · exact absurd hk (h2 k hlt)
      · rfl
      · exact absurd h1 (hF k' hlt)
    subst hkk
    exact ⟨he, bp, h3, h4, h5⟩
theorem grew_no {b gp gw : Nat} {ps : List (Option PM)} {ws : List Int} {c : Int} {n : Nat} {w w' : World} {e : Ending} (h : Grew b gp gw ps ws c n w e w') (hF : ∀ i : Nat, ps[i]? ≠ some none) : e = .returned (.bool false) ∧ Below w.heap.size w w' := by
  rcases h with ⟨h0, _, h2⟩ | ⟨he, k', bp, h1, h2, h3, h4, h5⟩
  · exact ⟨h0, h2⟩
  · exact absurd h1 (hF k')
end Go.Proofs.YtoajbjeiplolnaaDoorR.Ar
