/- An arena of the call's own. -/
import Derived.Test.YtoajbjeiplolnaaDoorRAr9
namespace Go.Proofs.YtoajbjeiplolnaaDoorR.Ar
open Go.RowKit Pg
set_option linter.unusedSimpArgs false
set_option linter.unusedVariables false

structure AW (w wr : World) (b gp gw : Nat) (ps : List (Option PM)) (ws : List Int) : Prop where
  ar : ArenaAt wr b gp gw ps ws
  new : ∀ i, Foot b gp gw ps i → w.heap.size ≤ i
  bel : Below w.heap.size w wr
  tab : Tab wr
namespace AW
variable {w wr w' : World} {b gp gw : Nat} {ps ps' : List (Option PM)} {ws ws' : List Int}
theorem call (h : AW w wr b gp gw ps ws) (hb : Below wr.heap.size wr w') : AW w w' b gp gw ps ws := ⟨h.ar.call hb, h.new, fresh_call h.bel hb, h.tab.call hb⟩
theorem drewN (h : AW w wr b gp gw ps ws) (k : Nat) : AW w (wr.drewN k) b gp gw ps ws := h.call (below_drewN (Below.refl _ _) k)
theorem foot0 (h : AW w wr b gp gw ps ws) (h0 : 0 < w.heap.size) : ¬ Foot b gp gw ps 0 := fun e => by have := h.new _ e; omega
theorem step {S : Nat → Prop} (h : AW w wr b gp gw ps ws) (h0 : 0 < w.heap.size) (ha : ArenaAt w' b gp gw ps' ws') (hk : Kept S wr w') (hS : ∀ i, S i → w.heap.size ≤ i) (hf : ∀ i, Foot b gp gw ps' i → w.heap.size ≤ i) : AW w w' b gp gw ps' ws' :=
  ⟨ha, hf, h.bel.trans (hk.below h.bel.size (fun i hi e => by have := hS i e; omega)), h.tab.kept hk (fun e => by have := hS _ e; omega)⟩
/-- A page put in: its block is new, or was there. -/
theorem foot_set (h : AW w wr b gp gw ps ws) {k : Nat} {p : Option PM} (hp : ∀ q, p = some q → w.heap.size ≤ q.b) : ∀ i, Foot b gp gw (ps.set k p) i → w.heap.size ≤ i := by
  rintro i (e | e | e | ⟨j, q, hq, e⟩)
  · exact h.new i (.inl e)
  · exact h.new i (.inr (.inl e))
  · exact h.new i (.inr (.inr (.inl e)))
  · by_cases hkj : k = j
    · subst hkj
      rw [List.getElem?_set] at hq
      simp at hq
      exact e ▸ hp q hq.2
    · rw [List.getElem?_set_ne hkj] at hq
      exact h.new i (.inr (.inr (.inr ⟨j, q, hq, e⟩)))
theorem made {n : Nat} {e : Ending} (hT : Tab w) (h : Made w n e w') : ∃ b gp gw, e = .returned (.pointer (some ⟨b, 0, none⟩)) ∧ AW w w' b gp gw (List.replicate n none) (List.replicate (32 * n) 0) := by
  obtain ⟨b, gp, gw, rfl, ha, h1, h2, h3, hb⟩ := h
  refine ⟨b, gp, gw, rfl, ha, ?_, hb, hT.call hb⟩
  rintro i (e | e | e | ⟨j, q, hq, e⟩)
  · omega
  · omega
  · omega
  · rw [List.getElem?_replicate] at hq
    split at hq <;> simp at hq
end AW
end Go.Proofs.YtoajbjeiplolnaaDoorR.Ar
