/- Package heap: what the arena's steps do to a heap; the contracts of Fresh, Class, Room, Given, Color, turn, field, Load, Store. -/
import Derived.Test.YtoajbjeiplolnaaDoorRHp
namespace Go.Proofs.YtoajbjeiplolnaaDoorR.Hp
open Go.RowKit Pg Ar Tm
set_option linter.unusedSimpArgs false
set_option linter.unusedVariables false

namespace HpMem
variable {w w' : World} {B : HB} {ls : List (List Int)} {σ : HS}
theorem b_far (h : HpMem w B ls σ) : ¬ Foot B.ba B.gp B.gw σ.ps B.b := by
  rintro (e | e | e | ⟨k, p, hk, e⟩)
  · exact blk_ne h.blk h.ar.blk (by decide) e
  · exact blk_ne h.blk h.ar.rowp (by decide) e
  · exact blk_ne h.blk h.ar.roww (by decide) e
  · exact blk_ne h.blk (h.ar.page k p hk).1.blk (by decide) e.symm
theorem bm_far (h : HpMem w B ls σ) : ¬ Foot B.ba B.gp B.gw σ.ps B.bm := by
  rintro (e | e | e | ⟨k, p, hk, e⟩)
  · exact h.mp.ne_blk h.ar.blk e
  · exact h.mp.ne_blk h.ar.rowp e
  · exact h.mp.ne_blk h.ar.roww e
  · exact h.mp.ne_blk (h.ar.page k p hk).1.blk e.symm
theorem b_bm (h : HpMem w B ls σ) : B.bm ≠ B.b := h.mp.ne_blk h.blk
/-- What the arena alone has done. -/
theorem arena {S : Nat → Prop} {ps : List (Option PM)} {ws : List Int} (h : HpMem w B ls σ) (ha : ArenaAt w' B.ba B.gp B.gw ps ws) (hk : Kept S w w') (hS : ∀ i, S i → Foot B.ba B.gp B.gw σ.ps i ∨ w.heap.size ≤ i)
    (hf : ∀ i, Foot B.ba B.gp B.gw ps i → Foot B.ba B.gp B.gw σ.ps i ∨ w.heap.size ≤ i) : HpMem w' B ls { σ with ps := ps, ws := ws } := by
  have hb : ¬ S B.b := fun e => by
    rcases hS _ e with e | e
    · exact h.b_far e
    · have := h.blk.lt; omega
  have hm : ¬ S B.bm := fun e => by
    rcases hS _ e with e | e
    · exact h.bm_far e
    · have := h.mp.lt; omega
  exact
  { blk := hk.blk h.blk hb
    ar := ha
    mp := h.mp.block (hk.block _ h.mp.lt hm)
    sh := rs_same h.sh fun i hi => hk.block i (by have := h.z_lt; omega) fun e => by
      rcases hS _ e with e | e
      · have := h.new i (.inr (.inr e)); omega
      · have := h.z_lt; omega
    new := fun i hi => by
      rcases hi with e | e | e
      · exact h.new i (.inl e)
      · exact h.new i (.inr (.inl e))
      · rcases hf i e with e | e
        · exact h.new i (.inr (.inr e))
        · have := h.z_lt; omega
    len := h.len }
/-- What stands in the map has turned. -/
theorem mapped {M : Nat → Nat → Option Thing} (h : HpMem w B ls σ) (hm : TMap w' B.bm M) (hg : w.grownBy w' (some B.bm)) : HpMem w' B ls { σ with M := M } :=
  { blk := (hg.block _ h.blk.lt (fun e => h.b_bm (Option.some.inj e).symm)).trans h.blk
    ar := h.ar.keep fun i hi => hg.block i (h.ar.lt hi) (fun e => h.bm_far (Option.some.inj e ▸ hi))
    mp := hm
    sh := rs_same h.sh fun i hi => hg.block i (by have := h.z_lt; omega) (fun e => by have := h.new B.bm (.inr (.inl rfl)); have := Option.some.inj e; omega)
    new := h.new
    len := h.len }
/-- The two counters have turned. -/
theorem counted {sr gv : Int} (h : HpMem w B ls σ) (hb : Blk w' B.b #[.pointer (some ⟨B.ba, 0, none⟩), .slice B.SA ls.length B.cS, .map (some B.bm), .int .i64 sr, .int .i64 gv] 134) (hk : ∀ i, i ≠ B.b → w'.heap[i]? = w.heap[i]?) : HpMem w' B ls { σ with sr := sr, gv := gv } :=
  { blk := hb
    ar := h.ar.keep fun i hi => hk i (fun e => h.b_far (e ▸ hi))
    mp := h.mp.block (hk _ h.b_bm)
    sh := rs_same h.sh fun i hi => hk i (fun e => by have := h.new B.b (.inl rfl); omega)
    new := h.new
    len := h.len }
end HpMem
namespace HpAt
variable {w w' : World} {B : HB} {ls : List (List Int)} {σ : HS}
/-- What the arena alone has done. -/
theorem arena {S : Nat → Prop} {ps : List (Option PM)} {ws : List Int} (h : HpAt w B ls σ) (ha : ArenaAt w' B.ba B.gp B.gw ps ws) (hk : Kept S w w') (hS : ∀ i, S i → Foot B.ba B.gp B.gw σ.ps i ∨ w.heap.size ≤ i)
    (hf : ∀ i, Foot B.ba B.gp B.gw ps i → Foot B.ba B.gp B.gw σ.ps i ∨ w.heap.size ≤ i)
    (hinv : ∀ k s, (σ.M k s).isSome = true ↔ ∃ p, ps[k]? = some (some p) ∧ p.U.testBit s = true)
    (hfit : ∀ k s t p, σ.M k s = some t → ps[k]? = some (some p) → ∃ l, ls[t.1.toNat]? = some l ∧ 0 ≤ t.1 ∧ Cls.cof l.length = p.c) : HpAt w' B ls { σ with ps := ps, ws := ws } :=
  ⟨h.toHpMem.arena ha hk hS hf, hinv, hfit⟩
/-- What stands in the map has turned. -/
theorem mapped {M : Nat → Nat → Option Thing} (h : HpAt w B ls σ) (hm : TMap w' B.bm M) (hg : w.grownBy w' (some B.bm))
    (hinv : ∀ k s, (M k s).isSome = true ↔ ∃ p, σ.ps[k]? = some (some p) ∧ p.U.testBit s = true)
    (hfit : ∀ k s t p, M k s = some t → σ.ps[k]? = some (some p) → ∃ l, ls[t.1.toNat]? = some l ∧ 0 ≤ t.1 ∧ Cls.cof l.length = p.c) : HpAt w' B ls { σ with M := M } :=
  ⟨h.toHpMem.mapped hm hg, hinv, hfit⟩
end HpAt
def fp (B : HB) (σ : HS) (i : Nat) : Prop := HFoot B σ i
/-- What Fresh does for a class that there is. -/
def Fr (B : HB) (ls : List (List Int)) (σ : HS) (c : Int) (n : Nat) (w : World) (e : Ending) (w' : World) : Prop :=
  (e = .returned (.bool false) ∧ (∀ i : Nat, i < σ.ps.length → σ.ps[i]? ≠ some none) ∧ HpAt w' B ls σ ∧ Below w.heap.size w w') ∨
  (∃ k bp, e = .returned (.bool true) ∧ σ.ps[k]? = some none ∧ (∀ i : Nat, i < k → σ.ps[i]? ≠ some none) ∧ w.heap.size ≤ bp ∧ HpAt w' B ls { σ with ps := σ.ps.set k (some ⟨bp, c, n, 0, 0⟩) } ∧ Kept (fun i => i = B.gp) w w')
theorem set_some {ps : List (Option PM)} {k i : Nat} {x : Option PM} {q : PM} (h : (ps.set k x)[i]? = some (some q)) : (i = k ∧ x = some q ∧ k < ps.length) ∨ (i ≠ k ∧ ps[i]? = some (some q)) := by
  rw [List.getElem?_set] at h
  by_cases e : k = i
  · subst e
    rw [if_pos rfl] at h
    split at h
    · exact .inl ⟨rfl, Option.some.inj h, by assumption⟩
    · cases h
  · rw [if_neg e] at h
    exact .inr ⟨fun e' => e e'.symm, h⟩
theorem foot_set_of {b gp gw k i : Nat} {ps : List (Option PM)} {x : Option PM} (h : Foot b gp gw (ps.set k x) i) : Foot b gp gw ps i ∨ ∃ q, x = some q ∧ q.b = i := by
  rcases h with e | e | e | ⟨j, q, hq, e⟩
  · exact .inl (.inl e)
  · exact .inl (.inr (.inl e))
  · exact .inl (.inr (.inr (.inl e)))
  · rcases set_some hq with ⟨_, e1, _⟩ | ⟨_, e1⟩
    · exact .inr ⟨q, e1, e⟩
    · exact .inl (.inr (.inr (.inr ⟨j, q, e1, e⟩)))
theorem grew_hp {w w' : World} {B : HB} {ls : List (List Int)} {σ : HS} {c : Int} {n : Nat} {e : Ending} (h : HpAt w B ls σ) (hg : Grew B.ba B.gp B.gw σ.ps σ.ws c n w e w') : Fr B ls σ c n w e w' := by
  rcases hg with ⟨h0, h1, h2⟩ | ⟨he, k, bp, h1, h2, h3, h4, h5⟩
  · exact .inl ⟨h0, h1, h.call h2, h2⟩
  · have hM : ∀ s, σ.M k s = none := by
      intro s
      cases hc : σ.M k s with
      | none => rfl
      | some t =>
        obtain ⟨p, hp, _⟩ := (h.inv k s).1 (by rw [hc]; rfl)
        rw [h1] at hp; cases hp
    refine .inr ⟨k, bp, he, h1, h2, h3, h.arena h4 h5 (fun i hi => .inl (.inr (.inl hi))) (fun i hi => ?_) (fun j s => ?_) (fun j s t p ht hp => ?_), h5⟩
    · rcases foot_set_of hi with e | ⟨q, e, e'⟩
      · exact .inl e
      · injection e with e; subst e; subst e'; exact .inr h3
    · rw [h.inv j s]
      constructor
      · rintro ⟨p, hp, hb⟩
        refine ⟨p, ?_, hb⟩
        rw [List.getElem?_set_ne (by rintro rfl; rw [h1] at hp; cases hp)]
        exact hp
      · rintro ⟨p, hp, hb⟩
        rcases set_some hp with ⟨rfl, e, _⟩ | ⟨_, e⟩
        · injection e with e
          subst e
          simp at hb
        · exact ⟨p, e, hb⟩
    · rcases set_some hp with ⟨rfl, e, _⟩ | ⟨_, e⟩
      · rw [hM s] at ht; cases ht
      · exact h.fit j s t p ht e
end Go.Proofs.YtoajbjeiplolnaaDoorR.Hp
