/- What the law of the brush's plays holds: two heaps, a brush, a book, the pages that are left. -/
import Derived.Test.YtfgpadkoonogpaaDoorNx
import Derived.Test.YtfgpadkoonogpaaDoorBl
import Derived.Test.YtfgpadkoonogpaaDoorSo
import Derived.Test.YtfgpadkoonogpaaDoorBook12
namespace Go.Proofs.YtfgpadkoonogpaaDoor.Hp
open Go.RowKit Pg Ar Tm Br
set_option linter.unusedSimpArgs false
set_option linter.unusedVariables false

theorem HW.far {w wr w' : World} {B : HB} {ls : List (List Int)} {σ : HS} {S : Nat → Prop} (h : HW w wr B ls σ) (h0 : 0 < w.heap.size) (hk : Kept S wr w') (hS : ∀ i, S i → w.heap.size ≤ i ∧ ¬ HFoot B σ i ∧ (i < B.y ∨ B.z ≤ i)) : HW w w' B ls σ :=
  ⟨h.hp.kept hk (fun i hi e => by
    obtain ⟨h1, h2, h3⟩ := hS i e
    rcases hi with hi | hi
    · exact h2 hi
    · omega), h.newy, h.bel.trans (hk.below h.bel.size fun i hi e => by have := (hS i e).1; omega), h.tab.kept hk (fun e => by have := (hS _ e).1; omega)⟩
/-- The cells that say which pages are left. -/
def lcs (V : Nat) : Array Value := ((List.range 64).map fun i => Value.bool (V.testBit i)).toArray
theorem lcs_size (V : Nat) : (lcs V).size = 64 := by simp [lcs]
theorem lcs_at {V i : Nat} (h : i < 64) : (lcs V)[i]? = some (.bool (V.testBit i)) := by
  unfold lcs
  rw [List.getElem?_toArray, List.getElem?_map, List.getElem?_range h]
  rfl
theorem lcs_set {V V' k : Nat} {x : Bool} (hk : k < 64) (h : ∀ i, i < 64 → V'.testBit i = if i = k then x else V.testBit i) : (lcs V).setIfInBounds k (.bool x) = lcs V' := by
  apply Array.ext_getElem?
  intro i
  by_cases hi : i < 64
  · rw [lcs_at hi, h i hi]
    by_cases e : i = k
    · subst e
      rw [Array.getElem?_setIfInBounds_self_of_lt (by rw [lcs_size]; exact hi), if_pos rfl]
    · rw [Array.getElem?_setIfInBounds_ne (fun e2 => e e2.symm), lcs_at hi, if_neg e]
  · rw [Array.getElem?_eq_none (by rw [Array.size_setIfInBounds, lcs_size]; omega), Array.getElem?_eq_none (by rw [lcs_size]; omega)]
/-- The law's state. -/
structure BP (w wr : World) (B1 B2 : HB) (ls : List (List Int)) (lo hi ba bk bl z0 : Nat) (L : List Int) (A1 : Option Addr) (c1 : Nat) (σ τ : HS) (U V : Nat) (S : Nat → Prop) (oo : Option (Nat × Array Value)) : Prop where
  h1 : HW w wr B1 ls σ
  h2 : HW w wr B2 ls τ
  f1 : ∀ i, HFoot B1 σ i → w.heap.size ≤ i ∧ i < lo
  z1 : B1.z ≤ lo
  f2 : ∀ i, HFoot B2 τ i → lo ≤ i ∧ i < hi
  z2 : lo ≤ B2.y ∧ B2.z ≤ hi
  br : BrAt wr ba U
  lf : Blk wr bl (lcs V) 4
  bo : Book.BookIn wr S bk bk
  bs : ∀ k, S k → bk ≤ k ∧ k ≠ bl
  row : wr.ownsRow z0 3 1 (.slice A1 L.length c1) L.length (ints' L)
  rf : ∀ i, (Value.slice A1 L.length c1).ownBlock = some i → ¬ HFoot B1 σ i ∧ w.heap.size ≤ i ∧ i < lo
  or_ : w.heap.size ≤ lo ∧ lo ≤ hi ∧ hi ≤ ba ∧ ba < bk ∧ bk < bl
  tz : Tz.Tab wr
  op : ∀ b cs, oo = some (b, cs) → bl < b ∧ Blk wr b cs 84
namespace BP
variable {w wr w' : World} {B1 B2 : HB} {ls : List (List Int)} {lo hi ba bk bl z0 : Nat} {L : List Int} {A1 : Option Addr} {c1 : Nat} {σ τ σ' τ' : HS} {U V U' V' : Nat} {S : Nat → Prop} {oo : Option (Nat × Array Value)}
theorem call (h : BP w wr B1 B2 ls lo hi ba bk bl z0 L A1 c1 σ τ U V S oo) (hb : Below wr.heap.size wr w') : BP w w' B1 B2 ls lo hi ba bk bl z0 L A1 c1 σ τ U V S oo :=
  { h with
    h1 := h.h1.call hb
    h2 := h.h2.call hb
    br := h.br.call hb
    lf := h.lf.call hb
    bo := h.bo.call hb
    row := own_block h.row fun k hk => hb.block k (h.row.lt k hk).2
    tz := h.tz.call hb
    op := fun b cs e => ⟨(h.op b cs e).1, (h.op b cs e).2.call hb⟩ }
/-- Something was done to the first heap, and to the brush. -/
theorem m1 (h : BP w wr B1 B2 ls lo hi ba bk bl z0 L A1 c1 σ τ U V S oo) (h0 : 0 < w.heap.size ∧ 1 < w.heap.size) (ha : HpAt w' B1 ls σ') (hk : Kept (fun i => i = ba ∨ HFoot B1 σ i) wr w') (hf : ∀ i, HFoot B1 σ' i → HFoot B1 σ i) (hb : BrAt w' ba U') :
    BP w w' B1 B2 ls lo hi ba bk bl z0 L A1 c1 σ' τ U' V S oo := by
  obtain ⟨o1, o2, o3, o4, o5⟩ := h.or_
  have hS : ∀ i, (i = ba ∨ HFoot B1 σ i) → w.heap.size ≤ i ∧ (i = ba ∨ i < lo) := fun i hi => by
    rcases hi with rfl | hi
    · exact ⟨by omega, .inl rfl⟩
    · exact ⟨(h.f1 i hi).1, .inr (h.f1 i hi).2⟩
  refine ⟨h.h1.with_ h0.1 ha hk fun i hi => (hS i hi).1, h.h2.far h0.1 hk fun i hi => ⟨(hS i hi).1, fun e => ?_, ?_⟩, fun i hi => h.f1 i (hf i hi), h.z1, h.f2, h.z2, hb, (hk.block bl h.lf.lt fun e => ?_).trans h.lf, h.bo.kept hk fun k hs e => ?_, h.bs, own_block h.row fun k hk2 => hk.block k (h.row.lt k hk2).2 fun e => ?_, fun i hi => ⟨fun e => (h.rf i hi).1 (hf i e), (h.rf i hi).2⟩, h.or_, h.tz.kept hk fun e => ?_, fun b cs e => ⟨(h.op b cs e).1, (hk.block b (h.op b cs e).2.lt fun e2 => ?_).trans (h.op b cs e).2⟩⟩
  · have := h.f2 i e
    have := (hS i hi).2
    omega
  · have := h.z2
    have := (hS i hi).2
    omega
  · have := (hS _ e).2
    omega
  · have := (hS _ e).2
    have := h.bs k hs
    omega
  · have h1 := (h.rf k hk2).2
    rcases e with rfl | e
    · omega
    · exact (h.rf k hk2).1 e
  · have := (hS _ e).1
    omega
  · have := (hS _ e2).2
    have := (h.op b cs e).1
    omega
/-- Something was done to the second heap. -/
theorem m2 (h : BP w wr B1 B2 ls lo hi ba bk bl z0 L A1 c1 σ τ U V S oo) (h0 : 0 < w.heap.size ∧ 1 < w.heap.size) (ha : HpAt w' B2 ls τ') (hk : Kept (fun i => HFoot B2 τ i) wr w') (hf : ∀ i, HFoot B2 τ' i → HFoot B2 τ i) :
    BP w w' B1 B2 ls lo hi ba bk bl z0 L A1 c1 σ τ' U V S oo := by
  obtain ⟨o1, o2, o3, o4, o5⟩ := h.or_
  have hS : ∀ i, HFoot B2 τ i → lo ≤ i ∧ i < hi := h.f2
  refine ⟨h.h1.above h0.1 (fun i hi => (h.f1 i hi).2) h.z1 hk fun i hi => (hS i hi).1, h.h2.with_ h0.1 ha hk fun i hi => by have := (hS i hi).1; omega, h.f1, h.z1, fun i hi => h.f2 i (hf i hi), h.z2, h.br.keep (hk.block ba h.br.blk.lt fun e => ?_), (hk.block bl h.lf.lt fun e => ?_).trans h.lf, h.bo.kept hk fun k hs e => ?_, h.bs, own_block h.row fun k hk2 => hk.block k (h.row.lt k hk2).2 fun e => ?_, h.rf, h.or_, h.tz.kept hk fun e => ?_, fun b cs e => ⟨(h.op b cs e).1, (hk.block b (h.op b cs e).2.lt fun e2 => ?_).trans (h.op b cs e).2⟩⟩
  · have := hS _ e
    omega
  · have := hS _ e
    omega
  · have := hS _ e
    have := h.bs k hs
    omega
  · have := hS _ e
    have := h.rf k hk2
    omega
  · have := hS _ e
    omega
  · have := hS _ e2
    have := (h.op b cs e).1
    omega
/-- What turned is behind all of it, or the brush's own. -/
theorem up {T S' : Nat → Prop} {oo' : Option (Nat × Array Value)} (h : BP w wr B1 B2 ls lo hi ba bk bl z0 L A1 c1 σ τ U V S oo) (h0 : 0 < w.heap.size ∧ 1 < w.heap.size) (hk : Kept T wr w') (hT : ∀ i, T i → ba ≤ i) (hb : BrAt w' ba U') (hl : Blk w' bl (lcs V') 4) (hbo : Book.BookIn w' S' bk bk) (hbs : ∀ k, S' k → bk ≤ k ∧ k ≠ bl) (hop : ∀ b cs, oo' = some (b, cs) → oo = some (b, cs) ∧ ¬ T b) :
    BP w w' B1 B2 ls lo hi ba bk bl z0 L A1 c1 σ τ U' V' S' oo' := by
  obtain ⟨o1, o2, o3, o4, o5⟩ := h.or_
  refine ⟨h.h1.above h0.1 (fun i hi => (h.f1 i hi).2) h.z1 hk fun i hi => by have := hT i hi; omega, h.h2.above h0.1 (fun i hi => (h.f2 i hi).2) h.z2.2 hk fun i hi => by have := hT i hi; omega, h.f1, h.z1, h.f2, h.z2, hb, hl, hbo, hbs, own_block h.row fun k hk2 => hk.block k (h.row.lt k hk2).2 fun e => ?_, h.rf, h.or_, h.tz.kept hk fun e => ?_, fun b cs e => ⟨(h.op b cs (hop b cs e).1).1, (hk.block b (h.op b cs (hop b cs e).1).2.lt (hop b cs e).2).trans (h.op b cs (hop b cs e).1).2⟩⟩
  · have := hT _ e
    have := h.rf k hk2
    omega
  · have := hT _ e
    omega
/-- A page is said to be left, or not. -/
theorem st (h : BP w wr B1 B2 ls lo hi ba bk bl z0 L A1 c1 σ τ U V S oo) (h0 : 0 < w.heap.size ∧ 1 < w.heap.size) {k : Nat} {x : Bool} (hk : k < 64) (hV : ∀ i, i < 64 → V'.testBit i = if i = k then x else V.testBit i) :
    BP w (wr.setCell ⟨bl, k, none⟩ (.bool x)) B1 B2 ls lo hi ba bk bl z0 L A1 c1 σ τ U V' S oo := by
  obtain ⟨o1, o2, o3, o4, o5⟩ := h.or_
  have hg := Kept.of_grown (grown_set wr bl k (.bool x))
  refine h.up h0 hg (fun i e => by cases e; omega) (h.br.keep (hg.block ba h.br.blk.lt fun e => by have := Option.some.inj e; omega)) ((h.lf.set k (.bool x)).of_eq (lcs_set hk hV)) (h.bo.kept hg fun j hs e => ?_) h.bs fun b cs e => ⟨e, fun e2 => ?_⟩
  · have := Option.some.inj e
    exact (h.bs j hs).2 this
  · have := Option.some.inj e2
    have := (h.op b cs e).1
    omega
/-- An op was read. -/
theorem opd (h : BP w wr B1 B2 ls lo hi ba bk bl z0 L A1 c1 σ τ U V S oo) (cs : Array Value) : BP w (wr.alloc (.cells cs 84)) B1 B2 ls lo hi ba bk bl z0 L A1 c1 σ τ U V S (some (wr.heap.size, cs)) :=
  { h.call (fresh_alloc (Below.refl _ _) _) with
    op := fun b cs' e => by
      injection e with e
      injection e with e1 e2
      subst e1 e2
      exact ⟨h.lf.lt, Blk.new wr cs _⟩ }
/-- No op any more. -/
theorem opn (h : BP w wr B1 B2 ls lo hi ba bk bl z0 L A1 c1 σ τ U V S oo) : BP w wr B1 B2 ls lo hi ba bk bl z0 L A1 c1 σ τ U V S none := { h with op := fun b cs e => by cases e }
theorem cell (h : BP w wr B1 B2 ls lo hi ba bk bl z0 L A1 c1 σ τ U V S oo) {k : Nat} (hk : k < 64) : wr.cell? ⟨bl, k, none⟩ = some (.bool (V.testBit k)) := (h.lf.cell k).trans (lcs_at hk)
end BP
end Go.Proofs.YtfgpadkoonogpaaDoor.Hp
