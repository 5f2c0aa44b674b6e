/- Lemmas of my own on blocks of memory: what a block holds, over new blocks, draws, stores and calls that leave what was there alone. No program is named. How the arguments of a law read: slices that came in, as lists, nil let in. Over any program. More lemmas of my own on memory. No program is named. Appending onto a row of the call's own, whatever the source: nil, empty or not; and where the new row lies. Over any program. (After the guide's words for memory, turned to my Reads.). The builtins copy and append as steps of a region that draws its order, over my Reads and Blk. Over any program. 'Kept': what may turn between two worlds. Over any program. Appending onto a row of the call's own: what was there stays readable through the old slice too. Over any program. A region that draws its order, whose operations read and whose calls make memory but leave all that was there alone: one walk in the order of the text serves every order (the kit's law on a class of worlds, at the class 'all that was there is as it was'). Over any program. How slices of structs of three integers read that came in; a bool in a field. Over any program. -/
import Derived.WalkKit
import Derived.WalkLawsBesides
import Derived.Lib.Hide
import Derived.WalkSpells
import Derived.BigQuiet
import Derived.Deep.QuietTactic
import Derived.RegionTactic
import Derived.ChangeAlike
import Derived.ProofKit
import Derived.OpenShut
import Derived.ShutString
import Derived.ChangeOld
import Derived.Deep.Slices
import Derived.Deep.Fields
import Derived.ChangeSame
import Derived.Maps.AppendAt
import Derived.Deep.AppendLies
import Derived.OwnWalk
import Derived.Laws.CopyOwn
import Derived.Deep.RegionLaw
namespace Go.Proofs.YtfgpadkoonogpaaDoor
open Go.RowKit

/-- A store and a read at one address, with no condition: what was there is replaced. -/
@[go_sem] theorem cell?_setCell_map (w : World) (a : Addr) (v : Value) : (w.setCell a v).cell? a = (w.cell? a).map fun _ => v := by
  unfold World.cell? World.setCell
  simp only [Array.getElem?_modify]
  cases h : w.heap[a.block]? with
  | none => simp
  | some o =>
    cases o with
    | cells c e fr =>
      by_cases hs : a.spot.isSome
      · simp [hs]
      · simp only [hs]
        simp only [if_true, Option.map_some]
        by_cases hi : a.off < c.size
        · simp [hi]
        · simp [hi]
    | _ => simp
/-- The second store at one address alone stays. -/
@[go_sem] theorem setCell_setCell (w : World) (a : Addr) (v u : Value) : (w.setCell a v).setCell a u = w.setCell a u := by
  unfold World.setCell
  simp only [World.mk.injEq, and_true]
  apply Array.ext_getElem?
  intro i
  simp only [Array.getElem?_modify]
  by_cases hi : a.block = i
  · subst hi
    simp only [if_true]
    cases h : w.heap[a.block]? with
    | none => simp
    | some o =>
      cases o with
      | cells c e fr => by_cases hs : a.spot.isSome <;> simp [hs]
      | _ => simp
  · simp [hi]

/-- Block b holds just these cells, and none of them is frozen. -/
def Blk (w : World) (b : Nat) (cs : Array Value) (T : TypeId) : Prop := w.heap[b]? = some (.cells cs T (0, 0))

namespace Blk
variable {w w1 : World} {b : Nat} {cs : Array Value} {T : TypeId}
theorem lt (h : Blk w b cs T) : b < w.heap.size := (Array.getElem?_eq_some_iff.1 h).1
theorem cell (h : Blk w b cs T) (i : Nat) : w.cell? ⟨b, i, none⟩ = cs[i]? := by
  have h' : w.heap[b]? = some (.cells cs T (0, 0)) := h
  simp [World.cell?, h']
theorem free (h : Blk w b cs T) (i : Nat) : w.frozen? ⟨b, i, none⟩ = false := by
  have h' : w.heap[b]? = some (.cells cs T (0, 0)) := h
  simp [World.frozen?, h']
theorem below {B : Nat} (h : Blk w b cs T) (hb : Below B w w1) (hlt : b < B) : Blk w1 b cs T := (hb.block b hlt).trans h
theorem new (w : World) (cs : Array Value) (T : TypeId) : Blk (w.alloc (.cells cs T (0, 0))) w.heap.size cs T := heap_alloc_new w _
theorem alloc (h : Blk w b cs T) (o : Obj) : Blk (w.alloc o) b cs T := (Below.heap_alloc w o b h.lt).trans h
theorem drew (h : Blk w b cs T) : Blk w.drew b cs T := h
theorem drewN (h : Blk w b cs T) (n : Nat) : Blk (w.drewN n) b cs T := h
theorem set (h : Blk w b cs T) (i : Nat) (v : Value) : Blk (w.setCell ⟨b, i, none⟩ v) b (cs.setIfInBounds i v) T := by
  have h' : w.heap[b]? = some (.cells cs T (0, 0)) := h
  show (w.heap.modify b _)[b]? = _
  simp [Array.getElem?_modify, h']
theorem other (h : Blk w b cs T) {a : Addr} (hne : b ≠ a.block) (v : Value) : Blk (w.setCell a v) b cs T := (Below.heap_setCell w a v b hne).trans h
theorem call (h : Blk w b cs T) (hb : Below w.heap.size w w1) : Blk w1 b cs T := h.below hb h.lt
theorem of_eq {cs' : Array Value} (h : Blk w b cs T) (e : cs = cs') : Blk w b cs' T := e ▸ h
/-- The facts that a walk wants of a block of one, two, three, four cells. -/
theorem one {x : Value} (h : Blk w b #[x] T) : w.cell? ⟨b, 0, none⟩ = some x ∧ w.frozen? ⟨b, 0, none⟩ = false := ⟨h.cell 0, h.free 0⟩
theorem two {x y : Value} (h : Blk w b #[x, y] T) : w.cell? ⟨b, 0, none⟩ = some x ∧ w.cell? ⟨b, 1, none⟩ = some y ∧ w.frozen? ⟨b, 0, none⟩ = false ∧ w.frozen? ⟨b, 1, none⟩ = false :=
  ⟨h.cell 0, h.cell 1, h.free 0, h.free 1⟩
theorem three {x y z : Value} (h : Blk w b #[x, y, z] T) : w.cell? ⟨b, 0, none⟩ = some x ∧ w.cell? ⟨b, 1, none⟩ = some y ∧ w.cell? ⟨b, 2, none⟩ = some z ∧
    w.frozen? ⟨b, 0, none⟩ = false ∧ w.frozen? ⟨b, 1, none⟩ = false ∧ w.frozen? ⟨b, 2, none⟩ = false :=
  ⟨h.cell 0, h.cell 1, h.cell 2, h.free 0, h.free 1, h.free 2⟩
theorem four {x y z u : Value} (h : Blk w b #[x, y, z, u] T) : w.cell? ⟨b, 0, none⟩ = some x ∧ w.cell? ⟨b, 1, none⟩ = some y ∧ w.cell? ⟨b, 2, none⟩ = some z ∧ w.cell? ⟨b, 3, none⟩ = some u ∧
    w.frozen? ⟨b, 0, none⟩ = false ∧ w.frozen? ⟨b, 1, none⟩ = false ∧ w.frozen? ⟨b, 2, none⟩ = false ∧ w.frozen? ⟨b, 3, none⟩ = false :=
  ⟨h.cell 0, h.cell 1, h.cell 2, h.cell 3, h.free 0, h.free 1, h.free 2, h.free 3⟩
end Blk

theorem ret_bool {a b : Bool} (h : a = b) : Ending.returned (.bool a) = .returned (.bool b) := by rw [h]
theorem ret_int {k : IntKind} {a b : Int} (h : a = b) : Ending.returned (.int k a) = .returned (.int k b) := by rw [h]
/-- Behind a call that leaves all that was there alone. -/
theorem below_call {B : Nat} {a W w1 : World} (h : Below B a W) (hB : B ≤ W.heap.size) (hb : Below W.heap.size W w1) : Below B a w1 := h.trans (hb.mono hB)
theorem fresh_call {a W w1 : World} (h : Below a.heap.size a W) (hb : Below W.heap.size W w1) : Below a.heap.size a w1 := below_call h h.size hb
theorem fresh_alloc {a W : World} (h : Below a.heap.size a W) (o : Obj) : Below a.heap.size a (W.alloc o) := h.alloc h.size o
theorem wrap64_id {x : Int} (h : -9223372036854775808 ≤ x ∧ x ≤ 9223372036854775807) : wrap64 x = x := by unfold wrap64; omega
theorem below_drewN {B : Nat} {a w : World} (h : Below B a w) (n : Nat) : Below B a (w.drewN n) := ⟨h.os, h.tape, h.output, h.size, h.block⟩

end Go.Proofs.YtfgpadkoonogpaaDoor

namespace Go.Proofs.YtfgpadkoonogpaaDoor
open Go.ChangeShapes Go.WideShapes Go.ChangeAt Go.RowKit Go.Deep
open Go.ChangeMaps (open_string shut_string)
set_option linter.unusedVariables false

/-- The slice with address A, length n and capacity c reads as the cells xs, size cells an element; its row lies below block B. -/
def Reads (w : World) (B size : Nat) (A : Option Addr) (n c : Nat) (xs : List Value) : Prop :=
  n ≤ c ∧ c ≤ maxLen ∧ xs.length = n * size ∧ (0 < n → ∃ b off, A = some ⟨b, off, none⟩ ∧ b < B ∧ ∀ j u, xs[j]? = some u → w.cell? ⟨b, off + j, none⟩ = some u)

section
variable {w w' : World} {B B' size n c : Nat} {A : Option Addr} {xs : List Value}
theorem Reads.nil_ : Reads w B size none 0 0 [] := ⟨Nat.le_refl _, Nat.zero_le _, by simp, fun h => absurd h (by omega)⟩
theorem Reads.at_ (h : Reads w B size A n c xs) {j : Nat} {u : Value} (hu : xs[j]? = some u) : ∃ b off, A = some ⟨b, off, none⟩ ∧ b < B ∧ w.cell? ⟨b, off + j, none⟩ = some u := by
  have hl : j < xs.length := (List.getElem?_eq_some_iff.1 hu).1
  have hn : 0 < n := by
    rcases Nat.eq_zero_or_pos n with h0 | h0
    · have := h.2.2.1; rw [h0, Nat.zero_mul] at this; omega
    · exact h0
  obtain ⟨b, off, e, hb, hc⟩ := h.2.2.2 hn
  exact ⟨b, off, e, hb, hc j u hu⟩
theorem Reads.keep (h : Reads w B size A n c xs) (hk : ∀ b o, b < B → w'.cell? ⟨b, o, none⟩ = w.cell? ⟨b, o, none⟩) : Reads w' B size A n c xs :=
  ⟨h.1, h.2.1, h.2.2.1, fun hn => by
    obtain ⟨b, off, e, hb, hc⟩ := h.2.2.2 hn
    exact ⟨b, off, e, hb, fun j u hu => (hk _ _ hb).trans (hc j u hu)⟩⟩
theorem Reads.more (h : Reads w B size A n c xs) (hB : B ≤ B') : Reads w B' size A n c xs :=
  ⟨h.1, h.2.1, h.2.2.1, fun hn => by
    obtain ⟨b, off, e, hb, hc⟩ := h.2.2.2 hn
    exact ⟨b, off, e, by omega, hc⟩⟩
theorem Reads.below (h : Reads w B size A n c xs) (hb : Below B w w') : Reads w' B size A n c xs := h.keep fun b o hp => hb.cell (p := ⟨b, o, none⟩) hp
end

section
variable {H : Type} {enc : TypeId × Value → H} {P : Program} {w : World} {base : Nat} {spare : Nat → Bool} {held : Bool}

theorem add_form (b off : Nat) (j : Nat) : (⟨b, off, none⟩ : Addr).add j = ⟨b, off + j, none⟩ := by
  unfold Addr.add; split <;> simp_all

/-- A slice of integers that came in. -/
theorem reads_ints {r : Reach} {b0 : Nat} {t e : TypeId} {k : IntKind} {v : Value} {d : DataW H} {p : List MemPlace} (ht : P.underlying t = some (.slice e)) (he : P.underlying e = some (.int k)) (hc : P.cellsOf e = 1)
    (hv : Value.okWide P w r b0 t v) (h : DataW.Trod enc P w base spare held t v d p) :
    ∃ (A : Option Addr) (n c : Nat) (zs : List Int), v = .slice A n c ∧ zs.length = n ∧ (∀ z ∈ zs, (Lit.int k z).wf = true) ∧ Reads w w.heap.size 1 A n c (zs.map (.int k)) := by
  obtain ⟨A, n, c, rfl⟩ := okWide_slice ht hv
  obtain ⟨fuel, hf⟩ := h
  rcases open_ints ht he hc hf with ⟨hcs, _⟩ | ⟨x, l, c', zs, hcs, _, hl, hm, hz, _, hcell, hwz⟩
  · simp [Value.cells] at hcs
    obtain ⟨rfl, rfl, rfl⟩ := hcs
    exact ⟨_, _, _, [], rfl, rfl, by simp, Reads.nil_⟩
  · simp [Value.cells] at hcs
    obtain ⟨rfl, rfl, rfl⟩ := hcs
    have hnz : n ≤ zs.length := by rw [hz]; split <;> omega
    refine ⟨_, _, _, zs.take n, rfl, by simp; omega, fun z hzz => hwz z (List.mem_of_mem_take hzz), hl, hm, by simp; omega, fun hn => ?_⟩
    obtain ⟨b, off, spot⟩ := x
    have h0 := hcell 0 (by omega)
    have hspot : spot = none := by simpa [Addr.add] using World.cell?_spot h0
    subst hspot
    refine ⟨b, off, rfl, World.block_lt_of_cell? _ _ h0, fun j u hu => ?_⟩
    have hj : j < n := by
      have := (List.getElem?_eq_some_iff.1 hu).1
      simp at this; omega
    rw [← add_form, hcell j (by omega)]
    have e : ((zs.take n).map (Value.int k))[j]? = some (.int k (zs.getD j 0)) := by simp [List.getD, hj, show j < zs.length by omega]
    rw [e] at hu
    exact hu

/-- A slice of structs of one-cell fields that came in: for each element and each field the cell and the field's own reading. -/
theorem open_slice_fields {t e : TypeId} {fs : Array Field} {fuel : Nat} {cs : List Value} {x : DataW H × List MemPlace} (ht : P.underlying t = some (.slice e)) (he : P.underlying e = some (.struct fs))
    (hone : oneCellFields P fs = true) (hC : P.cellsOf e = fs.size) (h : DataW.trod enc P w base spare held fuel t cs = some x) :
    cs = [.slice none 0 0] ∨
    ∃ (a : Addr) (len cap : Nat), cs = [.slice (some a) len cap] ∧ len ≤ cap ∧ cap ≤ maxLen ∧
      ∀ i, i < len → ∃ (ys : List (DataW H × List MemPlace)) (n : Nat), ys.length = fs.size ∧
        ∀ (j : Nat) (f : Field), fs[j]? = some f → ∃ (v : Value) (y : DataW H × List MemPlace), w.cell? (a.add (i * fs.size + j)) = some v ∧ ys[j]? = some y ∧ DataW.trod enc P w base spare held n f.type [v] = some y := by
  rcases open_slice ht h with h0 | ⟨a, len, cap, m, n, D, Pl, hcs, hb, hl, hm, hmm, hx, hi⟩
  · exact .inl h0.1
  · refine .inr ⟨a, len, cap, hcs, hl, hm, fun i him => ?_⟩
    obtain ⟨cs', hc, ht'⟩ := hi i (by rw [hmm]; split <;> omega)
    rw [hC] at hc
    obtain ⟨ys, n', hn', hy, hlen, hyl, hf⟩ := DataW.trod_struct he ht'
    obtain ⟨_, hcl, hat⟩ := World.cells?_some hc
    simp only [Prod.mk.injEq] at hy
    refine ⟨ys, n', hyl, fun j f hj => ?_⟩
    obtain ⟨ho, hk⟩ := hone_of hone j f hj
    have hjl : j < fs.size := (Array.getElem?_eq_some_iff.1 hj).1
    have hcell := hat j hjl
    have hv : cs'[j]? = some (cs'[j]'(by omega)) := List.getElem?_eq_getElem (by omega)
    have h1 := hf j f hj
    rw [ho, hk] at h1
    have hone' : (cs'.drop j).take 1 = [cs'[j]'(by omega)] := by
      rw [List.drop_eq_getElem_cons (by omega)]
      rfl
    rw [hone'] at h1
    have hys : ys[j]? = some (ys[j]'(by omega)) := List.getElem?_eq_getElem (by omega)
    refine ⟨_, _, ?_, hys, h1.trans hys⟩
    rw [← Go.Deep.add_add, hcell, hv]

/-- A list of functions' values, made of 'for each index there is one'. -/
theorem list_of {α : Type} {n : Nat} {R : Nat → α → Prop} (h : ∀ i, i < n → ∃ a, R i a) : ∃ l : List α, l.length = n ∧ ∀ i a, l[i]? = some a → R i a := by
  induction n with
  | zero => exact ⟨[], rfl, by simp⟩
  | succ n ih =>
    obtain ⟨l, hl, hr⟩ := ih fun i hi => h i (by omega)
    obtain ⟨a, ha⟩ := h n (by omega)
    refine ⟨l ++ [a], by simp [hl], fun i b hb => ?_⟩
    rw [List.getElem?_append] at hb
    split at hb
    · exact hr i b hb
    · rename_i hge
      have hi : i = n := by
        have := (List.getElem?_eq_some_iff.1 hb).1
        simp at this; omega
      subst hi
      simp [hl] at hb
      subst hb
      exact ha

/-- The cells of a list of pairs. -/
def pairCells (l : List (Value × Value)) : List Value := l.flatMap fun p => [p.1, p.2]
theorem pairCells_length (l : List (Value × Value)) : (pairCells l).length = l.length * 2 := by
  induction l with
  | nil => rfl
  | cons p l ih => simp [pairCells] at ih ⊢; omega
theorem pairCells_at {l : List (Value × Value)} {i : Nat} {p : Value × Value} (h : l[i]? = some p) : (pairCells l)[i * 2]? = some p.1 ∧ (pairCells l)[i * 2 + 1]? = some p.2 := by
  induction l generalizing i with
  | nil => simp at h
  | cons q l ih =>
    cases i with
    | zero => simp at h; subst h; simp [pairCells]
    | succ i =>
      have := ih (i := i) (by simpa using h)
      simp only [pairCells, List.flatMap_cons] at this ⊢
      rw [show (i + 1) * 2 = i * 2 + 2 by omega, show i * 2 + 2 + 1 = (i * 2 + 1) + 2 by omega]
      simpa using this
theorem pairCells_inv {l : List (Value × Value)} {j : Nat} {u : Value} (h : (pairCells l)[j]? = some u) : ∃ i p, l[i]? = some p ∧ ((j = i * 2 ∧ u = p.1) ∨ (j = i * 2 + 1 ∧ u = p.2)) := by
  have hj : j < l.length * 2 := by rw [← pairCells_length]; exact (List.getElem?_eq_some_iff.1 h).1
  have hi : j / 2 < l.length := by omega
  have hp := pairCells_at (List.getElem?_eq_getElem hi)
  refine ⟨j / 2, _, List.getElem?_eq_getElem hi, ?_⟩
  rcases Nat.mod_two_eq_zero_or_one j with h0 | h1
  · have e : j / 2 * 2 = j := by omega
    rw [e] at hp
    exact .inl ⟨by omega, by rw [hp.1] at h; exact (Option.some.inj h).symm⟩
  · have e : j / 2 * 2 + 1 = j := by omega
    rw [e] at hp
    exact .inr ⟨by omega, by rw [hp.2] at h; exact (Option.some.inj h).symm⟩

/-- A slice of structs of two one-cell fields that came in: each field's value has what its own reading gives. -/
theorem reads_pairs {r : Reach} {b0 : Nat} {t e : TypeId} {f0 f1 : Field} {R0 R1 : Value → Prop} {v : Value} {d : DataW H} {p : List MemPlace} (ht : P.underlying t = some (.slice e)) (he : P.underlying e = some (.struct #[f0, f1]))
    (hone : oneCellFields P #[f0, f1] = true) (hC : P.cellsOf e = 2)
    (h0 : ∀ n u y, DataW.trod enc P w base spare held n f0.type [u] = some y → R0 u) (h1 : ∀ n u y, DataW.trod enc P w base spare held n f1.type [u] = some y → R1 u)
    (hv : Value.okWide P w r b0 t v) (h : DataW.Trod enc P w base spare held t v d p) :
    ∃ (A : Option Addr) (n c : Nat) (l : List (Value × Value)), v = .slice A n c ∧ l.length = n ∧ (∀ q ∈ l, R0 q.1 ∧ R1 q.2) ∧ Reads w w.heap.size 2 A n c (pairCells l) := by
  obtain ⟨A, n, c, rfl⟩ := okWide_slice ht hv
  obtain ⟨fuel, hf⟩ := h
  rcases open_slice_fields ht he hone hC hf with hcs | ⟨x, l, c', hcs, hl, hm, hat⟩
  · simp [Value.cells] at hcs
    obtain ⟨rfl, rfl, rfl⟩ := hcs
    exact ⟨_, _, _, [], rfl, rfl, by simp, Reads.nil_⟩
  · simp [Value.cells] at hcs
    obtain ⟨rfl, rfl, rfl⟩ := hcs
    have each : ∀ i, i < n → ∃ q : Value × Value, (R0 q.1 ∧ R1 q.2) ∧ w.cell? (x.add (i * 2)) = some q.1 ∧ w.cell? (x.add (i * 2 + 1)) = some q.2 := by
      intro i hi
      obtain ⟨ys, m, _, hfs⟩ := hat i hi
      obtain ⟨u0, y0, c0, _, t0⟩ := hfs 0 f0 rfl
      obtain ⟨u1, y1, c1, _, t1⟩ := hfs 1 f1 rfl
      exact ⟨(u0, u1), ⟨h0 _ _ _ t0, h1 _ _ _ t1⟩, c0, c1⟩
    obtain ⟨ps, hps, hr⟩ := list_of each
    refine ⟨_, _, _, ps, rfl, hps, fun q hq => ?_, hl, hm, by rw [pairCells_length, hps], fun hn => ?_⟩
    · obtain ⟨i, hi⟩ := List.mem_iff_getElem?.1 hq
      exact (hr i q hi).1
    · obtain ⟨b, off, spot⟩ := x
      have hz := (hr 0 _ (List.getElem?_eq_getElem (by omega))).2.1
      have hspot : spot = none := by simpa [Addr.add] using World.cell?_spot hz
      subst hspot
      refine ⟨b, off, rfl, by simpa [Addr.add] using World.block_lt_of_cell? _ _ hz, fun j u hu => ?_⟩
      obtain ⟨i, q, hq, hju⟩ := pairCells_inv hu
      have hc := (hr i q hq).2
      rw [add_form, add_form] at hc
      rcases hju with ⟨rfl, rfl⟩ | ⟨rfl, rfl⟩
      · exact hc.1
      · rw [← Nat.add_assoc]; exact hc.2

/-- An integer in a field. -/
theorem int_field {k : IntKind} {t : TypeId} (ht : P.underlying t = some (.int k)) : ∀ n u y, DataW.trod enc P w base spare held n t [u] = some y → ∃ z, u = .int k z ∧ (Lit.int k z).wf = true := by
  intro n u y h
  obtain ⟨z, e, _, wz⟩ := DataW.trod_int ht h
  simp at e
  exact ⟨z, e, wz⟩
/-- A slice of integers in a field. -/
theorem ints_field {k : IntKind} {t e : TypeId} (ht : P.underlying t = some (.slice e)) (he : P.underlying e = some (.int k)) (hc : P.cellsOf e = 1) :
    ∀ n u y, DataW.trod enc P w base spare held n t [u] = some y → ∃ (A : Option Addr) (n c : Nat) (zs : List Int), u = .slice A n c ∧ zs.length = n ∧ (∀ z ∈ zs, (Lit.int k z).wf = true) ∧ Reads w w.heap.size 1 A n c (zs.map (.int k)) := by
  intro m u y hf
  rcases open_ints ht he hc hf with ⟨hcs, _⟩ | ⟨x, n, c, zs, hcs, _, hl, hm, hz, _, hcell, hwz⟩
  · simp at hcs
    subst hcs
    exact ⟨_, _, _, [], rfl, rfl, by simp, Reads.nil_⟩
  · simp at hcs
    subst hcs
    have hnz : n ≤ zs.length := by rw [hz]; split <;> omega
    refine ⟨_, _, _, zs.take n, rfl, by simp; omega, fun z hzz => hwz z (List.mem_of_mem_take hzz), hl, hm, by simp; omega, fun hn => ?_⟩
    obtain ⟨b, off, spot⟩ := x
    have h0 := hcell 0 (by omega)
    have hspot : spot = none := by simpa [Addr.add] using World.cell?_spot h0
    subst hspot
    refine ⟨b, off, rfl, World.block_lt_of_cell? _ _ h0, fun j u hu => ?_⟩
    have hj : j < n := by
      have := (List.getElem?_eq_some_iff.1 hu).1
      simp at this; omega
    rw [← add_form, hcell j (by omega)]
    have e : ((zs.take n).map (Value.int k))[j]? = some (.int k (zs.getD j 0)) := by simp [List.getD, hj, show j < zs.length by omega]
    rw [e] at hu
    exact hu
end
end Go.Proofs.YtfgpadkoonogpaaDoor

namespace Go.Proofs.YtfgpadkoonogpaaDoor
open Go.RowKit

/-- A call that leaves the world as it is, in a region that draws its order. -/
theorem quiet_left {P : Program} {f : FuncId} {args : Array Value} {w : World} {n : Nat} {v : Value}
    (h : Calls P f args (w.drewN n) fun e w' => e = .returned v ∧ w.drewN n = w') : Calls P f args (w.drewN n) fun e w'' => e = .returned v ∧ ∃ m, w'' = w.drewN m :=
  h.mono fun _ _ ⟨he, hm⟩ => ⟨he, n, hm.symm⟩
end Go.Proofs.YtfgpadkoonogpaaDoor

namespace Go.Proofs.YtfgpadkoonogpaaDoor
open Go.RowKit

theorem slice_form {w : World} {B : Nat} {v : Value} {n : Nat} {xs : List Value} {e : TypeId} {size : Nat} (h : w.ownsRow B e size v n xs) : ∃ a c, v = .slice a n c := by
  rcases h.2 with ⟨rfl, rfl⟩ | ⟨g, c, _, rfl, _⟩
  · exact ⟨_, _, rfl⟩
  · exact ⟨_, _, rfl⟩

/-- A row of the call's own, read as a list. -/
theorem Reads.of_own {w : World} {base e size n c : Nat} {A : Option Addr} {xs : List Value} (h : w.ownsRow base e size (.slice A n c) n xs) : Reads w w.heap.size size A n c xs := by
  rcases h.2 with ⟨h1, h2⟩ | ⟨g, cap, cur, hv, hb, hh, hn, hm, hs, ht⟩
  · injection h1 with h1 h3 h4
    subst h1 h4 h3
    exact ⟨Nat.le_refl _, Nat.zero_le _, h.1, fun h => absurd h (by omega)⟩
  · injection hv with h1 _ h4
    subst h1 h4
    refine ⟨hn, hm, h.1, fun _ => ⟨g, 0, rfl, (Array.getElem?_eq_some_iff.1 hh).1, fun j u hu => ?_⟩⟩
    have := h.cells (g := g) rfl j u hu
    rwa [add_form] at this

section
variable {P : Program} (w : World)
theorem run_append_of_nil (base : Nat) (t ty e : TypeId) (i : TypeInfo) (size : Nat) (ht : P.underlying t = some (.slice e)) (hi : P.info? e = some i)
    (v : Value) (n : Nat) (xs : List Value) (hown : w.ownsRow base e size v n xs) (c : Nat) : (Builtin.append_ #[t, t] ty #[v, .slice none 0 c]).run P w = .ok v w := by
  rcases hown.2 with ⟨rfl, rfl⟩ | ⟨g, cap, cur, rfl, _, _, hnc, _⟩
  · simp [Builtin.append_, run_underlying ht, sizeOf, typeInfo, hi, Builtin.lenOf, Builtin.firstCells]
  · simp [Builtin.append_, run_underlying ht, sizeOf, typeInfo, hi, Builtin.lenOf, Builtin.firstCells, hnc, storeCells]

theorem run_app (base : Nat) (t ty e : TypeId) (i : TypeInfo) (z : Value) (size bytes : Nat) (ht : P.underlying t = some (.slice e)) (hi : P.info? e = some i) (hz : i.zero = some z)
    (hsize : i.size = size) (hby : i.bytes = bytes) (hzs : z.cells.size = size) (hsz : 0 < size)
    (v : Value) (n : Nat) (xs : List Value) (hown : w.ownsRow base e size v n xs)
    (B : Nat) (A : Option Addr) (m c : Nat) (news : List Value) (hr : Reads w B size A m c news) (h1 : ∀ u ∈ news, u.oneCell' = true)
    (h63 : n + m ≤ maxLen) (hbytes : (n + m) * bytes ≤ 140737488355328) (hbase : base ≤ w.heap.size) :
    ∃ a' c' w', (Builtin.append_ #[t, t] ty #[v, .slice A m c]).run P w = .ok (.slice a' (n + m) c') w' ∧ w'.ownsRow base e size (.slice a' (n + m) c') (n + m) (xs ++ news) ∧ w.grownBy w' v.ownBlock ∧
      ((Value.slice a' (n + m) c').ownBlock = v.ownBlock ∨ (Value.slice a' (n + m) c').ownBlock = some w.heap.size) := by
  rcases A with _ | ad
  · have hm : m = 0 := by
      rcases Nat.eq_zero_or_pos m with h0 | h0
      · exact h0
      · obtain ⟨b, off, h, _⟩ := hr.2.2.2 h0
        cases h
    subst hm
    have hn : news = [] := List.eq_nil_of_length_eq_zero (by simpa using hr.2.2.1)
    subst hn
    obtain ⟨a', c', rfl⟩ := slice_form hown
    exact ⟨a', c', w, run_append_of_nil w base t ty e i size ht hi _ n xs hown c, by simpa using hown, World.grownBy.refl w _, .inl rfl⟩
  · have hcells : ∀ j u, news[j]? = some u → w.cell? (ad.add j) = some u := by
      intro j u hu
      obtain ⟨b, off, h, _, hc⟩ := hr.at_ hu
      injection h with h
      subst h
      rw [add_form]
      exact hc
    obtain ⟨v', w', hrun, h2, h3, _, h5⟩ := run_append_own_at (P := P) w base t ty e i z size bytes ht hi hz hsize hby hzs hsz v n xs hown ad m c news hr.2.2.1 hcells h1 h63 hbytes hbase
    obtain ⟨a', c', rfl⟩ := slice_form h2
    exact ⟨a', c', w', hrun, h2, h3, h5⟩

theorem wp_app {o : Oper} {a : Act} {K : Act → World → Prop} {Q : Exit → Act → World → Prop} (s x : Operand) (t : TypeId)
    (ho : o.op = .call { callee := .builtin .append, args := #[s, x], argTypes := #[t, t] })
    (base : Nat) (e : TypeId) (i : TypeInfo) (z : Value) (size bytes : Nat) (ht : P.underlying t = some (.slice e)) (hi : P.info? e = some i) (hz : i.zero = some z)
    (hsize : i.size = size) (hby : i.bytes = bytes) (hzs : z.cells.size = size) (hsz : 0 < size)
    (v : Value) (n : Nat) (xs : List Value) (hs : a.eval s = v) (hown : w.ownsRow base e size v n xs)
    (B : Nat) (A : Option Addr) (m c : Nat) (news : List Value) (hx : a.eval x = .slice A m c) (hr : Reads w B size A m c news) (h1 : ∀ u ∈ news, u.oneCell' = true)
    (h63 : n + m ≤ maxLen) (hbytes : (n + m) * bytes ≤ 140737488355328) (hbase : base ≤ w.heap.size)
    (h : ∀ a' c' w', w'.ownsRow base e size (.slice a' (n + m) c') (n + m) (xs ++ news) → w.grownBy w' v.ownBlock → ((Value.slice a' (n + m) c').ownBlock = v.ownBlock ∨ (Value.slice a' (n + m) c').ownBlock = some w.heap.size) → K (a.put o.dst (.slice a' (n + m) c')) w') : o.wp P a w K Q := by
  obtain ⟨a', c', w', hrun, h2, h3, h4⟩ := run_app (P := P) w base t o.type e i z size bytes ht hi hz hsize hby hzs hsz v n xs hown B A m c news hr h1 h63 hbytes hbase
  unfold Oper.wp execOp
  simp only [ho, resolve, invoke, builtin, Sem.run_bind, Sem.run_pure, Result.andThen_ok, List.map_toArray, List.map_cons, List.map_nil, hs, hx, hrun]
  exact h a' c' w' h2 h3 h4

theorem wpList_app {ops : Array Oper} {rest : List Oper} {o : Oper} {a : Act} {Q : Exit → Act → World → Prop} (hgd : o.guard = none) (s x : Operand) (t : TypeId)
    (ho : o.op = .call { callee := .builtin .append, args := #[s, x], argTypes := #[t, t] })
    (base : Nat) (e : TypeId) (i : TypeInfo) (z : Value) (size bytes : Nat) (ht : P.underlying t = some (.slice e)) (hi : P.info? e = some i) (hz : i.zero = some z)
    (hsize : i.size = size) (hby : i.bytes = bytes) (hzs : z.cells.size = size) (hsz : 0 < size)
    (v : Value) (n : Nat) (xs : List Value) (hs : a.eval s = v) (hown : w.ownsRow base e size v n xs)
    (B : Nat) (A : Option Addr) (m c : Nat) (news : List Value) (hx : a.eval x = .slice A m c) (hr : Reads w B size A m c news) (h1 : ∀ u ∈ news, u.oneCell' = true)
    (h63 : n + m ≤ maxLen) (hbytes : (n + m) * bytes ≤ 140737488355328) (hbase : base ≤ w.heap.size)
    (h : ∀ a' c' w', w'.ownsRow base e size (.slice a' (n + m) c') (n + m) (xs ++ news) → w.grownBy w' v.ownBlock → ((Value.slice a' (n + m) c').ownBlock = v.ownBlock ∨ (Value.slice a' (n + m) c').ownBlock = some w.heap.size) → wpList P ops Q rest (a.put o.dst (.slice a' (n + m) c')) w') : wpList P ops Q (o :: rest) a w :=
  wpList_plain hgd fun _ hK => wp_app w s x t ho base e i z size bytes ht hi hz hsize hby hzs hsz v n xs hs hown B A m c news hx hr h1 h63 hbytes hbase fun a' c' w' h2 h3 h4 => hK _ _ (h a' c' w' h2 h3 h4)
end

theorem grown_set (w : World) (b i : Nat) (u : Value) : w.grownBy (w.setCell ⟨b, i, none⟩ u) (some b) :=
  ⟨rfl, rfl, rfl, by simp [World.setCell], fun k _ hk => Below.heap_setCell w _ u k (fun e => hk (by rw [e]))⟩
/-- A block of another element type is none of an owned row's. -/
theorem own_ne {w : World} {B b : Nat} {v : Value} {n : Nat} {xs : List Value} {e T : TypeId} {size : Nat} {cs : Array Value} (h : w.ownsRow B e size v n xs) (hb : Blk w b cs T) (hne : e ≠ T) : some b ≠ v.ownBlock := by
  rcases h.2 with ⟨rfl, _⟩ | ⟨g, _, cur, rfl, _, hh, _⟩
  · simp [Value.ownBlock]
  · intro he
    have he' : b = g := by simpa [Value.ownBlock] using he
    subst he'
    have hb' : w.heap[b]? = some (.cells cs T (0, 0)) := hb
    rw [hb'] at hh
    injection hh with hh
    injection hh with _ ht
    exact hne ht.symm
theorem Blk.reads {w : World} {b B n : Nat} {cs : Array Value} {T : TypeId} {xs : List Value} (h : Blk w b cs T) (hB : b < B) (hx : cs.toList = xs) (hn : xs.length = n) (hm : n ≤ maxLen) : Reads w B 1 (some ⟨b, 0, none⟩) n n xs := by
  refine ⟨Nat.le_refl _, hm, by omega, fun _ => ⟨b, 0, rfl, hB, fun j u hu => ?_⟩⟩
  rw [Nat.zero_add, h.cell j, ← hu, ← hx]
  simp
/-- What is owned is kept where its own block is. -/
theorem own_block {w w' : World} {B : Nat} {v : Value} {n : Nat} {xs : List Value} {e : TypeId} {size : Nat} (h : w.ownsRow B e size v n xs) (hk : ∀ k, v.ownBlock = some k → w'.heap[k]? = w.heap[k]?) : w'.ownsRow B e size v n xs := by
  refine ⟨h.1, ?_⟩
  rcases h.2 with hn | ⟨g, cap, cur, rfl, hb, hgg, rest⟩
  · exact .inl hn
  · exact .inr ⟨g, cap, cur, rfl, hb, (hk g rfl).trans hgg, rest⟩
end Go.Proofs.YtfgpadkoonogpaaDoor

namespace Go.Proofs.YtfgpadkoonogpaaDoor
open Go.RowKit

theorem reads_take {w : World} {B n c m : Nat} {A : Option Addr} {xs : List Value} (h : Reads w B 1 A n c xs) (hm : m ≤ n) : Reads w B 1 A m c (xs.take m) := by
  refine ⟨by have := h.1; omega, h.2.1, by have := h.2.2.1; simp; omega, fun hp => ?_⟩
  obtain ⟨b, off, e, hb, hc⟩ := h.2.2.2 (by omega)
  refine ⟨b, off, e, hb, fun j u hu => hc j u ?_⟩
  rw [List.getElem?_take] at hu
  split at hu
  · exact hu
  · cases hu

section
variable {P : Program} (w : World)
theorem run_cp (dT sT ty elem : TypeId) (hu : P.underlying dT = some (.slice elem)) (hs : (P.info? elem).map (·.size) = some 1)
    (g o dLen dCap : Nat) (cur : Array Value) (t : TypeId) (hg : Blk w g cur t) (A : Option Addr) (sLen sCap B : Nat) (xs : List Value) (hr : Reads w B 1 A sLen sCap xs) (h1 : ∀ u ∈ xs, u.oneCell' = true)
    (m : Nat) (hm : m = Nat.min sLen dLen) (hfit : o + m ≤ cur.size) :
    ∃ w', (Builtin.copy_ #[dT, sT] ty #[.slice (some ⟨g, o, none⟩) dLen dCap, .slice A sLen sCap]).run P w = .ok (.int .i64 m) w' ∧
      Blk w' g (cur.toList.take o ++ xs.take m ++ cur.toList.drop (o + m)).toArray t ∧ w.grownBy w' (some g) := by
  have hlen : (xs.take m).length = m := by
    have := hr.2.2.1
    have : m ≤ sLen := by rw [hm]; exact Nat.min_le_left _ _
    simp; omega
  by_cases h0 : m = 0
  · subst h0
    refine ⟨w, run_copy_none (P := P) w dT sT ty elem _ A dLen dCap sLen sCap hu hs hm.symm, ?_, World.grownBy.refl w _⟩
    refine Blk.of_eq hg ?_
    simp
  · have hs0 : 0 < sLen := by
      have : m ≤ sLen := by rw [hm]; exact Nat.min_le_left _ _
      omega
    obtain ⟨b, off, rfl, hb, hc⟩ := hr.2.2.2 hs0
    have hsrc : ∀ j v, (xs.take m)[j]? = some v → w.cell? ((⟨b, off, none⟩ : Addr).add j) = some v := by
      intro j v hv
      rw [add_form]
      refine hc j v ?_
      rw [List.getElem?_take] at hv
      split at hv
      · exact hv
      · cases hv
    have hg' : w.heap[g]? = some (.cells cur t (0, 0)) := hg
    have hrun := run_copy_row (P := P) w dT sT ty elem g o dLen dCap ⟨b, off, none⟩ sLen sCap cur t (xs.take m) hu hs hg' (by rw [hlen, hm]) hsrc (by rw [hlen]; exact hfit) (fun u hu => h1 u (List.mem_of_mem_take hu))
    rw [hlen] at hrun
    exact ⟨_, hrun, setRow_heap w g cur _ t _ hg', ⟨rfl, rfl, rfl, by simp, fun k _ hk => setRow_other w g k _ (fun e => hk (by rw [e]))⟩⟩

theorem step_cp {ops : Array Oper} {o : Oper} {a : Act} {K : Act → World → Prop} {Q : Exit → Act → World → Prop} {E : Prop} (hgd : o.guard = none) (d s : Operand) (dT sT : TypeId)
    (ho : o.op = .call { callee := .builtin .copy, args := #[d, s], argTypes := #[dT, sT] }) (elem : TypeId) (hu : P.underlying dT = some (.slice elem)) (hsz : (P.info? elem).map (·.size) = some 1)
    (g off dLen dCap : Nat) (hd : a.eval d = .slice (some ⟨g, off, none⟩) dLen dCap) (cur : Array Value) (t : TypeId) (hg : Blk w g cur t)
    (A : Option Addr) (sLen sCap B : Nat) (hs : a.eval s = .slice A sLen sCap) (xs : List Value) (hr : Reads w B 1 A sLen sCap xs) (h1 : ∀ u ∈ xs, u.oneCell' = true) (m : Nat) (hm : m = Nat.min sLen dLen) (hfit : off + m ≤ cur.size)
    (h : ∀ w', Blk w' g (cur.toList.take off ++ xs.take m ++ cur.toList.drop (off + m)).toArray t → w.grownBy w' (some g) → K (a.put o.dst (.int .i64 m)) w') :
    if Region.wanted o (yielded ops a.tmps) = true then Oper.wp P o a w K Q else E := by
  have hw : Region.wanted o (yielded ops a.tmps) = true := by simp [Region.wanted, hgd]
  rw [if_pos hw]
  obtain ⟨w', hrun, r1, r2⟩ := run_cp (P := P) w dT sT o.type elem hu hsz g off dLen dCap cur t hg A sLen sCap B xs hr h1 m hm hfit
  unfold Oper.wp
  simp [execOp, ho, resolve, invoke, builtin, hd, hs, hrun, Result.andThen]
  exact h w' r1 r2

theorem wpList_cp {ops : Array Oper} {rest : List Oper} {o : Oper} {a : Act} {Q : Exit → Act → World → Prop} (hgd : o.guard = none) (d s : Operand) (dT sT : TypeId)
    (ho : o.op = .call { callee := .builtin .copy, args := #[d, s], argTypes := #[dT, sT] }) (elem : TypeId) (hu : P.underlying dT = some (.slice elem)) (hsz : (P.info? elem).map (·.size) = some 1)
    (g off dLen dCap : Nat) (hd : a.eval d = .slice (some ⟨g, off, none⟩) dLen dCap) (cur : Array Value) (t : TypeId) (hg : Blk w g cur t)
    (A : Option Addr) (sLen sCap B : Nat) (hs : a.eval s = .slice A sLen sCap) (xs : List Value) (hr : Reads w B 1 A sLen sCap xs) (h1 : ∀ u ∈ xs, u.oneCell' = true) (m : Nat) (hm : m = Nat.min sLen dLen) (hfit : off + m ≤ cur.size)
    (h : ∀ w', Blk w' g (cur.toList.take off ++ xs.take m ++ cur.toList.drop (off + m)).toArray t → w.grownBy w' (some g) → wpList P ops Q rest (a.put o.dst (.int .i64 m)) w') : wpList P ops Q (o :: rest) a w := by
  refine wpList_plain hgd fun K hK => ?_
  obtain ⟨w', hrun, r1, r2⟩ := run_cp (P := P) w dT sT o.type elem hu hsz g off dLen dCap cur t hg A sLen sCap B xs hr h1 m hm hfit
  unfold Oper.wp
  simp [execOp, ho, resolve, invoke, builtin, hd, hs, hrun, Result.andThen]
  exact hK _ _ (h w' r1 r2)

theorem step_app {ops : Array Oper} {o : Oper} {a : Act} {K : Act → World → Prop} {Q : Exit → Act → World → Prop} {E : Prop} (hgd : o.guard = none) (s x : Operand) (t : TypeId)
    (ho : o.op = .call { callee := .builtin .append, args := #[s, x], argTypes := #[t, t] })
    (base : Nat) (e : TypeId) (i : TypeInfo) (z : Value) (size bytes : Nat) (ht : P.underlying t = some (.slice e)) (hi : P.info? e = some i) (hz : i.zero = some z)
    (hsize : i.size = size) (hby : i.bytes = bytes) (hzs : z.cells.size = size) (hsz : 0 < size)
    (v : Value) (n : Nat) (xs : List Value) (hs : a.eval s = v) (hown : w.ownsRow base e size v n xs)
    (B : Nat) (A : Option Addr) (m c : Nat) (news : List Value) (hx : a.eval x = .slice A m c) (hr : Reads w B size A m c news) (h1 : ∀ u ∈ news, u.oneCell' = true)
    (h63 : n + m ≤ maxLen) (hbytes : (n + m) * bytes ≤ 140737488355328) (hbase : base ≤ w.heap.size)
    (h : ∀ a' c' w', w'.ownsRow base e size (.slice a' (n + m) c') (n + m) (xs ++ news) → w.grownBy w' v.ownBlock → ((Value.slice a' (n + m) c').ownBlock = v.ownBlock ∨ (Value.slice a' (n + m) c').ownBlock = some w.heap.size) → K (a.put o.dst (.slice a' (n + m) c')) w') :
    if Region.wanted o (yielded ops a.tmps) = true then Oper.wp P o a w K Q else E := by
  have hw : Region.wanted o (yielded ops a.tmps) = true := by simp [Region.wanted, hgd]
  rw [if_pos hw]
  exact wp_app w s x t ho base e i z size bytes ht hi hz hsize hby hzs hsz v n xs hs hown B A m c news hx hr h1 h63 hbytes hbase h
end
end Go.Proofs.YtfgpadkoonogpaaDoor

namespace Go.Proofs.YtfgpadkoonogpaaDoor
open Go.RowKit

/-- What was there is as it was but for the blocks of S; the streams are as they were; no block has gone. -/
structure Kept (S : Nat → Prop) (w w' : World) : Prop where
  os : w'.os = w.os
  tape : w'.tape = w.tape
  output : w'.output = w.output
  size : w.heap.size ≤ w'.heap.size
  block : ∀ k, k < w.heap.size → ¬ S k → w'.heap[k]? = w.heap[k]?

namespace Kept
variable {S S' : Nat → Prop} {a w w' : World}
theorem refl (S : Nat → Prop) (w : World) : Kept S w w := ⟨rfl, rfl, rfl, Nat.le_refl _, fun _ _ _ => rfl⟩
theorem trans {b c : World} (h : Kept S a b) (k : Kept S b c) : Kept S a c :=
  ⟨k.os.trans h.os, k.tape.trans h.tape, k.output.trans h.output, Nat.le_trans h.size k.size, fun i hi hs => (k.block i (Nat.lt_of_lt_of_le hi h.size) hs).trans (h.block i hi hs)⟩
/-- A later step may turn, besides, what is new since. -/
theorem step {b c : World} (h : Kept S a b) (k : Kept S' b c) (hS : ∀ i, i < a.heap.size → S' i → S i) : Kept S a c :=
  ⟨k.os.trans h.os, k.tape.trans h.tape, k.output.trans h.output, Nat.le_trans h.size k.size, fun i hi hs => (k.block i (Nat.lt_of_lt_of_le hi h.size) (fun e => hs (hS i hi e))).trans (h.block i hi hs)⟩
theorem wide (h : Kept S a w) (hS : ∀ i, i < a.heap.size → S i → S' i) : Kept S' a w := ⟨h.os, h.tape, h.output, h.size, fun i hi hs => h.block i hi (fun e => hs (hS i hi e))⟩
theorem of_below (h : Below a.heap.size a w) (S : Nat → Prop) : Kept S a w := ⟨h.os, h.tape, h.output, h.size, fun i hi _ => h.block i hi⟩
theorem of_grown {row : Option Nat} (h : a.grownBy w row) : Kept (fun k => some k = row) a w := ⟨h.os, h.tape, h.output, h.size, fun i hi hs => h.block i hi hs⟩
theorem below {B : Nat} (h : Kept S a w) (hB : B ≤ a.heap.size) (hS : ∀ i, i < B → ¬ S i) : Below B a w := ⟨h.os, h.tape, h.output, h.size, fun i hi => h.block i (by omega) (hS i hi)⟩
theorem alloc (h : Kept S a w) (o : Obj) : Kept S a (w.alloc o) := h.step (of_below ((Below.refl _ _).alloc (Nat.le_refl _) o) S) (fun _ _ e => e)
theorem drew (h : Kept S a w) : Kept S a w.drew := ⟨h.os, h.tape, h.output, h.size, h.block⟩
theorem drewN (h : Kept S a w) (n : Nat) : Kept S a (w.drewN n) := ⟨h.os, h.tape, h.output, h.size, h.block⟩
theorem set (h : Kept S a w) {p : Addr} (hp : S p.block ∨ a.heap.size ≤ p.block) (u : Value) : Kept S a (w.setCell p u) :=
  ⟨h.os, h.tape, h.output, by simpa [World.setCell] using h.size, fun i hi hs => (Below.heap_setCell w p u i (by
    rintro rfl
    rcases hp with hp | hp
    · exact hs hp
    · omega)).trans (h.block i hi hs)⟩
theorem blk {b : Nat} {cs : Array Value} {T : TypeId} (h : Kept S a w) (hb : Blk a b cs T) (hS : ¬ S b) : Blk w b cs T := (h.block b hb.lt hS).trans hb
end Kept

/-- A row of the call's own is kept where its block is. -/
theorem Kept.own {S : Nat → Prop} {a w : World} {B : Nat} {v : Value} {n : Nat} {xs : List Value} {e : TypeId} {size : Nat} (h : Kept S a w) (ho : a.ownsRow B e size v n xs) (hS : ∀ k, v.ownBlock = some k → ¬ S k) : w.ownsRow B e size v n xs :=
  own_block ho fun k hk => h.block k (ho.lt k hk).2 (hS k hk)
theorem Kept.cell_ {S : Nat → Prop} {a w : World} (h : Kept S a w) {p : Addr} (hp : p.block < a.heap.size) (hS : ¬ S p.block) : w.cell? p = a.cell? p := World.cell?_of_block (h.block _ hp hS)
theorem Kept.frozen_ {S : Nat → Prop} {a w : World} (h : Kept S a w) {p : Addr} (hp : p.block < a.heap.size) (hS : ¬ S p.block) : w.frozen? p = a.frozen? p := World.frozen?_of_block (h.block _ hp hS)
end Go.Proofs.YtfgpadkoonogpaaDoor

namespace Go.Proofs.YtfgpadkoonogpaaDoor
open Go.RowKit

section
variable {P : Program} (w : World)
/-- Behind an append the old slice still owns what it owned. -/
theorem run_app_old (base : Nat) (t ty e : TypeId) (i : TypeInfo) (z : Value) (size bytes : Nat) (ht : P.underlying t = some (.slice e)) (hi : P.info? e = some i) (hz : i.zero = some z)
    (hsize : i.size = size) (hby : i.bytes = bytes) (v : Value) (n : Nat) (xs : List Value) (hown : w.ownsRow base e size v n xs)
    (A : Option Addr) (m c B : Nat) (news : List Value) (hr : Reads w B size A m c news) (h1 : ∀ u ∈ news, u.oneCell' = true)
    (h63 : n + m ≤ maxLen) (hbytes : (n + m) * bytes ≤ 140737488355328) (u : Value) (w' : World)
    (hrun : (Builtin.append_ #[t, t] ty #[v, .slice A m c]).run P w = .ok u w') : w'.ownsRow base e size v n xs := by
  subst hsize
  subst hby
  have hown0 := hown
  rcases hown.2 with ⟨rfl, rfl⟩ | ⟨g, cap, cur, rfl, hbg, hg, hnc, hcm, hcs, htake⟩
  · have hx : xs = [] := List.eq_nil_of_length_eq_zero (by simpa using hown.1)
    subst hx
    exact World.ownsRow_nil w' base e i.size
  · by_cases hm : m = 0
    · subst hm
      have hn : news = [] := List.eq_nil_of_length_eq_zero (by simpa using hr.2.2.1)
      subst hn
      have hw : w' = w := by
        have h2 : (Builtin.append_ #[t, t] ty #[.slice (some ⟨g, 0, none⟩) n cap, .slice A 0 c]).run P w = .ok (.slice (some ⟨g, 0, none⟩) n cap) w := by
          rcases A with _ | ad <;> simp [Builtin.append_, run_underlying ht, sizeOf, typeInfo, hi, Builtin.lenOf, Builtin.firstCells, hnc, storeCells, loadCells, loadCellsFrom]
        rw [h2] at hrun
        injection hrun with _ h3
        exact h3.symm
      rw [hw]; exact hown0
    · obtain ⟨b, off, rfl, _, hc⟩ := hr.2.2.2 (by omega)
      have hnews : ∀ j u, news[j]? = some u → w.cell? ((⟨b, off, none⟩ : Addr).add j) = some u := fun j u hu => by rw [add_form]; exact hc j u hu
      by_cases hroom : n + m ≤ cap
      · have hfit : n * i.size + news.length ≤ cur.size := by rw [hr.2.2.1, hcs, ← Nat.add_mul]; exact Nat.mul_le_mul_right _ hroom
        rw [run_append_room (P := P) w t ty e i ht hi g n cap cur hg ⟨b, off, none⟩ m c news hr.2.2.1 hnews h1 hroom hfit] at hrun
        injection hrun with _ h3
        subst h3
        refine ⟨hown.1, .inr ⟨g, cap, _, rfl, hbg, setRow_heap w g cur _ e _ hg, hnc, hcm, ?_, ?_⟩⟩
        · simp only [List.size_toArray, List.length_append, List.length_take, List.length_drop, Array.length_toList]
          omega
        · rw [htake, List.append_assoc, ← hown.1]
          exact List.take_left
      · have holds : ∀ j u, xs[j]? = some u → w.cell? ((⟨g, 0, none⟩ : Addr).add j) = some u := hown.cells (g := g) rfl
        rw [run_append_grow (P := P) w t ty e i z ht hi hz ⟨g, 0, none⟩ n cap xs hown.1 holds ⟨b, off, none⟩ m c news hr.2.2.1 hnews (by omega) (by unfold maxLen at h63; omega) (growslice_fits (by omega) hbytes)] at hrun
        injection hrun with _ h3
        subst h3
        exact own_block hown0 fun k hk => Below.heap_alloc w.drew _ k (hown0.lt k hk).2

theorem wpList_app3 {ops : Array Oper} {rest : List Oper} {o : Oper} {a : Act} {Q : Exit → Act → World → Prop} (hgd : o.guard = none) (s x : Operand) (t : TypeId)
    (ho : o.op = .call { callee := .builtin .append, args := #[s, x], argTypes := #[t, t] })
    (base : Nat) (e : TypeId) (i : TypeInfo) (z : Value) (size bytes : Nat) (ht : P.underlying t = some (.slice e)) (hi : P.info? e = some i) (hz : i.zero = some z)
    (hsize : i.size = size) (hby : i.bytes = bytes) (hzs : z.cells.size = size) (hsz : 0 < size)
    (v : Value) (n : Nat) (xs : List Value) (hs : a.eval s = v) (hown : w.ownsRow base e size v n xs)
    (B : Nat) (A : Option Addr) (m c : Nat) (news : List Value) (hx : a.eval x = .slice A m c) (hr : Reads w B size A m c news) (h1 : ∀ u ∈ news, u.oneCell' = true)
    (h63 : n + m ≤ maxLen) (hbytes : (n + m) * bytes ≤ 140737488355328) (hbase : base ≤ w.heap.size)
    (h : ∀ a' c' w', w'.ownsRow base e size (.slice a' (n + m) c') (n + m) (xs ++ news) → w.grownBy w' v.ownBlock → ((Value.slice a' (n + m) c').ownBlock = v.ownBlock ∨ (Value.slice a' (n + m) c').ownBlock = some w.heap.size) → w'.ownsRow base e size v n xs → wpList P ops Q rest (a.put o.dst (.slice a' (n + m) c')) w') : wpList P ops Q (o :: rest) a w := by
  refine wpList_plain hgd fun K hK => ?_
  obtain ⟨a', c', w', hrun, h2, h3, h4⟩ := run_app (P := P) w base t o.type e i z size bytes ht hi hz hsize hby hzs hsz v n xs hown B A m c news hr h1 h63 hbytes hbase
  have h5 := run_app_old (P := P) w base t o.type e i z size bytes ht hi hz hsize hby v n xs hown A m c B news hr h1 h63 hbytes _ _ hrun
  unfold Oper.wp execOp
  simp only [ho, resolve, invoke, builtin, Sem.run_bind, Sem.run_pure, Result.andThen_ok, List.map_toArray, List.map_cons, List.map_nil, hs, hx, hrun]
  exact hK _ _ (h a' c' w' h2 h3 h4 h5)
end
end Go.Proofs.YtfgpadkoonogpaaDoor

namespace Go.Proofs.YtfgpadkoonogpaaDoor
open Go.RowKit
set_option linter.unusedVariables false

/-- A world in which all that stood in W is as it was. -/
structure Ext (W : World) where
  w : World
  below : Below W.heap.size W w
instance (W : World) : Nonempty (Ext W) := ⟨⟨W, Below.refl _ _⟩⟩
namespace Ext
variable {W : World} {P : Program} {f : FuncId} {args : Array Value} {v : Value}
@[go_sem] theorem cell_ (x : Ext W) (b o : Nat) (h : b < W.heap.size) : x.w.cell? ⟨b, o, none⟩ = W.cell? ⟨b, o, none⟩ := x.below.cell (p := ⟨b, o, none⟩) h
@[go_sem] theorem frozen_ (x : Ext W) (b o : Nat) (h : b < W.heap.size) : x.w.frozen? ⟨b, o, none⟩ = W.frozen? ⟨b, o, none⟩ := x.below.frozen (p := ⟨b, o, none⟩) h
theorem size_ (x : Ext W) : W.heap.size ≤ x.w.heap.size := x.below.size
/-- A callee that leaves all that was there alone. -/
theorem call (x : Ext W) (h : Calls P f args x.w fun e w' => e = .returned v ∧ Below x.w.heap.size x.w w') : Calls P f args x.w fun e w' => e = .returned v ∧ ∃ y : Ext W, w' = y.w :=
  h.mono fun _ w' ⟨he, hb⟩ => ⟨he, ⟨w', below_call x.below x.below.size hb⟩, rfl⟩
theorem call_same (x : Ext W) (h : Calls P f args x.w fun e w' => e = .returned v ∧ x.w = w') : Calls P f args x.w fun e w' => e = .returned v ∧ ∃ y : Ext W, w' = y.w :=
  h.mono fun _ w' ⟨he, hb⟩ => ⟨he, x, hb.symm⟩
theorem call_drew (x : Ext W) (h : Calls P f args x.w fun e w' => e = .returned v ∧ ∃ n, w' = x.w.drewN n) : Calls P f args x.w fun e w' => e = .returned v ∧ ∃ y : Ext W, w' = y.w :=
  h.mono fun _ _ ⟨he, n, hb⟩ => ⟨he, ⟨_, below_drewN x.below n⟩, hb⟩
/-- The region, its operations written out. -/
theorem region {id : Nat} {Q : Exit → Act → World → Prop} {a : Act} {w : World} {l : List Oper} (W : World) (hm : P.follows .mixedOrders = true) (hB : Region.lexB .any l.toArray = true) (hw : Below W.heap.size W w)
    (h : wpQuiet P l.toArray (fun w' => ∃ x : Ext W, w' = x.w) (fun a' => ∀ w', (∃ x : Ext W, w' = x.w) → Q .normal a' w') l a) : (Code.region id l.toArray true).wp P Q a w :=
  wp_region_quiet (C := fun w' => ∃ x : Ext W, w' = x.w) hm hB ⟨⟨_, below_drewN hw 1⟩, rfl⟩ (by simpa using h)
end Ext
end Go.Proofs.YtfgpadkoonogpaaDoor

namespace Go.Proofs.YtfgpadkoonogpaaDoor
open Go.ChangeShapes Go.WideShapes Go.ChangeAt Go.RowKit Go.Deep
set_option linter.unusedVariables false
set_option linter.unusedSimpArgs false

/-- The cells of a list of triples of integers. -/
def tripCells (l : List (Int × Int × Int)) : List Value := l.flatMap fun q => [.int .i64 q.1, .int .i64 q.2.1, .int .i64 q.2.2]
theorem tripCells_length (l : List (Int × Int × Int)) : (tripCells l).length = l.length * 3 := by
  induction l with
  | nil => rfl
  | cons p l ih => simp [tripCells] at ih ⊢; omega
theorem tripCells_at {l : List (Int × Int × Int)} {i : Nat} {q : Int × Int × Int} (h : l[i]? = some q) : (tripCells l)[i * 3]? = some (.int .i64 q.1) ∧ (tripCells l)[i * 3 + 1]? = some (.int .i64 q.2.1) ∧ (tripCells l)[i * 3 + 2]? = some (.int .i64 q.2.2) := by
  induction l generalizing i with
  | nil => simp at h
  | cons p l ih =>
    cases i with
    | zero => simp at h; subst h; simp [tripCells]
    | succ i =>
      have := ih (i := i) (by simpa using h)
      simp only [tripCells, List.flatMap_cons] at this ⊢
      rw [show (i + 1) * 3 = i * 3 + 3 by omega, show i * 3 + 3 + 1 = (i * 3 + 1) + 3 by omega, show i * 3 + 3 + 2 = (i * 3 + 2) + 3 by omega]
      simpa using this
theorem tripCells_inv {l : List (Int × Int × Int)} {j : Nat} {u : Value} (h : (tripCells l)[j]? = some u) : ∃ i q, l[i]? = some q ∧ ((j = i * 3 ∧ u = .int .i64 q.1) ∨ (j = i * 3 + 1 ∧ u = .int .i64 q.2.1) ∨ (j = i * 3 + 2 ∧ u = .int .i64 q.2.2)) := by
  have hj : j < l.length * 3 := by rw [← tripCells_length]; exact (List.getElem?_eq_some_iff.1 h).1
  have hi : j / 3 < l.length := by omega
  obtain ⟨h0, h1, h2⟩ := tripCells_at (List.getElem?_eq_getElem hi)
  refine ⟨j / 3, _, List.getElem?_eq_getElem hi, ?_⟩
  have hm : j = j / 3 * 3 ∨ j = j / 3 * 3 + 1 ∨ j = j / 3 * 3 + 2 := by omega
  rcases hm with hm | hm | hm
  · rw [hm, h0] at h; exact .inl ⟨hm, (Option.some.inj h).symm⟩
  · rw [hm, h1] at h; exact .inr (.inl ⟨hm, (Option.some.inj h).symm⟩)
  · rw [hm, h2] at h; exact .inr (.inr ⟨hm, (Option.some.inj h).symm⟩)

section
variable {H : Type} {enc : TypeId × Value → H} {P : Program} {w : World} {base : Nat} {spare : Nat → Bool} {held : Bool}
/-- A slice of structs of three integers that came in. -/
theorem reads_trips {r : Reach} {b0 : Nat} {t e : TypeId} {f0 f1 f2 : Field} {v : Value} {d : DataW H} {p : List MemPlace} (ht : P.underlying t = some (.slice e)) (he : P.underlying e = some (.struct #[f0, f1, f2]))
    (hone : oneCellFields P #[f0, f1, f2] = true) (hC : P.cellsOf e = 3)
    (h0 : ∀ n u y, DataW.trod enc P w base spare held n f0.type [u] = some y → ∃ z, u = .int .i64 z ∧ (Lit.int .i64 z).wf = true) (h1 : ∀ n u y, DataW.trod enc P w base spare held n f1.type [u] = some y → ∃ z, u = .int .i64 z ∧ (Lit.int .i64 z).wf = true)
    (h2 : ∀ n u y, DataW.trod enc P w base spare held n f2.type [u] = some y → ∃ z, u = .int .i64 z ∧ (Lit.int .i64 z).wf = true)
    (hv : Value.okWide P w r b0 t v) (h : DataW.Trod enc P w base spare held t v d p) :
    ∃ (A : Option Addr) (n c : Nat) (l : List (Int × Int × Int)), v = .slice A n c ∧ l.length = n ∧ (∀ q ∈ l, (Lit.int .i64 q.1).wf = true ∧ (Lit.int .i64 q.2.1).wf = true ∧ (Lit.int .i64 q.2.2).wf = true) ∧ Reads w w.heap.size 3 A n c (tripCells l) := by
  obtain ⟨A, n, c, rfl⟩ := okWide_slice ht hv
  obtain ⟨fuel, hf⟩ := h
  rcases open_slice_fields ht he hone hC hf with hcs | ⟨x, l, c', hcs, hl, hm, hat⟩
  · simp [Value.cells] at hcs
    obtain ⟨rfl, rfl, rfl⟩ := hcs
    exact ⟨_, _, _, [], rfl, rfl, by simp, Reads.nil_⟩
  · simp [Value.cells] at hcs
    obtain ⟨rfl, rfl, rfl⟩ := hcs
    have each : ∀ i, i < n → ∃ q : Int × Int × Int, ((Lit.int .i64 q.1).wf = true ∧ (Lit.int .i64 q.2.1).wf = true ∧ (Lit.int .i64 q.2.2).wf = true) ∧ w.cell? (x.add (i * 3)) = some (.int .i64 q.1) ∧ w.cell? (x.add (i * 3 + 1)) = some (.int .i64 q.2.1) ∧ w.cell? (x.add (i * 3 + 2)) = some (.int .i64 q.2.2) := by
      intro i hi
      obtain ⟨ys, m, _, hfs⟩ := hat i hi
      obtain ⟨u0, y0, c0, _, t0⟩ := hfs 0 f0 rfl
      obtain ⟨u1, y1, c1, _, t1⟩ := hfs 1 f1 rfl
      obtain ⟨u2, y2, c2, _, t2⟩ := hfs 2 f2 rfl
      obtain ⟨z0, rfl, e0⟩ := h0 _ _ _ t0
      obtain ⟨z1, rfl, e1⟩ := h1 _ _ _ t1
      obtain ⟨z2, rfl, e2⟩ := h2 _ _ _ t2
      exact ⟨(z0, z1, z2), ⟨e0, e1, e2⟩, c0, c1, c2⟩
    obtain ⟨ps, hps, hr⟩ := list_of each
    refine ⟨_, _, _, ps, rfl, hps, fun q hq => ?_, hl, hm, by rw [tripCells_length, hps], fun hn => ?_⟩
    · obtain ⟨i, hi⟩ := List.mem_iff_getElem?.1 hq
      exact (hr i q hi).1
    · obtain ⟨b, off, spot⟩ := x
      have hz := (hr 0 _ (List.getElem?_eq_getElem (by omega))).2.1
      have hspot : spot = none := by simpa [Addr.add] using World.cell?_spot hz
      subst hspot
      refine ⟨b, off, rfl, by simpa [Addr.add] using World.block_lt_of_cell? _ _ hz, fun j u hu => ?_⟩
      obtain ⟨i, q, hq, hju⟩ := tripCells_inv hu
      have hc := (hr i q hq).2
      rw [add_form, add_form, add_form] at hc
      rcases hju with ⟨rfl, rfl⟩ | ⟨rfl, rfl⟩ | ⟨rfl, rfl⟩
      · exact hc.1
      · exact hc.2.1
      · exact hc.2.2
/-- A bool in a field. -/
theorem bool_field {t : TypeId} (ht : P.underlying t = some .bool) : ∀ n u y, DataW.trod enc P w base spare held n t [u] = some y → ∃ z, u = .bool z := by
  intro n u y h
  obtain ⟨z, e, _⟩ := DataW.trod_bool ht h
  simp at e
  exact ⟨z, e⟩
end
theorem Reads.trip {w : World} {B n c : Nat} {A : Option Addr} {l : List (Int × Int × Int)} (h : Reads w B 3 A n c (tripCells l)) {i : Nat} {q : Int × Int × Int} (hq : l[i]? = some q) :
    ∃ b off, A = some ⟨b, off, none⟩ ∧ b < B ∧ w.cell? ⟨b, off + i * 3, none⟩ = some (.int .i64 q.1) ∧ w.cell? ⟨b, off + i * 3 + 1, none⟩ = some (.int .i64 q.2.1) ∧ w.cell? ⟨b, off + i * 3 + 2, none⟩ = some (.int .i64 q.2.2) := by
  obtain ⟨e0, e1, e2⟩ := tripCells_at hq
  have hn : 0 < n := by
    have h1 := (List.getElem?_eq_some_iff.1 hq).1
    have h2 := h.2.2.1
    rw [tripCells_length] at h2
    omega
  obtain ⟨b, off, e, hb, hc⟩ := h.2.2.2 hn
  exact ⟨b, off, e, hb, hc _ _ e0, hc _ _ e1, hc _ _ e2⟩
end Go.Proofs.YtfgpadkoonogpaaDoor
