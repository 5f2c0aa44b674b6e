/- How the arguments of a law read: slices that came in, as lists, nil let in. Over any program. -/
import Derived.ProofKit
import Derived.OpenShut
import Derived.ShutString
import Derived.ChangeOld
import Derived.Deep.Slices
import Derived.Deep.Fields
import Derived.ChangeSame
import Derived.Test.YtoajbjeiplolnaaDoorRLib
namespace Go.Proofs.YtoajbjeiplolnaaDoorR
open Go.ChangeShapes Go.WideShapes Go.ChangeAt Go.RowKit Go.Deep
open Go.ChangeMaps (open_string shut_string)
set_option linter.unusedVariables false

/-- The slice with address A, length n and capacity c reads as the cells xs, size cells an element; its row lies below block B. -/
def Reads (w : World) (B size : Nat) (A : Option Addr) (n c : Nat) (xs : List Value) : Prop :=
  n ≤ c ∧ c ≤ maxLen ∧ xs.length = n * size ∧ (0 < n → ∃ b off, A = some ⟨b, off, none⟩ ∧ b < B ∧ ∀ j u, xs[j]? = some u → w.cell? ⟨b, off + j, none⟩ = some u)

section
variable {w w' : World} {B B' size n c : Nat} {A : Option Addr} {xs : List Value}
theorem Reads.nil_ : Reads w B size none 0 0 [] := ⟨Nat.le_refl _, Nat.zero_le _, by simp, fun h => absurd h (by omega)⟩
theorem Reads.at_ (h : Reads w B size A n c xs) {j : Nat} {u : Value} (hu : xs[j]? = some u) : ∃ b off, A = some ⟨b, off, none⟩ ∧ b < B ∧ w.cell? ⟨b, off + j, none⟩ = some u := by
  have hl : j < xs.length := (List.getElem?_eq_some_iff.1 hu).1
  have hn : 0 < n := by
    rcases Nat.eq_zero_or_pos n with h0 | h0
    · have := h.2.2.1; rw [h0, Nat.zero_mul] at this; omega
    · exact h0
  obtain ⟨b, off, e, hb, hc⟩ := h.2.2.2 hn
  exact ⟨b, off, e, hb, hc j u hu⟩
theorem Reads.keep (h : Reads w B size A n c xs) (hk : ∀ b o, b < B → w'.cell? ⟨b, o, none⟩ = w.cell? ⟨b, o, none⟩) : Reads w' B size A n c xs :=
  ⟨h.1, h.2.1, h.2.2.1, fun hn => by
    obtain ⟨b, off, e, hb, hc⟩ := h.2.2.2 hn
    exact ⟨b, off, e, hb, fun j u hu => (hk _ _ hb).trans (hc j u hu)⟩⟩
theorem Reads.more (h : Reads w B size A n c xs) (hB : B ≤ B') : Reads w B' size A n c xs :=
  ⟨h.1, h.2.1, h.2.2.1, fun hn => by
    obtain ⟨b, off, e, hb, hc⟩ := h.2.2.2 hn
    exact ⟨b, off, e, by omega, hc⟩⟩
theorem Reads.below (h : Reads w B size A n c xs) (hb : Below B w w') : Reads w' B size A n c xs := h.keep fun b o hp => hb.cell (p := ⟨b, o, none⟩) hp
end

section
variable {H : Type} {enc : TypeId × Value → H} {P : Program} {w : World} {base : Nat} {spare : Nat → Bool} {held : Bool}

theorem add_form (b off : Nat) (j : Nat) : (⟨b, off, none⟩ : Addr).add j = ⟨b, off + j, none⟩ := by
  unfold Addr.add; split <;> simp_all

/-- A slice of integers that came in. -/
theorem reads_ints {r : Reach} {b0 : Nat} {t e : TypeId} {k : IntKind} {v : Value} {d : DataW H} {p : List MemPlace} (ht : P.underlying t = some (.slice e)) (he : P.underlying e = some (.int k)) (hc : P.cellsOf e = 1)
    (hv : Value.okWide P w r b0 t v) (h : DataW.Trod enc P w base spare held t v d p) :
    ∃ (A : Option Addr) (n c : Nat) (zs : List Int), v = .slice A n c ∧ zs.length = n ∧ (∀ z ∈ zs, (Lit.int k z).wf = true) ∧ Reads w w.heap.size 1 A n c (zs.map (.int k)) := by
  obtain ⟨A, n, c, rfl⟩ := okWide_slice ht hv
  obtain ⟨fuel, hf⟩ := h
  rcases open_ints ht he hc hf with ⟨hcs, _⟩ | ⟨x, l, c', zs, hcs, _, hl, hm, hz, _, hcell, hwz⟩
  · simp [Value.cells] at hcs
    obtain ⟨rfl, rfl, rfl⟩ := hcs
    exact ⟨_, _, _, [], rfl, rfl, by simp, Reads.nil_⟩
  · simp [Value.cells] at hcs
    obtain ⟨rfl, rfl, rfl⟩ := hcs
    have hnz : n ≤ zs.length := by rw [hz]; split <;> omega
    refine ⟨_, _, _, zs.take n, rfl, by simp; omega, fun z hzz => hwz z (List.mem_of_mem_take hzz), hl, hm, by simp; omega, fun hn => ?_⟩
    obtain ⟨b, off, spot⟩ := x
    have h0 := hcell 0 (by omega)
    have hspot : spot = none := by simpa [Addr.add] using World.cell?_spot h0
    subst hspot
    refine ⟨b, off, rfl, World.block_lt_of_cell? _ _ h0, fun j u hu => ?_⟩
    have hj : j < n := by
      have := (List.getElem?_eq_some_iff.1 hu).1
      simp at this; omega
    rw [← add_form, hcell j (by omega)]
    have e : ((zs.take n).map (Value.int k))[j]? = some (.int k (zs.getD j 0)) := by simp [List.getD, hj, show j < zs.length by omega]
    rw [e] at hu
    exact hu

/-- A slice of structs of one-cell fields that came in: for each element and each field the cell and the field's own reading. -/
theorem open_slice_fields {t e : TypeId} {fs : Array Field} {fuel : Nat} {cs : List Value} {x : DataW H × List MemPlace} (ht : P.underlying t = some (.slice e)) (he : P.underlying e = some (.struct fs))
    (hone : oneCellFields P fs = true) (hC : P.cellsOf e = fs.size) (h : DataW.trod enc P w base spare held fuel t cs = some x) :
    cs = [.slice none 0 0] ∨
    ∃ (a : Addr) (len cap : Nat), cs = [.slice (some a) len cap] ∧ len ≤ cap ∧ cap ≤ maxLen ∧
      ∀ i, i < len → ∃ (ys : List (DataW H × List MemPlace)) (n : Nat), ys.length = fs.size ∧
        ∀ (j : Nat) (f : Field), fs[j]? = some f → ∃ (v : Value) (y : DataW H × List MemPlace), w.cell? (a.add (i * fs.size + j)) = some v ∧ ys[j]? = some y ∧ DataW.trod enc P w base spare held n f.type [v] = some y := by
  rcases open_slice ht h with h0 | ⟨a, len, cap, m, n, D, Pl, hcs, hb, hl, hm, hmm, hx, hi⟩
  · exact .inl h0.1
  · refine .inr ⟨a, len, cap, hcs, hl, hm, fun i him => ?_⟩
    obtain ⟨cs', hc, ht'⟩ := hi i (by rw [hmm]; split <;> omega)
    rw [hC] at hc
    obtain ⟨ys, n', hn', hy, hlen, hyl, hf⟩ := DataW.trod_struct he ht'
    obtain ⟨_, hcl, hat⟩ := World.cells?_some hc
    simp only [Prod.mk.injEq] at hy
    refine ⟨ys, n', hyl, fun j f hj => ?_⟩
    obtain ⟨ho, hk⟩ := hone_of hone j f hj
    have hjl : j < fs.size := (Array.getElem?_eq_some_iff.1 hj).1
    have hcell := hat j hjl
    have hv : cs'[j]? = some (cs'[j]'(by omega)) := List.getElem?_eq_getElem (by omega)
    have h1 := hf j f hj
    rw [ho, hk] at h1
    have hone' : (cs'.drop j).take 1 = [cs'[j]'(by omega)] := by
      rw [List.drop_eq_getElem_cons (by omega)]
      rfl
    rw [hone'] at h1
    have hys : ys[j]? = some (ys[j]'(by omega)) := List.getElem?_eq_getElem (by omega)
    refine ⟨_, _, ?_, hys, h1.trans hys⟩
    rw [← Go.Deep.add_add, hcell, hv]

/-- A list of functions' values, made of 'for each index there is one'. -/
theorem list_of {α : Type} {n : Nat} {R : Nat → α → Prop} (h : ∀ i, i < n → ∃ a, R i a) : ∃ l : List α, l.length = n ∧ ∀ i a, l[i]? = some a → R i a := by
  induction n with
  | zero => exact ⟨[], rfl, by simp⟩
  | succ n ih =>
    obtain ⟨l, hl, hr⟩ := ih fun i hi => h i (by omega)
    obtain ⟨a, ha⟩ := h n (by omega)
    refine ⟨l ++ [a], by simp [hl], fun i b hb => ?_⟩
    rw [List.getElem?_append] at hb
    split at hb
    · exact hr i b hb
    · rename_i hge
      have hi : i = n := by
        have := (List.getElem?_eq_some_iff.1 hb).1
        simp at this; omega
      subst hi
      simp [hl] at hb
      subst hb
      exact ha

/-- The cells of a list of pairs. -/
def pairCells (l : List (Value × Value)) : List Value := l.flatMap fun p => [p.1, p.2]
theorem pairCells_length (l : List (Value × Value)) : (pairCells l).length = l.length * 2 := by
  induction l with
  | nil => rfl
  | cons p l ih => simp [pairCells] at ih ⊢; omega
theorem pairCells_at {l : List (Value × Value)} {i : Nat} {p : Value × Value} (h : l[i]? = some p) : (pairCells l)[i * 2]? = some p.1 ∧ (pairCells l)[i * 2 + 1]? = some p.2 := by
  induction l generalizing i with
  | nil => simp at h
  | cons q l ih =>
    cases i with
    | zero => simp at h; subst h; simp [pairCells]
    | succ i =>
      have := ih (i := i) (by simpa using h)
      simp only [pairCells, List.flatMap_cons] at this ⊢
      rw [show (i + 1) * 2 = i * 2 + 2 by omega, show i * 2 + 2 + 1 = (i * 2 + 1) + 2 by omega]
      simpa using this
theorem pairCells_inv {l : List (Value × Value)} {j : Nat} {u : Value} (h : (pairCells l)[j]? = some u) : ∃ i p, l[i]? = some p ∧ ((j = i * 2 ∧ u = p.1) ∨ (j = i * 2 + 1 ∧ u = p.2)) := by
  have hj : j < l.length * 2 := by rw [← pairCells_length]; exact (List.getElem?_eq_some_iff.1 h).1
  have hi : j / 2 < l.length := by omega
  have hp := pairCells_at (List.getElem?_eq_getElem hi)
  refine ⟨j / 2, _, List.getElem?_eq_getElem hi, ?_⟩
  rcases Nat.mod_two_eq_zero_or_one j with h0 | h1
  · have e : j / 2 * 2 = j := by omega
    rw [e] at hp
    exact .inl ⟨by omega, by rw [hp.1] at h; exact (Option.some.inj h).symm⟩
  · have e : j / 2 * 2 + 1 = j := by omega
    rw [e] at hp
    exact .inr ⟨by omega, by rw [hp.2] at h; exact (Option.some.inj h).symm⟩

/-- A slice of structs of two one-cell fields that came in: each field's value has what its own reading gives. -/
theorem reads_pairs {r : Reach} {b0 : Nat} {t e : TypeId} {f0 f1 : Field} {R0 R1 : Value → Prop} {v : Value} {d : DataW H} {p : List MemPlace} (ht : P.underlying t = some (.slice e)) (he : P.underlying e = some (.struct #[f0, f1]))
    (hone : oneCellFields P #[f0, f1] = true) (hC : P.cellsOf e = 2)
    (h0 : ∀ n u y, DataW.trod enc P w base spare held n f0.type [u] = some y → R0 u) (h1 : ∀ n u y, DataW.trod enc P w base spare held n f1.type [u] = some y → R1 u)
    (hv : Value.okWide P w r b0 t v) (h : DataW.Trod enc P w base spare held t v d p) :
    ∃ (A : Option Addr) (n c : Nat) (l : List (Value × Value)), v = .slice A n c ∧ l.length = n ∧ (∀ q ∈ l, R0 q.1 ∧ R1 q.2) ∧ Reads w w.heap.size 2 A n c (pairCells l) := by
  obtain ⟨A, n, c, rfl⟩ := okWide_slice ht hv
  obtain ⟨fuel, hf⟩ := h
  rcases open_slice_fields ht he hone hC hf with hcs | ⟨x, l, c', hcs, hl, hm, hat⟩
  · simp [Value.cells] at hcs
    obtain ⟨rfl, rfl, rfl⟩ := hcs
    exact ⟨_, _, _, [], rfl, rfl, by simp, Reads.nil_⟩
  · simp [Value.cells] at hcs
    obtain ⟨rfl, rfl, rfl⟩ := hcs
    have each : ∀ i, i < n → ∃ q : Value × Value, (R0 q.1 ∧ R1 q.2) ∧ w.cell? (x.add (i * 2)) = some q.1 ∧ w.cell? (x.add (i * 2 + 1)) = some q.2 := by
      intro i hi
      obtain ⟨ys, m, _, hfs⟩ := hat i hi
      obtain ⟨u0, y0, c0, _, t0⟩ := hfs 0 f0 rfl
      obtain ⟨u1, y1, c1, _, t1⟩ := hfs 1 f1 rfl
      exact ⟨(u0, u1), ⟨h0 _ _ _ t0, h1 _ _ _ t1⟩, c0, c1⟩
    obtain ⟨ps, hps, hr⟩ := list_of each
    refine ⟨_, _, _, ps, rfl, hps, fun q hq => ?_, hl, hm, by rw [pairCells_length, hps], fun hn => ?_⟩
    · obtain ⟨i, hi⟩ := List.mem_iff_getElem?.1 hq
      exact (hr i q hi).1
    · obtain ⟨b, off, spot⟩ := x
      have hz := (hr 0 _ (List.getElem?_eq_getElem (by omega))).2.1
      have hspot : spot = none := by simpa [Addr.add] using World.cell?_spot hz
      subst hspot
      refine ⟨b, off, rfl, by simpa [Addr.add] using World.block_lt_of_cell? _ _ hz, fun j u hu => ?_⟩
      obtain ⟨i, q, hq, hju⟩ := pairCells_inv hu
      have hc := (hr i q hq).2
      rw [add_form, add_form] at hc
      rcases hju with ⟨rfl, rfl⟩ | ⟨rfl, rfl⟩
      · exact hc.1
      · rw [← Nat.add_assoc]; exact hc.2

/-- An integer in a field. -/
theorem int_field {k : IntKind} {t : TypeId} (ht : P.underlying t = some (.int k)) : ∀ n u y, DataW.trod enc P w base spare held n t [u] = some y → ∃ z, u = .int k z ∧ (Lit.int k z).wf = true := by
  intro n u y h
  obtain ⟨z, e, _, wz⟩ := DataW.trod_int ht h
  simp at e
  exact ⟨z, e, wz⟩
/-- A slice of integers in a field. -/
theorem ints_field {k : IntKind} {t e : TypeId} (ht : P.underlying t = some (.slice e)) (he : P.underlying e = some (.int k)) (hc : P.cellsOf e = 1) :
    ∀ n u y, DataW.trod enc P w base spare held n t [u] = some y → ∃ (A : Option Addr) (n c : Nat) (zs : List Int), u = .slice A n c ∧ zs.length = n ∧ (∀ z ∈ zs, (Lit.int k z).wf = true) ∧ Reads w w.heap.size 1 A n c (zs.map (.int k)) := by
  intro m u y hf
  rcases open_ints ht he hc hf with ⟨hcs, _⟩ | ⟨x, n, c, zs, hcs, _, hl, hm, hz, _, hcell, hwz⟩
  · simp at hcs
    subst hcs
    exact ⟨_, _, _, [], rfl, rfl, by simp, Reads.nil_⟩
  · simp at hcs
    subst hcs
    have hnz : n ≤ zs.length := by rw [hz]; split <;> omega
    refine ⟨_, _, _, zs.take n, rfl, by simp; omega, fun z hzz => hwz z (List.mem_of_mem_take hzz), hl, hm, by simp; omega, fun hn => ?_⟩
    obtain ⟨b, off, spot⟩ := x
    have h0 := hcell 0 (by omega)
    have hspot : spot = none := by simpa [Addr.add] using World.cell?_spot h0
    subst hspot
    refine ⟨b, off, rfl, World.block_lt_of_cell? _ _ h0, fun j u hu => ?_⟩
    have hj : j < n := by
      have := (List.getElem?_eq_some_iff.1 hu).1
      simp at this; omega
    rw [← add_form, hcell j (by omega)]
    have e : ((zs.take n).map (Value.int k))[j]? = some (.int k (zs.getD j 0)) := by simp [List.getD, hj, show j < zs.length by omega]
    rw [e] at hu
    exact hu
end
end Go.Proofs.YtoajbjeiplolnaaDoorR
