/- How slices of structs of three integers read that came in; a bool in a field. Over any program. -/
import Derived.Test.YtoajbjeiplolnaaDoorRArgs
namespace Go.Proofs.YtoajbjeiplolnaaDoorR
open Go.ChangeShapes Go.WideShapes Go.ChangeAt Go.RowKit Go.Deep
set_option linter.unusedVariables false
set_option linter.unusedSimpArgs false

/-- The cells of a list of triples of integers. -/
def tripCells (l : List (Int × Int × Int)) : List Value := l.flatMap fun q => [.int .i64 q.1, .int .i64 q.2.1, .int .i64 q.2.2]
theorem tripCells_length (l : List (Int × Int × Int)) : (tripCells l).length = l.length * 3 := by
  induction l with
  | nil => rfl
  | cons p l ih => simp [tripCells] at ih ⊢; omega
theorem tripCells_at {l : List (Int × Int × Int)} {i : Nat} {q : Int × Int × Int} (h : l[i]? = some q) : (tripCells l)[i * 3]? = some (.int .i64 q.1) ∧ (tripCells l)[i * 3 + 1]? = some (.int .i64 q.2.1) ∧ (tripCells l)[i * 3 + 2]? = some (.int .i64 q.2.2) := by
  induction l generalizing i with
  | nil => simp at h
  | cons p l ih =>
    cases i with
    | zero => simp at h; subst h; simp [tripCells]
    | succ i =>
      have := ih (i := i) (by simpa using h)
      simp only [tripCells, List.flatMap_cons] at this ⊢
      rw [show (i + 1) * 3 = i * 3 + 3 by omega, show i * 3 + 3 + 1 = (i * 3 + 1) + 3 by omega, show i * 3 + 3 + 2 = (i * 3 + 2) + 3 by omega]
      simpa using this
theorem tripCells_inv {l : List (Int × Int × Int)} {j : Nat} {u : Value} (h : (tripCells l)[j]? = some u) : ∃ i q, l[i]? = some q ∧ ((j = i * 3 ∧ u = .int .i64 q.1) ∨ (j = i * 3 + 1 ∧ u = .int .i64 q.2.1) ∨ (j = i * 3 + 2 ∧ u = .int .i64 q.2.2)) := by
  have hj : j < l.length * 3 := by rw [← tripCells_length]; exact (List.getElem?_eq_some_iff.1 h).1
  have hi : j / 3 < l.length := by omega
  obtain ⟨h0, h1, h2⟩ := tripCells_at (List.getElem?_eq_getElem hi)
  refine ⟨j / 3, _, List.getElem?_eq_getElem hi, ?_⟩
  have hm : j = j / 3 * 3 ∨ j = j / 3 * 3 + 1 ∨ j = j / 3 * 3 + 2 := by omega
  rcases hm with hm | hm | hm
  · rw [hm, h0] at h; exact .inl ⟨hm, (Option.some.inj h).symm⟩
  · rw [hm, h1] at h; exact .inr (.inl ⟨hm, (Option.some.inj h).symm⟩)
  · rw [hm, h2] at h; exact .inr (.inr ⟨hm, (Option.some.inj h).symm⟩)

section
variable {H : Type} {enc : TypeId × Value → H} {P : Program} {w : World} {base : Nat} {spare : Nat → Bool} {held : Bool}
/-- A slice of structs of three integers that came in. -/
theorem reads_trips {r : Reach} {b0 : Nat} {t e : TypeId} {f0 f1 f2 : Field} {v : Value} {d : DataW H} {p : List MemPlace} (ht : P.underlying t = some (.slice e)) (he : P.underlying e = some (.struct #[f0, f1, f2]))
    (hone : oneCellFields P #[f0, f1, f2] = true) (hC : P.cellsOf e = 3)
    (h0 : ∀ n u y, DataW.trod enc P w base spare held n f0.type [u] = some y → ∃ z, u = .int .i64 z ∧ (Lit.int .i64 z).wf = true) (h1 : ∀ n u y, DataW.trod enc P w base spare held n f1.type [u] = some y → ∃ z, u = .int .i64 z ∧ (Lit.int .i64 z).wf = true)
    (h2 : ∀ n u y, DataW.trod enc P w base spare held n f2.type [u] = some y → ∃ z, u = .int .i64 z ∧ (Lit.int .i64 z).wf = true)
    (hv : Value.okWide P w r b0 t v) (h : DataW.Trod enc P w base spare held t v d p) :
    ∃ (A : Option Addr) (n c : Nat) (l : List (Int × Int × Int)), v = .slice A n c ∧ l.length = n ∧ (∀ q ∈ l, (Lit.int .i64 q.1).wf = true ∧ (Lit.int .i64 q.2.1).wf = true ∧ (Lit.int .i64 q.2.2).wf = true) ∧ Reads w w.heap.size 3 A n c (tripCells l) := by
  obtain ⟨A, n, c, rfl⟩ := okWide_slice ht hv
  obtain ⟨fuel, hf⟩ := h
  rcases open_slice_fields ht he hone hC hf with hcs | ⟨x, l, c', hcs, hl, hm, hat⟩
  · simp [Value.cells] at hcs
    obtain ⟨rfl, rfl, rfl⟩ := hcs
    exact ⟨_, _, _, [], rfl, rfl, by simp, Reads.nil_⟩
  · simp [Value.cells] at hcs
    obtain ⟨rfl, rfl, rfl⟩ := hcs
    have each : ∀ i, i < n → ∃ q : Int × Int × Int, ((Lit.int .i64 q.1).wf = true ∧ (Lit.int .i64 q.2.1).wf = true ∧ (Lit.int .i64 q.2.2).wf = true) ∧ w.cell? (x.add (i * 3)) = some (.int .i64 q.1) ∧ w.cell? (x.add (i * 3 + 1)) = some (.int .i64 q.2.1) ∧ w.cell? (x.add (i * 3 + 2)) = some (.int .i64 q.2.2) := by
      intro i hi
      obtain ⟨ys, m, _, hfs⟩ := hat i hi
      obtain ⟨u0, y0, c0, _, t0⟩ := hfs 0 f0 rfl
      obtain ⟨u1, y1, c1, _, t1⟩ := hfs 1 f1 rfl
      obtain ⟨u2, y2, c2, _, t2⟩ := hfs 2 f2 rfl
      obtain ⟨z0, rfl, e0⟩ := h0 _ _ _ t0
      obtain ⟨z1, rfl, e1⟩ := h1 _ _ _ t1
      obtain ⟨z2, rfl, e2⟩ := h2 _ _ _ t2
      exact ⟨(z0, z1, z2), ⟨e0, e1, e2⟩, c0, c1, c2⟩
    obtain ⟨ps, hps, hr⟩ := list_of each
    refine ⟨_, _, _, ps, rfl, hps, fun q hq => ?_, hl, hm, by rw [tripCells_length, hps], fun hn => ?_⟩
    · obtain ⟨i, hi⟩ := List.mem_iff_getElem?.1 hq
      exact (hr i q hi).1
    · obtain ⟨b, off, spot⟩ := x
      have hz := (hr 0 _ (List.getElem?_eq_getElem (by omega))).2.1
      have hspot : spot = none := by simpa [Addr.add] using World.cell?_spot hz
      subst hspot
      refine ⟨b, off, rfl, by simpa [Addr.add] using World.block_lt_of_cell? _ _ hz, fun j u hu => ?_⟩
      obtain ⟨i, q, hq, hju⟩ := tripCells_inv hu
      have hc := (hr i q hq).2
      rw [add_form, add_form, add_form] at hc
      rcases hju with ⟨rfl, rfl⟩ | ⟨rfl, rfl⟩ | ⟨rfl, rfl⟩
      · exact hc.1
      · exact hc.2.1
      · exact hc.2.2
/-- A bool in a field. -/
theorem bool_field {t : TypeId} (ht : P.underlying t = some .bool) : ∀ n u y, DataW.trod enc P w base spare held n t [u] = some y → ∃ z, u = .bool z := by
  intro n u y h
  obtain ⟨z, e, _⟩ := DataW.trod_bool ht h
  simp at e
  exact ⟨z, e⟩
end
theorem Reads.trip {w : World} {B n c : Nat} {A : Option Addr} {l : List (Int × Int × Int)} (h : Reads w B 3 A n c (tripCells l)) {i : Nat} {q : Int × Int × Int} (hq : l[i]? = some q) :
    ∃ b off, A = some ⟨b, off, none⟩ ∧ b < B ∧ w.cell? ⟨b, off + i * 3, none⟩ = some (.int .i64 q.1) ∧ w.cell? ⟨b, off + i * 3 + 1, none⟩ = some (.int .i64 q.2.1) ∧ w.cell? ⟨b, off + i * 3 + 2, none⟩ = some (.int .i64 q.2.2) := by
  obtain ⟨e0, e1, e2⟩ := tripCells_at hq
  have hn : 0 < n := by
    have h1 := (List.getElem?_eq_some_iff.1 hq).1
    have h2 := h.2.2.1
    rw [tripCells_length] at h2
    omega
  obtain ⟨b, off, e, hb, hc⟩ := h.2.2.2 hn
  exact ⟨b, off, e, hb, hc _ _ e0, hc _ _ e1, hc _ _ e2⟩
end Go.Proofs.YtoajbjeiplolnaaDoorR
