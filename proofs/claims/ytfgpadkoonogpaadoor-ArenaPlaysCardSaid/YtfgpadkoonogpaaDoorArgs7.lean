/- How slices of structs of three integers and a bool read that came in. Over any program. -/
import Derived.Test.YtfgpadkoonogpaaDoorGn
namespace Go.Proofs.YtfgpadkoonogpaaDoor
open Go.ChangeShapes Go.WideShapes Go.ChangeAt Go.RowKit Go.Deep
set_option linter.unusedVariables false
set_option linter.unusedSimpArgs false

/-- The cells of a list of three integers and a bool each. -/
def quadCells (l : List (Int × Int × Int × Bool)) : List Value := l.flatMap fun q => [.int .i64 q.1, .int .i64 q.2.1, .int .i64 q.2.2.1, .bool q.2.2.2]
theorem quadCells_length (l : List (Int × Int × Int × Bool)) : (quadCells l).length = l.length * 4 := by
  induction l with
  | nil => rfl
  | cons p l ih => simp [quadCells] at ih ⊢; omega
theorem quadCells_at {l : List (Int × Int × Int × Bool)} {i : Nat} {q : Int × Int × Int × Bool} (h : l[i]? = some q) : (quadCells l)[i * 4]? = some (.int .i64 q.1) ∧ (quadCells l)[i * 4 + 1]? = some (.int .i64 q.2.1) ∧ (quadCells l)[i * 4 + 2]? = some (.int .i64 q.2.2.1) ∧ (quadCells l)[i * 4 + 3]? = some (.bool q.2.2.2) := by
  induction l generalizing i with
  | nil => simp at h
  | cons p l ih =>
    cases i with
    | zero => simp at h; subst h; simp [quadCells]
    | succ i =>
      have := ih (i := i) (by simpa using h)
      simp only [quadCells, List.flatMap_cons] at this ⊢
      rw [show (i + 1) * 4 = i * 4 + 4 by omega, show i * 4 + 4 + 1 = (i * 4 + 1) + 4 by omega, show i * 4 + 4 + 2 = (i * 4 + 2) + 4 by omega, show i * 4 + 4 + 3 = (i * 4 + 3) + 4 by omega]
      simpa using this
theorem quadCells_inv {l : List (Int × Int × Int × Bool)} {j : Nat} {u : Value} (h : (quadCells l)[j]? = some u) : ∃ i q, l[i]? = some q ∧ ((j = i * 4 ∧ u = .int .i64 q.1) ∨ (j = i * 4 + 1 ∧ u = .int .i64 q.2.1) ∨ (j = i * 4 + 2 ∧ u = .int .i64 q.2.2.1) ∨ (j = i * 4 + 3 ∧ u = .bool q.2.2.2)) := by
  have hj : j < l.length * 4 := by rw [← quadCells_length]; exact (List.getElem?_eq_some_iff.1 h).1
  have hi : j / 4 < l.length := by omega
  obtain ⟨h0, h1, h2, h3⟩ := quadCells_at (List.getElem?_eq_getElem hi)
  refine ⟨j / 4, _, List.getElem?_eq_getElem hi, ?_⟩
  have hm : j = j / 4 * 4 ∨ j = j / 4 * 4 + 1 ∨ j = j / 4 * 4 + 2 ∨ j = j / 4 * 4 + 3 := by omega
  rcases hm with hm | hm | hm | hm
  · rw [hm, h0] at h; exact .inl ⟨hm, (Option.some.inj h).symm⟩
  · rw [hm, h1] at h; exact .inr (.inl ⟨hm, (Option.some.inj h).symm⟩)
  · rw [hm, h2] at h; exact .inr (.inr (.inl ⟨hm, (Option.some.inj h).symm⟩))
  · rw [hm, h3] at h; exact .inr (.inr (.inr ⟨hm, (Option.some.inj h).symm⟩))

section
variable {H : Type} {enc : TypeId × Value → H} {P : Program} {w : World} {base : Nat} {spare : Nat → Bool} {held : Bool}
/-- A slice of structs of three integers and a bool that came in. -/
theorem reads_quads {r : Reach} {b0 : Nat} {t e : TypeId} {f0 f1 f2 f3 : Field} {v : Value} {d : DataW H} {p : List MemPlace} (ht : P.underlying t = some (.slice e)) (he : P.underlying e = some (.struct #[f0, f1, f2, f3]))
    (hone : oneCellFields P #[f0, f1, f2, f3] = true) (hC : P.cellsOf e = 4)
    (h0 : ∀ n u y, DataW.trod enc P w base spare held n f0.type [u] = some y → ∃ z, u = .int .i64 z ∧ (Lit.int .i64 z).wf = true) (h1 : ∀ n u y, DataW.trod enc P w base spare held n f1.type [u] = some y → ∃ z, u = .int .i64 z ∧ (Lit.int .i64 z).wf = true)
    (h2 : ∀ n u y, DataW.trod enc P w base spare held n f2.type [u] = some y → ∃ z, u = .int .i64 z ∧ (Lit.int .i64 z).wf = true) (h3 : ∀ n u y, DataW.trod enc P w base spare held n f3.type [u] = some y → ∃ z, u = .bool z)
    (hv : Value.okWide P w r b0 t v) (h : DataW.Trod enc P w base spare held t v d p) :
    ∃ (A : Option Addr) (n c : Nat) (l : List (Int × Int × Int × Bool)), v = .slice A n c ∧ l.length = n ∧ (∀ q ∈ l, (Lit.int .i64 q.1).wf = true ∧ (Lit.int .i64 q.2.1).wf = true ∧ (Lit.int .i64 q.2.2.1).wf = true) ∧ Reads w w.heap.size 4 A n c (quadCells l) := by
  obtain ⟨A, n, c, rfl⟩ := okWide_slice ht hv
  obtain ⟨fuel, hf⟩ := h
  rcases open_slice_fields ht he hone hC hf with hcs | ⟨x, l, c', hcs, hl, hm, hat⟩
  · simp [Value.cells] at hcs
    obtain ⟨rfl, rfl, rfl⟩ := hcs
    exact ⟨_, _, _, [], rfl, rfl, by simp, Reads.nil_⟩
  · simp [Value.cells] at hcs
    obtain ⟨rfl, rfl, rfl⟩ := hcs
    have each : ∀ i, i < n → ∃ q : Int × Int × Int × Bool, ((Lit.int .i64 q.1).wf = true ∧ (Lit.int .i64 q.2.1).wf = true ∧ (Lit.int .i64 q.2.2.1).wf = true) ∧ w.cell? (x.add (i * 4)) = some (.int .i64 q.1) ∧ w.cell? (x.add (i * 4 + 1)) = some (.int .i64 q.2.1) ∧ w.cell? (x.add (i * 4 + 2)) = some (.int .i64 q.2.2.1) ∧ w.cell? (x.add (i * 4 + 3)) = some (.bool q.2.2.2) := by
      intro i hi
      obtain ⟨ys, m, _, hfs⟩ := hat i hi
      obtain ⟨u0, y0, c0, _, t0⟩ := hfs 0 f0 rfl
      obtain ⟨u1, y1, c1, _, t1⟩ := hfs 1 f1 rfl
      obtain ⟨u2, y2, c2, _, t2⟩ := hfs 2 f2 rfl
      obtain ⟨u3, y3, c3, _, t3⟩ := hfs 3 f3 rfl
      obtain ⟨z0, rfl, e0⟩ := h0 _ _ _ t0
      obtain ⟨z1, rfl, e1⟩ := h1 _ _ _ t1
      obtain ⟨z2, rfl, e2⟩ := h2 _ _ _ t2
      obtain ⟨z3, rfl⟩ := h3 _ _ _ t3
      exact ⟨(z0, z1, z2, z3), ⟨e0, e1, e2⟩, c0, c1, c2, c3⟩
    obtain ⟨ps, hps, hr⟩ := list_of each
    refine ⟨_, _, _, ps, rfl, hps, fun q hq => ?_, hl, hm, by rw [quadCells_length, hps], fun hn => ?_⟩
    · obtain ⟨i, hi⟩ := List.mem_iff_getElem?.1 hq
      exact (hr i q hi).1
    · obtain ⟨b, off, spot⟩ := x
      have hz := (hr 0 _ (List.getElem?_eq_getElem (by omega))).2.1
      have hspot : spot = none := by simpa [Addr.add] using World.cell?_spot hz
      subst hspot
      refine ⟨b, off, rfl, by simpa [Addr.add] using World.block_lt_of_cell? _ _ hz, fun j u hu => ?_⟩
      obtain ⟨i, q, hq, hju⟩ := quadCells_inv hu
      have hc := (hr i q hq).2
      rw [add_form, add_form, add_form, add_form] at hc
      rcases hju with ⟨rfl, rfl⟩ | ⟨rfl, rfl⟩ | ⟨rfl, rfl⟩ | ⟨rfl, rfl⟩
      · exact hc.1
      · exact hc.2.1
      · exact hc.2.2.1
      · exact hc.2.2.2
end
theorem Reads.quad {w : World} {B n c : Nat} {A : Option Addr} {l : List (Int × Int × Int × Bool)} (h : Reads w B 4 A n c (quadCells l)) {i : Nat} {q : Int × Int × Int × Bool} (hq : l[i]? = some q) :
    ∃ b off, A = some ⟨b, off, none⟩ ∧ b < B ∧ w.cell? ⟨b, off + i * 4, none⟩ = some (.int .i64 q.1) ∧ w.cell? ⟨b, off + i * 4 + 1, none⟩ = some (.int .i64 q.2.1) ∧ w.cell? ⟨b, off + i * 4 + 2, none⟩ = some (.int .i64 q.2.2.1) ∧ w.cell? ⟨b, off + i * 4 + 3, none⟩ = some (.bool q.2.2.2) := by
  obtain ⟨e0, e1, e2, e3⟩ := quadCells_at hq
  have hn : 0 < n := by
    have h1 := (List.getElem?_eq_some_iff.1 hq).1
    have h2 := h.2.2.1
    rw [quadCells_length] at h2
    omega
  obtain ⟨b, off, e, hb, hc⟩ := h.2.2.2 hn
  exact ⟨b, off, e, hb, hc _ _ e0, by rw [Nat.add_assoc]; exact hc _ _ e1, by rw [Nat.add_assoc]; exact hc _ _ e2, by rw [Nat.add_assoc]; exact hc _ _ e3⟩
end Go.Proofs.YtfgpadkoonogpaaDoor
