/- How slices of structs of an integer and a bool read that came in, and slices of bools. Over any program. -/
import Derived.Test.YtpdleckflcangaaArgs4
namespace Go.Proofs.Ytpdleckflcangaa
open Go.ChangeShapes Go.WideShapes Go.ChangeAt Go.RowKit Go.Deep
set_option linter.unusedVariables false
set_option linter.unusedSimpArgs false

/-- The cells of a list of an integer and a bool each. -/
def ibCells (l : List (Int × Bool)) : List Value := pairCells (l.map fun q => (.int .i64 q.1, .bool q.2))
section
variable {H : Type} {enc : TypeId × Value → H} {P : Program} {w : World} {base : Nat} {spare : Nat → Bool} {held : Bool}
theorem ib_of (z : List (Value × Value)) (h : ∀ q ∈ z, (∃ x, q.1 = .int .i64 x ∧ (Lit.int .i64 x).wf = true) ∧ ∃ y, q.2 = .bool y) :
    ∃ l : List (Int × Bool), z = l.map (fun q => (Value.int .i64 q.1, Value.bool q.2)) ∧ ∀ q ∈ l, (Lit.int .i64 q.1).wf = true := by
  induction z with
  | nil => exact ⟨[], rfl, by simp⟩
  | cons q z ih =>
    obtain ⟨l, rfl, hw⟩ := ih fun q hq => h q (List.mem_cons_of_mem _ hq)
    obtain ⟨⟨x, e1, hx⟩, y, e2⟩ := h q (List.mem_cons_self)
    obtain ⟨q1, q2⟩ := q
    dsimp only at e1 e2
    subst e1 e2
    exact ⟨(x, y) :: l, rfl, fun q hq => by
      rcases List.mem_cons.1 hq with rfl | hq
      · exact hx
      · exact hw q hq⟩
theorem reads_ib {r : Reach} {b0 : Nat} {t e : TypeId} {f0 f1 : Field} {v : Value} {d : DataW H} {p : List MemPlace} (ht : P.underlying t = some (.slice e)) (he : P.underlying e = some (.struct #[f0, f1]))
    (hone : oneCellFields P #[f0, f1] = true) (hC : P.cellsOf e = 2) (h0 : P.underlying f0.type = some (.int .i64)) (h1 : P.underlying f1.type = some .bool)
    (hv : Value.okWide P w r b0 t v) (h : DataW.Trod enc P w base spare held t v d p) :
    ∃ (A : Option Addr) (n c : Nat) (l : List (Int × Bool)), v = .slice A n c ∧ l.length = n ∧ (∀ q ∈ l, (Lit.int .i64 q.1).wf = true) ∧ Reads w w.heap.size 2 A n c (ibCells l) := by
  obtain ⟨A, n, c, z, rfl, hl, hz, hr⟩ := reads_pairs ht he hone hC (int_field h0) (bool_field h1) hv h
  obtain ⟨l, rfl, hw⟩ := ib_of z hz
  exact ⟨A, n, c, l, rfl, by simpa using hl, hw, hr⟩
/-- A slice of one-cell elements that came in. -/
theorem reads_ones {r : Reach} {b0 : Nat} {t e : TypeId} {R : Value → Prop} {v : Value} {d : DataW H} {p : List MemPlace} (ht : P.underlying t = some (.slice e)) (hC : P.cellsOf e = 1)
    (h0 : ∀ n u y, DataW.trod enc P w base spare held n e [u] = some y → R u) (hv : Value.okWide P w r b0 t v) (h : DataW.Trod enc P w base spare held t v d p) :
    ∃ (A : Option Addr) (n c : Nat) (l : List Value), v = .slice A n c ∧ l.length = n ∧ (∀ q ∈ l, R q) ∧ Reads w w.heap.size 1 A n c l := by
  obtain ⟨A, n, c, rfl⟩ := okWide_slice ht hv
  obtain ⟨fuel, hf⟩ := h
  rcases open_slice ht hf with h1 | ⟨a, len, cap, m, n', D, Pl, hcs, hb, hl, hm, hmm, hx, hi⟩
  · have hcs := h1.1
    simp [Value.cells] at hcs
    obtain ⟨rfl, rfl, rfl⟩ := hcs
    exact ⟨_, _, _, [], rfl, rfl, by simp, Reads.nil_⟩
  · simp [Value.cells] at hcs
    obtain ⟨rfl, rfl, rfl⟩ := hcs
    have each : ∀ i, i < n → ∃ q : Value, R q ∧ w.cell? (a.add i) = some q := by
      intro i hi'
      obtain ⟨cs', hc, ht'⟩ := hi i (by rw [hmm]; split <;> omega)
      rw [hC, Nat.mul_one] at hc
      obtain ⟨_, hcl, hat⟩ := World.cells?_some hc
      obtain ⟨u, rfl⟩ : ∃ u, cs' = [u] := by
        match cs', hcl with
        | [u], _ => exact ⟨u, rfl⟩
      have := hat 0 (by omega)
      exact ⟨u, h0 _ _ _ ht', by simpa [Go.Deep.add_add] using this⟩
    obtain ⟨ps, hps, hr⟩ := list_of each
    refine ⟨_, _, _, ps, rfl, hps, fun q hq => ?_, hl, hm, by omega, fun hn => ?_⟩
    · obtain ⟨i, hi⟩ := List.mem_iff_getElem?.1 hq
      exact (hr i q hi).1
    · obtain ⟨b, off, spot⟩ := a
      have hz := (hr 0 _ (List.getElem?_eq_getElem (by omega))).2
      have hspot : spot = none := by simpa [Addr.add] using World.cell?_spot hz
      subst hspot
      refine ⟨b, off, rfl, by simpa [Addr.add] using World.block_lt_of_cell? _ _ hz, fun j u hu => ?_⟩
      have := (hr j u hu).2
      rwa [add_form] at this
theorem bools_of (z : List Value) (h : ∀ q ∈ z, ∃ y, q = .bool y) : ∃ l : List Bool, z = l.map Value.bool := by
  induction z with
  | nil => exact ⟨[], rfl⟩
  | cons q z ih =>
    obtain ⟨l, rfl⟩ := ih fun q hq => h q (List.mem_cons_of_mem _ hq)
    obtain ⟨y, rfl⟩ := h q (List.mem_cons_self)
    exact ⟨y :: l, rfl⟩
/-- A slice of bools that came in. -/
theorem reads_bools {r : Reach} {b0 : Nat} {t e : TypeId} {v : Value} {d : DataW H} {p : List MemPlace} (ht : P.underlying t = some (.slice e)) (he : P.underlying e = some .bool) (hC : P.cellsOf e = 1)
    (hv : Value.okWide P w r b0 t v) (h : DataW.Trod enc P w base spare held t v d p) :
    ∃ (A : Option Addr) (n c : Nat) (l : List Bool), v = .slice A n c ∧ l.length = n ∧ Reads w w.heap.size 1 A n c (l.map Value.bool) := by
  obtain ⟨A, n, c, z, rfl, hl, hz, hr⟩ := reads_ones ht hC (bool_field he) hv h
  obtain ⟨l, rfl⟩ := bools_of z hz
  exact ⟨A, n, c, l, rfl, by simpa using hl, hr⟩
end
theorem Reads.ib {w : World} {B n c : Nat} {A : Option Addr} {l : List (Int × Bool)} (h : Reads w B 2 A n c (ibCells l)) {i : Nat} {q : Int × Bool} (hq : l[i]? = some q) :
    ∃ b off, A = some ⟨b, off, none⟩ ∧ b < B ∧ w.cell? ⟨b, off + i * 2, none⟩ = some (.int .i64 q.1) ∧ w.cell? ⟨b, off + i * 2 + 1, none⟩ = some (.bool q.2) := by
  obtain ⟨e0, e1⟩ := pairCells_at (l := l.map fun q => (Value.int .i64 q.1, Value.bool q.2)) (i := i) (p := (.int .i64 q.1, .bool q.2)) (by rw [List.getElem?_map, hq]; rfl)
  have hn : 0 < n := by
    have h1 := (List.getElem?_eq_some_iff.1 hq).1
    have h2 := h.2.2.1
    unfold ibCells at h2
    rw [pairCells_length, List.length_map] at h2
    omega
  obtain ⟨b, off, e, hb, hcell⟩ := h.2.2.2 hn
  exact ⟨b, off, e, hb, hcell _ _ e0, hcell _ _ e1⟩
end Go.Proofs.Ytpdleckflcangaa
