/- Arguments: a slice of structs of one slice of integers. -/
import Derived.Test.YtpdleckflcangaaShpC
import Derived.Test.YtpdleckflcangaaArgs
namespace Go.Proofs.Ytpdleckflcangaa
open Go.ChangeShapes Go.WideShapes Go.ChangeAt Go.RowKit Go.Deep
set_option linter.unusedVariables false

section
variable {H : Type} {enc : TypeId × Value → H} {P : Program} {w : World} {base : Nat} {spare : Nat → Bool} {held : Bool}
/-- A slice of structs of one one-cell field that came in: each field's value has what its own reading gives. -/
theorem reads_shapes {r : Reach} {b0 : Nat} {t e fe : TypeId} {f0 : Field} {v : Value} {d : DataW H} {p : List MemPlace} (ht : P.underlying t = some (.slice e)) (he : P.underlying e = some (.struct #[f0]))
    (hone : oneCellFields P #[f0] = true) (hC : P.cellsOf e = 1) (h0 : P.underlying f0.type = some (.slice fe)) (h1 : P.underlying fe = some (.int .i64)) (h2 : P.cellsOf fe = 1)
    (hv : Value.okWide P w r b0 t v) (h : DataW.Trod enc P w base spare held t v d p) :
    ∃ (A : Option Addr) (n c : Nat) (ls : List (List Int)), v = .slice A n c ∧ Shp.RS w w.heap.size A n c ls := by
  obtain ⟨A, n, c, rfl⟩ := okWide_slice ht hv
  obtain ⟨fuel, hf⟩ := h
  rcases open_slice_fields ht he hone hC hf with hcs | ⟨x, l, c', hcs, hl, hm, hat⟩
  · simp [Value.cells] at hcs
    obtain ⟨rfl, rfl, rfl⟩ := hcs
    exact ⟨_, _, _, [], rfl, rfl, Nat.le_refl _, Nat.zero_le _, by simp⟩
  · simp [Value.cells] at hcs
    obtain ⟨rfl, rfl, rfl⟩ := hcs
    have each : ∀ i, i < n → ∃ zs : List Int, ∃ A' c', w.cell? (x.add i) = some (.slice A' zs.length c') ∧ (zs.length = zs.length ∧ Reads w w.heap.size 1 A' zs.length c' (zs.map (.int .i64))) ∧ ∀ z ∈ zs, (Lit.int .i64 z).wf = true := by
      intro i hi
      obtain ⟨ys, m, _, hfs⟩ := hat i hi
      obtain ⟨u0, y0, c0, _, t0⟩ := hfs 0 f0 rfl
      obtain ⟨A', n', c', zs, rfl, hn, hwf, hr⟩ := ints_field h0 h1 h2 _ _ _ t0
      subst hn
      have c0' : w.cell? (x.add i) = some (.slice A' zs.length c') := by simpa using c0
      exact ⟨zs, A', c', c0', ⟨rfl, hr⟩, hwf⟩
    obtain ⟨ls, hls, hr⟩ := list_of each
    refine ⟨_, _, _, ls, rfl, hls, hl, hm, fun i zs hz => ?_⟩
    obtain ⟨A', c', hc, hri, hwf⟩ := hr i zs hz
    obtain ⟨b, off, spot⟩ := x
    have hi : i < n := by have := (List.getElem?_eq_some_iff.1 hz).1; omega
    obtain ⟨_, _, hc0, _, _⟩ := hr 0 _ (List.getElem?_eq_getElem (by omega))
    have hspot : spot = none := by simpa [Addr.add] using World.cell?_spot hc0
    subst hspot
    rw [add_form] at hc
    exact ⟨b, off, A', c', rfl, World.block_lt_of_cell? _ _ hc, hc, hri, hwf⟩
end
end Go.Proofs.Ytpdleckflcangaa
