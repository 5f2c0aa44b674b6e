/- How an api.Program reads that came in by value: a struct of three slices, two of them of structs. Over any program. -/
import Derived.Test.YtnolkgciapggdaaArgs
import Derived.Test.YtnolkgciapggdaaPrg
namespace Go.Proofs.Ytnolkgciapggdaa
open Go.ChangeShapes Go.WideShapes Go.ChangeAt Go.RowKit Go.Deep
set_option linter.unusedVariables false
set_option linter.unusedSimpArgs false

section
variable {H : Type} {enc : TypeId × Value → H} {P : Program} {w : World} {base : Nat} {spare : Nat → Bool} {held : Bool}
theorem slice_field {t e : TypeId} (ht : P.underlying t = some (.slice e)) : ∀ n u y, DataW.trod enc P w base spare held n t [u] = some y → ∃ (A : Option Addr) (n c : Nat), u = .slice A n c ∧ n ≤ c ∧ c ≤ maxLen := by
  intro n u y h
  rcases open_slice ht h with h0 | ⟨a, len, cap, m, n', D, Pl, hcs, hb, hl, hm, hmm, hx, hi⟩
  · have h1 := h0.1
    simp at h1
    subst h1
    exact ⟨_, _, _, rfl, Nat.le_refl _, Nat.zero_le _⟩
  · simp at hcs
    subst hcs
    exact ⟨_, _, _, rfl, hl, hm⟩
theorem shapes_field {t e : TypeId} {q0 : Field} {qe : TypeId} (ht : P.underlying t = some (.slice e)) (he : P.underlying e = some (.struct #[q0])) (hone : oneCellFields P #[q0] = true) (hC : P.cellsOf e = 1) (hq : P.underlying q0.type = some (.slice qe)) :
    ∀ n u y, DataW.trod enc P w base spare held n t [u] = some y → ∃ (A : Option Addr) (n c : Nat), u = .slice A n c ∧ Prg.Shapes w A n c := by
  intro n u y h
  rcases open_slice_fields ht he hone hC h with hcs | ⟨x, l, c', hcs, hl, hm, hat⟩
  · simp at hcs
    subst hcs
    exact ⟨_, _, _, rfl, Nat.le_refl _, Nat.zero_le _, fun i hi => by omega⟩
  · simp at hcs
    subst hcs
    refine ⟨_, _, _, rfl, hl, hm, fun i hi => ?_⟩
    obtain ⟨ys, m, _, hfs⟩ := hat i hi
    obtain ⟨u0, y0, c0, _, t0⟩ := hfs 0 q0 rfl
    obtain ⟨A, n, c, rfl, hn, hc⟩ := slice_field hq _ _ _ t0
    obtain ⟨ys', m', _, hfs'⟩ := hat 0 (by omega)
    obtain ⟨u0', y0', c0', _, _⟩ := hfs' 0 q0 rfl
    obtain ⟨b, off, spot⟩ := x
    have hspot : spot = none := by simpa [Addr.add] using World.cell?_spot c0'
    subst hspot
    rw [add_form] at c0
    have hb := World.block_lt_of_cell? _ _ c0
    exact ⟨b, off, A, n, c, rfl, hb, by simpa using c0, by omega⟩
theorem funcs_field {t e : TypeId} {k0 k1 k2 k3 k4 : Field} {e0 e3 e4 : TypeId} (ht : P.underlying t = some (.slice e)) (he : P.underlying e = some (.struct #[k0, k1, k2, k3, k4])) (hone : oneCellFields P #[k0, k1, k2, k3, k4] = true) (hC : P.cellsOf e = 5)
    (h0 : P.underlying k0.type = some (.slice e0)) (h00 : P.underlying e0 = some (.int .i64)) (h01 : P.cellsOf e0 = 1) (h1 : P.underlying k1.type = some (.int .i64)) (h2 : P.underlying k2.type = some (.int .i64)) (h3 : P.underlying k3.type = some (.slice e3)) (h4 : P.underlying k4.type = some (.slice e4)) :
    ∀ n u y, DataW.trod enc P w base spare held n t [u] = some y → ∃ (A : Option Addr) (n c : Nat), u = .slice A n c ∧ Prg.Funcs w A n c := by
  intro n u y h
  rcases open_slice_fields ht he hone hC h with hcs | ⟨x, l, c', hcs, hl, hm, hat⟩
  · simp at hcs
    subst hcs
    exact ⟨_, _, _, rfl, Nat.le_refl _, Nat.zero_le _, fun i hi => by omega⟩
  · simp at hcs
    subst hcs
    refine ⟨_, _, _, rfl, hl, hm, fun i hi => ?_⟩
    obtain ⟨ys, m, _, hfs⟩ := hat i hi
    obtain ⟨u0, y0, c0, _, t0⟩ := hfs 0 k0 rfl
    obtain ⟨u1, y1, c1, _, t1⟩ := hfs 1 k1 rfl
    obtain ⟨u2, y2, c2, _, t2⟩ := hfs 2 k2 rfl
    obtain ⟨u3, y3, c3, _, t3⟩ := hfs 3 k3 rfl
    obtain ⟨u4, y4, c4, _, t4⟩ := hfs 4 k4 rfl
    obtain ⟨KA, nK, cK, ks, rfl, hks, _, hK⟩ := ints_field h0 h00 h01 _ _ _ t0
    obtain ⟨r, rfl, _⟩ := int_field h1 _ _ _ t1
    obtain ⟨s, rfl, _⟩ := int_field h2 _ _ _ t2
    obtain ⟨OA, nO, cO, rfl, hO1, hO2⟩ := slice_field h3 _ _ _ t3
    obtain ⟨CA, nC, cC, rfl, hC1, hC2⟩ := slice_field h4 _ _ _ t4
    obtain ⟨ys', m', _, hfs'⟩ := hat 0 (by omega)
    obtain ⟨u0', y0', c0', _, _⟩ := hfs' 0 k0 rfl
    obtain ⟨b, off, spot⟩ := x
    have hspot : spot = none := by simpa [Addr.add] using World.cell?_spot c0'
    subst hspot
    rw [add_form] at c0 c1 c2 c3 c4
    have hb := World.block_lt_of_cell? _ _ c0
    exact ⟨b, off, KA, nK, cK, ks, r, s, OA, nO, cO, CA, nC, cC, rfl, hb, by simpa using c0, by simpa [Nat.add_assoc] using c1, by simpa [Nat.add_assoc] using c2, by simpa [Nat.add_assoc] using c3, by simpa [Nat.add_assoc] using c4, hks, hK, by omega, by omega⟩
/-- A program that came in by value. -/
theorem reads_program {r : Reach} {b0 : Nat} {t : TypeId} {f0 f1 f2 : Field} {v : Value} {d : DataW H} {p : List MemPlace} (ht : P.underlying t = some (.struct #[f0, f1, f2])) (hc : P.cellsOf t = 3)
    (o0 : f0.offset = 0 ∧ P.cellsOf f0.type = 1) (o1 : f1.offset = 1 ∧ P.cellsOf f1.type = 1) (o2 : f2.offset = 2 ∧ P.cellsOf f2.type = 1)
    (hG : ∀ n u y, DataW.trod enc P w base spare held n f0.type [u] = some y → ∃ (A : Option Addr) (n c : Nat), u = .slice A n c ∧ n ≤ c ∧ c ≤ maxLen)
    (hS : ∀ n u y, DataW.trod enc P w base spare held n f1.type [u] = some y → ∃ (A : Option Addr) (n c : Nat), u = .slice A n c ∧ Prg.Shapes w A n c)
    (hF : ∀ n u y, DataW.trod enc P w base spare held n f2.type [u] = some y → ∃ (A : Option Addr) (n c : Nat), u = .slice A n c ∧ Prg.Funcs w A n c)
    (hv : Value.okWide P w r b0 t v) (h : DataW.Trod enc P w base spare held t v d p) :
    ∃ (GA : Option Addr) (nG cG : Nat) (SA : Option Addr) (nS cS : Nat) (FA : Option Addr) (nF cF : Nat), v = .agg #[.slice GA nG cG, .slice SA nS cS, .slice FA nF cF] ∧ nG ≤ maxLen ∧ Prg.Shapes w SA nS cS ∧ Prg.Funcs w FA nF cF := by
  have hv' := hv
  unfold Value.okWide at hv'
  rw [ht] at hv'
  obtain ⟨cs, rfl, hsz, _⟩ := hv'
  rw [hc] at hsz
  obtain ⟨u0, u1, u2, rfl⟩ : ∃ u0 u1 u2, cs = #[u0, u1, u2] := by
    obtain ⟨l⟩ := cs
    match l, hsz with
    | [a, b, c], _ => exact ⟨a, b, c, rfl⟩
  obtain ⟨fuel, hf⟩ := h
  obtain ⟨xs, n, rfl, _, _, hxl, hfs⟩ := DataW.trod_struct ht hf
  have hcells : (Value.agg #[u0, u1, u2]).cells.toList = [u0, u1, u2] := by simp [Value.cells]
  have t0 := hfs 0 f0 rfl
  have t1 := hfs 1 f1 rfl
  have t2 := hfs 2 f2 rfl
  rw [hcells, o0.1, o0.2] at t0
  rw [hcells, o1.1, o1.2] at t1
  rw [hcells, o2.1, o2.2] at t2
  simp only [List.drop_zero, List.take_succ_cons, List.take_zero, List.drop_succ_cons] at t0 t1 t2
  rw [List.getElem?_eq_getElem (by rw [hxl]; simp)] at t0 t1 t2
  obtain ⟨GA, nG, cG, rfl, g1, g2⟩ := hG _ _ _ t0
  obtain ⟨SA, nS, cS, rfl, hs⟩ := hS _ _ _ t1
  obtain ⟨FA, nF, cF, rfl, hff⟩ := hF _ _ _ t2
  exact ⟨GA, nG, cG, SA, nS, cS, FA, nF, cF, rfl, by omega, hs, hff⟩
end
end Go.Proofs.Ytnolkgciapggdaa
