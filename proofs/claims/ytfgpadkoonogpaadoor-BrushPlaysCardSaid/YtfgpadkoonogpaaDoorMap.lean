/- Maps from int to int that the program made, as functions: what is not there is 0. And what may turn: 'Kept'. -/
import Derived.Test.YtfgpadkoonogpaaDoorProg
import Derived.Test.YtfgpadkoonogpaaDoorGn
import Derived.Maps.OwnOps
import Derived.Maps.OwnSet
import Derived.Maps.Views
namespace Go.Proofs.YtfgpadkoonogpaaDoor
open Go.RowKit Go.Maps

theorem lawInt : Keyed Tryd.prog 3 := int_keyed Tryd.underlying3
theorem zeroInt (w : World) : (zeroValue 3).run Tryd.prog w = .ok (.int .i64 0) w := by kernel_rfl

/-- Block b is a map of at most N entries; asked for v it answers f v. -/
def IMap (w : World) (b N : Nat) (f : Int → Int) : Prop :=
  ∃ (n : Nat) (D : DataW Unit), w.ownsMap Tryd.prog 3 (plainElem Tryd.prog 3) b n D ∧ n ≤ N ∧ ∀ v : Int, D.atKey (.int .i64 v) (.lit (.int .i64 0)) = .lit (.int .i64 (f v))

section
variable {w w' : World} {b N : Nat} {f : Int → Int}
theorem IMap.made (w : World) : IMap (w.alloc (.map #[] 0)) w.heap.size 0 fun _ => 0 := ⟨0, _, World.ownsMap_made _ _ _ _, Nat.le_refl _, fun _ => rfl⟩
theorem IMap.more {N' : Nat} (h : IMap w b N f) (hN : N ≤ N') : IMap w b N' f := by
  obtain ⟨n, D, h1, h2, h3⟩ := h
  exact ⟨n, D, h1, by omega, h3⟩
theorem IMap.lt (h : IMap w b N f) : b < w.heap.size := by obtain ⟨n, D, h1, _⟩ := h; exact h1.lt
theorem IMap.block (h : IMap w b N f) (hb : w'.heap[b]? = w.heap[b]?) : IMap w' b N f := by
  obtain ⟨n, D, ⟨es, clock, h1, h2, h3⟩, h4⟩ := h
  exact ⟨n, D, ⟨es, clock, hb.trans h1, h2, h3⟩, h4⟩
theorem IMap.ne_blk {b' : Nat} {cs : Array Value} {T : TypeId} (h : IMap w b N f) (h' : Blk w b' cs T) : b ≠ b' := by
  obtain ⟨n, D, ⟨es, clock, h1, _⟩, _⟩ := h
  rintro rfl
  have h2 : w.heap[b]? = some (.cells cs T (0, 0)) := h'
  rw [h1] at h2
  cases h2
/-- 'm[k]'. -/
theorem IMap.look (t : TypeId) (ht : Tryd.prog.underlying t = some (.map 3 3)) (h : IMap w b N f) (v : Int) (wv : (Lit.int .i64 v).wf = true) :
    (Instr.lookup t (.map (some b)) (.int .i64 v) false).run Tryd.prog w = .ok (.int .i64 (f v)) w := by
  obtain ⟨n, D, h1, _, h3⟩ := h
  obtain ⟨c, hrun, hat, _⟩ := h1.lookup_int lawInt ht Tryd.underlying3 (zeroInt w) (keyOf_int_mk Tryd.underlying3 wv)
  have hc : f v = c := by
    have h := (h3 v).symm.trans hat
    simp only [DataW.lit.injEq, Lit.int.injEq, true_and] at h
    exact h
  rw [hc]
  exact hrun
/-- 'm[k] = z'. -/
theorem IMap.upd (t : TypeId) (ht : Tryd.prog.underlying t = some (.map 3 3)) (h : IMap w b N f) (hN : N < maxLen) (v z : Int) (wv : (Lit.int .i64 v).wf = true) (wz : (Lit.int .i64 z).wf = true) :
    ∃ w', (Instr.mapUpdate t (.map (some b)) (.int .i64 v) (.int .i64 z)).run Tryd.prog w = .ok () w' ∧ IMap w' b (N + 1) (fun x => if x = v then z else f x) ∧ w.grownBy w' (some b) := by
  obtain ⟨n, D, h1, h2, h3⟩ := h
  obtain ⟨w', hrun, r1, r2⟩ := h1.update lawInt ht (by omega) (keyOf_int_mk Tryd.underlying3 wv) (plainElem_int Tryd.underlying3 wz)
  refine ⟨w', hrun, ⟨n + 1, _, r1, by omega, fun x => ?_⟩, r2⟩
  by_cases hx : x = v
  · subst hx
    rw [atKey_put_same h1.isMap (by simp [WideAt.IsKeyLit])]
    simp
  · rw [atKey_put_other (by simp [hx])]
    rw [h3 x]
    simp [hx]
/-- 'm[k] = z' as the walk takes it. -/
theorem wpList_upd {ops : Array Oper} {rest : List Oper} {o : Oper} {a : Act} {Q : Exit → Act → World → Prop}
    (hg : o.guard = none) (m x u : Operand) (t : TypeId) (hop : o.op = Op.mapUpdate t m x u) (ht : Tryd.prog.underlying t = some (.map 3 3)) (v z : Int)
    (hm : a.eval m = .map (some b)) (hx : a.eval x = .int .i64 v) (hu : a.eval u = .int .i64 z) (h : IMap w b N f) (hN : N < maxLen) (wv : (Lit.int .i64 v).wf = true) (wz : (Lit.int .i64 z).wf = true)
    (hK : ∀ w', IMap w' b (N + 1) (fun x => if x = v then z else f x) → w.grownBy w' (some b) → wpList Tryd.prog ops Q rest (a.put o.dst undef) w') :
    wpList Tryd.prog ops Q (o :: rest) a w := by
  refine wpList_plain hg fun K' hK' => ?_
  obtain ⟨w', hrun, r1, r2⟩ := h.upd t ht hN v z wv wz
  unfold Oper.wp
  simp [execOp, hop, hm, hx, hu, hrun, Result.andThen]
  exact hK' _ _ (hK w' r1 r2)
end

end Go.Proofs.YtfgpadkoonogpaaDoor
