/- Maps from int to int that the program made, as functions: what is not there is 0. And what may turn: 'Kept'. -/
import Derived.Test.YtpdleckflcangaaProg
import Derived.Test.YtpdleckflcangaaLib
import Derived.Maps.OwnOps
import Derived.Maps.OwnSet
import Derived.Maps.Views
namespace Go.Proofs.Ytpdleckflcangaa
open Go.RowKit Go.Maps

theorem lawInt : Keyed Try.prog 3 := int_keyed Try.underlying3
theorem zeroInt (w : World) : (zeroValue 3).run Try.prog w = .ok (.int .i64 0) w := by kernel_rfl

/-- Block b is a map of at most N entries; asked for v it answers f v. -/
def IMap (w : World) (b N : Nat) (f : Int → Int) : Prop :=
  ∃ (n : Nat) (D : DataW Unit), w.ownsMap Try.prog 3 (plainElem Try.prog 3) b n D ∧ n ≤ N ∧ ∀ v : Int, D.atKey (.int .i64 v) (.lit (.int .i64 0)) = .lit (.int .i64 (f v))

section
variable {w w' : World} {b N : Nat} {f : Int → Int}
theorem IMap.made (w : World) : IMap (w.alloc (.map #[] 0)) w.heap.size 0 fun _ => 0 := ⟨0, _, World.ownsMap_made _ _ _ _, Nat.le_refl _, fun _ => rfl⟩
theorem IMap.more {N' : Nat} (h : IMap w b N f) (hN : N ≤ N') : IMap w b N' f := by
  obtain ⟨n, D, h1, h2, h3⟩ := h
  exact ⟨n, D, h1, by omega, h3⟩
theorem IMap.lt (h : IMap w b N f) : b < w.heap.size := by obtain ⟨n, D, h1, _⟩ := h; exact h1.lt
theorem IMap.block (h : IMap w b N f) (hb : w'.heap[b]? = w.heap[b]?) : IMap w' b N f := by
  obtain ⟨n, D, ⟨es, clock, h1, h2, h3⟩, h4⟩ := h
  exact ⟨n, D, ⟨es, clock, hb.trans h1, h2, h3⟩, h4⟩
theorem IMap.ne_blk {b' : Nat} {cs : Array Value} {T : TypeId} (h : IMap w b N f) (h' : Blk w b' cs T) : b ≠ b' := by
  obtain ⟨n, D, ⟨es, clock, h1, _⟩, _⟩ := h
  rintro rfl
  have h2 : w.heap[b]? = some (.cells cs T (0, 0)) := h'
  rw [h1] at h2
  cases h2
/-- 'm[k]'. -/
theorem IMap.look (t : TypeId) (ht : Try.prog.underlying t = some (.map 3 3)) (h : IMap w b N f) (v : Int) (wv : (Lit.int .i64 v).wf = true) :
    (Instr.lookup t (.map (some b)) (.int .i64 v) false).run Try.prog w = .ok (.int .i64 (f v)) w := by
  obtain ⟨n, D, h1, _, h3⟩ := h
  obtain ⟨c, hrun, hat, _⟩ := h1.lookup_int lawInt ht Try.underlying3 (zeroInt w) (keyOf_int_mk Try.underlying3 wv)
  have hc : f v = c := by
    have h := (h3 v).symm.trans hat
    simp only [DataW.lit.injEq, Lit.int.injEq, true_and] at h
    exact h
  rw [hc]
  exact hrun
/-- 'm[k] = z'. -/
theorem IMap.upd (t : TypeId) (ht : Try.prog.underlying t = some (.map 3 3)) (h : IMap w b N f) (hN : N < maxLen) (v z : Int) (wv : (Lit.int .i64 v).wf = true) (wz : (Lit.int .i64 z).wf = true) :
    ∃ w', (Instr.mapUpdate t (.map (some b)) (.int .i64 v) (.int .i64 z)).run Try.prog w = .ok () w' ∧ IMap w' b (N + 1) (fun x => if x = v then z else f x) ∧ w.grownBy w' (some b) := by
  obtain ⟨n, D, h1, h2, h3⟩ := h
  obtain ⟨w', hrun, r1, r2⟩ := h1.update lawInt ht (by omega) (keyOf_int_mk Try.underlying3 wv) (plainElem_int Try.underlying3 wz)
  refine ⟨w', hrun, ⟨n + 1, _, r1, by omega, fun x => ?_⟩, r2⟩
  by_cases hx : x = v
  · subst hx
    rw [atKey_put_same h1.isMap (by simp [WideAt.IsKeyLit])]
    simp
  · rw [atKey_put_other (by simp [hx])]
    rw [h3 x]
    simp [hx]
/-- 'm[k] = z' as the walk takes it. -/
theorem wpList_upd {ops : Array Oper} {rest : List Oper} {o : Oper} {a : Act} {Q : Exit → Act → World → Prop}
    (hg : o.guard = none) (m x u : Operand) (t : TypeId) (hop : o.op = Op.mapUpdate t m x u) (ht : Try.prog.underlying t = some (.map 3 3)) (v z : Int)
    (hm : a.eval m = .map (some b)) (hx : a.eval x = .int .i64 v) (hu : a.eval u = .int .i64 z) (h : IMap w b N f) (hN : N < maxLen) (wv : (Lit.int .i64 v).wf = true) (wz : (Lit.int .i64 z).wf = true)
    (hK : ∀ w', IMap w' b (N + 1) (fun x => if x = v then z else f x) → w.grownBy w' (some b) → wpList Try.prog ops Q rest (a.put o.dst undef) w') :
    wpList Try.prog ops Q (o :: rest) a w := by
  refine wpList_plain hg fun K' hK' => ?_
  obtain ⟨w', hrun, r1, r2⟩ := h.upd t ht hN v z wv wz
  unfold Oper.wp
  simp [execOp, hop, hm, hx, hu, hrun, Result.andThen]
  exact hK' _ _ (hK w' r1 r2)
end

/-- What was there is as it was but for the blocks of S; the streams are as they were; no block has gone. -/
structure Kept (S : Nat → Prop) (w w' : World) : Prop where
  os : w'.os = w.os
  tape : w'.tape = w.tape
  output : w'.output = w.output
  size : w.heap.size ≤ w'.heap.size
  block : ∀ k, k < w.heap.size → ¬ S k → w'.heap[k]? = w.heap[k]?

namespace Kept
variable {S S' : Nat → Prop} {a w w' : World}
theorem refl (S : Nat → Prop) (w : World) : Kept S w w := ⟨rfl, rfl, rfl, Nat.le_refl _, fun _ _ _ => rfl⟩
theorem trans {b c : World} (h : Kept S a b) (k : Kept S b c) : Kept S a c :=
  ⟨k.os.trans h.os, k.tape.trans h.tape, k.output.trans h.output, Nat.le_trans h.size k.size, fun i hi hs => (k.block i (Nat.lt_of_lt_of_le hi h.size) hs).trans (h.block i hi hs)⟩
/-- A later step may turn, besides, what is new since. -/
theorem step {b c : World} (h : Kept S a b) (k : Kept S' b c) (hS : ∀ i, i < a.heap.size → S' i → S i) : Kept S a c :=
  ⟨k.os.trans h.os, k.tape.trans h.tape, k.output.trans h.output, Nat.le_trans h.size k.size, fun i hi hs => (k.block i (Nat.lt_of_lt_of_le hi h.size) (fun e => hs (hS i hi e))).trans (h.block i hi hs)⟩
theorem wide (h : Kept S a w) (hS : ∀ i, i < a.heap.size → S i → S' i) : Kept S' a w := ⟨h.os, h.tape, h.output, h.size, fun i hi hs => h.block i hi (fun e => hs (hS i hi e))⟩
theorem of_below (h : Below a.heap.size a w) (S : Nat → Prop) : Kept S a w := ⟨h.os, h.tape, h.output, h.size, fun i hi _ => h.block i hi⟩
theorem of_grown {row : Option Nat} (h : a.grownBy w row) : Kept (fun k => some k = row) a w := ⟨h.os, h.tape, h.output, h.size, fun i hi hs => h.block i hi hs⟩
theorem below {B : Nat} (h : Kept S a w) (hB : B ≤ a.heap.size) (hS : ∀ i, i < B → ¬ S i) : Below B a w := ⟨h.os, h.tape, h.output, h.size, fun i hi => h.block i (by omega) (hS i hi)⟩
theorem alloc (h : Kept S a w) (o : Obj) : Kept S a (w.alloc o) := h.step (of_below ((Below.refl _ _).alloc (Nat.le_refl _) o) S) (fun _ _ e => e)
theorem drew (h : Kept S a w) : Kept S a w.drew := ⟨h.os, h.tape, h.output, h.size, h.block⟩
theorem drewN (h : Kept S a w) (n : Nat) : Kept S a (w.drewN n) := ⟨h.os, h.tape, h.output, h.size, h.block⟩
theorem set (h : Kept S a w) {p : Addr} (hp : S p.block ∨ a.heap.size ≤ p.block) (u : Value) : Kept S a (w.setCell p u) :=
  ⟨h.os, h.tape, h.output, by simpa [World.setCell] using h.size, fun i hi hs => (Below.heap_setCell w p u i (by
    rintro rfl
    rcases hp with hp | hp
    · exact hs hp
    · omega)).trans (h.block i hi hs)⟩
theorem blk {b : Nat} {cs : Array Value} {T : TypeId} (h : Kept S a w) (hb : Blk a b cs T) (hS : ¬ S b) : Blk w b cs T := (h.block b hb.lt hS).trans hb
end Kept
end Go.Proofs.Ytpdleckflcangaa
