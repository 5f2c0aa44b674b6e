/- 'Kept': what may turn between two worlds. Over any program. -/
import Derived.Test.YtoajbjeiplolnaaDoorRApp
namespace Go.Proofs.YtoajbjeiplolnaaDoorR
open Go.RowKit

/-- What was there is as it was but for the blocks of S; the streams are as they were; no block has gone. -/
structure Kept (S : Nat → Prop) (w w' : World) : Prop where
  os : w'.os = w.os
  tape : w'.tape = w.tape
  output : w'.output = w.output
  size : w.heap.size ≤ w'.heap.size
  block : ∀ k, k < w.heap.size → ¬ S k → w'.heap[k]? = w.heap[k]?

namespace Kept
variable {S S' : Nat → Prop} {a w w' : World}
theorem refl (S : Nat → Prop) (w : World) : Kept S w w := ⟨rfl, rfl, rfl, Nat.le_refl _, fun _ _ _ => rfl⟩
theorem trans {b c : World} (h : Kept S a b) (k : Kept S b c) : Kept S a c :=
  ⟨k.os.trans h.os, k.tape.trans h.tape, k.output.trans h.output, Nat.le_trans h.size k.size, fun i hi hs => (k.block i (Nat.lt_of_lt_of_le hi h.size) hs).trans (h.block i hi hs)⟩
/-- A later step may turn, besides, what is new since. -/
theorem step {b c : World} (h : Kept S a b) (k : Kept S' b c) (hS : ∀ i, i < a.heap.size → S' i → S i) : Kept S a c :=
  ⟨k.os.trans h.os, k.tape.trans h.tape, k.output.trans h.output, Nat.le_trans h.size k.size, fun i hi hs => (k.block i (Nat.lt_of_lt_of_le hi h.size) (fun e => hs (hS i hi e))).trans (h.block i hi hs)⟩
theorem wide (h : Kept S a w) (hS : ∀ i, i < a.heap.size → S i → S' i) : Kept S' a w := ⟨h.os, h.tape, h.output, h.size, fun i hi hs => h.block i hi (fun e => hs (hS i hi e))⟩
theorem of_below (h : Below a.heap.size a w) (S : Nat → Prop) : Kept S a w := ⟨h.os, h.tape, h.output, h.size, fun i hi _ => h.block i hi⟩
theorem of_grown {row : Option Nat} (h : a.grownBy w row) : Kept (fun k => some k = row) a w := ⟨h.os, h.tape, h.output, h.size, fun i hi hs => h.block i hi hs⟩
theorem below {B : Nat} (h : Kept S a w) (hB : B ≤ a.heap.size) (hS : ∀ i, i < B → ¬ S i) : Below B a w := ⟨h.os, h.tape, h.output, h.size, fun i hi => h.block i (by omega) (hS i hi)⟩
theorem alloc (h : Kept S a w) (o : Obj) : Kept S a (w.alloc o) := h.step (of_below ((Below.refl _ _).alloc (Nat.le_refl _) o) S) (fun _ _ e => e)
theorem drew (h : Kept S a w) : Kept S a w.drew := ⟨h.os, h.tape, h.output, h.size, h.block⟩
theorem drewN (h : Kept S a w) (n : Nat) : Kept S a (w.drewN n) := ⟨h.os, h.tape, h.output, h.size, h.block⟩
theorem set (h : Kept S a w) {p : Addr} (hp : S p.block ∨ a.heap.size ≤ p.block) (u : Value) : Kept S a (w.setCell p u) :=
  ⟨h.os, h.tape, h.output, by simpa [World.setCell] using h.size, fun i hi hs => (Below.heap_setCell w p u i (by
    rintro rfl
    rcases hp with hp | hp
    · exact hs hp
    · omega)).trans (h.block i hi hs)⟩
theorem blk {b : Nat} {cs : Array Value} {T : TypeId} (h : Kept S a w) (hb : Blk a b cs T) (hS : ¬ S b) : Blk w b cs T := (h.block b hb.lt hS).trans hb
end Kept

/-- A row of the call's own is kept where its block is. -/
theorem Kept.own {S : Nat → Prop} {a w : World} {B : Nat} {v : Value} {n : Nat} {xs : List Value} {e : TypeId} {size : Nat} (h : Kept S a w) (ho : a.ownsRow B e size v n xs) (hS : ∀ k, v.ownBlock = some k → ¬ S k) : w.ownsRow B e size v n xs :=
  own_block ho fun k hk => h.block k (ho.lt k hk).2 (hS k hk)
theorem Kept.cell_ {S : Nat → Prop} {a w : World} (h : Kept S a w) {p : Addr} (hp : p.block < a.heap.size) (hS : ¬ S p.block) : w.cell? p = a.cell? p := World.cell?_of_block (h.block _ hp hS)
theorem Kept.frozen_ {S : Nat → Prop} {a w : World} (h : Kept S a w) {p : Addr} (hp : p.block < a.heap.size) (hS : ¬ S p.block) : w.frozen? p = a.frozen? p := World.frozen?_of_block (h.block _ hp hS)
end Go.Proofs.YtoajbjeiplolnaaDoorR
