/- Lemmas of my own on blocks of memory: what a block holds, over new blocks, draws, stores and calls that leave what was there alone. No program is named. -/
import Derived.WalkKit
import Derived.WalkLawsBesides
import Derived.Lib.Hide
import Derived.WalkSpells
import Derived.BigQuiet
import Derived.Deep.QuietTactic
import Derived.RegionTactic
import Derived.ChangeAlike
namespace Go.Proofs.YtoajbjeiplolnaaDoorR
open Go.RowKit

/-- A store and a read at one address, with no condition: what was there is replaced. -/
@[go_sem] theorem cell?_setCell_map (w : World) (a : Addr) (v : Value) : (w.setCell a v).cell? a = (w.cell? a).map fun _ => v := by
  unfold World.cell? World.setCell
  simp only [Array.getElem?_modify]
  cases h : w.heap[a.block]? with
  | none => simp
  | some o =>
    cases o with
    | cells c e fr =>
      by_cases hs : a.spot.isSome
      · simp [hs]
      · simp only [hs]
        simp only [if_true, Option.map_some]
        by_cases hi : a.off < c.size
        · simp [hi]
        · simp [hi]
    | _ => simp
/-- The second store at one address alone stays. -/
@[go_sem] theorem setCell_setCell (w : World) (a : Addr) (v u : Value) : (w.setCell a v).setCell a u = w.setCell a u := by
  unfold World.setCell
  simp only [World.mk.injEq, and_true]
  apply Array.ext_getElem?
  intro i
  simp only [Array.getElem?_modify]
  by_cases hi : a.block = i
  · subst hi
    simp only [if_true]
    cases h : w.heap[a.block]? with
    | none => simp
    | some o =>
      cases o with
      | cells c e fr => by_cases hs : a.spot.isSome <;> simp [hs]
      | _ => simp
  · simp [hi]

/-- Block b holds just these cells, and none of them is frozen. -/
def Blk (w : World) (b : Nat) (cs : Array Value) (T : TypeId) : Prop := w.heap[b]? = some (.cells cs T (0, 0))

namespace Blk
variable {w w1 : World} {b : Nat} {cs : Array Value} {T : TypeId}
theorem lt (h : Blk w b cs T) : b < w.heap.size := (Array.getElem?_eq_some_iff.1 h).1
theorem cell (h : Blk w b cs T) (i : Nat) : w.cell? ⟨b, i, none⟩ = cs[i]? := by
  have h' : w.heap[b]? = some (.cells cs T (0, 0)) := h
  simp [World.cell?, h']
theorem free (h : Blk w b cs T) (i : Nat) : w.frozen? ⟨b, i, none⟩ = false := by
  have h' : w.heap[b]? = some (.cells cs T (0, 0)) := h
  simp [World.frozen?, h']
theorem below {B : Nat} (h : Blk w b cs T) (hb : Below B w w1) (hlt : b < B) : Blk w1 b cs T := (hb.block b hlt).trans h
theorem new (w : World) (cs : Array Value) (T : TypeId) : Blk (w.alloc (.cells cs T (0, 0))) w.heap.size cs T := heap_alloc_new w _
theorem alloc (h : Blk w b cs T) (o : Obj) : Blk (w.alloc o) b cs T := (Below.heap_alloc w o b h.lt).trans h
theorem drew (h : Blk w b cs T) : Blk w.drew b cs T := h
theorem drewN (h : Blk w b cs T) (n : Nat) : Blk (w.drewN n) b cs T := h
theorem set (h : Blk w b cs T) (i : Nat) (v : Value) : Blk (w.setCell ⟨b, i, none⟩ v) b (cs.setIfInBounds i v) T := by
  have h' : w.heap[b]? = some (.cells cs T (0, 0)) := h
  show (w.heap.modify b _)[b]? = _
  simp [Array.getElem?_modify, h']
theorem other (h : Blk w b cs T) {a : Addr} (hne : b ≠ a.block) (v : Value) : Blk (w.setCell a v) b cs T := (Below.heap_setCell w a v b hne).trans h
theorem call (h : Blk w b cs T) (hb : Below w.heap.size w w1) : Blk w1 b cs T := h.below hb h.lt
theorem of_eq {cs' : Array Value} (h : Blk w b cs T) (e : cs = cs') : Blk w b cs' T := e ▸ h
/-- The facts that a walk wants of a block of one, two, three, four cells. -/
theorem one {x : Value} (h : Blk w b #[x] T) : w.cell? ⟨b, 0, none⟩ = some x ∧ w.frozen? ⟨b, 0, none⟩ = false := ⟨h.cell 0, h.free 0⟩
theorem two {x y : Value} (h : Blk w b #[x, y] T) : w.cell? ⟨b, 0, none⟩ = some x ∧ w.cell? ⟨b, 1, none⟩ = some y ∧ w.frozen? ⟨b, 0, none⟩ = false ∧ w.frozen? ⟨b, 1, none⟩ = false :=
  ⟨h.cell 0, h.cell 1, h.free 0, h.free 1⟩
theorem three {x y z : Value} (h : Blk w b #[x, y, z] T) : w.cell? ⟨b, 0, none⟩ = some x ∧ w.cell? ⟨b, 1, none⟩ = some y ∧ w.cell? ⟨b, 2, none⟩ = some z ∧
    w.frozen? ⟨b, 0, none⟩ = false ∧ w.frozen? ⟨b, 1, none⟩ = false ∧ w.frozen? ⟨b, 2, none⟩ = false :=
  ⟨h.cell 0, h.cell 1, h.cell 2, h.free 0, h.free 1, h.free 2⟩
theorem four {x y z u : Value} (h : Blk w b #[x, y, z, u] T) : w.cell? ⟨b, 0, none⟩ = some x ∧ w.cell? ⟨b, 1, none⟩ = some y ∧ w.cell? ⟨b, 2, none⟩ = some z ∧ w.cell? ⟨b, 3, none⟩ = some u ∧
    w.frozen? ⟨b, 0, none⟩ = false ∧ w.frozen? ⟨b, 1, none⟩ = false ∧ w.frozen? ⟨b, 2, none⟩ = false ∧ w.frozen? ⟨b, 3, none⟩ = false :=
  ⟨h.cell 0, h.cell 1, h.cell 2, h.cell 3, h.free 0, h.free 1, h.free 2, h.free 3⟩
end Blk

theorem ret_bool {a b : Bool} (h : a = b) : Ending.returned (.bool a) = .returned (.bool b) := by rw [h]
theorem ret_int {k : IntKind} {a b : Int} (h : a = b) : Ending.returned (.int k a) = .returned (.int k b) := by rw [h]
/-- Behind a call that leaves all that was there alone. -/
theorem below_call {B : Nat} {a W w1 : World} (h : Below B a W) (hB : B ≤ W.heap.size) (hb : Below W.heap.size W w1) : Below B a w1 := h.trans (hb.mono hB)
theorem fresh_call {a W w1 : World} (h : Below a.heap.size a W) (hb : Below W.heap.size W w1) : Below a.heap.size a w1 := below_call h h.size hb
theorem fresh_alloc {a W : World} (h : Below a.heap.size a W) (o : Obj) : Below a.heap.size a (W.alloc o) := h.alloc h.size o
theorem wrap64_id {x : Int} (h : -9223372036854775808 ≤ x ∧ x ≤ 9223372036854775807) : wrap64 x = x := by unfold wrap64; omega
theorem below_drewN {B : Nat} {a w : World} (h : Below B a w) (n : Nat) : Below B a (w.drewN n) := ⟨h.os, h.tape, h.output, h.size, h.block⟩

end Go.Proofs.YtoajbjeiplolnaaDoorR
