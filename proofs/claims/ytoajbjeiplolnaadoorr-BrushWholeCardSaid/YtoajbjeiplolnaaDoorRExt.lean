/- A region that draws its order, whose operations read and whose calls make memory but leave all that was there alone: one walk in the order of the text serves every order (the kit's law on a class of worlds, at the class 'all that was there is as it was'). Over any program. -/
import Derived.Test.YtoajbjeiplolnaaDoorRLib
namespace Go.Proofs.YtoajbjeiplolnaaDoorR
open Go.RowKit
set_option linter.unusedVariables false

/-- A world in which all that stood in W is as it was. -/
structure Ext (W : World) where
  w : World
  below : Below W.heap.size W w
instance (W : World) : Nonempty (Ext W) := ⟨⟨W, Below.refl _ _⟩⟩
namespace Ext
variable {W : World} {P : Program} {f : FuncId} {args : Array Value} {v : Value}
@[go_sem] theorem cell_ (x : Ext W) (b o : Nat) (h : b < W.heap.size) : x.w.cell? ⟨b, o, none⟩ = W.cell? ⟨b, o, none⟩ := x.below.cell (p := ⟨b, o, none⟩) h
@[go_sem] theorem frozen_ (x : Ext W) (b o : Nat) (h : b < W.heap.size) : x.w.frozen? ⟨b, o, none⟩ = W.frozen? ⟨b, o, none⟩ := x.below.frozen (p := ⟨b, o, none⟩) h
theorem size_ (x : Ext W) : W.heap.size ≤ x.w.heap.size := x.below.size
/-- A callee that leaves all that was there alone. -/
theorem call (x : Ext W) (h : Calls P f args x.w fun e w' => e = .returned v ∧ Below x.w.heap.size x.w w') : Calls P f args x.w fun e w' => e = .returned v ∧ ∃ y : Ext W, w' = y.w :=
  h.mono fun _ w' ⟨he, hb⟩ => ⟨he, ⟨w', below_call x.below x.below.size hb⟩, rfl⟩
theorem call_same (x : Ext W) (h : Calls P f args x.w fun e w' => e = .returned v ∧ x.w = w') : Calls P f args x.w fun e w' => e = .returned v ∧ ∃ y : Ext W, w' = y.w :=
  h.mono fun _ w' ⟨he, hb⟩ => ⟨he, x, hb.symm⟩
theorem call_drew (x : Ext W) (h : Calls P f args x.w fun e w' => e = .returned v ∧ ∃ n, w' = x.w.drewN n) : Calls P f args x.w fun e w' => e = .returned v ∧ ∃ y : Ext W, w' = y.w :=
  h.mono fun _ _ ⟨he, n, hb⟩ => ⟨he, ⟨_, below_drewN x.below n⟩, hb⟩
/-- The region, its operations written out. -/
theorem region {id : Nat} {Q : Exit → Act → World → Prop} {a : Act} {w : World} {l : List Oper} (W : World) (hm : P.follows .mixedOrders = true) (hB : Region.lexB .any l.toArray = true) (hw : Below W.heap.size W w)
    (h : wpQuiet P l.toArray (fun w' => ∃ x : Ext W, w' = x.w) (fun a' => ∀ w', (∃ x : Ext W, w' = x.w) → Q .normal a' w') l a) : (Code.region id l.toArray true).wp P Q a w :=
  wp_region_quiet (C := fun w' => ∃ x : Ext W, w' = x.w) hm hB ⟨⟨_, below_drewN hw 1⟩, rfl⟩ (by simpa using h)
end Ext
end Go.Proofs.YtoajbjeiplolnaaDoorR
