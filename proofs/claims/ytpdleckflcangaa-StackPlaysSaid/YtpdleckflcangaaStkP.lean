/- besomlaw13.StackPlays: the stack and the own row that mirrors it. -/
import Derived.Test.YtpdleckflcangaaStk4
import Derived.Test.YtpdleckflcangaaArgs4
import Derived.Deep.CutBlock
import Derived.Deep.CutRange
namespace Go.Proofs.Ytpdleckflcangaa.Stk
open Go.RowKit
set_option linter.unusedSimpArgs false
set_option linter.unusedVariables false

/-- A stack, and a row of the call's own with the same words. -/
structure PS (w w' : World) (b g gw : Nat) (base : Int) (ws : List Int) : Prop where
  st : StackAt w' b g base ws
  row : Blk w' gw (cells ws) 3
  ne1 : g ≠ gw
  ne2 : b ≠ gw
  nb : w.heap.size ≤ b
  ng : w.heap.size ≤ g
  nw : w.heap.size ≤ gw
  hb : 0 ≤ base ∧ base ≤ 4000000000
  bel : Below w.heap.size w w'
namespace PS
variable {w w' w'' : World} {b g gw : Nat} {base : Int} {ws : List Int}
theorem call (h : PS w w' b g gw base ws) (hb : Below w'.heap.size w' w'') : PS w w'' b g gw base ws :=
  ⟨h.st.below hb, h.row.call hb, h.ne1, h.ne2, h.nb, h.ng, h.nw, h.hb, fresh_call h.bel hb⟩
theorem drewN (h : PS w w' b g gw base ws) (n : Nat) : PS w (w'.drewN n) b g gw base ws := h.call (below_drewN (Below.refl _ _) n)
theorem alloc (h : PS w w' b g gw base ws) (o : Obj) : PS w (w'.alloc o) b g gw base ws := h.call ((Below.refl _ _).alloc (Nat.le_refl _) o)
end PS
/-- Behind one more word of a clear. -/
theorem clr_zero (ws : List Int) (o : Nat) (h : o ≤ ws.length) : clr ws o 0 = ws := by simp [clr]
theorem clr_step (ws : List Int) (o n : Nat) (h : o + n < ws.length) : (clr ws o n).set (o + n) 0 = clr ws o (n + 1) := by
  apply List.ext_getElem?
  intro j
  rw [List.getElem?_set, clr_length _ _ _ (by omega)]
  simp only [clr, List.append_assoc, List.getElem?_append, List.length_take, List.length_replicate, List.getElem?_take, List.getElem?_replicate, List.getElem?_drop]
  grind
end Go.Proofs.Ytpdleckflcangaa.Stk
