/-
  No cell of these rows narrows 'for every input' (looked for: loops, veiled, ifaces, maps, wideKeys, modest, calm, conditions, laid).
  DERIVED. THE GIVEN ROWS OF THIS SEAT. 6 by the template 'for every input the law returns true; each argument reads behind the call as it read before'; 0 by the template 'total and deterministic' (their statements: YtjlbmelpoaffpaaTotals.lean).
  GIVEN WITH THE SEED: the statements are not yours to turn. If you find one false, say at which input.
  Laid BY PROGRAM, IN A SANDBOX (cutbox-rows.mjs): the forced cells as the released guide's own fill.sh prints them over the translation 7825b5385ba36493… (all of the seat's roots in one cut). By AI agents, Wed Nov 11 2026. No macro, syntax, notation, axiom, sorry.
-/
import Derived.Test.YtjlbmelpoaffpaaChecked
import GoSem.Claim
import GoSem.ClaimJoined
import GoSem.ClaimMapViews
import Derived.JoinedTies
import Derived.KernelRfl
namespace Go.Proofs.Ytjlbmelpoaffpaa
/- THE CELL 'sum', in the pinned program and in every row, IS THE sha256 OF THE DUMP (.gsa) THAT YtjlbmelpoaffpaaProg.lean LOADS. Nothing in Lean hashes anything: it is a label: what it is worth is what the hold of that sum in a sandbox is worth. -/
noncomputable def Try.pinned : Pinned := { name := "ytjlbmelpoaffpaa", sum := "7825b5385ba3649384717cd2383b7ca7094d2fdb29fb58f8b825eaed8cba7bb1", checked := Try.checked }
namespace Rows
def none {H : Type} : Left H := { results := [], args := [] }

/-- 'besomlaw15.UnwindNested': WHATEVER THE INPUT: true; the input reads as it did. -/
def unwindNestedSpec : ChangeSpec := { name := "unwindNested", fn := fun _ => fun
  | [d1, d2, d3] => { results := [.lit (.bool true)], args := [d1, d2, d3] }
  | _ => none }
def unwindNestedRow : OpenClaim := { program := "ytjlbmelpoaffpaa", sum := "7825b5385ba3649384717cd2383b7ca7094d2fdb29fb58f8b825eaed8cba7bb1", func := "besom/besomlaw15.UnwindNested", spec := "unwindNested", apart := false }
def UnwindNestedSaid : Prop := unwindNestedRow.holds Try.pinned (OpenSpec.ofChange unwindNestedSpec)

/-- ITS FALSE NEIGHBOUR: 'it returns false'. Refute it at one input. -/
def unwindNestedWrong : ChangeSpec := { name := "unwindNested", fn := fun _ => fun
  | [d1, d2, d3] => { results := [.lit (.bool false)], args := [d1, d2, d3] }
  | _ => none }
def UnwindNestedWrongFalsely : Prop := unwindNestedRow.holds Try.pinned (OpenSpec.ofChange unwindNestedWrong)

/-- 'besomlaw15.UnwindStays': WHATEVER THE INPUT: true; the input reads as it did. -/
def unwindStaysSpec : ChangeSpec := { name := "unwindStays", fn := fun _ => fun
  | [d1, d2] => { results := [.lit (.bool true)], args := [d1, d2] }
  | _ => none }
def unwindStaysRow : OpenClaim := { program := "ytjlbmelpoaffpaa", sum := "7825b5385ba3649384717cd2383b7ca7094d2fdb29fb58f8b825eaed8cba7bb1", func := "besom/besomlaw15.UnwindStays", spec := "unwindStays", apart := false }
def UnwindStaysSaid : Prop := unwindStaysRow.holds Try.pinned (OpenSpec.ofChange unwindStaysSpec)

/-- ITS FALSE NEIGHBOUR: 'it returns false'. Refute it at one input. -/
def unwindStaysWrong : ChangeSpec := { name := "unwindStays", fn := fun _ => fun
  | [d1, d2] => { results := [.lit (.bool false)], args := [d1, d2] }
  | _ => none }
def UnwindStaysWrongFalsely : Prop := unwindStaysRow.holds Try.pinned (OpenSpec.ofChange unwindStaysWrong)

/-- 'besomlaw15.UnwindReturns': WHATEVER THE INPUT: true; the input reads as it did. -/
def unwindReturnsSpec : ChangeSpec := { name := "unwindReturns", fn := fun _ => fun
  | [d1, d2] => { results := [.lit (.bool true)], args := [d1, d2] }
  | _ => none }
def unwindReturnsRow : OpenClaim := { program := "ytjlbmelpoaffpaa", sum := "7825b5385ba3649384717cd2383b7ca7094d2fdb29fb58f8b825eaed8cba7bb1", func := "besom/besomlaw15.UnwindReturns", spec := "unwindReturns", apart := false }
def UnwindReturnsSaid : Prop := unwindReturnsRow.holds Try.pinned (OpenSpec.ofChange unwindReturnsSpec)

/-- ITS FALSE NEIGHBOUR: 'it returns false'. Refute it at one input. -/
def unwindReturnsWrong : ChangeSpec := { name := "unwindReturns", fn := fun _ => fun
  | [d1, d2] => { results := [.lit (.bool false)], args := [d1, d2] }
  | _ => none }
def UnwindReturnsWrongFalsely : Prop := unwindReturnsRow.holds Try.pinned (OpenSpec.ofChange unwindReturnsWrong)

/-- 'besomlaw15.UnwindHolds': WHATEVER THE INPUT: true; the input reads as it did. -/
def unwindHoldsSpec : ChangeSpec := { name := "unwindHolds", fn := fun _ => fun
  | [d] => { results := [.lit (.bool true)], args := [d] }
  | _ => none }
def unwindHoldsRow : OpenClaim := { program := "ytjlbmelpoaffpaa", sum := "7825b5385ba3649384717cd2383b7ca7094d2fdb29fb58f8b825eaed8cba7bb1", func := "besom/besomlaw15.UnwindHolds", spec := "unwindHolds", apart := false }
def UnwindHoldsSaid : Prop := unwindHoldsRow.holds Try.pinned (OpenSpec.ofChange unwindHoldsSpec)

/-- ITS FALSE NEIGHBOUR: 'it returns false'. Refute it at one input. -/
def unwindHoldsWrong : ChangeSpec := { name := "unwindHolds", fn := fun _ => fun
  | [d] => { results := [.lit (.bool false)], args := [d] }
  | _ => none }
def UnwindHoldsWrongFalsely : Prop := unwindHoldsRow.holds Try.pinned (OpenSpec.ofChange unwindHoldsWrong)

/-- 'besomlaw15.UnwindEnds': WHATEVER THE INPUT: true; the input reads as it did. -/
def unwindEndsSpec : ChangeSpec := { name := "unwindEnds", fn := fun _ => fun
  | [d1, d2, d3, d4] => { results := [.lit (.bool true)], args := [d1, d2, d3, d4] }
  | _ => none }
def unwindEndsRow : OpenClaim := { program := "ytjlbmelpoaffpaa", sum := "7825b5385ba3649384717cd2383b7ca7094d2fdb29fb58f8b825eaed8cba7bb1", func := "besom/besomlaw15.UnwindEnds", spec := "unwindEnds", apart := false }
def UnwindEndsSaid : Prop := unwindEndsRow.holds Try.pinned (OpenSpec.ofChange unwindEndsSpec)

/-- ITS FALSE NEIGHBOUR: 'it returns false'. Refute it at one input. -/
def unwindEndsWrong : ChangeSpec := { name := "unwindEnds", fn := fun _ => fun
  | [d1, d2, d3, d4] => { results := [.lit (.bool false)], args := [d1, d2, d3, d4] }
  | _ => none }
def UnwindEndsWrongFalsely : Prop := unwindEndsRow.holds Try.pinned (OpenSpec.ofChange unwindEndsWrong)

/-- 'besomlaw15.UnwindExits': WHATEVER THE INPUT: true; the input reads as it did. -/
def unwindExitsSpec : ChangeSpec := { name := "unwindExits", fn := fun _ => fun
  | [d] => { results := [.lit (.bool true)], args := [d] }
  | _ => none }
def unwindExitsRow : OpenClaim := { program := "ytjlbmelpoaffpaa", sum := "7825b5385ba3649384717cd2383b7ca7094d2fdb29fb58f8b825eaed8cba7bb1", func := "besom/besomlaw15.UnwindExits", spec := "unwindExits", apart := false }
def UnwindExitsSaid : Prop := unwindExitsRow.holds Try.pinned (OpenSpec.ofChange unwindExitsSpec)

/-- ITS FALSE NEIGHBOUR: 'it returns false'. Refute it at one input. -/
def unwindExitsWrong : ChangeSpec := { name := "unwindExits", fn := fun _ => fun
  | [d] => { results := [.lit (.bool false)], args := [d] }
  | _ => none }
def UnwindExitsWrongFalsely : Prop := unwindExitsRow.holds Try.pinned (OpenSpec.ofChange unwindExitsWrong)

/- THE SECOND FORM. 'bulk': how many values and letters a reading holds, each counted each time it is reached (what is shared counts as often as it is met; a slice's spare places count too). A statement '..UptoSaid' is the law's where the arguments, and the package variables that the reading takes, are together of bulk at most 1048576: NARROWER than '..Said'. Prove '..Said' where nothing that the law and all that it calls make is longer than what came in: it says more and counts as full. Else prove '..UptoSaid'. A law counts once. -/
mutual
def uptoBulk {H : Type} : DataW H → Nat
  | .lit (.string bytes) => bytes.length + 1
  | .lit _ => 1
  | .nil => 1
  | .ptr d => uptoBulk d + 1
  | .slice elems spare => uptoBulkAll elems + uptoBulkAll spare + 1
  | .agg parts => uptoBulkAll parts + 1
  | .iface _ d => uptoBulk d + 1
  | .map entries => uptoBulkEntries entries + 1
  | .held _ => 1
def uptoBulkAll {H : Type} : List (DataW H) → Nat
  | [] => 0
  | d :: r => uptoBulk d + uptoBulkAll r
def uptoBulkEntries {H : Type} : List (Lit × DataW H) → Nat
  | [] => 0
  | x :: r => uptoBulkEntry x + uptoBulkEntries r
def uptoBulkEntry {H : Type} : Lit × DataW H → Nat
  | (.string bytes, d) => bytes.length + uptoBulk d + 1
  | (_, d) => uptoBulk d + 1
 end
def uptoSmall : (H : Type) → List (DataW H) → Bool := fun _ ds => decide (uptoBulkAll ds ≤ 1048576)
def OpenSpec.upto (s : _root_.Go.ChangeSpec) : _root_.Go.OpenSpec := { _root_.Go.OpenSpec.ofChange s with cond := some uptoSmall }

/-- 'besomlaw15.UnwindNested', WHERE WHAT IT READS IS OF BULK AT MOST 1048576: true; the input reads as it did. -/
def unwindNestedUptoRow : OpenClaim := { program := "ytjlbmelpoaffpaa", sum := "7825b5385ba3649384717cd2383b7ca7094d2fdb29fb58f8b825eaed8cba7bb1", func := "besom/besomlaw15.UnwindNested", spec := "unwindNested", apart := false, narrowed := true }
def UnwindNestedUptoSaid : Prop := unwindNestedUptoRow.holds Try.pinned (OpenSpec.upto unwindNestedSpec)

/-- 'besomlaw15.UnwindStays', WHERE WHAT IT READS IS OF BULK AT MOST 1048576: true; the input reads as it did. -/
def unwindStaysUptoRow : OpenClaim := { program := "ytjlbmelpoaffpaa", sum := "7825b5385ba3649384717cd2383b7ca7094d2fdb29fb58f8b825eaed8cba7bb1", func := "besom/besomlaw15.UnwindStays", spec := "unwindStays", apart := false, narrowed := true }
def UnwindStaysUptoSaid : Prop := unwindStaysUptoRow.holds Try.pinned (OpenSpec.upto unwindStaysSpec)

/-- 'besomlaw15.UnwindReturns', WHERE WHAT IT READS IS OF BULK AT MOST 1048576: true; the input reads as it did. -/
def unwindReturnsUptoRow : OpenClaim := { program := "ytjlbmelpoaffpaa", sum := "7825b5385ba3649384717cd2383b7ca7094d2fdb29fb58f8b825eaed8cba7bb1", func := "besom/besomlaw15.UnwindReturns", spec := "unwindReturns", apart := false, narrowed := true }
def UnwindReturnsUptoSaid : Prop := unwindReturnsUptoRow.holds Try.pinned (OpenSpec.upto unwindReturnsSpec)

/-- 'besomlaw15.UnwindHolds', WHERE WHAT IT READS IS OF BULK AT MOST 1048576: true; the input reads as it did. -/
def unwindHoldsUptoRow : OpenClaim := { program := "ytjlbmelpoaffpaa", sum := "7825b5385ba3649384717cd2383b7ca7094d2fdb29fb58f8b825eaed8cba7bb1", func := "besom/besomlaw15.UnwindHolds", spec := "unwindHolds", apart := false, narrowed := true }
def UnwindHoldsUptoSaid : Prop := unwindHoldsUptoRow.holds Try.pinned (OpenSpec.upto unwindHoldsSpec)

/-- 'besomlaw15.UnwindEnds', WHERE WHAT IT READS IS OF BULK AT MOST 1048576: true; the input reads as it did. -/
def unwindEndsUptoRow : OpenClaim := { program := "ytjlbmelpoaffpaa", sum := "7825b5385ba3649384717cd2383b7ca7094d2fdb29fb58f8b825eaed8cba7bb1", func := "besom/besomlaw15.UnwindEnds", spec := "unwindEnds", apart := false, narrowed := true }
def UnwindEndsUptoSaid : Prop := unwindEndsUptoRow.holds Try.pinned (OpenSpec.upto unwindEndsSpec)

/-- 'besomlaw15.UnwindExits', WHERE WHAT IT READS IS OF BULK AT MOST 1048576: true; the input reads as it did. -/
def unwindExitsUptoRow : OpenClaim := { program := "ytjlbmelpoaffpaa", sum := "7825b5385ba3649384717cd2383b7ca7094d2fdb29fb58f8b825eaed8cba7bb1", func := "besom/besomlaw15.UnwindExits", spec := "unwindExits", apart := false, narrowed := true }
def UnwindExitsUptoSaid : Prop := unwindExitsUptoRow.holds Try.pinned (OpenSpec.upto unwindExitsSpec)

end Rows
end Go.Proofs.Ytjlbmelpoaffpaa
