/-
  No cell of these rows narrows 'for every input' (looked for: loops, veiled, ifaces, maps, wideKeys, modest, calm, conditions, laid).
  DERIVED. THE GIVEN ROWS OF THIS SEAT. 9 by the template 'for every input the law returns true; each argument reads behind the call as it read before'; 0 by the template 'total and deterministic' (their statements: YtpdleckflcangaaTotals.lean).
  GIVEN WITH THE SEED: the statements are not yours to turn. If you find one false, say at which input.
  Laid BY PROGRAM, IN A SANDBOX (cutbox-rows.mjs): the forced cells as the released guide's own fill.sh prints them over the translation fcadce47a8e368dd… (all of the seat's roots in one cut). By AI agents, Wed Nov 11 2026. No macro, syntax, notation, axiom, sorry.
-/
import Derived.Test.YtpdleckflcangaaChecked
import GoSem.Claim
import GoSem.ClaimJoined
import GoSem.ClaimMapViews
import Derived.JoinedTies
import Derived.KernelRfl
namespace Go.Proofs.Ytpdleckflcangaa
/- THE CELL 'sum', in the pinned program and in every row, IS THE sha256 OF THE DUMP (.gsa) THAT YtpdleckflcangaaProg.lean LOADS. Nothing in Lean hashes anything: it is a label: what it is worth is what the hold of that sum in a sandbox is worth. -/
noncomputable def Try.pinned : Pinned := { name := "ytpdleckflcangaa", sum := "fcadce47a8e368dd79b78bb851589c0cd80ea5f656d104399bf47f00c2667e56", checked := Try.checked }
namespace Rows
def none {H : Type} : Left H := { results := [], args := [] }

/-- 'besomlaw13.StackApart': WHATEVER THE INPUT: true; the input reads as it did. -/
def stackApartSpec : ChangeSpec := { name := "stackApart", fn := fun _ => fun
  | [d1, d2, d3, d4, d5] => { results := [.lit (.bool true)], args := [d1, d2, d3, d4, d5] }
  | _ => none }
def stackApartRow : OpenClaim := { program := "ytpdleckflcangaa", sum := "fcadce47a8e368dd79b78bb851589c0cd80ea5f656d104399bf47f00c2667e56", func := "besom/besomlaw13.StackApart", spec := "stackApart", plainKeys := false, apart := false }
def StackApartSaid : Prop := stackApartRow.holds Try.pinned (OpenSpec.ofChange stackApartSpec)

/-- ITS FALSE NEIGHBOUR: 'it returns false'. Refute it at one input. -/
def stackApartWrong : ChangeSpec := { name := "stackApart", fn := fun _ => fun
  | [d1, d2, d3, d4, d5] => { results := [.lit (.bool false)], args := [d1, d2, d3, d4, d5] }
  | _ => none }
def StackApartWrongFalsely : Prop := stackApartRow.holds Try.pinned (OpenSpec.ofChange stackApartWrong)

/-- 'besomlaw19.AskNext': WHATEVER THE INPUT: true; the input reads as it did. -/
def askNextSpec : ChangeSpec := { name := "askNext", fn := fun _ => fun
  | [d1, d2] => { results := [.lit (.bool true)], args := [d1, d2] }
  | _ => none }
def askNextRow : OpenClaim := { program := "ytpdleckflcangaa", sum := "fcadce47a8e368dd79b78bb851589c0cd80ea5f656d104399bf47f00c2667e56", func := "besom/besomlaw19.AskNext", spec := "askNext", plainKeys := false, apart := false }
def AskNextSaid : Prop := askNextRow.holds Try.pinned (OpenSpec.ofChange askNextSpec)

/-- ITS FALSE NEIGHBOUR: 'it returns false'. Refute it at one input. -/
def askNextWrong : ChangeSpec := { name := "askNext", fn := fun _ => fun
  | [d1, d2] => { results := [.lit (.bool false)], args := [d1, d2] }
  | _ => none }
def AskNextWrongFalsely : Prop := askNextRow.holds Try.pinned (OpenSpec.ofChange askNextWrong)

/-- 'besomlaw19.AskPlays': WHATEVER THE INPUT: true; the input reads as it did. -/
def askPlaysSpec : ChangeSpec := { name := "askPlays", fn := fun _ => fun
  | [d1, d2, d3] => { results := [.lit (.bool true)], args := [d1, d2, d3] }
  | _ => none }
def askPlaysRow : OpenClaim := { program := "ytpdleckflcangaa", sum := "fcadce47a8e368dd79b78bb851589c0cd80ea5f656d104399bf47f00c2667e56", func := "besom/besomlaw19.AskPlays", spec := "askPlays", plainKeys := false, apart := false }
def AskPlaysSaid : Prop := askPlaysRow.holds Try.pinned (OpenSpec.ofChange askPlaysSpec)

/-- ITS FALSE NEIGHBOUR: 'it returns false'. Refute it at one input. -/
def askPlaysWrong : ChangeSpec := { name := "askPlays", fn := fun _ => fun
  | [d1, d2, d3] => { results := [.lit (.bool false)], args := [d1, d2, d3] }
  | _ => none }
def AskPlaysWrongFalsely : Prop := askPlaysRow.holds Try.pinned (OpenSpec.ofChange askPlaysWrong)

/-- 'besomlaw4.ShapeKinds': WHATEVER THE INPUT: true; the input reads as it did. -/
def shapeKindsSpec : ChangeSpec := { name := "shapeKinds", fn := fun _ => fun
  | [d1, d2] => { results := [.lit (.bool true)], args := [d1, d2] }
  | _ => none }
def shapeKindsRow : OpenClaim := { program := "ytpdleckflcangaa", sum := "fcadce47a8e368dd79b78bb851589c0cd80ea5f656d104399bf47f00c2667e56", func := "besom/besomlaw4.ShapeKinds", spec := "shapeKinds", plainKeys := false, apart := false }
def ShapeKindsSaid : Prop := shapeKindsRow.holds Try.pinned (OpenSpec.ofChange shapeKindsSpec)

/-- ITS FALSE NEIGHBOUR: 'it returns false'. Refute it at one input. -/
def shapeKindsWrong : ChangeSpec := { name := "shapeKinds", fn := fun _ => fun
  | [d1, d2] => { results := [.lit (.bool false)], args := [d1, d2] }
  | _ => none }
def ShapeKindsWrongFalsely : Prop := shapeKindsRow.holds Try.pinned (OpenSpec.ofChange shapeKindsWrong)

/-- 'besomlaw4.ShapeOne': WHATEVER THE INPUT: true; the input reads as it did. -/
def shapeOneSpec : ChangeSpec := { name := "shapeOne", fn := fun _ => fun
  | [d] => { results := [.lit (.bool true)], args := [d] }
  | _ => none }
def shapeOneRow : OpenClaim := { program := "ytpdleckflcangaa", sum := "fcadce47a8e368dd79b78bb851589c0cd80ea5f656d104399bf47f00c2667e56", func := "besom/besomlaw4.ShapeOne", spec := "shapeOne", plainKeys := false, apart := false }
def ShapeOneSaid : Prop := shapeOneRow.holds Try.pinned (OpenSpec.ofChange shapeOneSpec)

/-- ITS FALSE NEIGHBOUR: 'it returns false'. Refute it at one input. -/
def shapeOneWrong : ChangeSpec := { name := "shapeOne", fn := fun _ => fun
  | [d] => { results := [.lit (.bool false)], args := [d] }
  | _ => none }
def ShapeOneWrongFalsely : Prop := shapeOneRow.holds Try.pinned (OpenSpec.ofChange shapeOneWrong)

/-- 'besomlaw19.AskOnce': WHATEVER THE INPUT: true; the input reads as it did. -/
def askOnceSpec : ChangeSpec := { name := "askOnce", fn := fun _ => fun
  | [d1, d2] => { results := [.lit (.bool true)], args := [d1, d2] }
  | _ => none }
def askOnceRow : OpenClaim := { program := "ytpdleckflcangaa", sum := "fcadce47a8e368dd79b78bb851589c0cd80ea5f656d104399bf47f00c2667e56", func := "besom/besomlaw19.AskOnce", spec := "askOnce", plainKeys := false, apart := false }
def AskOnceSaid : Prop := askOnceRow.holds Try.pinned (OpenSpec.ofChange askOnceSpec)

/-- ITS FALSE NEIGHBOUR: 'it returns false'. Refute it at one input. -/
def askOnceWrong : ChangeSpec := { name := "askOnce", fn := fun _ => fun
  | [d1, d2] => { results := [.lit (.bool false)], args := [d1, d2] }
  | _ => none }
def AskOnceWrongFalsely : Prop := askOnceRow.holds Try.pinned (OpenSpec.ofChange askOnceWrong)

/-- 'besomlaw13.StackMoves': WHATEVER THE INPUT: true; the input reads as it did. -/
def stackMovesSpec : ChangeSpec := { name := "stackMoves", fn := fun _ => fun
  | [d1, d2, d3, d4] => { results := [.lit (.bool true)], args := [d1, d2, d3, d4] }
  | _ => none }
def stackMovesRow : OpenClaim := { program := "ytpdleckflcangaa", sum := "fcadce47a8e368dd79b78bb851589c0cd80ea5f656d104399bf47f00c2667e56", func := "besom/besomlaw13.StackMoves", spec := "stackMoves", plainKeys := false, apart := false }
def StackMovesSaid : Prop := stackMovesRow.holds Try.pinned (OpenSpec.ofChange stackMovesSpec)

/-- ITS FALSE NEIGHBOUR: 'it returns false'. Refute it at one input. -/
def stackMovesWrong : ChangeSpec := { name := "stackMoves", fn := fun _ => fun
  | [d1, d2, d3, d4] => { results := [.lit (.bool false)], args := [d1, d2, d3, d4] }
  | _ => none }
def StackMovesWrongFalsely : Prop := stackMovesRow.holds Try.pinned (OpenSpec.ofChange stackMovesWrong)

/-- 'besomlaw13.StackPlays': WHATEVER THE INPUT: true; the input reads as it did. -/
def stackPlaysSpec : ChangeSpec := { name := "stackPlays", fn := fun _ => fun
  | [d1, d2, d3, d4, d5] => { results := [.lit (.bool true)], args := [d1, d2, d3, d4, d5] }
  | _ => none }
def stackPlaysRow : OpenClaim := { program := "ytpdleckflcangaa", sum := "fcadce47a8e368dd79b78bb851589c0cd80ea5f656d104399bf47f00c2667e56", func := "besom/besomlaw13.StackPlays", spec := "stackPlays", plainKeys := false, apart := false }
def StackPlaysSaid : Prop := stackPlaysRow.holds Try.pinned (OpenSpec.ofChange stackPlaysSpec)

/-- ITS FALSE NEIGHBOUR: 'it returns false'. Refute it at one input. -/
def stackPlaysWrong : ChangeSpec := { name := "stackPlays", fn := fun _ => fun
  | [d1, d2, d3, d4, d5] => { results := [.lit (.bool false)], args := [d1, d2, d3, d4, d5] }
  | _ => none }
def StackPlaysWrongFalsely : Prop := stackPlaysRow.holds Try.pinned (OpenSpec.ofChange stackPlaysWrong)

/-- 'besomlaw4.ShapeTells': WHATEVER THE INPUT: true; the input reads as it did. -/
def shapeTellsSpec : ChangeSpec := { name := "shapeTells", fn := fun _ => fun
  | [d1, d2, d3, d4] => { results := [.lit (.bool true)], args := [d1, d2, d3, d4] }
  | _ => none }
def shapeTellsRow : OpenClaim := { program := "ytpdleckflcangaa", sum := "fcadce47a8e368dd79b78bb851589c0cd80ea5f656d104399bf47f00c2667e56", func := "besom/besomlaw4.ShapeTells", spec := "shapeTells", plainKeys := false, apart := false }
def ShapeTellsSaid : Prop := shapeTellsRow.holds Try.pinned (OpenSpec.ofChange shapeTellsSpec)

/-- ITS FALSE NEIGHBOUR: 'it returns false'. Refute it at one input. -/
def shapeTellsWrong : ChangeSpec := { name := "shapeTells", fn := fun _ => fun
  | [d1, d2, d3, d4] => { results := [.lit (.bool false)], args := [d1, d2, d3, d4] }
  | _ => none }
def ShapeTellsWrongFalsely : Prop := shapeTellsRow.holds Try.pinned (OpenSpec.ofChange shapeTellsWrong)

/- THE SECOND FORM. 'bulk': how many values and letters a reading holds, each counted each time it is reached (what is shared counts as often as it is met; a slice's spare places count too). A statement '..UptoSaid' is the law's where the arguments, and the package variables that the reading takes, are together of bulk at most 1048576: NARROWER than '..Said'. Prove '..Said' where nothing that the law and all that it calls make is longer than what came in: it says more and counts as full. Else prove '..UptoSaid'. A law counts once. -/
mutual
def uptoBulk {H : Type} : DataW H → Nat
  | .lit (.string bytes) => bytes.length + 1
  | .lit _ => 1
  | .nil => 1
  | .ptr d => uptoBulk d + 1
  | .slice elems spare => uptoBulkAll elems + uptoBulkAll spare + 1
  | .agg parts => uptoBulkAll parts + 1
  | .iface _ d => uptoBulk d + 1
  | .map entries => uptoBulkEntries entries + 1
  | .held _ => 1
def uptoBulkAll {H : Type} : List (DataW H) → Nat
  | [] => 0
  | d :: r => uptoBulk d + uptoBulkAll r
def uptoBulkEntries {H : Type} : List (Lit × DataW H) → Nat
  | [] => 0
  | x :: r => uptoBulkEntry x + uptoBulkEntries r
def uptoBulkEntry {H : Type} : Lit × DataW H → Nat
  | (.string bytes, d) => bytes.length + uptoBulk d + 1
  | (_, d) => uptoBulk d + 1
 end
def uptoSmall : (H : Type) → List (DataW H) → Bool := fun _ ds => decide (uptoBulkAll ds ≤ 1048576)
def OpenSpec.upto (s : _root_.Go.ChangeSpec) : _root_.Go.OpenSpec := { _root_.Go.OpenSpec.ofChange s with cond := some uptoSmall }

/-- 'besomlaw13.StackApart', WHERE WHAT IT READS IS OF BULK AT MOST 1048576: true; the input reads as it did. -/
def stackApartUptoRow : OpenClaim := { program := "ytpdleckflcangaa", sum := "fcadce47a8e368dd79b78bb851589c0cd80ea5f656d104399bf47f00c2667e56", func := "besom/besomlaw13.StackApart", spec := "stackApart", plainKeys := false, apart := false, narrowed := true }
def StackApartUptoSaid : Prop := stackApartUptoRow.holds Try.pinned (OpenSpec.upto stackApartSpec)

/-- 'besomlaw19.AskNext', WHERE WHAT IT READS IS OF BULK AT MOST 1048576: true; the input reads as it did. -/
def askNextUptoRow : OpenClaim := { program := "ytpdleckflcangaa", sum := "fcadce47a8e368dd79b78bb851589c0cd80ea5f656d104399bf47f00c2667e56", func := "besom/besomlaw19.AskNext", spec := "askNext", plainKeys := false, apart := false, narrowed := true }
def AskNextUptoSaid : Prop := askNextUptoRow.holds Try.pinned (OpenSpec.upto askNextSpec)

/-- 'besomlaw19.AskPlays', WHERE WHAT IT READS IS OF BULK AT MOST 1048576: true; the input reads as it did. -/
def askPlaysUptoRow : OpenClaim := { program := "ytpdleckflcangaa", sum := "fcadce47a8e368dd79b78bb851589c0cd80ea5f656d104399bf47f00c2667e56", func := "besom/besomlaw19.AskPlays", spec := "askPlays", plainKeys := false, apart := false, narrowed := true }
def AskPlaysUptoSaid : Prop := askPlaysUptoRow.holds Try.pinned (OpenSpec.upto askPlaysSpec)

/-- 'besomlaw4.ShapeKinds', WHERE WHAT IT READS IS OF BULK AT MOST 1048576: true; the input reads as it did. -/
def shapeKindsUptoRow : OpenClaim := { program := "ytpdleckflcangaa", sum := "fcadce47a8e368dd79b78bb851589c0cd80ea5f656d104399bf47f00c2667e56", func := "besom/besomlaw4.ShapeKinds", spec := "shapeKinds", plainKeys := false, apart := false, narrowed := true }
def ShapeKindsUptoSaid : Prop := shapeKindsUptoRow.holds Try.pinned (OpenSpec.upto shapeKindsSpec)

/-- 'besomlaw4.ShapeOne', WHERE WHAT IT READS IS OF BULK AT MOST 1048576: true; the input reads as it did. -/
def shapeOneUptoRow : OpenClaim := { program := "ytpdleckflcangaa", sum := "fcadce47a8e368dd79b78bb851589c0cd80ea5f656d104399bf47f00c2667e56", func := "besom/besomlaw4.ShapeOne", spec := "shapeOne", plainKeys := false, apart := false, narrowed := true }
def ShapeOneUptoSaid : Prop := shapeOneUptoRow.holds Try.pinned (OpenSpec.upto shapeOneSpec)

/-- 'besomlaw19.AskOnce', WHERE WHAT IT READS IS OF BULK AT MOST 1048576: true; the input reads as it did. -/
def askOnceUptoRow : OpenClaim := { program := "ytpdleckflcangaa", sum := "fcadce47a8e368dd79b78bb851589c0cd80ea5f656d104399bf47f00c2667e56", func := "besom/besomlaw19.AskOnce", spec := "askOnce", plainKeys := false, apart := false, narrowed := true }
def AskOnceUptoSaid : Prop := askOnceUptoRow.holds Try.pinned (OpenSpec.upto askOnceSpec)

/-- 'besomlaw13.StackMoves', WHERE WHAT IT READS IS OF BULK AT MOST 1048576: true; the input reads as it did. -/
def stackMovesUptoRow : OpenClaim := { program := "ytpdleckflcangaa", sum := "fcadce47a8e368dd79b78bb851589c0cd80ea5f656d104399bf47f00c2667e56", func := "besom/besomlaw13.StackMoves", spec := "stackMoves", plainKeys := false, apart := false, narrowed := true }
def StackMovesUptoSaid : Prop := stackMovesUptoRow.holds Try.pinned (OpenSpec.upto stackMovesSpec)

/-- 'besomlaw13.StackPlays', WHERE WHAT IT READS IS OF BULK AT MOST 1048576: true; the input reads as it did. -/
def stackPlaysUptoRow : OpenClaim := { program := "ytpdleckflcangaa", sum := "fcadce47a8e368dd79b78bb851589c0cd80ea5f656d104399bf47f00c2667e56", func := "besom/besomlaw13.StackPlays", spec := "stackPlays", plainKeys := false, apart := false, narrowed := true }
def StackPlaysUptoSaid : Prop := stackPlaysUptoRow.holds Try.pinned (OpenSpec.upto stackPlaysSpec)

/-- 'besomlaw4.ShapeTells', WHERE WHAT IT READS IS OF BULK AT MOST 1048576: true; the input reads as it did. -/
def shapeTellsUptoRow : OpenClaim := { program := "ytpdleckflcangaa", sum := "fcadce47a8e368dd79b78bb851589c0cd80ea5f656d104399bf47f00c2667e56", func := "besom/besomlaw4.ShapeTells", spec := "shapeTells", plainKeys := false, apart := false, narrowed := true }
def ShapeTellsUptoSaid : Prop := shapeTellsUptoRow.holds Try.pinned (OpenSpec.upto shapeTellsSpec)

end Rows
end Go.Proofs.Ytpdleckflcangaa
