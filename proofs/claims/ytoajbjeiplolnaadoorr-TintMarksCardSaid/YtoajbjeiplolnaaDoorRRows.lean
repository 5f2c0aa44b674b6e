/-
  NARROWER THAN 'FOR EVERY INPUT', by the rows' own cells (each row's printed sentence says how): ArenaPlays: laid · HeapSerials: laid · HeapFields: laid · HeapSweeps: laid · BrushNeeds: laid · BrushWhole: laid · TintSteps: laid · TintChain: laid · BrushPlays: laid · TintMarks: laid · TintRings: laid · TintNumbers: laid · TintLate: laid.
  DERIVED. THE GIVEN ROWS OF THIS SEAT. 13 by the template 'for every input the law returns true; each argument reads behind the call as it read before'; 0 by the template 'total and deterministic' (their statements: YtoajbjeiplolnaaDoorRTotals.lean).
  GIVEN WITH THE SEED: the statements are not yours to turn. If you find one false, say at which input.
  Laid BY PROGRAM, IN A SANDBOX (cutbox-rows.mjs): the forced cells as the released guide's own fill.sh prints them over the translation a2f32914af597401… (all of the seat's roots in one cut). By AI agents, Wed Nov 11 2026. No macro, syntax, notation, axiom, sorry.
-/
import Derived.Test.YtoajbjeiplolnaaDoorRChecked
import GoSem.Claim
import GoSem.ClaimJoined
import GoSem.ClaimMapViews
import Derived.JoinedTies
import Derived.KernelRfl
namespace Go.Proofs.YtoajbjeiplolnaaDoorR
/- THE CELL 'sum', in the pinned program and in every row, IS THE sha256 OF THE DUMP (.gsa) THAT YtoajbjeiplolnaaDoorRProg.lean LOADS. Nothing in Lean hashes anything: it is a label: what it is worth is what the hold of that sum in a sandbox is worth. -/
noncomputable def Tryd.pinned : Pinned := { name := "ytoajbjeiplolnaadoorr", sum := "a2f32914af597401cf19022530fc62a1df255d970eca7a05c9954f98db0bac7c", checked := Tryd.checked }
namespace Rows
def none {H : Type} : Left H := { results := [], args := [] }

/- WHAT THE LISTED PACKAGE-LEVEL VARIABLES READ AS WHEN THE CALL BEGINS. Each datum BY PROGRAM (the guide's laid-datum.mjs) off the statement by which the dump's own 'gosem.cut.vars' lays the variable. In a bare row this is a premise. The card (YtoajbjeiplolnaaDoorRCards.lean) ties it to the program's text. -/
def laid_math_bits_deBruijn32tab {H : Type} : DataW H := .agg [.lit (.int .u8 0), .lit (.int .u8 1), .lit (.int .u8 28), .lit (.int .u8 2), .lit (.int .u8 29), .lit (.int .u8 14), .lit (.int .u8 24), .lit (.int .u8 3), .lit (.int .u8 30), .lit (.int .u8 22), .lit (.int .u8 20), .lit (.int .u8 15), .lit (.int .u8 25), .lit (.int .u8 17), .lit (.int .u8 4), .lit (.int .u8 8), .lit (.int .u8 31), .lit (.int .u8 27), .lit (.int .u8 13), .lit (.int .u8 23), .lit (.int .u8 21), .lit (.int .u8 19), .lit (.int .u8 16), .lit (.int .u8 7), .lit (.int .u8 26), .lit (.int .u8 12), .lit (.int .u8 18), .lit (.int .u8 6), .lit (.int .u8 11), .lit (.int .u8 5), .lit (.int .u8 10), .lit (.int .u8 9)]
def laid_math_bits_deBruijn64tab {H : Type} : DataW H := .agg [.lit (.int .u8 0), .lit (.int .u8 1), .lit (.int .u8 56), .lit (.int .u8 2), .lit (.int .u8 57), .lit (.int .u8 49), .lit (.int .u8 28), .lit (.int .u8 3), .lit (.int .u8 61), .lit (.int .u8 58), .lit (.int .u8 42), .lit (.int .u8 50), .lit (.int .u8 38), .lit (.int .u8 29), .lit (.int .u8 17), .lit (.int .u8 4), .lit (.int .u8 62), .lit (.int .u8 47), .lit (.int .u8 59), .lit (.int .u8 36), .lit (.int .u8 45), .lit (.int .u8 43), .lit (.int .u8 51), .lit (.int .u8 22), .lit (.int .u8 53), .lit (.int .u8 39), .lit (.int .u8 33), .lit (.int .u8 30), .lit (.int .u8 24), .lit (.int .u8 18), .lit (.int .u8 12), .lit (.int .u8 5), .lit (.int .u8 63), .lit (.int .u8 55), .lit (.int .u8 48), .lit (.int .u8 27), .lit (.int .u8 60), .lit (.int .u8 41), .lit (.int .u8 37), .lit (.int .u8 16), .lit (.int .u8 46), .lit (.int .u8 35), .lit (.int .u8 44), .lit (.int .u8 21), .lit (.int .u8 52), .lit (.int .u8 32), .lit (.int .u8 23), .lit (.int .u8 11), .lit (.int .u8 54), .lit (.int .u8 26), .lit (.int .u8 40), .lit (.int .u8 15), .lit (.int .u8 34), .lit (.int .u8 20), .lit (.int .u8 31), .lit (.int .u8 10), .lit (.int .u8 25), .lit (.int .u8 14), .lit (.int .u8 19), .lit (.int .u8 9), .lit (.int .u8 13), .lit (.int .u8 8), .lit (.int .u8 7), .lit (.int .u8 6)]

/-- 'besomlaw6.ArenaPlays': WHATEVER THE INPUT: true; the input reads as it did. -/
def arenaPlaysSpec : ChangeSpec := { name := "arenaPlays", fn := fun _ => fun
  | [d1, d2, d3, d4, d5] => { results := [.lit (.bool true)], args := [d1, d2, d3, d4, d5] }
  | _ => none }
def arenaPlaysRow : OpenClaim := { program := "ytoajbjeiplolnaadoorr", sum := "a2f32914af597401cf19022530fc62a1df255d970eca7a05c9954f98db0bac7c", func := "besom/besomlaw6.ArenaPlays", spec := "arenaPlays", named := ["math/bits.deBruijn32tab"], plainKeys := false, apart := false, laid := [("math/bits.deBruijn32tab", laid_math_bits_deBruijn32tab)] }
def ArenaPlaysSaid : Prop := arenaPlaysRow.holds Tryd.pinned (OpenSpec.ofChange arenaPlaysSpec)

/-- ITS FALSE NEIGHBOUR: 'it returns false'. Refute it at one input. -/
def arenaPlaysWrong : ChangeSpec := { name := "arenaPlays", fn := fun _ => fun
  | [d1, d2, d3, d4, d5] => { results := [.lit (.bool false)], args := [d1, d2, d3, d4, d5] }
  | _ => none }
def ArenaPlaysWrongFalsely : Prop := arenaPlaysRow.holds Tryd.pinned (OpenSpec.ofChange arenaPlaysWrong)

/-- 'besomlaw7.HeapSerials': WHATEVER THE INPUT: true; the input reads as it did. -/
def heapSerialsSpec : ChangeSpec := { name := "heapSerials", fn := fun _ => fun
  | [d1, d2] => { results := [.lit (.bool true)], args := [d1, d2] }
  | _ => none }
def heapSerialsRow : OpenClaim := { program := "ytoajbjeiplolnaadoorr", sum := "a2f32914af597401cf19022530fc62a1df255d970eca7a05c9954f98db0bac7c", func := "besom/besomlaw7.HeapSerials", spec := "heapSerials", named := ["math/bits.deBruijn32tab"], plainKeys := false, apart := false, laid := [("math/bits.deBruijn32tab", laid_math_bits_deBruijn32tab)] }
def HeapSerialsSaid : Prop := heapSerialsRow.holds Tryd.pinned (OpenSpec.ofChange heapSerialsSpec)

/-- ITS FALSE NEIGHBOUR: 'it returns false'. Refute it at one input. -/
def heapSerialsWrong : ChangeSpec := { name := "heapSerials", fn := fun _ => fun
  | [d1, d2] => { results := [.lit (.bool false)], args := [d1, d2] }
  | _ => none }
def HeapSerialsWrongFalsely : Prop := heapSerialsRow.holds Tryd.pinned (OpenSpec.ofChange heapSerialsWrong)

/-- 'besomlaw7.HeapFields': WHATEVER THE INPUT: true; the input reads as it did. -/
def heapFieldsSpec : ChangeSpec := { name := "heapFields", fn := fun _ => fun
  | [d1, d2, d3] => { results := [.lit (.bool true)], args := [d1, d2, d3] }
  | _ => none }
def heapFieldsRow : OpenClaim := { program := "ytoajbjeiplolnaadoorr", sum := "a2f32914af597401cf19022530fc62a1df255d970eca7a05c9954f98db0bac7c", func := "besom/besomlaw7.HeapFields", spec := "heapFields", named := ["math/bits.deBruijn32tab"], plainKeys := false, apart := false, laid := [("math/bits.deBruijn32tab", laid_math_bits_deBruijn32tab)] }
def HeapFieldsSaid : Prop := heapFieldsRow.holds Tryd.pinned (OpenSpec.ofChange heapFieldsSpec)

/-- ITS FALSE NEIGHBOUR: 'it returns false'. Refute it at one input. -/
def heapFieldsWrong : ChangeSpec := { name := "heapFields", fn := fun _ => fun
  | [d1, d2, d3] => { results := [.lit (.bool false)], args := [d1, d2, d3] }
  | _ => none }
def HeapFieldsWrongFalsely : Prop := heapFieldsRow.holds Tryd.pinned (OpenSpec.ofChange heapFieldsWrong)

/-- 'besomlaw7.HeapSweeps': WHATEVER THE INPUT: true; the input reads as it did. -/
def heapSweepsSpec : ChangeSpec := { name := "heapSweeps", fn := fun _ => fun
  | [d1, d2, d3] => { results := [.lit (.bool true)], args := [d1, d2, d3] }
  | _ => none }
def heapSweepsRow : OpenClaim := { program := "ytoajbjeiplolnaadoorr", sum := "a2f32914af597401cf19022530fc62a1df255d970eca7a05c9954f98db0bac7c", func := "besom/besomlaw7.HeapSweeps", spec := "heapSweeps", named := ["math/bits.deBruijn32tab"], plainKeys := false, apart := false, laid := [("math/bits.deBruijn32tab", laid_math_bits_deBruijn32tab)] }
def HeapSweepsSaid : Prop := heapSweepsRow.holds Tryd.pinned (OpenSpec.ofChange heapSweepsSpec)

/-- ITS FALSE NEIGHBOUR: 'it returns false'. Refute it at one input. -/
def heapSweepsWrong : ChangeSpec := { name := "heapSweeps", fn := fun _ => fun
  | [d1, d2, d3] => { results := [.lit (.bool false)], args := [d1, d2, d3] }
  | _ => none }
def HeapSweepsWrongFalsely : Prop := heapSweepsRow.holds Tryd.pinned (OpenSpec.ofChange heapSweepsWrong)

/-- 'besomlaw21.BrushNeeds': WHATEVER THE INPUT: true; the input reads as it did. -/
def brushNeedsSpec : ChangeSpec := { name := "brushNeeds", fn := fun _ => fun
  | [d1, d2, d3] => { results := [.lit (.bool true)], args := [d1, d2, d3] }
  | _ => none }
def brushNeedsRow : OpenClaim := { program := "ytoajbjeiplolnaadoorr", sum := "a2f32914af597401cf19022530fc62a1df255d970eca7a05c9954f98db0bac7c", func := "besom/besomlaw21.BrushNeeds", spec := "brushNeeds", named := ["math/bits.deBruijn64tab", "math/bits.deBruijn32tab"], plainKeys := false, apart := false, laid := [("math/bits.deBruijn32tab", laid_math_bits_deBruijn32tab), ("math/bits.deBruijn64tab", laid_math_bits_deBruijn64tab)] }
def BrushNeedsSaid : Prop := brushNeedsRow.holds Tryd.pinned (OpenSpec.ofChange brushNeedsSpec)

/-- ITS FALSE NEIGHBOUR: 'it returns false'. Refute it at one input. -/
def brushNeedsWrong : ChangeSpec := { name := "brushNeeds", fn := fun _ => fun
  | [d1, d2, d3] => { results := [.lit (.bool false)], args := [d1, d2, d3] }
  | _ => none }
def BrushNeedsWrongFalsely : Prop := brushNeedsRow.holds Tryd.pinned (OpenSpec.ofChange brushNeedsWrong)

/-- 'besomlaw21.BrushWhole': WHATEVER THE INPUT: true; the input reads as it did. -/
def brushWholeSpec : ChangeSpec := { name := "brushWhole", fn := fun _ => fun
  | [d1, d2, d3, d4] => { results := [.lit (.bool true)], args := [d1, d2, d3, d4] }
  | _ => none }
def brushWholeRow : OpenClaim := { program := "ytoajbjeiplolnaadoorr", sum := "a2f32914af597401cf19022530fc62a1df255d970eca7a05c9954f98db0bac7c", func := "besom/besomlaw21.BrushWhole", spec := "brushWhole", named := ["math/bits.deBruijn64tab", "math/bits.deBruijn32tab"], plainKeys := false, apart := false, laid := [("math/bits.deBruijn32tab", laid_math_bits_deBruijn32tab), ("math/bits.deBruijn64tab", laid_math_bits_deBruijn64tab)] }
def BrushWholeSaid : Prop := brushWholeRow.holds Tryd.pinned (OpenSpec.ofChange brushWholeSpec)

/-- ITS FALSE NEIGHBOUR: 'it returns false'. Refute it at one input. -/
def brushWholeWrong : ChangeSpec := { name := "brushWhole", fn := fun _ => fun
  | [d1, d2, d3, d4] => { results := [.lit (.bool false)], args := [d1, d2, d3, d4] }
  | _ => none }
def BrushWholeWrongFalsely : Prop := brushWholeRow.holds Tryd.pinned (OpenSpec.ofChange brushWholeWrong)

/-- 'besomlaw20.TintSteps': WHATEVER THE INPUT: true; the input reads as it did. -/
def tintStepsSpec : ChangeSpec := { name := "tintSteps", fn := fun _ => fun
  | [d1, d2, d3, d4, d5] => { results := [.lit (.bool true)], args := [d1, d2, d3, d4, d5] }
  | _ => none }
def tintStepsRow : OpenClaim := { program := "ytoajbjeiplolnaadoorr", sum := "a2f32914af597401cf19022530fc62a1df255d970eca7a05c9954f98db0bac7c", func := "besom/besomlaw20.TintSteps", spec := "tintSteps", named := ["math/bits.deBruijn32tab"], plainKeys := false, apart := false, laid := [("math/bits.deBruijn32tab", laid_math_bits_deBruijn32tab)] }
def TintStepsSaid : Prop := tintStepsRow.holds Tryd.pinned (OpenSpec.ofChange tintStepsSpec)

/-- ITS FALSE NEIGHBOUR: 'it returns false'. Refute it at one input. -/
def tintStepsWrong : ChangeSpec := { name := "tintSteps", fn := fun _ => fun
  | [d1, d2, d3, d4, d5] => { results := [.lit (.bool false)], args := [d1, d2, d3, d4, d5] }
  | _ => none }
def TintStepsWrongFalsely : Prop := tintStepsRow.holds Tryd.pinned (OpenSpec.ofChange tintStepsWrong)

/-- 'besomlaw20.TintChain': WHATEVER THE INPUT: true; the input reads as it did. -/
def tintChainSpec : ChangeSpec := { name := "tintChain", fn := fun _ => fun
  | [d1, d2, d3] => { results := [.lit (.bool true)], args := [d1, d2, d3] }
  | _ => none }
def tintChainRow : OpenClaim := { program := "ytoajbjeiplolnaadoorr", sum := "a2f32914af597401cf19022530fc62a1df255d970eca7a05c9954f98db0bac7c", func := "besom/besomlaw20.TintChain", spec := "tintChain", named := ["math/bits.deBruijn32tab"], plainKeys := false, apart := false, laid := [("math/bits.deBruijn32tab", laid_math_bits_deBruijn32tab)] }
def TintChainSaid : Prop := tintChainRow.holds Tryd.pinned (OpenSpec.ofChange tintChainSpec)

/-- ITS FALSE NEIGHBOUR: 'it returns false'. Refute it at one input. -/
def tintChainWrong : ChangeSpec := { name := "tintChain", fn := fun _ => fun
  | [d1, d2, d3] => { results := [.lit (.bool false)], args := [d1, d2, d3] }
  | _ => none }
def TintChainWrongFalsely : Prop := tintChainRow.holds Tryd.pinned (OpenSpec.ofChange tintChainWrong)

/-- 'besomlaw21.BrushPlays': WHATEVER THE INPUT: true; the input reads as it did. -/
def brushPlaysSpec : ChangeSpec := { name := "brushPlays", fn := fun _ => fun
  | [d1, d2, d3] => { results := [.lit (.bool true)], args := [d1, d2, d3] }
  | _ => none }
def brushPlaysRow : OpenClaim := { program := "ytoajbjeiplolnaadoorr", sum := "a2f32914af597401cf19022530fc62a1df255d970eca7a05c9954f98db0bac7c", func := "besom/besomlaw21.BrushPlays", spec := "brushPlays", named := ["math/bits.deBruijn64tab", "math/bits.deBruijn32tab"], plainKeys := false, apart := false, laid := [("math/bits.deBruijn32tab", laid_math_bits_deBruijn32tab), ("math/bits.deBruijn64tab", laid_math_bits_deBruijn64tab)] }
def BrushPlaysSaid : Prop := brushPlaysRow.holds Tryd.pinned (OpenSpec.ofChange brushPlaysSpec)

/-- ITS FALSE NEIGHBOUR: 'it returns false'. Refute it at one input. -/
def brushPlaysWrong : ChangeSpec := { name := "brushPlays", fn := fun _ => fun
  | [d1, d2, d3] => { results := [.lit (.bool false)], args := [d1, d2, d3] }
  | _ => none }
def BrushPlaysWrongFalsely : Prop := brushPlaysRow.holds Tryd.pinned (OpenSpec.ofChange brushPlaysWrong)

/-- 'besomlaw20.TintMarks': WHATEVER THE INPUT: true; the input reads as it did. -/
def tintMarksSpec : ChangeSpec := { name := "tintMarks", fn := fun _ => fun
  | [d1, d2, d3, d4, d5] => { results := [.lit (.bool true)], args := [d1, d2, d3, d4, d5] }
  | _ => none }
def tintMarksRow : OpenClaim := { program := "ytoajbjeiplolnaadoorr", sum := "a2f32914af597401cf19022530fc62a1df255d970eca7a05c9954f98db0bac7c", func := "besom/besomlaw20.TintMarks", spec := "tintMarks", named := ["math/bits.deBruijn32tab"], plainKeys := false, apart := false, laid := [("math/bits.deBruijn32tab", laid_math_bits_deBruijn32tab)] }
def TintMarksSaid : Prop := tintMarksRow.holds Tryd.pinned (OpenSpec.ofChange tintMarksSpec)

/-- ITS FALSE NEIGHBOUR: 'it returns false'. Refute it at one input. -/
def tintMarksWrong : ChangeSpec := { name := "tintMarks", fn := fun _ => fun
  | [d1, d2, d3, d4, d5] => { results := [.lit (.bool false)], args := [d1, d2, d3, d4, d5] }
  | _ => none }
def TintMarksWrongFalsely : Prop := tintMarksRow.holds Tryd.pinned (OpenSpec.ofChange tintMarksWrong)

/-- 'besomlaw20.TintRings': WHATEVER THE INPUT: true; the input reads as it did. -/
def tintRingsSpec : ChangeSpec := { name := "tintRings", fn := fun _ => fun
  | [d1, d2, d3] => { results := [.lit (.bool true)], args := [d1, d2, d3] }
  | _ => none }
def tintRingsRow : OpenClaim := { program := "ytoajbjeiplolnaadoorr", sum := "a2f32914af597401cf19022530fc62a1df255d970eca7a05c9954f98db0bac7c", func := "besom/besomlaw20.TintRings", spec := "tintRings", named := ["math/bits.deBruijn32tab"], plainKeys := false, apart := false, laid := [("math/bits.deBruijn32tab", laid_math_bits_deBruijn32tab)] }
def TintRingsSaid : Prop := tintRingsRow.holds Tryd.pinned (OpenSpec.ofChange tintRingsSpec)

/-- ITS FALSE NEIGHBOUR: 'it returns false'. Refute it at one input. -/
def tintRingsWrong : ChangeSpec := { name := "tintRings", fn := fun _ => fun
  | [d1, d2, d3] => { results := [.lit (.bool false)], args := [d1, d2, d3] }
  | _ => none }
def TintRingsWrongFalsely : Prop := tintRingsRow.holds Tryd.pinned (OpenSpec.ofChange tintRingsWrong)

/-- 'besomlaw20.TintNumbers': WHATEVER THE INPUT: true; the input reads as it did. -/
def tintNumbersSpec : ChangeSpec := { name := "tintNumbers", fn := fun _ => fun
  | [d] => { results := [.lit (.bool true)], args := [d] }
  | _ => none }
def tintNumbersRow : OpenClaim := { program := "ytoajbjeiplolnaadoorr", sum := "a2f32914af597401cf19022530fc62a1df255d970eca7a05c9954f98db0bac7c", func := "besom/besomlaw20.TintNumbers", spec := "tintNumbers", named := ["math/bits.deBruijn32tab"], plainKeys := false, apart := false, laid := [("math/bits.deBruijn32tab", laid_math_bits_deBruijn32tab)] }
def TintNumbersSaid : Prop := tintNumbersRow.holds Tryd.pinned (OpenSpec.ofChange tintNumbersSpec)

/-- ITS FALSE NEIGHBOUR: 'it returns false'. Refute it at one input. -/
def tintNumbersWrong : ChangeSpec := { name := "tintNumbers", fn := fun _ => fun
  | [d] => { results := [.lit (.bool false)], args := [d] }
  | _ => none }
def TintNumbersWrongFalsely : Prop := tintNumbersRow.holds Tryd.pinned (OpenSpec.ofChange tintNumbersWrong)

/-- 'besomlaw20.TintLate': WHATEVER THE INPUT: true; the input reads as it did. -/
def tintLateSpec : ChangeSpec := { name := "tintLate", fn := fun _ => fun
  | [d1, d2, d3, d4, d5] => { results := [.lit (.bool true)], args := [d1, d2, d3, d4, d5] }
  | _ => none }
def tintLateRow : OpenClaim := { program := "ytoajbjeiplolnaadoorr", sum := "a2f32914af597401cf19022530fc62a1df255d970eca7a05c9954f98db0bac7c", func := "besom/besomlaw20.TintLate", spec := "tintLate", named := ["math/bits.deBruijn32tab"], plainKeys := false, apart := false, laid := [("math/bits.deBruijn32tab", laid_math_bits_deBruijn32tab)] }
def TintLateSaid : Prop := tintLateRow.holds Tryd.pinned (OpenSpec.ofChange tintLateSpec)

/-- ITS FALSE NEIGHBOUR: 'it returns false'. Refute it at one input. -/
def tintLateWrong : ChangeSpec := { name := "tintLate", fn := fun _ => fun
  | [d1, d2, d3, d4, d5] => { results := [.lit (.bool false)], args := [d1, d2, d3, d4, d5] }
  | _ => none }
def TintLateWrongFalsely : Prop := tintLateRow.holds Tryd.pinned (OpenSpec.ofChange tintLateWrong)

/- THE SECOND FORM. 'bulk': how many values and letters a reading holds, each counted each time it is reached (what is shared counts as often as it is met; a slice's spare places count too). A statement '..UptoSaid' is the law's where the arguments, and the package variables that the reading takes, are together of bulk at most 1048576: NARROWER than '..Said'. Prove '..Said' where nothing that the law and all that it calls make is longer than what came in: it says more and counts as full. Else prove '..UptoSaid'. A law counts once. -/
mutual
def uptoBulk {H : Type} : DataW H → Nat
  | .lit (.string bytes) => bytes.length + 1
  | .lit _ => 1
  | .nil => 1
  | .ptr d => uptoBulk d + 1
  | .slice elems spare => uptoBulkAll elems + uptoBulkAll spare + 1
  | .agg parts => uptoBulkAll parts + 1
  | .iface _ d => uptoBulk d + 1
  | .map entries => uptoBulkEntries entries + 1
  | .held _ => 1
def uptoBulkAll {H : Type} : List (DataW H) → Nat
  | [] => 0
  | d :: r => uptoBulk d + uptoBulkAll r
def uptoBulkEntries {H : Type} : List (Lit × DataW H) → Nat
  | [] => 0
  | x :: r => uptoBulkEntry x + uptoBulkEntries r
def uptoBulkEntry {H : Type} : Lit × DataW H → Nat
  | (.string bytes, d) => bytes.length + uptoBulk d + 1
  | (_, d) => uptoBulk d + 1
 end
def uptoSmall : (H : Type) → List (DataW H) → Bool := fun _ ds => decide (uptoBulkAll ds ≤ 1048576)
def OpenSpec.upto (s : _root_.Go.ChangeSpec) : _root_.Go.OpenSpec := { _root_.Go.OpenSpec.ofChange s with cond := some uptoSmall }

/-- 'besomlaw6.ArenaPlays', WHERE WHAT IT READS IS OF BULK AT MOST 1048576: true; the input reads as it did. -/
def arenaPlaysUptoRow : OpenClaim := { program := "ytoajbjeiplolnaadoorr", sum := "a2f32914af597401cf19022530fc62a1df255d970eca7a05c9954f98db0bac7c", func := "besom/besomlaw6.ArenaPlays", spec := "arenaPlays", named := ["math/bits.deBruijn32tab"], plainKeys := false, apart := false, laid := [("math/bits.deBruijn32tab", laid_math_bits_deBruijn32tab)], narrowed := true }
def ArenaPlaysUptoSaid : Prop := arenaPlaysUptoRow.holds Tryd.pinned (OpenSpec.upto arenaPlaysSpec)

/-- 'besomlaw7.HeapSerials', WHERE WHAT IT READS IS OF BULK AT MOST 1048576: true; the input reads as it did. -/
def heapSerialsUptoRow : OpenClaim := { program := "ytoajbjeiplolnaadoorr", sum := "a2f32914af597401cf19022530fc62a1df255d970eca7a05c9954f98db0bac7c", func := "besom/besomlaw7.HeapSerials", spec := "heapSerials", named := ["math/bits.deBruijn32tab"], plainKeys := false, apart := false, laid := [("math/bits.deBruijn32tab", laid_math_bits_deBruijn32tab)], narrowed := true }
def HeapSerialsUptoSaid : Prop := heapSerialsUptoRow.holds Tryd.pinned (OpenSpec.upto heapSerialsSpec)

/-- 'besomlaw7.HeapFields', WHERE WHAT IT READS IS OF BULK AT MOST 1048576: true; the input reads as it did. -/
def heapFieldsUptoRow : OpenClaim := { program := "ytoajbjeiplolnaadoorr", sum := "a2f32914af597401cf19022530fc62a1df255d970eca7a05c9954f98db0bac7c", func := "besom/besomlaw7.HeapFields", spec := "heapFields", named := ["math/bits.deBruijn32tab"], plainKeys := false, apart := false, laid := [("math/bits.deBruijn32tab", laid_math_bits_deBruijn32tab)], narrowed := true }
def HeapFieldsUptoSaid : Prop := heapFieldsUptoRow.holds Tryd.pinned (OpenSpec.upto heapFieldsSpec)

/-- 'besomlaw7.HeapSweeps', WHERE WHAT IT READS IS OF BULK AT MOST 1048576: true; the input reads as it did. -/
def heapSweepsUptoRow : OpenClaim := { program := "ytoajbjeiplolnaadoorr", sum := "a2f32914af597401cf19022530fc62a1df255d970eca7a05c9954f98db0bac7c", func := "besom/besomlaw7.HeapSweeps", spec := "heapSweeps", named := ["math/bits.deBruijn32tab"], plainKeys := false, apart := false, laid := [("math/bits.deBruijn32tab", laid_math_bits_deBruijn32tab)], narrowed := true }
def HeapSweepsUptoSaid : Prop := heapSweepsUptoRow.holds Tryd.pinned (OpenSpec.upto heapSweepsSpec)

/-- 'besomlaw21.BrushNeeds', WHERE WHAT IT READS IS OF BULK AT MOST 1048576: true; the input reads as it did. -/
def brushNeedsUptoRow : OpenClaim := { program := "ytoajbjeiplolnaadoorr", sum := "a2f32914af597401cf19022530fc62a1df255d970eca7a05c9954f98db0bac7c", func := "besom/besomlaw21.BrushNeeds", spec := "brushNeeds", named := ["math/bits.deBruijn64tab", "math/bits.deBruijn32tab"], plainKeys := false, apart := false, laid := [("math/bits.deBruijn32tab", laid_math_bits_deBruijn32tab), ("math/bits.deBruijn64tab", laid_math_bits_deBruijn64tab)], narrowed := true }
def BrushNeedsUptoSaid : Prop := brushNeedsUptoRow.holds Tryd.pinned (OpenSpec.upto brushNeedsSpec)

/-- 'besomlaw21.BrushWhole', WHERE WHAT IT READS IS OF BULK AT MOST 1048576: true; the input reads as it did. -/
def brushWholeUptoRow : OpenClaim := { program := "ytoajbjeiplolnaadoorr", sum := "a2f32914af597401cf19022530fc62a1df255d970eca7a05c9954f98db0bac7c", func := "besom/besomlaw21.BrushWhole", spec := "brushWhole", named := ["math/bits.deBruijn64tab", "math/bits.deBruijn32tab"], plainKeys := false, apart := false, laid := [("math/bits.deBruijn32tab", laid_math_bits_deBruijn32tab), ("math/bits.deBruijn64tab", laid_math_bits_deBruijn64tab)], narrowed := true }
def BrushWholeUptoSaid : Prop := brushWholeUptoRow.holds Tryd.pinned (OpenSpec.upto brushWholeSpec)

/-- 'besomlaw20.TintSteps', WHERE WHAT IT READS IS OF BULK AT MOST 1048576: true; the input reads as it did. -/
def tintStepsUptoRow : OpenClaim := { program := "ytoajbjeiplolnaadoorr", sum := "a2f32914af597401cf19022530fc62a1df255d970eca7a05c9954f98db0bac7c", func := "besom/besomlaw20.TintSteps", spec := "tintSteps", named := ["math/bits.deBruijn32tab"], plainKeys := false, apart := false, laid := [("math/bits.deBruijn32tab", laid_math_bits_deBruijn32tab)], narrowed := true }
def TintStepsUptoSaid : Prop := tintStepsUptoRow.holds Tryd.pinned (OpenSpec.upto tintStepsSpec)

/-- 'besomlaw20.TintChain', WHERE WHAT IT READS IS OF BULK AT MOST 1048576: true; the input reads as it did. -/
def tintChainUptoRow : OpenClaim := { program := "ytoajbjeiplolnaadoorr", sum := "a2f32914af597401cf19022530fc62a1df255d970eca7a05c9954f98db0bac7c", func := "besom/besomlaw20.TintChain", spec := "tintChain", named := ["math/bits.deBruijn32tab"], plainKeys := false, apart := false, laid := [("math/bits.deBruijn32tab", laid_math_bits_deBruijn32tab)], narrowed := true }
def TintChainUptoSaid : Prop := tintChainUptoRow.holds Tryd.pinned (OpenSpec.upto tintChainSpec)

/-- 'besomlaw21.BrushPlays', WHERE WHAT IT READS IS OF BULK AT MOST 1048576: true; the input reads as it did. -/
def brushPlaysUptoRow : OpenClaim := { program := "ytoajbjeiplolnaadoorr", sum := "a2f32914af597401cf19022530fc62a1df255d970eca7a05c9954f98db0bac7c", func := "besom/besomlaw21.BrushPlays", spec := "brushPlays", named := ["math/bits.deBruijn64tab", "math/bits.deBruijn32tab"], plainKeys := false, apart := false, laid := [("math/bits.deBruijn32tab", laid_math_bits_deBruijn32tab), ("math/bits.deBruijn64tab", laid_math_bits_deBruijn64tab)], narrowed := true }
def BrushPlaysUptoSaid : Prop := brushPlaysUptoRow.holds Tryd.pinned (OpenSpec.upto brushPlaysSpec)

/-- 'besomlaw20.TintMarks', WHERE WHAT IT READS IS OF BULK AT MOST 1048576: true; the input reads as it did. -/
def tintMarksUptoRow : OpenClaim := { program := "ytoajbjeiplolnaadoorr", sum := "a2f32914af597401cf19022530fc62a1df255d970eca7a05c9954f98db0bac7c", func := "besom/besomlaw20.TintMarks", spec := "tintMarks", named := ["math/bits.deBruijn32tab"], plainKeys := false, apart := false, laid := [("math/bits.deBruijn32tab", laid_math_bits_deBruijn32tab)], narrowed := true }
def TintMarksUptoSaid : Prop := tintMarksUptoRow.holds Tryd.pinned (OpenSpec.upto tintMarksSpec)

/-- 'besomlaw20.TintRings', WHERE WHAT IT READS IS OF BULK AT MOST 1048576: true; the input reads as it did. -/
def tintRingsUptoRow : OpenClaim := { program := "ytoajbjeiplolnaadoorr", sum := "a2f32914af597401cf19022530fc62a1df255d970eca7a05c9954f98db0bac7c", func := "besom/besomlaw20.TintRings", spec := "tintRings", named := ["math/bits.deBruijn32tab"], plainKeys := false, apart := false, laid := [("math/bits.deBruijn32tab", laid_math_bits_deBruijn32tab)], narrowed := true }
def TintRingsUptoSaid : Prop := tintRingsUptoRow.holds Tryd.pinned (OpenSpec.upto tintRingsSpec)

/-- 'besomlaw20.TintNumbers', WHERE WHAT IT READS IS OF BULK AT MOST 1048576: true; the input reads as it did. -/
def tintNumbersUptoRow : OpenClaim := { program := "ytoajbjeiplolnaadoorr", sum := "a2f32914af597401cf19022530fc62a1df255d970eca7a05c9954f98db0bac7c", func := "besom/besomlaw20.TintNumbers", spec := "tintNumbers", named := ["math/bits.deBruijn32tab"], plainKeys := false, apart := false, laid := [("math/bits.deBruijn32tab", laid_math_bits_deBruijn32tab)], narrowed := true }
def TintNumbersUptoSaid : Prop := tintNumbersUptoRow.holds Tryd.pinned (OpenSpec.upto tintNumbersSpec)

/-- 'besomlaw20.TintLate', WHERE WHAT IT READS IS OF BULK AT MOST 1048576: true; the input reads as it did. -/
def tintLateUptoRow : OpenClaim := { program := "ytoajbjeiplolnaadoorr", sum := "a2f32914af597401cf19022530fc62a1df255d970eca7a05c9954f98db0bac7c", func := "besom/besomlaw20.TintLate", spec := "tintLate", named := ["math/bits.deBruijn32tab"], plainKeys := false, apart := false, laid := [("math/bits.deBruijn32tab", laid_math_bits_deBruijn32tab)], narrowed := true }
def TintLateUptoSaid : Prop := tintLateUptoRow.holds Tryd.pinned (OpenSpec.upto tintLateSpec)

end Rows
end Go.Proofs.YtoajbjeiplolnaaDoorR
