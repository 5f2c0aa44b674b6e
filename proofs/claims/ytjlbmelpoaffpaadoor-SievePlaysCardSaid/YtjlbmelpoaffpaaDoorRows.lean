/-
  NARROWER THAN 'FOR EVERY INPUT', by the rows' own cells (each row's printed sentence says how): SieveMasks: laid · SieveSteps: laid · SieveTwice: laid · SievePlays: laid · ArenaInside: laid · ArenaPages: laid · ArenaPlays: laid.
  DERIVED. THE GIVEN ROWS OF THIS SEAT. 7 by the template 'for every input the law returns true; each argument reads behind the call as it read before'; 0 by the template 'total and deterministic' (their statements: YtjlbmelpoaffpaaDoorTotals.lean).
  GIVEN WITH THE SEED: the statements are not yours to turn. If you find one false, say at which input.
  Laid BY PROGRAM, IN A SANDBOX (cutbox-rows.mjs): the forced cells as the released guide's own fill.sh prints them over the translation 1669866be15e5cd7… (all of the seat's roots in one cut). By AI agents, Wed Nov 11 2026. No macro, syntax, notation, axiom, sorry.
-/
import Derived.Test.YtjlbmelpoaffpaaDoorChecked
import GoSem.Claim
import GoSem.ClaimJoined
import GoSem.ClaimMapViews
import Derived.JoinedTies
import Derived.KernelRfl
namespace Go.Proofs.YtjlbmelpoaffpaaDoor
/- THE CELL 'sum', in the pinned program and in every row, IS THE sha256 OF THE DUMP (.gsa) THAT YtjlbmelpoaffpaaDoorProg.lean LOADS. Nothing in Lean hashes anything: it is a label: what it is worth is what the hold of that sum in a sandbox is worth. -/
noncomputable def Tryd.pinned : Pinned := { name := "ytjlbmelpoaffpaadoor", sum := "1669866be15e5cd7d696e0cef577f558cab314ae1221ee9c9c7e0f40cdbf9a82", checked := Tryd.checked }
namespace Rows
def none {H : Type} : Left H := { results := [], args := [] }

/- WHAT THE LISTED PACKAGE-LEVEL VARIABLES READ AS WHEN THE CALL BEGINS. Each datum BY PROGRAM (the guide's laid-datum.mjs) off the statement by which the dump's own 'gosem.cut.vars' lays the variable. In a bare row this is a premise. The card (YtjlbmelpoaffpaaDoorCards.lean) ties it to the program's text. -/
def laid_math_bits_deBruijn64tab {H : Type} : DataW H := .agg [.lit (.int .u8 0), .lit (.int .u8 1), .lit (.int .u8 56), .lit (.int .u8 2), .lit (.int .u8 57), .lit (.int .u8 49), .lit (.int .u8 28), .lit (.int .u8 3), .lit (.int .u8 61), .lit (.int .u8 58), .lit (.int .u8 42), .lit (.int .u8 50), .lit (.int .u8 38), .lit (.int .u8 29), .lit (.int .u8 17), .lit (.int .u8 4), .lit (.int .u8 62), .lit (.int .u8 47), .lit (.int .u8 59), .lit (.int .u8 36), .lit (.int .u8 45), .lit (.int .u8 43), .lit (.int .u8 51), .lit (.int .u8 22), .lit (.int .u8 53), .lit (.int .u8 39), .lit (.int .u8 33), .lit (.int .u8 30), .lit (.int .u8 24), .lit (.int .u8 18), .lit (.int .u8 12), .lit (.int .u8 5), .lit (.int .u8 63), .lit (.int .u8 55), .lit (.int .u8 48), .lit (.int .u8 27), .lit (.int .u8 60), .lit (.int .u8 41), .lit (.int .u8 37), .lit (.int .u8 16), .lit (.int .u8 46), .lit (.int .u8 35), .lit (.int .u8 44), .lit (.int .u8 21), .lit (.int .u8 52), .lit (.int .u8 32), .lit (.int .u8 23), .lit (.int .u8 11), .lit (.int .u8 54), .lit (.int .u8 26), .lit (.int .u8 40), .lit (.int .u8 15), .lit (.int .u8 34), .lit (.int .u8 20), .lit (.int .u8 31), .lit (.int .u8 10), .lit (.int .u8 25), .lit (.int .u8 14), .lit (.int .u8 19), .lit (.int .u8 9), .lit (.int .u8 13), .lit (.int .u8 8), .lit (.int .u8 7), .lit (.int .u8 6)]
def laid_math_bits_deBruijn32tab {H : Type} : DataW H := .agg [.lit (.int .u8 0), .lit (.int .u8 1), .lit (.int .u8 28), .lit (.int .u8 2), .lit (.int .u8 29), .lit (.int .u8 14), .lit (.int .u8 24), .lit (.int .u8 3), .lit (.int .u8 30), .lit (.int .u8 22), .lit (.int .u8 20), .lit (.int .u8 15), .lit (.int .u8 25), .lit (.int .u8 17), .lit (.int .u8 4), .lit (.int .u8 8), .lit (.int .u8 31), .lit (.int .u8 27), .lit (.int .u8 13), .lit (.int .u8 23), .lit (.int .u8 21), .lit (.int .u8 19), .lit (.int .u8 16), .lit (.int .u8 7), .lit (.int .u8 26), .lit (.int .u8 12), .lit (.int .u8 18), .lit (.int .u8 6), .lit (.int .u8 11), .lit (.int .u8 5), .lit (.int .u8 10), .lit (.int .u8 9)]

/-- 'besomlaw1.SieveMasks': WHATEVER THE INPUT: true; the input reads as it did. -/
def sieveMasksSpec : ChangeSpec := { name := "sieveMasks", fn := fun _ => fun
  | [d1, d2] => { results := [.lit (.bool true)], args := [d1, d2] }
  | _ => none }
def sieveMasksRow : OpenClaim := { program := "ytjlbmelpoaffpaadoor", sum := "1669866be15e5cd7d696e0cef577f558cab314ae1221ee9c9c7e0f40cdbf9a82", func := "besom/besomlaw1.SieveMasks", spec := "sieveMasks", named := ["math/bits.deBruijn64tab"], apart := false, laid := [("math/bits.deBruijn64tab", laid_math_bits_deBruijn64tab)] }
def SieveMasksSaid : Prop := sieveMasksRow.holds Tryd.pinned (OpenSpec.ofChange sieveMasksSpec)

/-- ITS FALSE NEIGHBOUR: 'it returns false'. Refute it at one input. -/
def sieveMasksWrong : ChangeSpec := { name := "sieveMasks", fn := fun _ => fun
  | [d1, d2] => { results := [.lit (.bool false)], args := [d1, d2] }
  | _ => none }
def SieveMasksWrongFalsely : Prop := sieveMasksRow.holds Tryd.pinned (OpenSpec.ofChange sieveMasksWrong)

/-- 'besomlaw1.SieveSteps': WHATEVER THE INPUT: true; the input reads as it did. -/
def sieveStepsSpec : ChangeSpec := { name := "sieveSteps", fn := fun _ => fun
  | [d1, d2] => { results := [.lit (.bool true)], args := [d1, d2] }
  | _ => none }
def sieveStepsRow : OpenClaim := { program := "ytjlbmelpoaffpaadoor", sum := "1669866be15e5cd7d696e0cef577f558cab314ae1221ee9c9c7e0f40cdbf9a82", func := "besom/besomlaw1.SieveSteps", spec := "sieveSteps", named := ["math/bits.deBruijn64tab"], apart := false, laid := [("math/bits.deBruijn64tab", laid_math_bits_deBruijn64tab)] }
def SieveStepsSaid : Prop := sieveStepsRow.holds Tryd.pinned (OpenSpec.ofChange sieveStepsSpec)

/-- ITS FALSE NEIGHBOUR: 'it returns false'. Refute it at one input. -/
def sieveStepsWrong : ChangeSpec := { name := "sieveSteps", fn := fun _ => fun
  | [d1, d2] => { results := [.lit (.bool false)], args := [d1, d2] }
  | _ => none }
def SieveStepsWrongFalsely : Prop := sieveStepsRow.holds Tryd.pinned (OpenSpec.ofChange sieveStepsWrong)

/-- 'besomlaw1.SieveTwice': WHATEVER THE INPUT: true; the input reads as it did. -/
def sieveTwiceSpec : ChangeSpec := { name := "sieveTwice", fn := fun _ => fun
  | [d1, d2] => { results := [.lit (.bool true)], args := [d1, d2] }
  | _ => none }
def sieveTwiceRow : OpenClaim := { program := "ytjlbmelpoaffpaadoor", sum := "1669866be15e5cd7d696e0cef577f558cab314ae1221ee9c9c7e0f40cdbf9a82", func := "besom/besomlaw1.SieveTwice", spec := "sieveTwice", named := ["math/bits.deBruijn64tab"], apart := false, laid := [("math/bits.deBruijn64tab", laid_math_bits_deBruijn64tab)] }
def SieveTwiceSaid : Prop := sieveTwiceRow.holds Tryd.pinned (OpenSpec.ofChange sieveTwiceSpec)

/-- ITS FALSE NEIGHBOUR: 'it returns false'. Refute it at one input. -/
def sieveTwiceWrong : ChangeSpec := { name := "sieveTwice", fn := fun _ => fun
  | [d1, d2] => { results := [.lit (.bool false)], args := [d1, d2] }
  | _ => none }
def SieveTwiceWrongFalsely : Prop := sieveTwiceRow.holds Tryd.pinned (OpenSpec.ofChange sieveTwiceWrong)

/-- 'besomlaw1.SievePlays': WHATEVER THE INPUT: true; the input reads as it did. -/
def sievePlaysSpec : ChangeSpec := { name := "sievePlays", fn := fun _ => fun
  | [d1, d2, d3, d4] => { results := [.lit (.bool true)], args := [d1, d2, d3, d4] }
  | _ => none }
def sievePlaysRow : OpenClaim := { program := "ytjlbmelpoaffpaadoor", sum := "1669866be15e5cd7d696e0cef577f558cab314ae1221ee9c9c7e0f40cdbf9a82", func := "besom/besomlaw1.SievePlays", spec := "sievePlays", named := ["math/bits.deBruijn64tab"], apart := false, laid := [("math/bits.deBruijn64tab", laid_math_bits_deBruijn64tab)] }
def SievePlaysSaid : Prop := sievePlaysRow.holds Tryd.pinned (OpenSpec.ofChange sievePlaysSpec)

/-- ITS FALSE NEIGHBOUR: 'it returns false'. Refute it at one input. -/
def sievePlaysWrong : ChangeSpec := { name := "sievePlays", fn := fun _ => fun
  | [d1, d2, d3, d4] => { results := [.lit (.bool false)], args := [d1, d2, d3, d4] }
  | _ => none }
def SievePlaysWrongFalsely : Prop := sievePlaysRow.holds Tryd.pinned (OpenSpec.ofChange sievePlaysWrong)

/-- 'besomlaw6.ArenaInside': WHATEVER THE INPUT: true; the input reads as it did. -/
def arenaInsideSpec : ChangeSpec := { name := "arenaInside", fn := fun _ => fun
  | [d1, d2] => { results := [.lit (.bool true)], args := [d1, d2] }
  | _ => none }
def arenaInsideRow : OpenClaim := { program := "ytjlbmelpoaffpaadoor", sum := "1669866be15e5cd7d696e0cef577f558cab314ae1221ee9c9c7e0f40cdbf9a82", func := "besom/besomlaw6.ArenaInside", spec := "arenaInside", named := ["math/bits.deBruijn32tab"], apart := false, laid := [("math/bits.deBruijn32tab", laid_math_bits_deBruijn32tab)] }
def ArenaInsideSaid : Prop := arenaInsideRow.holds Tryd.pinned (OpenSpec.ofChange arenaInsideSpec)

/-- ITS FALSE NEIGHBOUR: 'it returns false'. Refute it at one input. -/
def arenaInsideWrong : ChangeSpec := { name := "arenaInside", fn := fun _ => fun
  | [d1, d2] => { results := [.lit (.bool false)], args := [d1, d2] }
  | _ => none }
def ArenaInsideWrongFalsely : Prop := arenaInsideRow.holds Tryd.pinned (OpenSpec.ofChange arenaInsideWrong)

/-- 'besomlaw6.ArenaPages': WHATEVER THE INPUT: true; the input reads as it did. -/
def arenaPagesSpec : ChangeSpec := { name := "arenaPages", fn := fun _ => fun
  | [d1, d2, d3] => { results := [.lit (.bool true)], args := [d1, d2, d3] }
  | _ => none }
def arenaPagesRow : OpenClaim := { program := "ytjlbmelpoaffpaadoor", sum := "1669866be15e5cd7d696e0cef577f558cab314ae1221ee9c9c7e0f40cdbf9a82", func := "besom/besomlaw6.ArenaPages", spec := "arenaPages", named := ["math/bits.deBruijn32tab"], apart := false, laid := [("math/bits.deBruijn32tab", laid_math_bits_deBruijn32tab)] }
def ArenaPagesSaid : Prop := arenaPagesRow.holds Tryd.pinned (OpenSpec.ofChange arenaPagesSpec)

/-- ITS FALSE NEIGHBOUR: 'it returns false'. Refute it at one input. -/
def arenaPagesWrong : ChangeSpec := { name := "arenaPages", fn := fun _ => fun
  | [d1, d2, d3] => { results := [.lit (.bool false)], args := [d1, d2, d3] }
  | _ => none }
def ArenaPagesWrongFalsely : Prop := arenaPagesRow.holds Tryd.pinned (OpenSpec.ofChange arenaPagesWrong)

/-- 'besomlaw6.ArenaPlays': WHATEVER THE INPUT: true; the input reads as it did. -/
def arenaPlaysSpec : ChangeSpec := { name := "arenaPlays", fn := fun _ => fun
  | [d1, d2, d3, d4, d5] => { results := [.lit (.bool true)], args := [d1, d2, d3, d4, d5] }
  | _ => none }
def arenaPlaysRow : OpenClaim := { program := "ytjlbmelpoaffpaadoor", sum := "1669866be15e5cd7d696e0cef577f558cab314ae1221ee9c9c7e0f40cdbf9a82", func := "besom/besomlaw6.ArenaPlays", spec := "arenaPlays", named := ["math/bits.deBruijn32tab"], apart := false, laid := [("math/bits.deBruijn32tab", laid_math_bits_deBruijn32tab)] }
def ArenaPlaysSaid : Prop := arenaPlaysRow.holds Tryd.pinned (OpenSpec.ofChange arenaPlaysSpec)

/-- ITS FALSE NEIGHBOUR: 'it returns false'. Refute it at one input. -/
def arenaPlaysWrong : ChangeSpec := { name := "arenaPlays", fn := fun _ => fun
  | [d1, d2, d3, d4, d5] => { results := [.lit (.bool false)], args := [d1, d2, d3, d4, d5] }
  | _ => none }
def ArenaPlaysWrongFalsely : Prop := arenaPlaysRow.holds Tryd.pinned (OpenSpec.ofChange arenaPlaysWrong)

/- THE SECOND FORM. 'bulk': how many values and letters a reading holds, each counted each time it is reached (what is shared counts as often as it is met; a slice's spare places count too). A statement '..UptoSaid' is the law's where the arguments, and the package variables that the reading takes, are together of bulk at most 1048576: NARROWER than '..Said'. Prove '..Said' where nothing that the law and all that it calls make is longer than what came in: it says more and counts as full. Else prove '..UptoSaid'. A law counts once. -/
mutual
def uptoBulk {H : Type} : DataW H → Nat
  | .lit (.string bytes) => bytes.length + 1
  | .lit _ => 1
  | .nil => 1
  | .ptr d => uptoBulk d + 1
  | .slice elems spare => uptoBulkAll elems + uptoBulkAll spare + 1
  | .agg parts => uptoBulkAll parts + 1
  | .iface _ d => uptoBulk d + 1
  | .map entries => uptoBulkEntries entries + 1
  | .held _ => 1
def uptoBulkAll {H : Type} : List (DataW H) → Nat
  | [] => 0
  | d :: r => uptoBulk d + uptoBulkAll r
def uptoBulkEntries {H : Type} : List (Lit × DataW H) → Nat
  | [] => 0
  | x :: r => uptoBulkEntry x + uptoBulkEntries r
def uptoBulkEntry {H : Type} : Lit × DataW H → Nat
  | (.string bytes, d) => bytes.length + uptoBulk d + 1
  | (_, d) => uptoBulk d + 1
 end
def uptoSmall : (H : Type) → List (DataW H) → Bool := fun _ ds => decide (uptoBulkAll ds ≤ 1048576)
def OpenSpec.upto (s : _root_.Go.ChangeSpec) : _root_.Go.OpenSpec := { _root_.Go.OpenSpec.ofChange s with cond := some uptoSmall }

/-- 'besomlaw1.SieveMasks', WHERE WHAT IT READS IS OF BULK AT MOST 1048576: true; the input reads as it did. -/
def sieveMasksUptoRow : OpenClaim := { program := "ytjlbmelpoaffpaadoor", sum := "1669866be15e5cd7d696e0cef577f558cab314ae1221ee9c9c7e0f40cdbf9a82", func := "besom/besomlaw1.SieveMasks", spec := "sieveMasks", named := ["math/bits.deBruijn64tab"], apart := false, laid := [("math/bits.deBruijn64tab", laid_math_bits_deBruijn64tab)], narrowed := true }
def SieveMasksUptoSaid : Prop := sieveMasksUptoRow.holds Tryd.pinned (OpenSpec.upto sieveMasksSpec)

/-- 'besomlaw1.SieveSteps', WHERE WHAT IT READS IS OF BULK AT MOST 1048576: true; the input reads as it did. -/
def sieveStepsUptoRow : OpenClaim := { program := "ytjlbmelpoaffpaadoor", sum := "1669866be15e5cd7d696e0cef577f558cab314ae1221ee9c9c7e0f40cdbf9a82", func := "besom/besomlaw1.SieveSteps", spec := "sieveSteps", named := ["math/bits.deBruijn64tab"], apart := false, laid := [("math/bits.deBruijn64tab", laid_math_bits_deBruijn64tab)], narrowed := true }
def SieveStepsUptoSaid : Prop := sieveStepsUptoRow.holds Tryd.pinned (OpenSpec.upto sieveStepsSpec)

/-- 'besomlaw1.SieveTwice', WHERE WHAT IT READS IS OF BULK AT MOST 1048576: true; the input reads as it did. -/
def sieveTwiceUptoRow : OpenClaim := { program := "ytjlbmelpoaffpaadoor", sum := "1669866be15e5cd7d696e0cef577f558cab314ae1221ee9c9c7e0f40cdbf9a82", func := "besom/besomlaw1.SieveTwice", spec := "sieveTwice", named := ["math/bits.deBruijn64tab"], apart := false, laid := [("math/bits.deBruijn64tab", laid_math_bits_deBruijn64tab)], narrowed := true }
def SieveTwiceUptoSaid : Prop := sieveTwiceUptoRow.holds Tryd.pinned (OpenSpec.upto sieveTwiceSpec)

/-- 'besomlaw1.SievePlays', WHERE WHAT IT READS IS OF BULK AT MOST 1048576: true; the input reads as it did. -/
def sievePlaysUptoRow : OpenClaim := { program := "ytjlbmelpoaffpaadoor", sum := "1669866be15e5cd7d696e0cef577f558cab314ae1221ee9c9c7e0f40cdbf9a82", func := "besom/besomlaw1.SievePlays", spec := "sievePlays", named := ["math/bits.deBruijn64tab"], apart := false, laid := [("math/bits.deBruijn64tab", laid_math_bits_deBruijn64tab)], narrowed := true }
def SievePlaysUptoSaid : Prop := sievePlaysUptoRow.holds Tryd.pinned (OpenSpec.upto sievePlaysSpec)

/-- 'besomlaw6.ArenaInside', WHERE WHAT IT READS IS OF BULK AT MOST 1048576: true; the input reads as it did. -/
def arenaInsideUptoRow : OpenClaim := { program := "ytjlbmelpoaffpaadoor", sum := "1669866be15e5cd7d696e0cef577f558cab314ae1221ee9c9c7e0f40cdbf9a82", func := "besom/besomlaw6.ArenaInside", spec := "arenaInside", named := ["math/bits.deBruijn32tab"], apart := false, laid := [("math/bits.deBruijn32tab", laid_math_bits_deBruijn32tab)], narrowed := true }
def ArenaInsideUptoSaid : Prop := arenaInsideUptoRow.holds Tryd.pinned (OpenSpec.upto arenaInsideSpec)

/-- 'besomlaw6.ArenaPages', WHERE WHAT IT READS IS OF BULK AT MOST 1048576: true; the input reads as it did. -/
def arenaPagesUptoRow : OpenClaim := { program := "ytjlbmelpoaffpaadoor", sum := "1669866be15e5cd7d696e0cef577f558cab314ae1221ee9c9c7e0f40cdbf9a82", func := "besom/besomlaw6.ArenaPages", spec := "arenaPages", named := ["math/bits.deBruijn32tab"], apart := false, laid := [("math/bits.deBruijn32tab", laid_math_bits_deBruijn32tab)], narrowed := true }
def ArenaPagesUptoSaid : Prop := arenaPagesUptoRow.holds Tryd.pinned (OpenSpec.upto arenaPagesSpec)

/-- 'besomlaw6.ArenaPlays', WHERE WHAT IT READS IS OF BULK AT MOST 1048576: true; the input reads as it did. -/
def arenaPlaysUptoRow : OpenClaim := { program := "ytjlbmelpoaffpaadoor", sum := "1669866be15e5cd7d696e0cef577f558cab314ae1221ee9c9c7e0f40cdbf9a82", func := "besom/besomlaw6.ArenaPlays", spec := "arenaPlays", named := ["math/bits.deBruijn32tab"], apart := false, laid := [("math/bits.deBruijn32tab", laid_math_bits_deBruijn32tab)], narrowed := true }
def ArenaPlaysUptoSaid : Prop := arenaPlaysUptoRow.holds Tryd.pinned (OpenSpec.upto arenaPlaysSpec)

end Rows
end Go.Proofs.YtjlbmelpoaffpaaDoor
