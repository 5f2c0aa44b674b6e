/-
  No cell of these rows narrows 'for every input' (looked for: loops, veiled, ifaces, maps, wideKeys, modest, calm, conditions, laid).
  DERIVED. THE GIVEN ROWS OF THIS SEAT. 12 by the template 'for every input the law returns true; each argument reads behind the call as it read before'; 0 by the template 'total and deterministic' (their statements: YtnolkgciapggdaaTotals.lean).
  GIVEN WITH THE SEED: the statements are not yours to turn. If you find one false, say at which input.
  Laid BY PROGRAM, IN A SANDBOX (cutbox-rows.mjs): the forced cells as the released guide's own fill.sh prints them over the translation b2ef54a5e0aad7b8… (all of the seat's roots in one cut). By AI agents, Wed Nov 11 2026. No macro, syntax, notation, axiom, sorry.
-/
import Derived.Test.YtnolkgciapggdaaChecked
import GoSem.Claim
import GoSem.ClaimJoined
import GoSem.ClaimMapViews
import Derived.JoinedTies
import Derived.KernelRfl
namespace Go.Proofs.Ytnolkgciapggdaa
/- THE CELL 'sum', in the pinned program and in every row, IS THE sha256 OF THE DUMP (.gsa) THAT YtnolkgciapggdaaProg.lean LOADS. Nothing in Lean hashes anything: it is a label: what it is worth is what the hold of that sum in a sandbox is worth. -/
noncomputable def Try.pinned : Pinned := { name := "ytnolkgciapggdaa", sum := "b2ef54a5e0aad7b813ad2e986501dbb6d4ff5a743a11f802171af33cf0d43c9b", checked := Try.checked }
namespace Rows
def none {H : Type} : Left H := { results := [], args := [] }

/-- 'besomlaw18.BarrierPhases': WHATEVER THE INPUT: true; the input reads as it did. -/
def barrierPhasesSpec : ChangeSpec := { name := "barrierPhases", fn := fun _ => fun
  | [d1, d2, d3] => { results := [.lit (.bool true)], args := [d1, d2, d3] }
  | _ => none }
def barrierPhasesRow : OpenClaim := { program := "ytnolkgciapggdaa", sum := "b2ef54a5e0aad7b813ad2e986501dbb6d4ff5a743a11f802171af33cf0d43c9b", func := "besom/besomlaw18.BarrierPhases", spec := "barrierPhases", apart := false }
def BarrierPhasesSaid : Prop := barrierPhasesRow.holds Try.pinned (OpenSpec.ofChange barrierPhasesSpec)

/-- ITS FALSE NEIGHBOUR: 'it returns false'. Refute it at one input. -/
def barrierPhasesWrong : ChangeSpec := { name := "barrierPhases", fn := fun _ => fun
  | [d1, d2, d3] => { results := [.lit (.bool false)], args := [d1, d2, d3] }
  | _ => none }
def BarrierPhasesWrongFalsely : Prop := barrierPhasesRow.holds Try.pinned (OpenSpec.ofChange barrierPhasesWrong)

/-- 'besomlaw22.CyclePlays': WHATEVER THE INPUT: true; the input reads as it did. -/
def cyclePlaysSpec : ChangeSpec := { name := "cyclePlays", fn := fun _ => fun
  | [d1, d2, d3, d4, d5, d6] => { results := [.lit (.bool true)], args := [d1, d2, d3, d4, d5, d6] }
  | _ => none }
def cyclePlaysRow : OpenClaim := { program := "ytnolkgciapggdaa", sum := "b2ef54a5e0aad7b813ad2e986501dbb6d4ff5a743a11f802171af33cf0d43c9b", func := "besom/besomlaw22.CyclePlays", spec := "cyclePlays", apart := false }
def CyclePlaysSaid : Prop := cyclePlaysRow.holds Try.pinned (OpenSpec.ofChange cyclePlaysSpec)

/-- ITS FALSE NEIGHBOUR: 'it returns false'. Refute it at one input. -/
def cyclePlaysWrong : ChangeSpec := { name := "cyclePlays", fn := fun _ => fun
  | [d1, d2, d3, d4, d5, d6] => { results := [.lit (.bool false)], args := [d1, d2, d3, d4, d5, d6] }
  | _ => none }
def CyclePlaysWrongFalsely : Prop := cyclePlaysRow.holds Try.pinned (OpenSpec.ofChange cyclePlaysWrong)

/-- 'besomlaw22.CycleRound': WHATEVER THE INPUT: true; the input reads as it did. -/
def cycleRoundSpec : ChangeSpec := { name := "cycleRound", fn := fun _ => fun
  | [d1, d2, d3] => { results := [.lit (.bool true)], args := [d1, d2, d3] }
  | _ => none }
def cycleRoundRow : OpenClaim := { program := "ytnolkgciapggdaa", sum := "b2ef54a5e0aad7b813ad2e986501dbb6d4ff5a743a11f802171af33cf0d43c9b", func := "besom/besomlaw22.CycleRound", spec := "cycleRound", apart := false }
def CycleRoundSaid : Prop := cycleRoundRow.holds Try.pinned (OpenSpec.ofChange cycleRoundSpec)

/-- ITS FALSE NEIGHBOUR: 'it returns false'. Refute it at one input. -/
def cycleRoundWrong : ChangeSpec := { name := "cycleRound", fn := fun _ => fun
  | [d1, d2, d3] => { results := [.lit (.bool false)], args := [d1, d2, d3] }
  | _ => none }
def CycleRoundWrongFalsely : Prop := cycleRoundRow.holds Try.pinned (OpenSpec.ofChange cycleRoundWrong)

/-- 'besomlaw22.CycleCounts': WHATEVER THE INPUT: true; the input reads as it did. -/
def cycleCountsSpec : ChangeSpec := { name := "cycleCounts", fn := fun _ => fun
  | [d] => { results := [.lit (.bool true)], args := [d] }
  | _ => none }
def cycleCountsRow : OpenClaim := { program := "ytnolkgciapggdaa", sum := "b2ef54a5e0aad7b813ad2e986501dbb6d4ff5a743a11f802171af33cf0d43c9b", func := "besom/besomlaw22.CycleCounts", spec := "cycleCounts", apart := false }
def CycleCountsSaid : Prop := cycleCountsRow.holds Try.pinned (OpenSpec.ofChange cycleCountsSpec)

/-- ITS FALSE NEIGHBOUR: 'it returns false'. Refute it at one input. -/
def cycleCountsWrong : ChangeSpec := { name := "cycleCounts", fn := fun _ => fun
  | [d] => { results := [.lit (.bool false)], args := [d] }
  | _ => none }
def CycleCountsWrongFalsely : Prop := cycleCountsRow.holds Try.pinned (OpenSpec.ofChange cycleCountsWrong)

/-- 'besomlaw8.PileOrder': WHATEVER THE INPUT: true; the input reads as it did. -/
def pileOrderSpec : ChangeSpec := { name := "pileOrder", fn := fun _ => fun
  | [d1, d2] => { results := [.lit (.bool true)], args := [d1, d2] }
  | _ => none }
def pileOrderRow : OpenClaim := { program := "ytnolkgciapggdaa", sum := "b2ef54a5e0aad7b813ad2e986501dbb6d4ff5a743a11f802171af33cf0d43c9b", func := "besom/besomlaw8.PileOrder", spec := "pileOrder", apart := false }
def PileOrderSaid : Prop := pileOrderRow.holds Try.pinned (OpenSpec.ofChange pileOrderSpec)

/-- ITS FALSE NEIGHBOUR: 'it returns false'. Refute it at one input. -/
def pileOrderWrong : ChangeSpec := { name := "pileOrder", fn := fun _ => fun
  | [d1, d2] => { results := [.lit (.bool false)], args := [d1, d2] }
  | _ => none }
def PileOrderWrongFalsely : Prop := pileOrderRow.holds Try.pinned (OpenSpec.ofChange pileOrderWrong)

/-- 'besomlaw8.PileClears': WHATEVER THE INPUT: true; the input reads as it did. -/
def pileClearsSpec : ChangeSpec := { name := "pileClears", fn := fun _ => fun
  | [d1, d2] => { results := [.lit (.bool true)], args := [d1, d2] }
  | _ => none }
def pileClearsRow : OpenClaim := { program := "ytnolkgciapggdaa", sum := "b2ef54a5e0aad7b813ad2e986501dbb6d4ff5a743a11f802171af33cf0d43c9b", func := "besom/besomlaw8.PileClears", spec := "pileClears", apart := false }
def PileClearsSaid : Prop := pileClearsRow.holds Try.pinned (OpenSpec.ofChange pileClearsSpec)

/-- ITS FALSE NEIGHBOUR: 'it returns false'. Refute it at one input. -/
def pileClearsWrong : ChangeSpec := { name := "pileClears", fn := fun _ => fun
  | [d1, d2] => { results := [.lit (.bool false)], args := [d1, d2] }
  | _ => none }
def PileClearsWrongFalsely : Prop := pileClearsRow.holds Try.pinned (OpenSpec.ofChange pileClearsWrong)

/-- 'besomlaw18.BarrierArgs': WHATEVER THE INPUT: true; the input reads as it did. -/
def barrierArgsSpec : ChangeSpec := { name := "barrierArgs", fn := fun _ => fun
  | [d1, d2, d3, d4] => { results := [.lit (.bool true)], args := [d1, d2, d3, d4] }
  | _ => none }
def barrierArgsRow : OpenClaim := { program := "ytnolkgciapggdaa", sum := "b2ef54a5e0aad7b813ad2e986501dbb6d4ff5a743a11f802171af33cf0d43c9b", func := "besom/besomlaw18.BarrierArgs", spec := "barrierArgs", apart := false }
def BarrierArgsSaid : Prop := barrierArgsRow.holds Try.pinned (OpenSpec.ofChange barrierArgsSpec)

/-- ITS FALSE NEIGHBOUR: 'it returns false'. Refute it at one input. -/
def barrierArgsWrong : ChangeSpec := { name := "barrierArgs", fn := fun _ => fun
  | [d1, d2, d3, d4] => { results := [.lit (.bool false)], args := [d1, d2, d3, d4] }
  | _ => none }
def BarrierArgsWrongFalsely : Prop := barrierArgsRow.holds Try.pinned (OpenSpec.ofChange barrierArgsWrong)

/-- 'besomlaw18.BarrierTells': WHATEVER THE INPUT: true; the input reads as it did. -/
def barrierTellsSpec : ChangeSpec := { name := "barrierTells", fn := fun _ => fun
  | [d1, d2, d3, d4, d5, d6, d7] => { results := [.lit (.bool true)], args := [d1, d2, d3, d4, d5, d6, d7] }
  | _ => none }
def barrierTellsRow : OpenClaim := { program := "ytnolkgciapggdaa", sum := "b2ef54a5e0aad7b813ad2e986501dbb6d4ff5a743a11f802171af33cf0d43c9b", func := "besom/besomlaw18.BarrierTells", spec := "barrierTells", apart := false }
def BarrierTellsSaid : Prop := barrierTellsRow.holds Try.pinned (OpenSpec.ofChange barrierTellsSpec)

/-- ITS FALSE NEIGHBOUR: 'it returns false'. Refute it at one input. -/
def barrierTellsWrong : ChangeSpec := { name := "barrierTells", fn := fun _ => fun
  | [d1, d2, d3, d4, d5, d6, d7] => { results := [.lit (.bool false)], args := [d1, d2, d3, d4, d5, d6, d7] }
  | _ => none }
def BarrierTellsWrongFalsely : Prop := barrierTellsRow.holds Try.pinned (OpenSpec.ofChange barrierTellsWrong)

/-- 'besomlaw3.ClassRises': WHATEVER THE INPUT: true; the input reads as it did. -/
def classRisesSpec : ChangeSpec := { name := "classRises", fn := fun _ => fun
  | [d1, d2] => { results := [.lit (.bool true)], args := [d1, d2] }
  | _ => none }
def classRisesRow : OpenClaim := { program := "ytnolkgciapggdaa", sum := "b2ef54a5e0aad7b813ad2e986501dbb6d4ff5a743a11f802171af33cf0d43c9b", func := "besom/besomlaw3.ClassRises", spec := "classRises", apart := false }
def ClassRisesSaid : Prop := classRisesRow.holds Try.pinned (OpenSpec.ofChange classRisesSpec)

/-- ITS FALSE NEIGHBOUR: 'it returns false'. Refute it at one input. -/
def classRisesWrong : ChangeSpec := { name := "classRises", fn := fun _ => fun
  | [d1, d2] => { results := [.lit (.bool false)], args := [d1, d2] }
  | _ => none }
def ClassRisesWrongFalsely : Prop := classRisesRow.holds Try.pinned (OpenSpec.ofChange classRisesWrong)

/-- 'besomlaw8.PilePlays': WHATEVER THE INPUT: true; the input reads as it did. -/
def pilePlaysSpec : ChangeSpec := { name := "pilePlays", fn := fun _ => fun
  | [d1, d2] => { results := [.lit (.bool true)], args := [d1, d2] }
  | _ => none }
def pilePlaysRow : OpenClaim := { program := "ytnolkgciapggdaa", sum := "b2ef54a5e0aad7b813ad2e986501dbb6d4ff5a743a11f802171af33cf0d43c9b", func := "besom/besomlaw8.PilePlays", spec := "pilePlays", apart := false }
def PilePlaysSaid : Prop := pilePlaysRow.holds Try.pinned (OpenSpec.ofChange pilePlaysSpec)

/-- ITS FALSE NEIGHBOUR: 'it returns false'. Refute it at one input. -/
def pilePlaysWrong : ChangeSpec := { name := "pilePlays", fn := fun _ => fun
  | [d1, d2] => { results := [.lit (.bool false)], args := [d1, d2] }
  | _ => none }
def PilePlaysWrongFalsely : Prop := pilePlaysRow.holds Try.pinned (OpenSpec.ofChange pilePlaysWrong)

/-- 'besomlaw3.ClassTells': WHATEVER THE INPUT: true; the input reads as it did. -/
def classTellsSpec : ChangeSpec := { name := "classTells", fn := fun _ => fun
  | [d1, d2, d3] => { results := [.lit (.bool true)], args := [d1, d2, d3] }
  | _ => none }
def classTellsRow : OpenClaim := { program := "ytnolkgciapggdaa", sum := "b2ef54a5e0aad7b813ad2e986501dbb6d4ff5a743a11f802171af33cf0d43c9b", func := "besom/besomlaw3.ClassTells", spec := "classTells", apart := false }
def ClassTellsSaid : Prop := classTellsRow.holds Try.pinned (OpenSpec.ofChange classTellsSpec)

/-- ITS FALSE NEIGHBOUR: 'it returns false'. Refute it at one input. -/
def classTellsWrong : ChangeSpec := { name := "classTells", fn := fun _ => fun
  | [d1, d2, d3] => { results := [.lit (.bool false)], args := [d1, d2, d3] }
  | _ => none }
def ClassTellsWrongFalsely : Prop := classTellsRow.holds Try.pinned (OpenSpec.ofChange classTellsWrong)

/-- 'besomlaw3.ClassSlots': WHATEVER THE INPUT: true; the input reads as it did. -/
def classSlotsSpec : ChangeSpec := { name := "classSlots", fn := fun _ => fun
  | [d] => { results := [.lit (.bool true)], args := [d] }
  | _ => none }
def classSlotsRow : OpenClaim := { program := "ytnolkgciapggdaa", sum := "b2ef54a5e0aad7b813ad2e986501dbb6d4ff5a743a11f802171af33cf0d43c9b", func := "besom/besomlaw3.ClassSlots", spec := "classSlots", apart := false }
def ClassSlotsSaid : Prop := classSlotsRow.holds Try.pinned (OpenSpec.ofChange classSlotsSpec)

/-- ITS FALSE NEIGHBOUR: 'it returns false'. Refute it at one input. -/
def classSlotsWrong : ChangeSpec := { name := "classSlots", fn := fun _ => fun
  | [d] => { results := [.lit (.bool false)], args := [d] }
  | _ => none }
def ClassSlotsWrongFalsely : Prop := classSlotsRow.holds Try.pinned (OpenSpec.ofChange classSlotsWrong)

/- THE SECOND FORM. 'bulk': how many values and letters a reading holds, each counted each time it is reached (what is shared counts as often as it is met; a slice's spare places count too). A statement '..UptoSaid' is the law's where the arguments, and the package variables that the reading takes, are together of bulk at most 1048576: NARROWER than '..Said'. Prove '..Said' where nothing that the law and all that it calls make is longer than what came in: it says more and counts as full. Else prove '..UptoSaid'. A law counts once. -/
mutual
def uptoBulk {H : Type} : DataW H → Nat
  | .lit (.string bytes) => bytes.length + 1
  | .lit _ => 1
  | .nil => 1
  | .ptr d => uptoBulk d + 1
  | .slice elems spare => uptoBulkAll elems + uptoBulkAll spare + 1
  | .agg parts => uptoBulkAll parts + 1
  | .iface _ d => uptoBulk d + 1
  | .map entries => uptoBulkEntries entries + 1
  | .held _ => 1
def uptoBulkAll {H : Type} : List (DataW H) → Nat
  | [] => 0
  | d :: r => uptoBulk d + uptoBulkAll r
def uptoBulkEntries {H : Type} : List (Lit × DataW H) → Nat
  | [] => 0
  | x :: r => uptoBulkEntry x + uptoBulkEntries r
def uptoBulkEntry {H : Type} : Lit × DataW H → Nat
  | (.string bytes, d) => bytes.length + uptoBulk d + 1
  | (_, d) => uptoBulk d + 1
 end
def uptoSmall : (H : Type) → List (DataW H) → Bool := fun _ ds => decide (uptoBulkAll ds ≤ 1048576)
def OpenSpec.upto (s : _root_.Go.ChangeSpec) : _root_.Go.OpenSpec := { _root_.Go.OpenSpec.ofChange s with cond := some uptoSmall }

/-- 'besomlaw18.BarrierPhases', WHERE WHAT IT READS IS OF BULK AT MOST 1048576: true; the input reads as it did. -/
def barrierPhasesUptoRow : OpenClaim := { program := "ytnolkgciapggdaa", sum := "b2ef54a5e0aad7b813ad2e986501dbb6d4ff5a743a11f802171af33cf0d43c9b", func := "besom/besomlaw18.BarrierPhases", spec := "barrierPhases", apart := false, narrowed := true }
def BarrierPhasesUptoSaid : Prop := barrierPhasesUptoRow.holds Try.pinned (OpenSpec.upto barrierPhasesSpec)

/-- 'besomlaw22.CyclePlays', WHERE WHAT IT READS IS OF BULK AT MOST 1048576: true; the input reads as it did. -/
def cyclePlaysUptoRow : OpenClaim := { program := "ytnolkgciapggdaa", sum := "b2ef54a5e0aad7b813ad2e986501dbb6d4ff5a743a11f802171af33cf0d43c9b", func := "besom/besomlaw22.CyclePlays", spec := "cyclePlays", apart := false, narrowed := true }
def CyclePlaysUptoSaid : Prop := cyclePlaysUptoRow.holds Try.pinned (OpenSpec.upto cyclePlaysSpec)

/-- 'besomlaw22.CycleRound', WHERE WHAT IT READS IS OF BULK AT MOST 1048576: true; the input reads as it did. -/
def cycleRoundUptoRow : OpenClaim := { program := "ytnolkgciapggdaa", sum := "b2ef54a5e0aad7b813ad2e986501dbb6d4ff5a743a11f802171af33cf0d43c9b", func := "besom/besomlaw22.CycleRound", spec := "cycleRound", apart := false, narrowed := true }
def CycleRoundUptoSaid : Prop := cycleRoundUptoRow.holds Try.pinned (OpenSpec.upto cycleRoundSpec)

/-- 'besomlaw22.CycleCounts', WHERE WHAT IT READS IS OF BULK AT MOST 1048576: true; the input reads as it did. -/
def cycleCountsUptoRow : OpenClaim := { program := "ytnolkgciapggdaa", sum := "b2ef54a5e0aad7b813ad2e986501dbb6d4ff5a743a11f802171af33cf0d43c9b", func := "besom/besomlaw22.CycleCounts", spec := "cycleCounts", apart := false, narrowed := true }
def CycleCountsUptoSaid : Prop := cycleCountsUptoRow.holds Try.pinned (OpenSpec.upto cycleCountsSpec)

/-- 'besomlaw8.PileOrder', WHERE WHAT IT READS IS OF BULK AT MOST 1048576: true; the input reads as it did. -/
def pileOrderUptoRow : OpenClaim := { program := "ytnolkgciapggdaa", sum := "b2ef54a5e0aad7b813ad2e986501dbb6d4ff5a743a11f802171af33cf0d43c9b", func := "besom/besomlaw8.PileOrder", spec := "pileOrder", apart := false, narrowed := true }
def PileOrderUptoSaid : Prop := pileOrderUptoRow.holds Try.pinned (OpenSpec.upto pileOrderSpec)

/-- 'besomlaw8.PileClears', WHERE WHAT IT READS IS OF BULK AT MOST 1048576: true; the input reads as it did. -/
def pileClearsUptoRow : OpenClaim := { program := "ytnolkgciapggdaa", sum := "b2ef54a5e0aad7b813ad2e986501dbb6d4ff5a743a11f802171af33cf0d43c9b", func := "besom/besomlaw8.PileClears", spec := "pileClears", apart := false, narrowed := true }
def PileClearsUptoSaid : Prop := pileClearsUptoRow.holds Try.pinned (OpenSpec.upto pileClearsSpec)

/-- 'besomlaw18.BarrierArgs', WHERE WHAT IT READS IS OF BULK AT MOST 1048576: true; the input reads as it did. -/
def barrierArgsUptoRow : OpenClaim := { program := "ytnolkgciapggdaa", sum := "b2ef54a5e0aad7b813ad2e986501dbb6d4ff5a743a11f802171af33cf0d43c9b", func := "besom/besomlaw18.BarrierArgs", spec := "barrierArgs", apart := false, narrowed := true }
def BarrierArgsUptoSaid : Prop := barrierArgsUptoRow.holds Try.pinned (OpenSpec.upto barrierArgsSpec)

/-- 'besomlaw18.BarrierTells', WHERE WHAT IT READS IS OF BULK AT MOST 1048576: true; the input reads as it did. -/
def barrierTellsUptoRow : OpenClaim := { program := "ytnolkgciapggdaa", sum := "b2ef54a5e0aad7b813ad2e986501dbb6d4ff5a743a11f802171af33cf0d43c9b", func := "besom/besomlaw18.BarrierTells", spec := "barrierTells", apart := false, narrowed := true }
def BarrierTellsUptoSaid : Prop := barrierTellsUptoRow.holds Try.pinned (OpenSpec.upto barrierTellsSpec)

/-- 'besomlaw3.ClassRises', WHERE WHAT IT READS IS OF BULK AT MOST 1048576: true; the input reads as it did. -/
def classRisesUptoRow : OpenClaim := { program := "ytnolkgciapggdaa", sum := "b2ef54a5e0aad7b813ad2e986501dbb6d4ff5a743a11f802171af33cf0d43c9b", func := "besom/besomlaw3.ClassRises", spec := "classRises", apart := false, narrowed := true }
def ClassRisesUptoSaid : Prop := classRisesUptoRow.holds Try.pinned (OpenSpec.upto classRisesSpec)

/-- 'besomlaw8.PilePlays', WHERE WHAT IT READS IS OF BULK AT MOST 1048576: true; the input reads as it did. -/
def pilePlaysUptoRow : OpenClaim := { program := "ytnolkgciapggdaa", sum := "b2ef54a5e0aad7b813ad2e986501dbb6d4ff5a743a11f802171af33cf0d43c9b", func := "besom/besomlaw8.PilePlays", spec := "pilePlays", apart := false, narrowed := true }
def PilePlaysUptoSaid : Prop := pilePlaysUptoRow.holds Try.pinned (OpenSpec.upto pilePlaysSpec)

/-- 'besomlaw3.ClassTells', WHERE WHAT IT READS IS OF BULK AT MOST 1048576: true; the input reads as it did. -/
def classTellsUptoRow : OpenClaim := { program := "ytnolkgciapggdaa", sum := "b2ef54a5e0aad7b813ad2e986501dbb6d4ff5a743a11f802171af33cf0d43c9b", func := "besom/besomlaw3.ClassTells", spec := "classTells", apart := false, narrowed := true }
def ClassTellsUptoSaid : Prop := classTellsUptoRow.holds Try.pinned (OpenSpec.upto classTellsSpec)

/-- 'besomlaw3.ClassSlots', WHERE WHAT IT READS IS OF BULK AT MOST 1048576: true; the input reads as it did. -/
def classSlotsUptoRow : OpenClaim := { program := "ytnolkgciapggdaa", sum := "b2ef54a5e0aad7b813ad2e986501dbb6d4ff5a743a11f802171af33cf0d43c9b", func := "besom/besomlaw3.ClassSlots", spec := "classSlots", apart := false, narrowed := true }
def ClassSlotsUptoSaid : Prop := classSlotsUptoRow.holds Try.pinned (OpenSpec.upto classSlotsSpec)

end Rows
end Go.Proofs.Ytnolkgciapggdaa
