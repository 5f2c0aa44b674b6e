/-
  DERIVED. GIVEN WITH THE SEED: THE CARDS: each row of YtoajbjeiplolnaaDoorRRows.lean that lists a variable, with what it lists TIED to the program's text (the seventh form; the later family's looks); each row that meets fmt, with fmt's text TOLD by the authors' own Lean function (tested against real Go, not proved from fmt's source: count such statements apart). THE CARD IS WHAT COUNTS. Prove the row's statement (the work); the ties are given (YtoajbjeiplolnaaDoorRTie.lean); close each card by the builder's one call (the guide's Derived/Test/ToyasCard.lean, 'card_holds'). Laid BY PROGRAM, IN A SANDBOX (cutbox-door.mjs). By AI agents, Wed Nov 11 2026. No macro, syntax, notation, axiom, sorry.
-/
import Derived.Test.YtoajbjeiplolnaaDoorRRows
import GoSem.ClaimSeven
namespace Go.Proofs.YtoajbjeiplolnaaDoorR
namespace Rows

/-- THE TIED CARD OF 'besomlaw6.ArenaPlays'. -/
def arenaPlaysCard : Claim7 := { stood := { row := arenaPlaysRow, standIns := [], harness := (true, "1415df4c3608e47308af44cfb5f872a17763106e2e7f71ab99b26dff4f9639f2"), looks := false }, kinds := [], alts := [], laidByText := true, laidKinds := [.data], laidTests := true, laidLooks := .later }
def ArenaPlaysCardSaid : Prop := Claim7.holds Tryd.pinned (.plain (OpenSpec.ofChange arenaPlaysSpec)) arenaPlaysCard

/-- THE TIED CARD OF 'besomlaw7.HeapSerials'. -/
def heapSerialsCard : Claim7 := { stood := { row := heapSerialsRow, standIns := [], harness := (true, "1415df4c3608e47308af44cfb5f872a17763106e2e7f71ab99b26dff4f9639f2"), looks := false }, kinds := [], alts := [], laidByText := true, laidKinds := [.data], laidTests := true, laidLooks := .later }
def HeapSerialsCardSaid : Prop := Claim7.holds Tryd.pinned (.plain (OpenSpec.ofChange heapSerialsSpec)) heapSerialsCard

/-- THE TIED CARD OF 'besomlaw7.HeapFields'. -/
def heapFieldsCard : Claim7 := { stood := { row := heapFieldsRow, standIns := [], harness := (true, "1415df4c3608e47308af44cfb5f872a17763106e2e7f71ab99b26dff4f9639f2"), looks := false }, kinds := [], alts := [], laidByText := true, laidKinds := [.data], laidTests := true, laidLooks := .later }
def HeapFieldsCardSaid : Prop := Claim7.holds Tryd.pinned (.plain (OpenSpec.ofChange heapFieldsSpec)) heapFieldsCard

/-- THE TIED CARD OF 'besomlaw7.HeapSweeps'. -/
def heapSweepsCard : Claim7 := { stood := { row := heapSweepsRow, standIns := [], harness := (true, "1415df4c3608e47308af44cfb5f872a17763106e2e7f71ab99b26dff4f9639f2"), looks := false }, kinds := [], alts := [], laidByText := true, laidKinds := [.data], laidTests := true, laidLooks := .later }
def HeapSweepsCardSaid : Prop := Claim7.holds Tryd.pinned (.plain (OpenSpec.ofChange heapSweepsSpec)) heapSweepsCard

/-- THE TIED CARD OF 'besomlaw21.BrushNeeds'. -/
def brushNeedsCard : Claim7 := { stood := { row := brushNeedsRow, standIns := [], harness := (true, "1415df4c3608e47308af44cfb5f872a17763106e2e7f71ab99b26dff4f9639f2"), looks := false }, kinds := [], alts := [], laidByText := true, laidKinds := [.data, .data], laidTests := true, laidLooks := .later }
def BrushNeedsCardSaid : Prop := Claim7.holds Tryd.pinned (.plain (OpenSpec.ofChange brushNeedsSpec)) brushNeedsCard

/-- THE TIED CARD OF 'besomlaw21.BrushWhole'. -/
def brushWholeCard : Claim7 := { stood := { row := brushWholeRow, standIns := [], harness := (true, "1415df4c3608e47308af44cfb5f872a17763106e2e7f71ab99b26dff4f9639f2"), looks := false }, kinds := [], alts := [], laidByText := true, laidKinds := [.data, .data], laidTests := true, laidLooks := .later }
def BrushWholeCardSaid : Prop := Claim7.holds Tryd.pinned (.plain (OpenSpec.ofChange brushWholeSpec)) brushWholeCard

/-- THE TIED CARD OF 'besomlaw20.TintSteps'. -/
def tintStepsCard : Claim7 := { stood := { row := tintStepsRow, standIns := [], harness := (true, "1415df4c3608e47308af44cfb5f872a17763106e2e7f71ab99b26dff4f9639f2"), looks := false }, kinds := [], alts := [], laidByText := true, laidKinds := [.data], laidTests := true, laidLooks := .later }
def TintStepsCardSaid : Prop := Claim7.holds Tryd.pinned (.plain (OpenSpec.ofChange tintStepsSpec)) tintStepsCard

/-- THE TIED CARD OF 'besomlaw20.TintChain'. -/
def tintChainCard : Claim7 := { stood := { row := tintChainRow, standIns := [], harness := (true, "1415df4c3608e47308af44cfb5f872a17763106e2e7f71ab99b26dff4f9639f2"), looks := false }, kinds := [], alts := [], laidByText := true, laidKinds := [.data], laidTests := true, laidLooks := .later }
def TintChainCardSaid : Prop := Claim7.holds Tryd.pinned (.plain (OpenSpec.ofChange tintChainSpec)) tintChainCard

/-- THE TIED CARD OF 'besomlaw21.BrushPlays'. -/
def brushPlaysCard : Claim7 := { stood := { row := brushPlaysRow, standIns := [], harness := (true, "1415df4c3608e47308af44cfb5f872a17763106e2e7f71ab99b26dff4f9639f2"), looks := false }, kinds := [], alts := [], laidByText := true, laidKinds := [.data, .data], laidTests := true, laidLooks := .later }
def BrushPlaysCardSaid : Prop := Claim7.holds Tryd.pinned (.plain (OpenSpec.ofChange brushPlaysSpec)) brushPlaysCard

/-- THE TIED CARD OF 'besomlaw20.TintMarks'. -/
def tintMarksCard : Claim7 := { stood := { row := tintMarksRow, standIns := [], harness := (true, "1415df4c3608e47308af44cfb5f872a17763106e2e7f71ab99b26dff4f9639f2"), looks := false }, kinds := [], alts := [], laidByText := true, laidKinds := [.data], laidTests := true, laidLooks := .later }
def TintMarksCardSaid : Prop := Claim7.holds Tryd.pinned (.plain (OpenSpec.ofChange tintMarksSpec)) tintMarksCard

/-- THE TIED CARD OF 'besomlaw20.TintRings'. -/
def tintRingsCard : Claim7 := { stood := { row := tintRingsRow, standIns := [], harness := (true, "1415df4c3608e47308af44cfb5f872a17763106e2e7f71ab99b26dff4f9639f2"), looks := false }, kinds := [], alts := [], laidByText := true, laidKinds := [.data], laidTests := true, laidLooks := .later }
def TintRingsCardSaid : Prop := Claim7.holds Tryd.pinned (.plain (OpenSpec.ofChange tintRingsSpec)) tintRingsCard

/-- THE TIED CARD OF 'besomlaw20.TintNumbers'. -/
def tintNumbersCard : Claim7 := { stood := { row := tintNumbersRow, standIns := [], harness := (true, "1415df4c3608e47308af44cfb5f872a17763106e2e7f71ab99b26dff4f9639f2"), looks := false }, kinds := [], alts := [], laidByText := true, laidKinds := [.data], laidTests := true, laidLooks := .later }
def TintNumbersCardSaid : Prop := Claim7.holds Tryd.pinned (.plain (OpenSpec.ofChange tintNumbersSpec)) tintNumbersCard

/-- THE TIED CARD OF 'besomlaw20.TintLate'. -/
def tintLateCard : Claim7 := { stood := { row := tintLateRow, standIns := [], harness := (true, "1415df4c3608e47308af44cfb5f872a17763106e2e7f71ab99b26dff4f9639f2"), looks := false }, kinds := [], alts := [], laidByText := true, laidKinds := [.data], laidTests := true, laidLooks := .later }
def TintLateCardSaid : Prop := Claim7.holds Tryd.pinned (.plain (OpenSpec.ofChange tintLateSpec)) tintLateCard

/-- THE SECOND FORM's CARD OF 'besomlaw6.ArenaPlays'. -/
def arenaPlaysUptoCard : Claim7 := { stood := { row := arenaPlaysUptoRow, standIns := [], harness := (true, "1415df4c3608e47308af44cfb5f872a17763106e2e7f71ab99b26dff4f9639f2"), looks := false }, kinds := [], alts := [], laidByText := true, laidKinds := [.data], laidTests := true, laidLooks := .later }
def ArenaPlaysUptoCardSaid : Prop := Claim7.holds Tryd.pinned (.plain (OpenSpec.upto arenaPlaysSpec)) arenaPlaysUptoCard

/-- THE SECOND FORM's CARD OF 'besomlaw7.HeapSerials'. -/
def heapSerialsUptoCard : Claim7 := { stood := { row := heapSerialsUptoRow, standIns := [], harness := (true, "1415df4c3608e47308af44cfb5f872a17763106e2e7f71ab99b26dff4f9639f2"), looks := false }, kinds := [], alts := [], laidByText := true, laidKinds := [.data], laidTests := true, laidLooks := .later }
def HeapSerialsUptoCardSaid : Prop := Claim7.holds Tryd.pinned (.plain (OpenSpec.upto heapSerialsSpec)) heapSerialsUptoCard

/-- THE SECOND FORM's CARD OF 'besomlaw7.HeapFields'. -/
def heapFieldsUptoCard : Claim7 := { stood := { row := heapFieldsUptoRow, standIns := [], harness := (true, "1415df4c3608e47308af44cfb5f872a17763106e2e7f71ab99b26dff4f9639f2"), looks := false }, kinds := [], alts := [], laidByText := true, laidKinds := [.data], laidTests := true, laidLooks := .later }
def HeapFieldsUptoCardSaid : Prop := Claim7.holds Tryd.pinned (.plain (OpenSpec.upto heapFieldsSpec)) heapFieldsUptoCard

/-- THE SECOND FORM's CARD OF 'besomlaw7.HeapSweeps'. -/
def heapSweepsUptoCard : Claim7 := { stood := { row := heapSweepsUptoRow, standIns := [], harness := (true, "1415df4c3608e47308af44cfb5f872a17763106e2e7f71ab99b26dff4f9639f2"), looks := false }, kinds := [], alts := [], laidByText := true, laidKinds := [.data], laidTests := true, laidLooks := .later }
def HeapSweepsUptoCardSaid : Prop := Claim7.holds Tryd.pinned (.plain (OpenSpec.upto heapSweepsSpec)) heapSweepsUptoCard

/-- THE SECOND FORM's CARD OF 'besomlaw21.BrushNeeds'. -/
def brushNeedsUptoCard : Claim7 := { stood := { row := brushNeedsUptoRow, standIns := [], harness := (true, "1415df4c3608e47308af44cfb5f872a17763106e2e7f71ab99b26dff4f9639f2"), looks := false }, kinds := [], alts := [], laidByText := true, laidKinds := [.data, .data], laidTests := true, laidLooks := .later }
def BrushNeedsUptoCardSaid : Prop := Claim7.holds Tryd.pinned (.plain (OpenSpec.upto brushNeedsSpec)) brushNeedsUptoCard

/-- THE SECOND FORM's CARD OF 'besomlaw21.BrushWhole'. -/
def brushWholeUptoCard : Claim7 := { stood := { row := brushWholeUptoRow, standIns := [], harness := (true, "1415df4c3608e47308af44cfb5f872a17763106e2e7f71ab99b26dff4f9639f2"), looks := false }, kinds := [], alts := [], laidByText := true, laidKinds := [.data, .data], laidTests := true, laidLooks := .later }
def BrushWholeUptoCardSaid : Prop := Claim7.holds Tryd.pinned (.plain (OpenSpec.upto brushWholeSpec)) brushWholeUptoCard

/-- THE SECOND FORM's CARD OF 'besomlaw20.TintSteps'. -/
def tintStepsUptoCard : Claim7 := { stood := { row := tintStepsUptoRow, standIns := [], harness := (true, "1415df4c3608e47308af44cfb5f872a17763106e2e7f71ab99b26dff4f9639f2"), looks := false }, kinds := [], alts := [], laidByText := true, laidKinds := [.data], laidTests := true, laidLooks := .later }
def TintStepsUptoCardSaid : Prop := Claim7.holds Tryd.pinned (.plain (OpenSpec.upto tintStepsSpec)) tintStepsUptoCard

/-- THE SECOND FORM's CARD OF 'besomlaw20.TintChain'. -/
def tintChainUptoCard : Claim7 := { stood := { row := tintChainUptoRow, standIns := [], harness := (true, "1415df4c3608e47308af44cfb5f872a17763106e2e7f71ab99b26dff4f9639f2"), looks := false }, kinds := [], alts := [], laidByText := true, laidKinds := [.data], laidTests := true, laidLooks := .later }
def TintChainUptoCardSaid : Prop := Claim7.holds Tryd.pinned (.plain (OpenSpec.upto tintChainSpec)) tintChainUptoCard

/-- THE SECOND FORM's CARD OF 'besomlaw21.BrushPlays'. -/
def brushPlaysUptoCard : Claim7 := { stood := { row := brushPlaysUptoRow, standIns := [], harness := (true, "1415df4c3608e47308af44cfb5f872a17763106e2e7f71ab99b26dff4f9639f2"), looks := false }, kinds := [], alts := [], laidByText := true, laidKinds := [.data, .data], laidTests := true, laidLooks := .later }
def BrushPlaysUptoCardSaid : Prop := Claim7.holds Tryd.pinned (.plain (OpenSpec.upto brushPlaysSpec)) brushPlaysUptoCard

/-- THE SECOND FORM's CARD OF 'besomlaw20.TintMarks'. -/
def tintMarksUptoCard : Claim7 := { stood := { row := tintMarksUptoRow, standIns := [], harness := (true, "1415df4c3608e47308af44cfb5f872a17763106e2e7f71ab99b26dff4f9639f2"), looks := false }, kinds := [], alts := [], laidByText := true, laidKinds := [.data], laidTests := true, laidLooks := .later }
def TintMarksUptoCardSaid : Prop := Claim7.holds Tryd.pinned (.plain (OpenSpec.upto tintMarksSpec)) tintMarksUptoCard

/-- THE SECOND FORM's CARD OF 'besomlaw20.TintRings'. -/
def tintRingsUptoCard : Claim7 := { stood := { row := tintRingsUptoRow, standIns := [], harness := (true, "1415df4c3608e47308af44cfb5f872a17763106e2e7f71ab99b26dff4f9639f2"), looks := false }, kinds := [], alts := [], laidByText := true, laidKinds := [.data], laidTests := true, laidLooks := .later }
def TintRingsUptoCardSaid : Prop := Claim7.holds Tryd.pinned (.plain (OpenSpec.upto tintRingsSpec)) tintRingsUptoCard

/-- THE SECOND FORM's CARD OF 'besomlaw20.TintNumbers'. -/
def tintNumbersUptoCard : Claim7 := { stood := { row := tintNumbersUptoRow, standIns := [], harness := (true, "1415df4c3608e47308af44cfb5f872a17763106e2e7f71ab99b26dff4f9639f2"), looks := false }, kinds := [], alts := [], laidByText := true, laidKinds := [.data], laidTests := true, laidLooks := .later }
def TintNumbersUptoCardSaid : Prop := Claim7.holds Tryd.pinned (.plain (OpenSpec.upto tintNumbersSpec)) tintNumbersUptoCard

/-- THE SECOND FORM's CARD OF 'besomlaw20.TintLate'. -/
def tintLateUptoCard : Claim7 := { stood := { row := tintLateUptoRow, standIns := [], harness := (true, "1415df4c3608e47308af44cfb5f872a17763106e2e7f71ab99b26dff4f9639f2"), looks := false }, kinds := [], alts := [], laidByText := true, laidKinds := [.data], laidTests := true, laidLooks := .later }
def TintLateUptoCardSaid : Prop := Claim7.holds Tryd.pinned (.plain (OpenSpec.upto tintLateSpec)) tintLateUptoCard
end Rows
end Go.Proofs.YtoajbjeiplolnaaDoorR
