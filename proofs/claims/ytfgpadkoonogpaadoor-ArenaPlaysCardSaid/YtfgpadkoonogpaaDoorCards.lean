/-
  DERIVED. GIVEN WITH THE SEED: THE CARDS: each row of YtfgpadkoonogpaaDoorRows.lean that lists a variable, with what it lists TIED to the program's text (the seventh form; the later family's looks); each row that meets fmt, with fmt's text TOLD by the authors' own Lean function (tested against real Go, not proved from fmt's source: count such statements apart). THE CARD IS WHAT COUNTS. Prove the row's statement (the work); the ties are given (YtfgpadkoonogpaaDoorTie.lean); close each card by the builder's one call (the guide's Derived/Test/ToyasCard.lean, 'card_holds'). Laid BY PROGRAM, IN A SANDBOX (cutbox-door.mjs). By AI agents, Wed Nov 11 2026. No macro, syntax, notation, axiom, sorry.
-/
import Derived.Test.YtfgpadkoonogpaaDoorRows
import GoSem.ClaimSeven
namespace Go.Proofs.YtfgpadkoonogpaaDoor
namespace Rows

/-- THE TIED CARD OF 'besomlaw6.ArenaPlays'. -/
def arenaPlaysCard : Claim7 := { stood := { row := arenaPlaysRow, standIns := [], harness := (true, "462d0c759ae1266e9d9f3267fdd19cb47fabfeec9294688391dc57cec1bdcbd8"), looks := false }, kinds := [], alts := [], laidByText := true, laidKinds := [.data], laidTests := true, laidLooks := .later }
def ArenaPlaysCardSaid : Prop := Claim7.holds Tryd.pinned (.plain (OpenSpec.ofChange arenaPlaysSpec)) arenaPlaysCard

/-- THE TIED CARD OF 'besomlaw7.HeapSerials'. -/
def heapSerialsCard : Claim7 := { stood := { row := heapSerialsRow, standIns := [], harness := (true, "462d0c759ae1266e9d9f3267fdd19cb47fabfeec9294688391dc57cec1bdcbd8"), looks := false }, kinds := [], alts := [], laidByText := true, laidKinds := [.data], laidTests := true, laidLooks := .later }
def HeapSerialsCardSaid : Prop := Claim7.holds Tryd.pinned (.plain (OpenSpec.ofChange heapSerialsSpec)) heapSerialsCard

/-- THE TIED CARD OF 'besomlaw21.BrushPlays'. -/
def brushPlaysCard : Claim7 := { stood := { row := brushPlaysRow, standIns := [], harness := (true, "462d0c759ae1266e9d9f3267fdd19cb47fabfeec9294688391dc57cec1bdcbd8"), looks := false }, kinds := [], alts := [], laidByText := true, laidKinds := [.data, .data], laidTests := true, laidLooks := .later }
def BrushPlaysCardSaid : Prop := Claim7.holds Tryd.pinned (.plain (OpenSpec.ofChange brushPlaysSpec)) brushPlaysCard

/-- THE SECOND FORM's CARD OF 'besomlaw6.ArenaPlays'. -/
def arenaPlaysUptoCard : Claim7 := { stood := { row := arenaPlaysUptoRow, standIns := [], harness := (true, "462d0c759ae1266e9d9f3267fdd19cb47fabfeec9294688391dc57cec1bdcbd8"), looks := false }, kinds := [], alts := [], laidByText := true, laidKinds := [.data], laidTests := true, laidLooks := .later }
def ArenaPlaysUptoCardSaid : Prop := Claim7.holds Tryd.pinned (.plain (OpenSpec.upto arenaPlaysSpec)) arenaPlaysUptoCard

/-- THE SECOND FORM's CARD OF 'besomlaw7.HeapSerials'. -/
def heapSerialsUptoCard : Claim7 := { stood := { row := heapSerialsUptoRow, standIns := [], harness := (true, "462d0c759ae1266e9d9f3267fdd19cb47fabfeec9294688391dc57cec1bdcbd8"), looks := false }, kinds := [], alts := [], laidByText := true, laidKinds := [.data], laidTests := true, laidLooks := .later }
def HeapSerialsUptoCardSaid : Prop := Claim7.holds Tryd.pinned (.plain (OpenSpec.upto heapSerialsSpec)) heapSerialsUptoCard

/-- THE SECOND FORM's CARD OF 'besomlaw21.BrushPlays'. -/
def brushPlaysUptoCard : Claim7 := { stood := { row := brushPlaysUptoRow, standIns := [], harness := (true, "462d0c759ae1266e9d9f3267fdd19cb47fabfeec9294688391dc57cec1bdcbd8"), looks := false }, kinds := [], alts := [], laidByText := true, laidKinds := [.data, .data], laidTests := true, laidLooks := .later }
def BrushPlaysUptoCardSaid : Prop := Claim7.holds Tryd.pinned (.plain (OpenSpec.upto brushPlaysSpec)) brushPlaysUptoCard
end Rows
end Go.Proofs.YtfgpadkoonogpaaDoor
