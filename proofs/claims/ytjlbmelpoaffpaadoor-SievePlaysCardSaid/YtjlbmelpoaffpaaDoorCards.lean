/-
  DERIVED. GIVEN WITH THE SEED: THE CARDS: each row of YtjlbmelpoaffpaaDoorRows.lean that lists a variable, with what it lists TIED to the program's text (the seventh form; the later family's looks); each row that meets fmt, with fmt's text TOLD by the authors' own Lean function (tested against real Go, not proved from fmt's source: count such statements apart). THE CARD IS WHAT COUNTS. Prove the row's statement (the work); the ties are given (YtjlbmelpoaffpaaDoorTie.lean); close each card by the builder's one call (the guide's Derived/Test/ToyasCard.lean, 'card_holds'). Laid BY PROGRAM, IN A SANDBOX (cutbox-door.mjs). By AI agents, Wed Nov 11 2026. No macro, syntax, notation, axiom, sorry.
-/
import Derived.Test.YtjlbmelpoaffpaaDoorRows
import GoSem.ClaimSeven
namespace Go.Proofs.YtjlbmelpoaffpaaDoor
namespace Rows

/-- THE TIED CARD OF 'besomlaw1.SieveMasks'. -/
def sieveMasksCard : Claim7 := { stood := { row := sieveMasksRow, standIns := [], harness := (true, "c3a7fd740225ece2c165c10782e48490376e3d35dd6cae0baca07283e7163787"), looks := false }, kinds := [], alts := [], laidByText := true, laidKinds := [.data], laidTests := true, laidLooks := .later }
def SieveMasksCardSaid : Prop := Claim7.holds Tryd.pinned (.plain (OpenSpec.ofChange sieveMasksSpec)) sieveMasksCard

/-- THE TIED CARD OF 'besomlaw1.SieveSteps'. -/
def sieveStepsCard : Claim7 := { stood := { row := sieveStepsRow, standIns := [], harness := (true, "c3a7fd740225ece2c165c10782e48490376e3d35dd6cae0baca07283e7163787"), looks := false }, kinds := [], alts := [], laidByText := true, laidKinds := [.data], laidTests := true, laidLooks := .later }
def SieveStepsCardSaid : Prop := Claim7.holds Tryd.pinned (.plain (OpenSpec.ofChange sieveStepsSpec)) sieveStepsCard

/-- THE TIED CARD OF 'besomlaw1.SieveTwice'. -/
def sieveTwiceCard : Claim7 := { stood := { row := sieveTwiceRow, standIns := [], harness := (true, "c3a7fd740225ece2c165c10782e48490376e3d35dd6cae0baca07283e7163787"), looks := false }, kinds := [], alts := [], laidByText := true, laidKinds := [.data], laidTests := true, laidLooks := .later }
def SieveTwiceCardSaid : Prop := Claim7.holds Tryd.pinned (.plain (OpenSpec.ofChange sieveTwiceSpec)) sieveTwiceCard

/-- THE TIED CARD OF 'besomlaw1.SievePlays'. -/
def sievePlaysCard : Claim7 := { stood := { row := sievePlaysRow, standIns := [], harness := (true, "c3a7fd740225ece2c165c10782e48490376e3d35dd6cae0baca07283e7163787"), looks := false }, kinds := [], alts := [], laidByText := true, laidKinds := [.data], laidTests := true, laidLooks := .later }
def SievePlaysCardSaid : Prop := Claim7.holds Tryd.pinned (.plain (OpenSpec.ofChange sievePlaysSpec)) sievePlaysCard

/-- THE TIED CARD OF 'besomlaw6.ArenaInside'. -/
def arenaInsideCard : Claim7 := { stood := { row := arenaInsideRow, standIns := [], harness := (true, "c3a7fd740225ece2c165c10782e48490376e3d35dd6cae0baca07283e7163787"), looks := false }, kinds := [], alts := [], laidByText := true, laidKinds := [.data], laidTests := true, laidLooks := .later }
def ArenaInsideCardSaid : Prop := Claim7.holds Tryd.pinned (.plain (OpenSpec.ofChange arenaInsideSpec)) arenaInsideCard

/-- THE TIED CARD OF 'besomlaw6.ArenaPages'. -/
def arenaPagesCard : Claim7 := { stood := { row := arenaPagesRow, standIns := [], harness := (true, "c3a7fd740225ece2c165c10782e48490376e3d35dd6cae0baca07283e7163787"), looks := false }, kinds := [], alts := [], laidByText := true, laidKinds := [.data], laidTests := true, laidLooks := .later }
def ArenaPagesCardSaid : Prop := Claim7.holds Tryd.pinned (.plain (OpenSpec.ofChange arenaPagesSpec)) arenaPagesCard

/-- THE TIED CARD OF 'besomlaw6.ArenaPlays'. -/
def arenaPlaysCard : Claim7 := { stood := { row := arenaPlaysRow, standIns := [], harness := (true, "c3a7fd740225ece2c165c10782e48490376e3d35dd6cae0baca07283e7163787"), looks := false }, kinds := [], alts := [], laidByText := true, laidKinds := [.data], laidTests := true, laidLooks := .later }
def ArenaPlaysCardSaid : Prop := Claim7.holds Tryd.pinned (.plain (OpenSpec.ofChange arenaPlaysSpec)) arenaPlaysCard

/-- THE SECOND FORM's CARD OF 'besomlaw1.SieveMasks'. -/
def sieveMasksUptoCard : Claim7 := { stood := { row := sieveMasksUptoRow, standIns := [], harness := (true, "c3a7fd740225ece2c165c10782e48490376e3d35dd6cae0baca07283e7163787"), looks := false }, kinds := [], alts := [], laidByText := true, laidKinds := [.data], laidTests := true, laidLooks := .later }
def SieveMasksUptoCardSaid : Prop := Claim7.holds Tryd.pinned (.plain (OpenSpec.upto sieveMasksSpec)) sieveMasksUptoCard

/-- THE SECOND FORM's CARD OF 'besomlaw1.SieveSteps'. -/
def sieveStepsUptoCard : Claim7 := { stood := { row := sieveStepsUptoRow, standIns := [], harness := (true, "c3a7fd740225ece2c165c10782e48490376e3d35dd6cae0baca07283e7163787"), looks := false }, kinds := [], alts := [], laidByText := true, laidKinds := [.data], laidTests := true, laidLooks := .later }
def SieveStepsUptoCardSaid : Prop := Claim7.holds Tryd.pinned (.plain (OpenSpec.upto sieveStepsSpec)) sieveStepsUptoCard

/-- THE SECOND FORM's CARD OF 'besomlaw1.SieveTwice'. -/
def sieveTwiceUptoCard : Claim7 := { stood := { row := sieveTwiceUptoRow, standIns := [], harness := (true, "c3a7fd740225ece2c165c10782e48490376e3d35dd6cae0baca07283e7163787"), looks := false }, kinds := [], alts := [], laidByText := true, laidKinds := [.data], laidTests := true, laidLooks := .later }
def SieveTwiceUptoCardSaid : Prop := Claim7.holds Tryd.pinned (.plain (OpenSpec.upto sieveTwiceSpec)) sieveTwiceUptoCard

/-- THE SECOND FORM's CARD OF 'besomlaw1.SievePlays'. -/
def sievePlaysUptoCard : Claim7 := { stood := { row := sievePlaysUptoRow, standIns := [], harness := (true, "c3a7fd740225ece2c165c10782e48490376e3d35dd6cae0baca07283e7163787"), looks := false }, kinds := [], alts := [], laidByText := true, laidKinds := [.data], laidTests := true, laidLooks := .later }
def SievePlaysUptoCardSaid : Prop := Claim7.holds Tryd.pinned (.plain (OpenSpec.upto sievePlaysSpec)) sievePlaysUptoCard

/-- THE SECOND FORM's CARD OF 'besomlaw6.ArenaInside'. -/
def arenaInsideUptoCard : Claim7 := { stood := { row := arenaInsideUptoRow, standIns := [], harness := (true, "c3a7fd740225ece2c165c10782e48490376e3d35dd6cae0baca07283e7163787"), looks := false }, kinds := [], alts := [], laidByText := true, laidKinds := [.data], laidTests := true, laidLooks := .later }
def ArenaInsideUptoCardSaid : Prop := Claim7.holds Tryd.pinned (.plain (OpenSpec.upto arenaInsideSpec)) arenaInsideUptoCard

/-- THE SECOND FORM's CARD OF 'besomlaw6.ArenaPages'. -/
def arenaPagesUptoCard : Claim7 := { stood := { row := arenaPagesUptoRow, standIns := [], harness := (true, "c3a7fd740225ece2c165c10782e48490376e3d35dd6cae0baca07283e7163787"), looks := false }, kinds := [], alts := [], laidByText := true, laidKinds := [.data], laidTests := true, laidLooks := .later }
def ArenaPagesUptoCardSaid : Prop := Claim7.holds Tryd.pinned (.plain (OpenSpec.upto arenaPagesSpec)) arenaPagesUptoCard

/-- THE SECOND FORM's CARD OF 'besomlaw6.ArenaPlays'. -/
def arenaPlaysUptoCard : Claim7 := { stood := { row := arenaPlaysUptoRow, standIns := [], harness := (true, "c3a7fd740225ece2c165c10782e48490376e3d35dd6cae0baca07283e7163787"), looks := false }, kinds := [], alts := [], laidByText := true, laidKinds := [.data], laidTests := true, laidLooks := .later }
def ArenaPlaysUptoCardSaid : Prop := Claim7.holds Tryd.pinned (.plain (OpenSpec.upto arenaPlaysSpec)) arenaPlaysUptoCard
end Rows
end Go.Proofs.YtjlbmelpoaffpaaDoor
