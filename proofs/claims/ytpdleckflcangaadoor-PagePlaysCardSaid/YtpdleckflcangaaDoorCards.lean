/-
  DERIVED. GIVEN WITH THE SEED: THE CARDS: each row of YtpdleckflcangaaDoorRows.lean that lists a variable, with what it lists TIED to the program's text (the seventh form; the later family's looks); each row that meets fmt, with fmt's text TOLD by the authors' own Lean function (tested against real Go, not proved from fmt's source: count such statements apart). THE CARD IS WHAT COUNTS. Prove the row's statement (the work); the ties are given (YtpdleckflcangaaDoorTie.lean); close each card by the builder's one call (the guide's Derived/Test/ToyasCard.lean, 'card_holds'). Laid BY PROGRAM, IN A SANDBOX (cutbox-door.mjs). By AI agents, Wed Nov 11 2026. No macro, syntax, notation, axiom, sorry.
-/
import Derived.Test.YtpdleckflcangaaDoorRows
import GoSem.ClaimSeven
namespace Go.Proofs.YtpdleckflcangaaDoor
namespace Rows

/-- THE TIED CARD OF 'besomlaw5.PageFull'. -/
def pageFullCard : Claim7 := { stood := { row := pageFullRow, standIns := [], harness := (true, "031d6682852f562c0a170e1940fb7c2b8c51f659f0c5b66a4f86d45f68e2ba53"), looks := false }, kinds := [], alts := [], laidByText := true, laidKinds := [.data], laidTests := true, laidLooks := .later }
def PageFullCardSaid : Prop := Claim7.holds Tryd.pinned (.plain (OpenSpec.ofChange pageFullSpec)) pageFullCard

/-- THE TIED CARD OF 'besomlaw5.PageSweeps'. -/
def pageSweepsCard : Claim7 := { stood := { row := pageSweepsRow, standIns := [], harness := (true, "031d6682852f562c0a170e1940fb7c2b8c51f659f0c5b66a4f86d45f68e2ba53"), looks := false }, kinds := [], alts := [], laidByText := true, laidKinds := [.data], laidTests := true, laidLooks := .later }
def PageSweepsCardSaid : Prop := Claim7.holds Tryd.pinned (.plain (OpenSpec.ofChange pageSweepsSpec)) pageSweepsCard

/-- THE TIED CARD OF 'besomlaw5.PagePlays'. -/
def pagePlaysCard : Claim7 := { stood := { row := pagePlaysRow, standIns := [], harness := (true, "031d6682852f562c0a170e1940fb7c2b8c51f659f0c5b66a4f86d45f68e2ba53"), looks := false }, kinds := [], alts := [], laidByText := true, laidKinds := [.data], laidTests := true, laidLooks := .later }
def PagePlaysCardSaid : Prop := Claim7.holds Tryd.pinned (.plain (OpenSpec.ofChange pagePlaysSpec)) pagePlaysCard

/-- THE SECOND FORM's CARD OF 'besomlaw5.PageFull'. -/
def pageFullUptoCard : Claim7 := { stood := { row := pageFullUptoRow, standIns := [], harness := (true, "031d6682852f562c0a170e1940fb7c2b8c51f659f0c5b66a4f86d45f68e2ba53"), looks := false }, kinds := [], alts := [], laidByText := true, laidKinds := [.data], laidTests := true, laidLooks := .later }
def PageFullUptoCardSaid : Prop := Claim7.holds Tryd.pinned (.plain (OpenSpec.upto pageFullSpec)) pageFullUptoCard

/-- THE SECOND FORM's CARD OF 'besomlaw5.PageSweeps'. -/
def pageSweepsUptoCard : Claim7 := { stood := { row := pageSweepsUptoRow, standIns := [], harness := (true, "031d6682852f562c0a170e1940fb7c2b8c51f659f0c5b66a4f86d45f68e2ba53"), looks := false }, kinds := [], alts := [], laidByText := true, laidKinds := [.data], laidTests := true, laidLooks := .later }
def PageSweepsUptoCardSaid : Prop := Claim7.holds Tryd.pinned (.plain (OpenSpec.upto pageSweepsSpec)) pageSweepsUptoCard

/-- THE SECOND FORM's CARD OF 'besomlaw5.PagePlays'. -/
def pagePlaysUptoCard : Claim7 := { stood := { row := pagePlaysUptoRow, standIns := [], harness := (true, "031d6682852f562c0a170e1940fb7c2b8c51f659f0c5b66a4f86d45f68e2ba53"), looks := false }, kinds := [], alts := [], laidByText := true, laidKinds := [.data], laidTests := true, laidLooks := .later }
def PagePlaysUptoCardSaid : Prop := Claim7.holds Tryd.pinned (.plain (OpenSpec.upto pagePlaysSpec)) pagePlaysUptoCard
end Rows
end Go.Proofs.YtpdleckflcangaaDoor
