/-
  DERIVED. GIVEN WITH THE SEED: THE CARDS: each row of YtjeclmmikjpinaaGreatDoorRows.lean that lists a variable, with what it lists TIED to the program's text (the seventh form; the later family's looks); each row that meets fmt, with fmt's text TOLD by the authors' own Lean function (tested against real Go, not proved from fmt's source: count such statements apart). THE CARD IS WHAT COUNTS. Prove the row's statement (the work); the ties are given (YtjeclmmikjpinaaGreatDoorTie.lean); close each card by the builder's one call (the guide's Derived/Test/ToyasCard.lean, 'card_holds'). Laid BY PROGRAM, IN A SANDBOX (cutbox-door.mjs). By AI agents, Wed Nov 11 2026. No macro, syntax, notation, axiom, sorry.
-/
import Derived.Test.YtjeclmmikjpinaaGreatDoorRows
import GoSem.ClaimSeven
namespace Go.Proofs.YtjeclmmikjpinaaGreatDoor
namespace Rows

/-- THE TIED CARD OF 'rootcauselaw54.CasebookNil'. -/
def casebookNilCard : Claim7 := { stood := { row := casebookNilRow, standIns := [], harness := (true, "fb35e61462a710b9df02911f3064778651571fdc8a6ca1fcbdbce013984fa239"), looks := true }, kinds := [], alts := [], laidByText := true, laidKinds := [.data], laidTests := true, laidLooks := .later }
def CasebookNilCardSaid : Prop := Claim7.holds Tryz.pinned (.plain (OpenSpec.ofChange casebookNilSpec)) casebookNilCard

/-- THE SECOND FORM's CARD OF 'rootcauselaw54.CasebookNil'. -/
def casebookNilUptoCard : Claim7 := { stood := { row := casebookNilUptoRow, standIns := [], harness := (true, "fb35e61462a710b9df02911f3064778651571fdc8a6ca1fcbdbce013984fa239"), looks := true }, kinds := [], alts := [], laidByText := true, laidKinds := [.data], laidTests := true, laidLooks := .later }
def CasebookNilUptoCardSaid : Prop := Claim7.holds Tryz.pinned (.plain (OpenSpec.upto casebookNilSpec)) casebookNilUptoCard
end Rows
end Go.Proofs.YtjeclmmikjpinaaGreatDoor
