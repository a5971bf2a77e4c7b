/-
  DERIVED. GIVEN WITH THE SEED: THE CARDS: each row of YtjeclmmikjpinaaDoorRows.lean that lists a variable, with what it lists TIED to the program's text (the seventh form; the later family's looks); each row that meets fmt, with fmt's text TOLD by the authors' own Lean function (tested against real Go, not proved from fmt's source: count such statements apart). THE CARD IS WHAT COUNTS. Prove the row's statement (the work); the ties are given (YtjeclmmikjpinaaDoorTie.lean); close each card by the builder's one call (the guide's Derived/Test/ToyasCard.lean, 'card_holds'). Laid BY PROGRAM, IN A SANDBOX (cutbox-door.mjs). By AI agents, Wed Nov 11 2026. No macro, syntax, notation, axiom, sorry.
-/
import Derived.Test.YtjeclmmikjpinaaDoorRows
import GoSem.ClaimSeven
namespace Go.Proofs.YtjeclmmikjpinaaDoor
namespace Rows

/-- THE TIED CARD OF 'rootcauselaw54.CasebookFull'. -/
def casebookFullCard : Claim7 := { stood := { row := casebookFullRow, standIns := [], harness := (true, "09630d8cf47ede6cac2eed3b909b879ac9c0da609abcd556eb32d22a8ca5239c"), looks := true }, kinds := [], alts := [], laidByText := true, laidKinds := [.data], laidTests := true, laidLooks := .later }
def CasebookFullCardSaid : Prop := Claim7.holds Tryd.pinned (.plain (OpenSpec.ofChange casebookFullSpec)) casebookFullCard

/-- THE SECOND FORM's CARD OF 'rootcauselaw54.CasebookFull'. -/
def casebookFullUptoCard : Claim7 := { stood := { row := casebookFullUptoRow, standIns := [], harness := (true, "09630d8cf47ede6cac2eed3b909b879ac9c0da609abcd556eb32d22a8ca5239c"), looks := true }, kinds := [], alts := [], laidByText := true, laidKinds := [.data], laidTests := true, laidLooks := .later }
def CasebookFullUptoCardSaid : Prop := Claim7.holds Tryd.pinned (.plain (OpenSpec.upto casebookFullSpec)) casebookFullUptoCard
end Rows
end Go.Proofs.YtjeclmmikjpinaaDoor
