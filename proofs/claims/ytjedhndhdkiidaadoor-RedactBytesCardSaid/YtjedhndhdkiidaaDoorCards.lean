/-
  DERIVED. GIVEN WITH THE SEED: THE CARDS: each row of YtjedhndhdkiidaaDoorRows.lean that lists a variable, with what it lists TIED to the program's text (the seventh form; the later family's looks); each row that meets fmt, with fmt's text TOLD by the authors' own Lean function (tested against real Go, not proved from fmt's source: count such statements apart). THE CARD IS WHAT COUNTS. Prove the row's statement (the work); the ties are given (YtjedhndhdkiidaaDoorTie.lean); close each card by the builder's one call (the guide's Derived/Test/ToyasCard.lean, 'card_holds'). Laid BY PROGRAM, IN A SANDBOX (cutbox-door.mjs). By AI agents, Wed Nov 11 2026. No macro, syntax, notation, axiom, sorry.
-/
import Derived.Test.YtjedhndhdkiidaaDoorRows
import GoSem.ClaimSeven
namespace Go.Proofs.YtjedhndhdkiidaaDoor
namespace Rows

/-- THE TIED CARD OF 'rootcauselaw53.RedactDiscloses'. -/
def redactDisclosesCard : Claim7 := { stood := { row := redactDisclosesRow, standIns := [], harness := (true, "f79f8ce937048b7a9a40f7e4bb6fdff9cf983aca166ff6b557c047b6ec04c50c"), looks := false }, kinds := [], alts := [], laidByText := true, laidKinds := [.data], laidTests := true, laidLooks := .later }
def RedactDisclosesCardSaid : Prop := Claim7.holds Tryd.pinned (.plain (OpenSpec.ofChange redactDisclosesSpec)) redactDisclosesCard

/-- THE TIED CARD OF 'rootcauselaw53.RedactRefuses'. -/
def redactRefusesCard : Claim7 := { stood := { row := redactRefusesRow, standIns := [], harness := (true, "f79f8ce937048b7a9a40f7e4bb6fdff9cf983aca166ff6b557c047b6ec04c50c"), looks := false }, kinds := [], alts := [], laidByText := true, laidKinds := [.data], laidTests := true, laidLooks := .later }
def RedactRefusesCardSaid : Prop := Claim7.holds Tryd.pinned (.plain (OpenSpec.ofChange redactRefusesSpec)) redactRefusesCard

/-- THE TIED CARD OF 'rootcauselaw53.RedactCloses'. -/
def redactClosesCard : Claim7 := { stood := { row := redactClosesRow, standIns := [], harness := (true, "f79f8ce937048b7a9a40f7e4bb6fdff9cf983aca166ff6b557c047b6ec04c50c"), looks := false }, kinds := [], alts := [], laidByText := true, laidKinds := [.data], laidTests := true, laidLooks := .later }
def RedactClosesCardSaid : Prop := Claim7.holds Tryd.pinned (.plain (OpenSpec.ofChange redactClosesSpec)) redactClosesCard

/-- THE TIED CARD OF 'rootcauselaw53.RedactCommits'. -/
def redactCommitsCard : Claim7 := { stood := { row := redactCommitsRow, standIns := [], harness := (true, "f79f8ce937048b7a9a40f7e4bb6fdff9cf983aca166ff6b557c047b6ec04c50c"), looks := false }, kinds := [], alts := [], laidByText := true, laidKinds := [.data], laidTests := true, laidLooks := .later }
def RedactCommitsCardSaid : Prop := Claim7.holds Tryd.pinned (.plain (OpenSpec.ofChange redactCommitsSpec)) redactCommitsCard

/-- THE TIED CARD OF 'rootcauselaw53.RedactVerifies'. -/
def redactVerifiesCard : Claim7 := { stood := { row := redactVerifiesRow, standIns := [], harness := (true, "f79f8ce937048b7a9a40f7e4bb6fdff9cf983aca166ff6b557c047b6ec04c50c"), looks := false }, kinds := [], alts := [], laidByText := true, laidKinds := [.data], laidTests := true, laidLooks := .later }
def RedactVerifiesCardSaid : Prop := Claim7.holds Tryd.pinned (.plain (OpenSpec.ofChange redactVerifiesSpec)) redactVerifiesCard

/-- THE TIED CARD OF 'rootcauselaw53.RedactHides'. -/
def redactHidesCard : Claim7 := { stood := { row := redactHidesRow, standIns := [], harness := (true, "f79f8ce937048b7a9a40f7e4bb6fdff9cf983aca166ff6b557c047b6ec04c50c"), looks := false }, kinds := [], alts := [], laidByText := true, laidKinds := [.data], laidTests := true, laidLooks := .later }
def RedactHidesCardSaid : Prop := Claim7.holds Tryd.pinned (.plain (OpenSpec.ofChange redactHidesSpec)) redactHidesCard

/-- THE TIED CARD OF 'rootcauselaw53.RedactBytes'. -/
def redactBytesCard : Claim7 := { stood := { row := redactBytesRow, standIns := [], harness := (true, "f79f8ce937048b7a9a40f7e4bb6fdff9cf983aca166ff6b557c047b6ec04c50c"), looks := false }, kinds := [], alts := [], laidByText := true, laidKinds := [.data], laidTests := true, laidLooks := .later }
def RedactBytesCardSaid : Prop := Claim7.holds Tryd.pinned (.plain (OpenSpec.ofChange redactBytesSpec)) redactBytesCard

/-- THE SECOND FORM's CARD OF 'rootcauselaw53.RedactDiscloses'. -/
def redactDisclosesUptoCard : Claim7 := { stood := { row := redactDisclosesUptoRow, standIns := [], harness := (true, "f79f8ce937048b7a9a40f7e4bb6fdff9cf983aca166ff6b557c047b6ec04c50c"), looks := false }, kinds := [], alts := [], laidByText := true, laidKinds := [.data], laidTests := true, laidLooks := .later }
def RedactDisclosesUptoCardSaid : Prop := Claim7.holds Tryd.pinned (.plain (OpenSpec.upto redactDisclosesSpec)) redactDisclosesUptoCard

/-- THE SECOND FORM's CARD OF 'rootcauselaw53.RedactRefuses'. -/
def redactRefusesUptoCard : Claim7 := { stood := { row := redactRefusesUptoRow, standIns := [], harness := (true, "f79f8ce937048b7a9a40f7e4bb6fdff9cf983aca166ff6b557c047b6ec04c50c"), looks := false }, kinds := [], alts := [], laidByText := true, laidKinds := [.data], laidTests := true, laidLooks := .later }
def RedactRefusesUptoCardSaid : Prop := Claim7.holds Tryd.pinned (.plain (OpenSpec.upto redactRefusesSpec)) redactRefusesUptoCard

/-- THE SECOND FORM's CARD OF 'rootcauselaw53.RedactCloses'. -/
def redactClosesUptoCard : Claim7 := { stood := { row := redactClosesUptoRow, standIns := [], harness := (true, "f79f8ce937048b7a9a40f7e4bb6fdff9cf983aca166ff6b557c047b6ec04c50c"), looks := false }, kinds := [], alts := [], laidByText := true, laidKinds := [.data], laidTests := true, laidLooks := .later }
def RedactClosesUptoCardSaid : Prop := Claim7.holds Tryd.pinned (.plain (OpenSpec.upto redactClosesSpec)) redactClosesUptoCard

/-- THE SECOND FORM's CARD OF 'rootcauselaw53.RedactCommits'. -/
def redactCommitsUptoCard : Claim7 := { stood := { row := redactCommitsUptoRow, standIns := [], harness := (true, "f79f8ce937048b7a9a40f7e4bb6fdff9cf983aca166ff6b557c047b6ec04c50c"), looks := false }, kinds := [], alts := [], laidByText := true, laidKinds := [.data], laidTests := true, laidLooks := .later }
def RedactCommitsUptoCardSaid : Prop := Claim7.holds Tryd.pinned (.plain (OpenSpec.upto redactCommitsSpec)) redactCommitsUptoCard

/-- THE SECOND FORM's CARD OF 'rootcauselaw53.RedactVerifies'. -/
def redactVerifiesUptoCard : Claim7 := { stood := { row := redactVerifiesUptoRow, standIns := [], harness := (true, "f79f8ce937048b7a9a40f7e4bb6fdff9cf983aca166ff6b557c047b6ec04c50c"), looks := false }, kinds := [], alts := [], laidByText := true, laidKinds := [.data], laidTests := true, laidLooks := .later }
def RedactVerifiesUptoCardSaid : Prop := Claim7.holds Tryd.pinned (.plain (OpenSpec.upto redactVerifiesSpec)) redactVerifiesUptoCard

/-- THE SECOND FORM's CARD OF 'rootcauselaw53.RedactHides'. -/
def redactHidesUptoCard : Claim7 := { stood := { row := redactHidesUptoRow, standIns := [], harness := (true, "f79f8ce937048b7a9a40f7e4bb6fdff9cf983aca166ff6b557c047b6ec04c50c"), looks := false }, kinds := [], alts := [], laidByText := true, laidKinds := [.data], laidTests := true, laidLooks := .later }
def RedactHidesUptoCardSaid : Prop := Claim7.holds Tryd.pinned (.plain (OpenSpec.upto redactHidesSpec)) redactHidesUptoCard

/-- THE SECOND FORM's CARD OF 'rootcauselaw53.RedactBytes'. -/
def redactBytesUptoCard : Claim7 := { stood := { row := redactBytesUptoRow, standIns := [], harness := (true, "f79f8ce937048b7a9a40f7e4bb6fdff9cf983aca166ff6b557c047b6ec04c50c"), looks := false }, kinds := [], alts := [], laidByText := true, laidKinds := [.data], laidTests := true, laidLooks := .later }
def RedactBytesUptoCardSaid : Prop := Claim7.holds Tryd.pinned (.plain (OpenSpec.upto redactBytesSpec)) redactBytesUptoCard
end Rows
end Go.Proofs.YtjedhndhdkiidaaDoor
