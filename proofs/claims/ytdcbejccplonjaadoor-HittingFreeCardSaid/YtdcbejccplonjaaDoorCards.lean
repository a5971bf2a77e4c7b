/-
  DERIVED. GIVEN WITH THE SEED: THE CARDS: each row of YtdcbejccplonjaaDoorRows.lean that lists a variable, with what it lists TIED to the program's text (the seventh form; the later family's looks); each row that meets fmt, with fmt's text TOLD by the authors' own Lean function (tested against real Go, not proved from fmt's source: count such statements apart). THE CARD IS WHAT COUNTS. Prove the row's statement (the work); the ties are given (YtdcbejccplonjaaDoorTie.lean); close each card by the builder's one call (the guide's Derived/Test/ToyasCard.lean, 'card_holds'). Laid BY PROGRAM, IN A SANDBOX (cutbox-door.mjs). By AI agents, Wed Nov 11 2026. No macro, syntax, notation, axiom, sorry.
-/
import Derived.Test.YtdcbejccplonjaaDoorRows
import GoSem.ClaimSeven
namespace Go.Proofs.YtdcbejccplonjaaDoor
namespace Rows

/-- THE TIED CARD OF 'rootcauselaw42.HittingMinimal'. -/
def hittingMinimalCard : Claim7 := { stood := { row := hittingMinimalRow, standIns := [], harness := (true, "7c49b06dec75d8a80b23420105addac2fec03e9c38642b9c0d53357af2be80eb"), looks := false }, kinds := [], alts := [], laidByText := true, laidKinds := [.data], laidTests := true, laidLooks := .later }
def HittingMinimalCardSaid : Prop := Claim7.holds Tryd.pinned (.plain (OpenSpec.ofChange hittingMinimalSpec)) hittingMinimalCard

/-- THE TIED CARD OF 'rootcauselaw42.HittingSound'. -/
def hittingSoundCard : Claim7 := { stood := { row := hittingSoundRow, standIns := [], harness := (true, "7c49b06dec75d8a80b23420105addac2fec03e9c38642b9c0d53357af2be80eb"), looks := false }, kinds := [], alts := [], laidByText := true, laidKinds := [.data], laidTests := true, laidLooks := .later }
def HittingSoundCardSaid : Prop := Claim7.holds Tryd.pinned (.plain (OpenSpec.ofChange hittingSoundSpec)) hittingSoundCard

/-- THE TIED CARD OF 'rootcauselaw42.HittingGreedy'. -/
def hittingGreedyCard : Claim7 := { stood := { row := hittingGreedyRow, standIns := [], harness := (true, "7c49b06dec75d8a80b23420105addac2fec03e9c38642b9c0d53357af2be80eb"), looks := false }, kinds := [], alts := [], laidByText := true, laidKinds := [.data], laidTests := true, laidLooks := .later }
def HittingGreedyCardSaid : Prop := Claim7.holds Tryd.pinned (.plain (OpenSpec.ofChange hittingGreedySpec)) hittingGreedyCard

/-- THE TIED CARD OF 'rootcauselaw42.HittingReduces'. -/
def hittingReducesCard : Claim7 := { stood := { row := hittingReducesRow, standIns := [], harness := (true, "7c49b06dec75d8a80b23420105addac2fec03e9c38642b9c0d53357af2be80eb"), looks := false }, kinds := [], alts := [], laidByText := true, laidKinds := [.data], laidTests := true, laidLooks := .later }
def HittingReducesCardSaid : Prop := Claim7.holds Tryd.pinned (.plain (OpenSpec.ofChange hittingReducesSpec)) hittingReducesCard

/-- THE TIED CARD OF 'rootcauselaw42.HittingDual'. -/
def hittingDualCard : Claim7 := { stood := { row := hittingDualRow, standIns := [], harness := (true, "7c49b06dec75d8a80b23420105addac2fec03e9c38642b9c0d53357af2be80eb"), looks := false }, kinds := [], alts := [], laidByText := true, laidKinds := [.data], laidTests := true, laidLooks := .later }
def HittingDualCardSaid : Prop := Claim7.holds Tryd.pinned (.plain (OpenSpec.ofChange hittingDualSpec)) hittingDualCard

/-- THE TIED CARD OF 'rootcauselaw42.HittingFree'. -/
def hittingFreeCard : Claim7 := { stood := { row := hittingFreeRow, standIns := [], harness := (true, "7c49b06dec75d8a80b23420105addac2fec03e9c38642b9c0d53357af2be80eb"), looks := false }, kinds := [], alts := [], laidByText := true, laidKinds := [.data], laidTests := true, laidLooks := .later }
def HittingFreeCardSaid : Prop := Claim7.holds Tryd.pinned (.plain (OpenSpec.ofChange hittingFreeSpec)) hittingFreeCard

/-- THE TIED CARD OF 'rootcauselaw42.HittingHits'. -/
def hittingHitsCard : Claim7 := { stood := { row := hittingHitsRow, standIns := [], harness := (true, "7c49b06dec75d8a80b23420105addac2fec03e9c38642b9c0d53357af2be80eb"), looks := false }, kinds := [], alts := [], laidByText := true, laidKinds := [.data], laidTests := true, laidLooks := .later }
def HittingHitsCardSaid : Prop := Claim7.holds Tryd.pinned (.plain (OpenSpec.ofChange hittingHitsSpec)) hittingHitsCard

/-- THE TIED CARD OF 'rootcauselaw42.HittingAgain'. -/
def hittingAgainCard : Claim7 := { stood := { row := hittingAgainRow, standIns := [], harness := (true, "7c49b06dec75d8a80b23420105addac2fec03e9c38642b9c0d53357af2be80eb"), looks := false }, kinds := [], alts := [], laidByText := true, laidKinds := [.data], laidTests := true, laidLooks := .later }
def HittingAgainCardSaid : Prop := Claim7.holds Tryd.pinned (.plain (OpenSpec.ofChange hittingAgainSpec)) hittingAgainCard

/-- THE SECOND FORM's CARD OF 'rootcauselaw42.HittingMinimal'. -/
def hittingMinimalUptoCard : Claim7 := { stood := { row := hittingMinimalUptoRow, standIns := [], harness := (true, "7c49b06dec75d8a80b23420105addac2fec03e9c38642b9c0d53357af2be80eb"), looks := false }, kinds := [], alts := [], laidByText := true, laidKinds := [.data], laidTests := true, laidLooks := .later }
def HittingMinimalUptoCardSaid : Prop := Claim7.holds Tryd.pinned (.plain (OpenSpec.upto hittingMinimalSpec)) hittingMinimalUptoCard

/-- THE SECOND FORM's CARD OF 'rootcauselaw42.HittingSound'. -/
def hittingSoundUptoCard : Claim7 := { stood := { row := hittingSoundUptoRow, standIns := [], harness := (true, "7c49b06dec75d8a80b23420105addac2fec03e9c38642b9c0d53357af2be80eb"), looks := false }, kinds := [], alts := [], laidByText := true, laidKinds := [.data], laidTests := true, laidLooks := .later }
def HittingSoundUptoCardSaid : Prop := Claim7.holds Tryd.pinned (.plain (OpenSpec.upto hittingSoundSpec)) hittingSoundUptoCard

/-- THE SECOND FORM's CARD OF 'rootcauselaw42.HittingGreedy'. -/
def hittingGreedyUptoCard : Claim7 := { stood := { row := hittingGreedyUptoRow, standIns := [], harness := (true, "7c49b06dec75d8a80b23420105addac2fec03e9c38642b9c0d53357af2be80eb"), looks := false }, kinds := [], alts := [], laidByText := true, laidKinds := [.data], laidTests := true, laidLooks := .later }
def HittingGreedyUptoCardSaid : Prop := Claim7.holds Tryd.pinned (.plain (OpenSpec.upto hittingGreedySpec)) hittingGreedyUptoCard

/-- THE SECOND FORM's CARD OF 'rootcauselaw42.HittingReduces'. -/
def hittingReducesUptoCard : Claim7 := { stood := { row := hittingReducesUptoRow, standIns := [], harness := (true, "7c49b06dec75d8a80b23420105addac2fec03e9c38642b9c0d53357af2be80eb"), looks := false }, kinds := [], alts := [], laidByText := true, laidKinds := [.data], laidTests := true, laidLooks := .later }
def HittingReducesUptoCardSaid : Prop := Claim7.holds Tryd.pinned (.plain (OpenSpec.upto hittingReducesSpec)) hittingReducesUptoCard

/-- THE SECOND FORM's CARD OF 'rootcauselaw42.HittingDual'. -/
def hittingDualUptoCard : Claim7 := { stood := { row := hittingDualUptoRow, standIns := [], harness := (true, "7c49b06dec75d8a80b23420105addac2fec03e9c38642b9c0d53357af2be80eb"), looks := false }, kinds := [], alts := [], laidByText := true, laidKinds := [.data], laidTests := true, laidLooks := .later }
def HittingDualUptoCardSaid : Prop := Claim7.holds Tryd.pinned (.plain (OpenSpec.upto hittingDualSpec)) hittingDualUptoCard

/-- THE SECOND FORM's CARD OF 'rootcauselaw42.HittingFree'. -/
def hittingFreeUptoCard : Claim7 := { stood := { row := hittingFreeUptoRow, standIns := [], harness := (true, "7c49b06dec75d8a80b23420105addac2fec03e9c38642b9c0d53357af2be80eb"), looks := false }, kinds := [], alts := [], laidByText := true, laidKinds := [.data], laidTests := true, laidLooks := .later }
def HittingFreeUptoCardSaid : Prop := Claim7.holds Tryd.pinned (.plain (OpenSpec.upto hittingFreeSpec)) hittingFreeUptoCard

/-- THE SECOND FORM's CARD OF 'rootcauselaw42.HittingHits'. -/
def hittingHitsUptoCard : Claim7 := { stood := { row := hittingHitsUptoRow, standIns := [], harness := (true, "7c49b06dec75d8a80b23420105addac2fec03e9c38642b9c0d53357af2be80eb"), looks := false }, kinds := [], alts := [], laidByText := true, laidKinds := [.data], laidTests := true, laidLooks := .later }
def HittingHitsUptoCardSaid : Prop := Claim7.holds Tryd.pinned (.plain (OpenSpec.upto hittingHitsSpec)) hittingHitsUptoCard

/-- THE SECOND FORM's CARD OF 'rootcauselaw42.HittingAgain'. -/
def hittingAgainUptoCard : Claim7 := { stood := { row := hittingAgainUptoRow, standIns := [], harness := (true, "7c49b06dec75d8a80b23420105addac2fec03e9c38642b9c0d53357af2be80eb"), looks := false }, kinds := [], alts := [], laidByText := true, laidKinds := [.data], laidTests := true, laidLooks := .later }
def HittingAgainUptoCardSaid : Prop := Claim7.holds Tryd.pinned (.plain (OpenSpec.upto hittingAgainSpec)) hittingAgainUptoCard
end Rows
end Go.Proofs.YtdcbejccplonjaaDoor
