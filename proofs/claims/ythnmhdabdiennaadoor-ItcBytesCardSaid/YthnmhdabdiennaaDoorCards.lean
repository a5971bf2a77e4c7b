/-
  DERIVED. GIVEN WITH THE SEED: THE CARDS: each row of YthnmhdabdiennaaDoorRows.lean that lists a variable, with what it lists TIED to the program's text (the seventh form; the later family's looks); each row that meets fmt, with fmt's text TOLD by the authors' own Lean function (tested against real Go, not proved from fmt's source: count such statements apart). THE CARD IS WHAT COUNTS. Prove the row's statement (the work); the ties are given (YthnmhdabdiennaaDoorTie.lean); close each card by the builder's one call (the guide's Derived/Test/ToyasCard.lean, 'card_holds'). Laid BY PROGRAM, IN A SANDBOX (cutbox-door.mjs). By AI agents, Wed Nov 11 2026. No macro, syntax, notation, axiom, sorry.
-/
import Derived.Test.YthnmhdabdiennaaDoorRows
import GoSem.ClaimSeven
namespace Go.Proofs.YthnmhdabdiennaaDoor
namespace Rows

/-- THE TIED CARD OF 'rootcauselaw25.ItcPlays'. -/
def itcPlaysCard : Claim7 := { stood := { row := itcPlaysRow, standIns := [], harness := (true, "c5e1a9ed85c06c120233a3f1dddc4c11b9d92fa948e1a43cbb082491cfe98f26"), looks := false }, kinds := [], alts := [], laidByText := true, laidKinds := [.data, .data, .data], laidTests := true, laidLooks := .later }
def ItcPlaysCardSaid : Prop := Claim7.holds Tryd.pinned (.plain (OpenSpec.ofChange itcPlaysSpec)) itcPlaysCard

/-- THE TIED CARD OF 'rootcauselaw25.ItcForks'. -/
def itcForksCard : Claim7 := { stood := { row := itcForksRow, standIns := [], harness := (true, "c5e1a9ed85c06c120233a3f1dddc4c11b9d92fa948e1a43cbb082491cfe98f26"), looks := false }, kinds := [], alts := [], laidByText := true, laidKinds := [.data, .data, .data], laidTests := true, laidLooks := .later }
def ItcForksCardSaid : Prop := Claim7.holds Tryd.pinned (.plain (OpenSpec.ofChange itcForksSpec)) itcForksCard

/-- THE TIED CARD OF 'rootcauselaw25.ItcCauses'. -/
def itcCausesCard : Claim7 := { stood := { row := itcCausesRow, standIns := [], harness := (true, "c5e1a9ed85c06c120233a3f1dddc4c11b9d92fa948e1a43cbb082491cfe98f26"), looks := false }, kinds := [], alts := [], laidByText := true, laidKinds := [.data, .data, .data], laidTests := true, laidLooks := .later }
def ItcCausesCardSaid : Prop := Claim7.holds Tryd.pinned (.plain (OpenSpec.ofChange itcCausesSpec)) itcCausesCard

/-- THE TIED CARD OF 'rootcauselaw25.ItcDepth'. -/
def itcDepthCard : Claim7 := { stood := { row := itcDepthRow, standIns := [], harness := (true, "c5e1a9ed85c06c120233a3f1dddc4c11b9d92fa948e1a43cbb082491cfe98f26"), looks := false }, kinds := [], alts := [], laidByText := true, laidKinds := [.data, .data, .data], laidTests := true, laidLooks := .later }
def ItcDepthCardSaid : Prop := Claim7.holds Tryd.pinned (.plain (OpenSpec.ofChange itcDepthSpec)) itcDepthCard

/-- THE TIED CARD OF 'rootcauselaw25.ItcEvents'. -/
def itcEventsCard : Claim7 := { stood := { row := itcEventsRow, standIns := [], harness := (true, "c5e1a9ed85c06c120233a3f1dddc4c11b9d92fa948e1a43cbb082491cfe98f26"), looks := false }, kinds := [], alts := [], laidByText := true, laidKinds := [.data, .data, .data], laidTests := true, laidLooks := .later }
def ItcEventsCardSaid : Prop := Claim7.holds Tryd.pinned (.plain (OpenSpec.ofChange itcEventsSpec)) itcEventsCard

/-- THE TIED CARD OF 'rootcauselaw25.ItcLeq'. -/
def itcLeqCard : Claim7 := { stood := { row := itcLeqRow, standIns := [], harness := (true, "c5e1a9ed85c06c120233a3f1dddc4c11b9d92fa948e1a43cbb082491cfe98f26"), looks := false }, kinds := [], alts := [], laidByText := true, laidKinds := [.data, .data, .data], laidTests := true, laidLooks := .later }
def ItcLeqCardSaid : Prop := Claim7.holds Tryd.pinned (.plain (OpenSpec.ofChange itcLeqSpec)) itcLeqCard

/-- THE TIED CARD OF 'rootcauselaw25.ItcReads'. -/
def itcReadsCard : Claim7 := { stood := { row := itcReadsRow, standIns := [], harness := (true, "c5e1a9ed85c06c120233a3f1dddc4c11b9d92fa948e1a43cbb082491cfe98f26"), looks := false }, kinds := [], alts := [], laidByText := true, laidKinds := [.data, .data, .data], laidTests := true, laidLooks := .later }
def ItcReadsCardSaid : Prop := Claim7.holds Tryd.pinned (.plain (OpenSpec.ofChange itcReadsSpec)) itcReadsCard

/-- THE TIED CARD OF 'rootcauselaw25.ItcBytes'. -/
def itcBytesCard : Claim7 := { stood := { row := itcBytesRow, standIns := [], harness := (true, "c5e1a9ed85c06c120233a3f1dddc4c11b9d92fa948e1a43cbb082491cfe98f26"), looks := false }, kinds := [], alts := [], laidByText := true, laidKinds := [.data, .data, .data], laidTests := true, laidLooks := .later }
def ItcBytesCardSaid : Prop := Claim7.holds Tryd.pinned (.plain (OpenSpec.ofChange itcBytesSpec)) itcBytesCard

/-- THE SECOND FORM's CARD OF 'rootcauselaw25.ItcPlays'. -/
def itcPlaysUptoCard : Claim7 := { stood := { row := itcPlaysUptoRow, standIns := [], harness := (true, "c5e1a9ed85c06c120233a3f1dddc4c11b9d92fa948e1a43cbb082491cfe98f26"), looks := false }, kinds := [], alts := [], laidByText := true, laidKinds := [.data, .data, .data], laidTests := true, laidLooks := .later }
def ItcPlaysUptoCardSaid : Prop := Claim7.holds Tryd.pinned (.plain (OpenSpec.upto itcPlaysSpec)) itcPlaysUptoCard

/-- THE SECOND FORM's CARD OF 'rootcauselaw25.ItcForks'. -/
def itcForksUptoCard : Claim7 := { stood := { row := itcForksUptoRow, standIns := [], harness := (true, "c5e1a9ed85c06c120233a3f1dddc4c11b9d92fa948e1a43cbb082491cfe98f26"), looks := false }, kinds := [], alts := [], laidByText := true, laidKinds := [.data, .data, .data], laidTests := true, laidLooks := .later }
def ItcForksUptoCardSaid : Prop := Claim7.holds Tryd.pinned (.plain (OpenSpec.upto itcForksSpec)) itcForksUptoCard

/-- THE SECOND FORM's CARD OF 'rootcauselaw25.ItcCauses'. -/
def itcCausesUptoCard : Claim7 := { stood := { row := itcCausesUptoRow, standIns := [], harness := (true, "c5e1a9ed85c06c120233a3f1dddc4c11b9d92fa948e1a43cbb082491cfe98f26"), looks := false }, kinds := [], alts := [], laidByText := true, laidKinds := [.data, .data, .data], laidTests := true, laidLooks := .later }
def ItcCausesUptoCardSaid : Prop := Claim7.holds Tryd.pinned (.plain (OpenSpec.upto itcCausesSpec)) itcCausesUptoCard

/-- THE SECOND FORM's CARD OF 'rootcauselaw25.ItcDepth'. -/
def itcDepthUptoCard : Claim7 := { stood := { row := itcDepthUptoRow, standIns := [], harness := (true, "c5e1a9ed85c06c120233a3f1dddc4c11b9d92fa948e1a43cbb082491cfe98f26"), looks := false }, kinds := [], alts := [], laidByText := true, laidKinds := [.data, .data, .data], laidTests := true, laidLooks := .later }
def ItcDepthUptoCardSaid : Prop := Claim7.holds Tryd.pinned (.plain (OpenSpec.upto itcDepthSpec)) itcDepthUptoCard

/-- THE SECOND FORM's CARD OF 'rootcauselaw25.ItcEvents'. -/
def itcEventsUptoCard : Claim7 := { stood := { row := itcEventsUptoRow, standIns := [], harness := (true, "c5e1a9ed85c06c120233a3f1dddc4c11b9d92fa948e1a43cbb082491cfe98f26"), looks := false }, kinds := [], alts := [], laidByText := true, laidKinds := [.data, .data, .data], laidTests := true, laidLooks := .later }
def ItcEventsUptoCardSaid : Prop := Claim7.holds Tryd.pinned (.plain (OpenSpec.upto itcEventsSpec)) itcEventsUptoCard

/-- THE SECOND FORM's CARD OF 'rootcauselaw25.ItcLeq'. -/
def itcLeqUptoCard : Claim7 := { stood := { row := itcLeqUptoRow, standIns := [], harness := (true, "c5e1a9ed85c06c120233a3f1dddc4c11b9d92fa948e1a43cbb082491cfe98f26"), looks := false }, kinds := [], alts := [], laidByText := true, laidKinds := [.data, .data, .data], laidTests := true, laidLooks := .later }
def ItcLeqUptoCardSaid : Prop := Claim7.holds Tryd.pinned (.plain (OpenSpec.upto itcLeqSpec)) itcLeqUptoCard

/-- THE SECOND FORM's CARD OF 'rootcauselaw25.ItcReads'. -/
def itcReadsUptoCard : Claim7 := { stood := { row := itcReadsUptoRow, standIns := [], harness := (true, "c5e1a9ed85c06c120233a3f1dddc4c11b9d92fa948e1a43cbb082491cfe98f26"), looks := false }, kinds := [], alts := [], laidByText := true, laidKinds := [.data, .data, .data], laidTests := true, laidLooks := .later }
def ItcReadsUptoCardSaid : Prop := Claim7.holds Tryd.pinned (.plain (OpenSpec.upto itcReadsSpec)) itcReadsUptoCard

/-- THE SECOND FORM's CARD OF 'rootcauselaw25.ItcBytes'. -/
def itcBytesUptoCard : Claim7 := { stood := { row := itcBytesUptoRow, standIns := [], harness := (true, "c5e1a9ed85c06c120233a3f1dddc4c11b9d92fa948e1a43cbb082491cfe98f26"), looks := false }, kinds := [], alts := [], laidByText := true, laidKinds := [.data, .data, .data], laidTests := true, laidLooks := .later }
def ItcBytesUptoCardSaid : Prop := Claim7.holds Tryd.pinned (.plain (OpenSpec.upto itcBytesSpec)) itcBytesUptoCard
end Rows
end Go.Proofs.YthnmhdabdiennaaDoor
