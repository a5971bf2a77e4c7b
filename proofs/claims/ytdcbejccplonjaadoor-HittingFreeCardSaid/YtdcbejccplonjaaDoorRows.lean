/-
  NARROWER THAN 'FOR EVERY INPUT', by the rows' own cells (each row's printed sentence says how): HittingMinimal: laid · HittingSound: laid · HittingGreedy: laid · HittingReduces: laid · HittingDual: laid · HittingFree: laid · HittingHits: laid · HittingAgain: laid.
  DERIVED. THE GIVEN ROWS OF THIS SEAT. 8 by the template 'for every input the law returns true; each argument reads behind the call as it read before'; 0 by the template 'total and deterministic' (their statements: YtdcbejccplonjaaDoorTotals.lean).
  GIVEN WITH THE SEED: the statements are not yours to turn. If you find one false, say at which input.
  Laid BY PROGRAM, IN A SANDBOX (cutbox-rows.mjs): the forced cells as the released guide's own fill.sh prints them over the translation 0a58ae961bac560b… (all of the seat's roots in one cut). By AI agents, Wed Nov 11 2026. No macro, syntax, notation, axiom, sorry.
-/
import Derived.Test.YtdcbejccplonjaaDoorChecked
import GoSem.Claim
import GoSem.ClaimJoined
import GoSem.ClaimMapViews
import Derived.JoinedTies
import Derived.KernelRfl
namespace Go.Proofs.YtdcbejccplonjaaDoor
/- THE CELL 'sum', in the pinned program and in every row, IS THE sha256 OF THE DUMP (.gsa) THAT YtdcbejccplonjaaDoorProg.lean LOADS. Nothing in Lean hashes anything: it is a label: what it is worth is what the hold of that sum in a sandbox is worth. -/
noncomputable def Tryd.pinned : Pinned := { name := "ytdcbejccplonjaadoor", sum := "0a58ae961bac560bff334c3db83b760c09cf47898a835a2b887a8b9324f0011f", checked := Tryd.checked }
namespace Rows
def none {H : Type} : Left H := { results := [], args := [] }

/- WHAT THE LISTED PACKAGE-LEVEL VARIABLES READ AS WHEN THE CALL BEGINS. Each datum BY PROGRAM (the guide's laid-datum.mjs) off the statement by which the dump's own 'gosem.cut.vars' lays the variable. In a bare row this is a premise. The card (YtdcbejccplonjaaDoorCards.lean) ties it to the program's text. -/
def laid_math_bits_deBruijn64tab {H : Type} : DataW H := .agg [.lit (.int .u8 0), .lit (.int .u8 1), .lit (.int .u8 56), .lit (.int .u8 2), .lit (.int .u8 57), .lit (.int .u8 49), .lit (.int .u8 28), .lit (.int .u8 3), .lit (.int .u8 61), .lit (.int .u8 58), .lit (.int .u8 42), .lit (.int .u8 50), .lit (.int .u8 38), .lit (.int .u8 29), .lit (.int .u8 17), .lit (.int .u8 4), .lit (.int .u8 62), .lit (.int .u8 47), .lit (.int .u8 59), .lit (.int .u8 36), .lit (.int .u8 45), .lit (.int .u8 43), .lit (.int .u8 51), .lit (.int .u8 22), .lit (.int .u8 53), .lit (.int .u8 39), .lit (.int .u8 33), .lit (.int .u8 30), .lit (.int .u8 24), .lit (.int .u8 18), .lit (.int .u8 12), .lit (.int .u8 5), .lit (.int .u8 63), .lit (.int .u8 55), .lit (.int .u8 48), .lit (.int .u8 27), .lit (.int .u8 60), .lit (.int .u8 41), .lit (.int .u8 37), .lit (.int .u8 16), .lit (.int .u8 46), .lit (.int .u8 35), .lit (.int .u8 44), .lit (.int .u8 21), .lit (.int .u8 52), .lit (.int .u8 32), .lit (.int .u8 23), .lit (.int .u8 11), .lit (.int .u8 54), .lit (.int .u8 26), .lit (.int .u8 40), .lit (.int .u8 15), .lit (.int .u8 34), .lit (.int .u8 20), .lit (.int .u8 31), .lit (.int .u8 10), .lit (.int .u8 25), .lit (.int .u8 14), .lit (.int .u8 19), .lit (.int .u8 9), .lit (.int .u8 13), .lit (.int .u8 8), .lit (.int .u8 7), .lit (.int .u8 6)]

/-- 'rootcauselaw42.HittingMinimal': WHATEVER THE INPUT: true; the input reads as it did. -/
def hittingMinimalSpec : ChangeSpec := { name := "hittingMinimal", fn := fun _ => fun
  | [d1, d2] => { results := [.lit (.bool true)], args := [d1, d2] }
  | _ => none }
def hittingMinimalRow : OpenClaim := { program := "ytdcbejccplonjaadoor", sum := "0a58ae961bac560bff334c3db83b760c09cf47898a835a2b887a8b9324f0011f", func := "rootcause/rootcauselaw42.HittingMinimal", spec := "hittingMinimal", unfollowed := true, recurses := true, named := ["math/bits.deBruijn64tab"], apart := false, laid := [("math/bits.deBruijn64tab", laid_math_bits_deBruijn64tab)] }
def HittingMinimalSaid : Prop := hittingMinimalRow.holds Tryd.pinned (OpenSpec.ofChange hittingMinimalSpec)

/-- ITS FALSE NEIGHBOUR: 'it returns false'. Refute it at one input. -/
def hittingMinimalWrong : ChangeSpec := { name := "hittingMinimal", fn := fun _ => fun
  | [d1, d2] => { results := [.lit (.bool false)], args := [d1, d2] }
  | _ => none }
def HittingMinimalWrongFalsely : Prop := hittingMinimalRow.holds Tryd.pinned (OpenSpec.ofChange hittingMinimalWrong)

/-- 'rootcauselaw42.HittingSound': WHATEVER THE INPUT: true; the input reads as it did. -/
def hittingSoundSpec : ChangeSpec := { name := "hittingSound", fn := fun _ => fun
  | [d1, d2] => { results := [.lit (.bool true)], args := [d1, d2] }
  | _ => none }
def hittingSoundRow : OpenClaim := { program := "ytdcbejccplonjaadoor", sum := "0a58ae961bac560bff334c3db83b760c09cf47898a835a2b887a8b9324f0011f", func := "rootcause/rootcauselaw42.HittingSound", spec := "hittingSound", unfollowed := true, recurses := true, named := ["math/bits.deBruijn64tab"], apart := false, laid := [("math/bits.deBruijn64tab", laid_math_bits_deBruijn64tab)] }
def HittingSoundSaid : Prop := hittingSoundRow.holds Tryd.pinned (OpenSpec.ofChange hittingSoundSpec)

/-- ITS FALSE NEIGHBOUR: 'it returns false'. Refute it at one input. -/
def hittingSoundWrong : ChangeSpec := { name := "hittingSound", fn := fun _ => fun
  | [d1, d2] => { results := [.lit (.bool false)], args := [d1, d2] }
  | _ => none }
def HittingSoundWrongFalsely : Prop := hittingSoundRow.holds Tryd.pinned (OpenSpec.ofChange hittingSoundWrong)

/-- 'rootcauselaw42.HittingGreedy': WHATEVER THE INPUT: true; the input reads as it did. -/
def hittingGreedySpec : ChangeSpec := { name := "hittingGreedy", fn := fun _ => fun
  | [d] => { results := [.lit (.bool true)], args := [d] }
  | _ => none }
def hittingGreedyRow : OpenClaim := { program := "ytdcbejccplonjaadoor", sum := "0a58ae961bac560bff334c3db83b760c09cf47898a835a2b887a8b9324f0011f", func := "rootcause/rootcauselaw42.HittingGreedy", spec := "hittingGreedy", unfollowed := true, recurses := true, named := ["math/bits.deBruijn64tab"], apart := false, laid := [("math/bits.deBruijn64tab", laid_math_bits_deBruijn64tab)] }
def HittingGreedySaid : Prop := hittingGreedyRow.holds Tryd.pinned (OpenSpec.ofChange hittingGreedySpec)

/-- ITS FALSE NEIGHBOUR: 'it returns false'. Refute it at one input. -/
def hittingGreedyWrong : ChangeSpec := { name := "hittingGreedy", fn := fun _ => fun
  | [d] => { results := [.lit (.bool false)], args := [d] }
  | _ => none }
def HittingGreedyWrongFalsely : Prop := hittingGreedyRow.holds Tryd.pinned (OpenSpec.ofChange hittingGreedyWrong)

/-- 'rootcauselaw42.HittingReduces': WHATEVER THE INPUT: true; the input reads as it did. -/
def hittingReducesSpec : ChangeSpec := { name := "hittingReduces", fn := fun _ => fun
  | [d] => { results := [.lit (.bool true)], args := [d] }
  | _ => none }
def hittingReducesRow : OpenClaim := { program := "ytdcbejccplonjaadoor", sum := "0a58ae961bac560bff334c3db83b760c09cf47898a835a2b887a8b9324f0011f", func := "rootcause/rootcauselaw42.HittingReduces", spec := "hittingReduces", unfollowed := true, recurses := true, named := ["math/bits.deBruijn64tab"], apart := false, laid := [("math/bits.deBruijn64tab", laid_math_bits_deBruijn64tab)] }
def HittingReducesSaid : Prop := hittingReducesRow.holds Tryd.pinned (OpenSpec.ofChange hittingReducesSpec)

/-- ITS FALSE NEIGHBOUR: 'it returns false'. Refute it at one input. -/
def hittingReducesWrong : ChangeSpec := { name := "hittingReduces", fn := fun _ => fun
  | [d] => { results := [.lit (.bool false)], args := [d] }
  | _ => none }
def HittingReducesWrongFalsely : Prop := hittingReducesRow.holds Tryd.pinned (OpenSpec.ofChange hittingReducesWrong)

/-- 'rootcauselaw42.HittingDual': WHATEVER THE INPUT: true; the input reads as it did. -/
def hittingDualSpec : ChangeSpec := { name := "hittingDual", fn := fun _ => fun
  | [d] => { results := [.lit (.bool true)], args := [d] }
  | _ => none }
def hittingDualRow : OpenClaim := { program := "ytdcbejccplonjaadoor", sum := "0a58ae961bac560bff334c3db83b760c09cf47898a835a2b887a8b9324f0011f", func := "rootcause/rootcauselaw42.HittingDual", spec := "hittingDual", unfollowed := true, recurses := true, named := ["math/bits.deBruijn64tab"], apart := false, laid := [("math/bits.deBruijn64tab", laid_math_bits_deBruijn64tab)] }
def HittingDualSaid : Prop := hittingDualRow.holds Tryd.pinned (OpenSpec.ofChange hittingDualSpec)

/-- ITS FALSE NEIGHBOUR: 'it returns false'. Refute it at one input. -/
def hittingDualWrong : ChangeSpec := { name := "hittingDual", fn := fun _ => fun
  | [d] => { results := [.lit (.bool false)], args := [d] }
  | _ => none }
def HittingDualWrongFalsely : Prop := hittingDualRow.holds Tryd.pinned (OpenSpec.ofChange hittingDualWrong)

/-- 'rootcauselaw42.HittingFree': WHATEVER THE INPUT: true; the input reads as it did. -/
def hittingFreeSpec : ChangeSpec := { name := "hittingFree", fn := fun _ => fun
  | [d1, d2, d3] => { results := [.lit (.bool true)], args := [d1, d2, d3] }
  | _ => none }
def hittingFreeRow : OpenClaim := { program := "ytdcbejccplonjaadoor", sum := "0a58ae961bac560bff334c3db83b760c09cf47898a835a2b887a8b9324f0011f", func := "rootcause/rootcauselaw42.HittingFree", spec := "hittingFree", unfollowed := true, recurses := true, named := ["math/bits.deBruijn64tab"], apart := false, laid := [("math/bits.deBruijn64tab", laid_math_bits_deBruijn64tab)] }
def HittingFreeSaid : Prop := hittingFreeRow.holds Tryd.pinned (OpenSpec.ofChange hittingFreeSpec)

/-- ITS FALSE NEIGHBOUR: 'it returns false'. Refute it at one input. -/
def hittingFreeWrong : ChangeSpec := { name := "hittingFree", fn := fun _ => fun
  | [d1, d2, d3] => { results := [.lit (.bool false)], args := [d1, d2, d3] }
  | _ => none }
def HittingFreeWrongFalsely : Prop := hittingFreeRow.holds Tryd.pinned (OpenSpec.ofChange hittingFreeWrong)

/-- 'rootcauselaw42.HittingHits': WHATEVER THE INPUT: true; the input reads as it did. -/
def hittingHitsSpec : ChangeSpec := { name := "hittingHits", fn := fun _ => fun
  | [d1, d2, d3] => { results := [.lit (.bool true)], args := [d1, d2, d3] }
  | _ => none }
def hittingHitsRow : OpenClaim := { program := "ytdcbejccplonjaadoor", sum := "0a58ae961bac560bff334c3db83b760c09cf47898a835a2b887a8b9324f0011f", func := "rootcause/rootcauselaw42.HittingHits", spec := "hittingHits", unfollowed := true, recurses := true, named := ["math/bits.deBruijn64tab"], apart := false, laid := [("math/bits.deBruijn64tab", laid_math_bits_deBruijn64tab)] }
def HittingHitsSaid : Prop := hittingHitsRow.holds Tryd.pinned (OpenSpec.ofChange hittingHitsSpec)

/-- ITS FALSE NEIGHBOUR: 'it returns false'. Refute it at one input. -/
def hittingHitsWrong : ChangeSpec := { name := "hittingHits", fn := fun _ => fun
  | [d1, d2, d3] => { results := [.lit (.bool false)], args := [d1, d2, d3] }
  | _ => none }
def HittingHitsWrongFalsely : Prop := hittingHitsRow.holds Tryd.pinned (OpenSpec.ofChange hittingHitsWrong)

/-- 'rootcauselaw42.HittingAgain': WHATEVER THE INPUT: true; the input reads as it did. -/
def hittingAgainSpec : ChangeSpec := { name := "hittingAgain", fn := fun _ => fun
  | [d1, d2] => { results := [.lit (.bool true)], args := [d1, d2] }
  | _ => none }
def hittingAgainRow : OpenClaim := { program := "ytdcbejccplonjaadoor", sum := "0a58ae961bac560bff334c3db83b760c09cf47898a835a2b887a8b9324f0011f", func := "rootcause/rootcauselaw42.HittingAgain", spec := "hittingAgain", unfollowed := true, recurses := true, named := ["math/bits.deBruijn64tab"], apart := false, laid := [("math/bits.deBruijn64tab", laid_math_bits_deBruijn64tab)] }
def HittingAgainSaid : Prop := hittingAgainRow.holds Tryd.pinned (OpenSpec.ofChange hittingAgainSpec)

/-- ITS FALSE NEIGHBOUR: 'it returns false'. Refute it at one input. -/
def hittingAgainWrong : ChangeSpec := { name := "hittingAgain", fn := fun _ => fun
  | [d1, d2] => { results := [.lit (.bool false)], args := [d1, d2] }
  | _ => none }
def HittingAgainWrongFalsely : Prop := hittingAgainRow.holds Tryd.pinned (OpenSpec.ofChange hittingAgainWrong)

/- THE SECOND FORM. 'bulk': how many values and letters a reading holds, each counted each time it is reached (what is shared counts as often as it is met; a slice's spare places count too). A statement '..UptoSaid' is the law's where the arguments, and the package variables that the reading takes, are together of bulk at most 1048576: NARROWER than '..Said'. Prove '..Said' where nothing that the law and all that it calls make is longer than what came in: it says more and counts as full. Else prove '..UptoSaid'. A law counts once. -/
mutual
def uptoBulk {H : Type} : DataW H → Nat
  | .lit (.string bytes) => bytes.length + 1
  | .lit _ => 1
  | .nil => 1
  | .ptr d => uptoBulk d + 1
  | .slice elems spare => uptoBulkAll elems + uptoBulkAll spare + 1
  | .agg parts => uptoBulkAll parts + 1
  | .iface _ d => uptoBulk d + 1
  | .map entries => uptoBulkEntries entries + 1
  | .held _ => 1
def uptoBulkAll {H : Type} : List (DataW H) → Nat
  | [] => 0
  | d :: r => uptoBulk d + uptoBulkAll r
def uptoBulkEntries {H : Type} : List (Lit × DataW H) → Nat
  | [] => 0
  | x :: r => uptoBulkEntry x + uptoBulkEntries r
def uptoBulkEntry {H : Type} : Lit × DataW H → Nat
  | (.string bytes, d) => bytes.length + uptoBulk d + 1
  | (_, d) => uptoBulk d + 1
 end
def uptoSmall : (H : Type) → List (DataW H) → Bool := fun _ ds => decide (uptoBulkAll ds ≤ 1048576)
def OpenSpec.upto (s : _root_.Go.ChangeSpec) : _root_.Go.OpenSpec := { _root_.Go.OpenSpec.ofChange s with cond := some uptoSmall }

/-- 'rootcauselaw42.HittingMinimal', WHERE WHAT IT READS IS OF BULK AT MOST 1048576: true; the input reads as it did. -/
def hittingMinimalUptoRow : OpenClaim := { program := "ytdcbejccplonjaadoor", sum := "0a58ae961bac560bff334c3db83b760c09cf47898a835a2b887a8b9324f0011f", func := "rootcause/rootcauselaw42.HittingMinimal", spec := "hittingMinimal", unfollowed := true, recurses := true, named := ["math/bits.deBruijn64tab"], apart := false, laid := [("math/bits.deBruijn64tab", laid_math_bits_deBruijn64tab)], narrowed := true }
def HittingMinimalUptoSaid : Prop := hittingMinimalUptoRow.holds Tryd.pinned (OpenSpec.upto hittingMinimalSpec)

/-- 'rootcauselaw42.HittingSound', WHERE WHAT IT READS IS OF BULK AT MOST 1048576: true; the input reads as it did. -/
def hittingSoundUptoRow : OpenClaim := { program := "ytdcbejccplonjaadoor", sum := "0a58ae961bac560bff334c3db83b760c09cf47898a835a2b887a8b9324f0011f", func := "rootcause/rootcauselaw42.HittingSound", spec := "hittingSound", unfollowed := true, recurses := true, named := ["math/bits.deBruijn64tab"], apart := false, laid := [("math/bits.deBruijn64tab", laid_math_bits_deBruijn64tab)], narrowed := true }
def HittingSoundUptoSaid : Prop := hittingSoundUptoRow.holds Tryd.pinned (OpenSpec.upto hittingSoundSpec)

/-- 'rootcauselaw42.HittingGreedy', WHERE WHAT IT READS IS OF BULK AT MOST 1048576: true; the input reads as it did. -/
def hittingGreedyUptoRow : OpenClaim := { program := "ytdcbejccplonjaadoor", sum := "0a58ae961bac560bff334c3db83b760c09cf47898a835a2b887a8b9324f0011f", func := "rootcause/rootcauselaw42.HittingGreedy", spec := "hittingGreedy", unfollowed := true, recurses := true, named := ["math/bits.deBruijn64tab"], apart := false, laid := [("math/bits.deBruijn64tab", laid_math_bits_deBruijn64tab)], narrowed := true }
def HittingGreedyUptoSaid : Prop := hittingGreedyUptoRow.holds Tryd.pinned (OpenSpec.upto hittingGreedySpec)

/-- 'rootcauselaw42.HittingReduces', WHERE WHAT IT READS IS OF BULK AT MOST 1048576: true; the input reads as it did. -/
def hittingReducesUptoRow : OpenClaim := { program := "ytdcbejccplonjaadoor", sum := "0a58ae961bac560bff334c3db83b760c09cf47898a835a2b887a8b9324f0011f", func := "rootcause/rootcauselaw42.HittingReduces", spec := "hittingReduces", unfollowed := true, recurses := true, named := ["math/bits.deBruijn64tab"], apart := false, laid := [("math/bits.deBruijn64tab", laid_math_bits_deBruijn64tab)], narrowed := true }
def HittingReducesUptoSaid : Prop := hittingReducesUptoRow.holds Tryd.pinned (OpenSpec.upto hittingReducesSpec)

/-- 'rootcauselaw42.HittingDual', WHERE WHAT IT READS IS OF BULK AT MOST 1048576: true; the input reads as it did. -/
def hittingDualUptoRow : OpenClaim := { program := "ytdcbejccplonjaadoor", sum := "0a58ae961bac560bff334c3db83b760c09cf47898a835a2b887a8b9324f0011f", func := "rootcause/rootcauselaw42.HittingDual", spec := "hittingDual", unfollowed := true, recurses := true, named := ["math/bits.deBruijn64tab"], apart := false, laid := [("math/bits.deBruijn64tab", laid_math_bits_deBruijn64tab)], narrowed := true }
def HittingDualUptoSaid : Prop := hittingDualUptoRow.holds Tryd.pinned (OpenSpec.upto hittingDualSpec)

/-- 'rootcauselaw42.HittingFree', WHERE WHAT IT READS IS OF BULK AT MOST 1048576: true; the input reads as it did. -/
def hittingFreeUptoRow : OpenClaim := { program := "ytdcbejccplonjaadoor", sum := "0a58ae961bac560bff334c3db83b760c09cf47898a835a2b887a8b9324f0011f", func := "rootcause/rootcauselaw42.HittingFree", spec := "hittingFree", unfollowed := true, recurses := true, named := ["math/bits.deBruijn64tab"], apart := false, laid := [("math/bits.deBruijn64tab", laid_math_bits_deBruijn64tab)], narrowed := true }
def HittingFreeUptoSaid : Prop := hittingFreeUptoRow.holds Tryd.pinned (OpenSpec.upto hittingFreeSpec)

/-- 'rootcauselaw42.HittingHits', WHERE WHAT IT READS IS OF BULK AT MOST 1048576: true; the input reads as it did. -/
def hittingHitsUptoRow : OpenClaim := { program := "ytdcbejccplonjaadoor", sum := "0a58ae961bac560bff334c3db83b760c09cf47898a835a2b887a8b9324f0011f", func := "rootcause/rootcauselaw42.HittingHits", spec := "hittingHits", unfollowed := true, recurses := true, named := ["math/bits.deBruijn64tab"], apart := false, laid := [("math/bits.deBruijn64tab", laid_math_bits_deBruijn64tab)], narrowed := true }
def HittingHitsUptoSaid : Prop := hittingHitsUptoRow.holds Tryd.pinned (OpenSpec.upto hittingHitsSpec)

/-- 'rootcauselaw42.HittingAgain', WHERE WHAT IT READS IS OF BULK AT MOST 1048576: true; the input reads as it did. -/
def hittingAgainUptoRow : OpenClaim := { program := "ytdcbejccplonjaadoor", sum := "0a58ae961bac560bff334c3db83b760c09cf47898a835a2b887a8b9324f0011f", func := "rootcause/rootcauselaw42.HittingAgain", spec := "hittingAgain", unfollowed := true, recurses := true, named := ["math/bits.deBruijn64tab"], apart := false, laid := [("math/bits.deBruijn64tab", laid_math_bits_deBruijn64tab)], narrowed := true }
def HittingAgainUptoSaid : Prop := hittingAgainUptoRow.holds Tryd.pinned (OpenSpec.upto hittingAgainSpec)

end Rows
end Go.Proofs.YtdcbejccplonjaaDoor
