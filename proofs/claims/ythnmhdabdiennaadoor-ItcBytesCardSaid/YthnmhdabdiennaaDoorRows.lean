/-
  NARROWER THAN 'FOR EVERY INPUT', by the rows' own cells (each row's printed sentence says how): ItcPlays: laid · ItcForks: laid · ItcCauses: laid · ItcDepth: laid · ItcEvents: laid · ItcLeq: laid · ItcReads: laid · ItcBytes: laid.
  DERIVED. THE GIVEN ROWS OF THIS SEAT. 8 by the template 'for every input the law returns true; each argument reads behind the call as it read before'; 0 by the template 'total and deterministic' (their statements: YthnmhdabdiennaaDoorTotals.lean).
  GIVEN WITH THE SEED: the statements are not yours to turn. If you find one false, say at which input.
  Laid BY PROGRAM, IN A SANDBOX (cutbox-rows.mjs): the forced cells as the released guide's own fill.sh prints them over the translation 3fe3e6c190bfe8df… (all of the seat's roots in one cut). By AI agents, Wed Nov 11 2026. No macro, syntax, notation, axiom, sorry.
-/
import Derived.Test.YthnmhdabdiennaaDoorChecked
import GoSem.Claim
import GoSem.ClaimJoined
import GoSem.ClaimMapViews
import Derived.JoinedTies
import Derived.KernelRfl
namespace Go.Proofs.YthnmhdabdiennaaDoor
/- THE CELL 'sum', in the pinned program and in every row, IS THE sha256 OF THE DUMP (.gsa) THAT YthnmhdabdiennaaDoorProg.lean LOADS. Nothing in Lean hashes anything: it is a label: what it is worth is what the hold of that sum in a sandbox is worth. -/
noncomputable def Tryd.pinned : Pinned := { name := "ythnmhdabdiennaadoor", sum := "3fe3e6c190bfe8dfa79946a0ddd51b87e1a7068d0671a518f3072ea1099b5cf9", checked := Tryd.checked }
namespace Rows
def none {H : Type} : Left H := { results := [], args := [] }

/- WHAT THE LISTED PACKAGE-LEVEL VARIABLES READ AS WHEN THE CALL BEGINS. Each datum BY PROGRAM (the guide's laid-datum.mjs) off the statement by which the dump's own 'gosem.cut.vars' lays the variable. In a bare row this is a premise. The card (YthnmhdabdiennaaDoorCards.lean) ties it to the program's text. -/
def laid_math_bits_deBruijn32tab {H : Type} : DataW H := .agg [.lit (.int .u8 0), .lit (.int .u8 1), .lit (.int .u8 28), .lit (.int .u8 2), .lit (.int .u8 29), .lit (.int .u8 14), .lit (.int .u8 24), .lit (.int .u8 3), .lit (.int .u8 30), .lit (.int .u8 22), .lit (.int .u8 20), .lit (.int .u8 15), .lit (.int .u8 25), .lit (.int .u8 17), .lit (.int .u8 4), .lit (.int .u8 8), .lit (.int .u8 31), .lit (.int .u8 27), .lit (.int .u8 13), .lit (.int .u8 23), .lit (.int .u8 21), .lit (.int .u8 19), .lit (.int .u8 16), .lit (.int .u8 7), .lit (.int .u8 26), .lit (.int .u8 12), .lit (.int .u8 18), .lit (.int .u8 6), .lit (.int .u8 11), .lit (.int .u8 5), .lit (.int .u8 10), .lit (.int .u8 9)]
def laid_math_bits_deBruijn64tab {H : Type} : DataW H := .agg [.lit (.int .u8 0), .lit (.int .u8 1), .lit (.int .u8 56), .lit (.int .u8 2), .lit (.int .u8 57), .lit (.int .u8 49), .lit (.int .u8 28), .lit (.int .u8 3), .lit (.int .u8 61), .lit (.int .u8 58), .lit (.int .u8 42), .lit (.int .u8 50), .lit (.int .u8 38), .lit (.int .u8 29), .lit (.int .u8 17), .lit (.int .u8 4), .lit (.int .u8 62), .lit (.int .u8 47), .lit (.int .u8 59), .lit (.int .u8 36), .lit (.int .u8 45), .lit (.int .u8 43), .lit (.int .u8 51), .lit (.int .u8 22), .lit (.int .u8 53), .lit (.int .u8 39), .lit (.int .u8 33), .lit (.int .u8 30), .lit (.int .u8 24), .lit (.int .u8 18), .lit (.int .u8 12), .lit (.int .u8 5), .lit (.int .u8 63), .lit (.int .u8 55), .lit (.int .u8 48), .lit (.int .u8 27), .lit (.int .u8 60), .lit (.int .u8 41), .lit (.int .u8 37), .lit (.int .u8 16), .lit (.int .u8 46), .lit (.int .u8 35), .lit (.int .u8 44), .lit (.int .u8 21), .lit (.int .u8 52), .lit (.int .u8 32), .lit (.int .u8 23), .lit (.int .u8 11), .lit (.int .u8 54), .lit (.int .u8 26), .lit (.int .u8 40), .lit (.int .u8 15), .lit (.int .u8 34), .lit (.int .u8 20), .lit (.int .u8 31), .lit (.int .u8 10), .lit (.int .u8 25), .lit (.int .u8 14), .lit (.int .u8 19), .lit (.int .u8 9), .lit (.int .u8 13), .lit (.int .u8 8), .lit (.int .u8 7), .lit (.int .u8 6)]
def laid_internal_strconv_uint64pow10 {H : Type} : DataW H := .agg [.lit (.int .u64 1), .lit (.int .u64 10), .lit (.int .u64 100), .lit (.int .u64 1000), .lit (.int .u64 10000), .lit (.int .u64 100000), .lit (.int .u64 1000000), .lit (.int .u64 10000000), .lit (.int .u64 100000000), .lit (.int .u64 1000000000), .lit (.int .u64 10000000000), .lit (.int .u64 100000000000), .lit (.int .u64 1000000000000), .lit (.int .u64 10000000000000), .lit (.int .u64 100000000000000), .lit (.int .u64 1000000000000000), .lit (.int .u64 10000000000000000), .lit (.int .u64 100000000000000000), .lit (.int .u64 1000000000000000000), .lit (.int .u64 10000000000000000000)]

/-- 'rootcauselaw25.ItcPlays': WHATEVER THE INPUT: true; the input reads as it did. -/
def itcPlaysSpec : ChangeSpec := { name := "itcPlays", fn := fun _ => fun
  | [d] => { results := [.lit (.bool true)], args := [d] }
  | _ => none }
def itcPlaysRow : OpenClaim := { program := "ythnmhdabdiennaadoor", sum := "3fe3e6c190bfe8dfa79946a0ddd51b87e1a7068d0671a518f3072ea1099b5cf9", func := "rootcause/rootcauselaw25.ItcPlays", spec := "itcPlays", inPlace := ["math/bits.Sub64", "math/bits.Add64"], unfollowed := true, recurses := true, named := ["internal/strconv.uint64pow10", "math/bits.deBruijn32tab", "math/bits.deBruijn64tab"], apart := false, laid := [("math/bits.deBruijn32tab", laid_math_bits_deBruijn32tab), ("math/bits.deBruijn64tab", laid_math_bits_deBruijn64tab), ("internal/strconv.uint64pow10", laid_internal_strconv_uint64pow10)] }
def ItcPlaysSaid : Prop := itcPlaysRow.holds Tryd.pinned (OpenSpec.ofChange itcPlaysSpec)

/-- ITS FALSE NEIGHBOUR: 'it returns false'. Refute it at one input. -/
def itcPlaysWrong : ChangeSpec := { name := "itcPlays", fn := fun _ => fun
  | [d] => { results := [.lit (.bool false)], args := [d] }
  | _ => none }
def ItcPlaysWrongFalsely : Prop := itcPlaysRow.holds Tryd.pinned (OpenSpec.ofChange itcPlaysWrong)

/-- 'rootcauselaw25.ItcForks': WHATEVER THE INPUT: true; the input reads as it did. -/
def itcForksSpec : ChangeSpec := { name := "itcForks", fn := fun _ => fun
  | [d] => { results := [.lit (.bool true)], args := [d] }
  | _ => none }
def itcForksRow : OpenClaim := { program := "ythnmhdabdiennaadoor", sum := "3fe3e6c190bfe8dfa79946a0ddd51b87e1a7068d0671a518f3072ea1099b5cf9", func := "rootcause/rootcauselaw25.ItcForks", spec := "itcForks", inPlace := ["math/bits.Sub64", "math/bits.Add64"], unfollowed := true, recurses := true, named := ["internal/strconv.uint64pow10", "math/bits.deBruijn32tab", "math/bits.deBruijn64tab"], apart := false, laid := [("math/bits.deBruijn32tab", laid_math_bits_deBruijn32tab), ("math/bits.deBruijn64tab", laid_math_bits_deBruijn64tab), ("internal/strconv.uint64pow10", laid_internal_strconv_uint64pow10)] }
def ItcForksSaid : Prop := itcForksRow.holds Tryd.pinned (OpenSpec.ofChange itcForksSpec)

/-- ITS FALSE NEIGHBOUR: 'it returns false'. Refute it at one input. -/
def itcForksWrong : ChangeSpec := { name := "itcForks", fn := fun _ => fun
  | [d] => { results := [.lit (.bool false)], args := [d] }
  | _ => none }
def ItcForksWrongFalsely : Prop := itcForksRow.holds Tryd.pinned (OpenSpec.ofChange itcForksWrong)

/-- 'rootcauselaw25.ItcCauses': WHATEVER THE INPUT: true; the input reads as it did. -/
def itcCausesSpec : ChangeSpec := { name := "itcCauses", fn := fun _ => fun
  | [d] => { results := [.lit (.bool true)], args := [d] }
  | _ => none }
def itcCausesRow : OpenClaim := { program := "ythnmhdabdiennaadoor", sum := "3fe3e6c190bfe8dfa79946a0ddd51b87e1a7068d0671a518f3072ea1099b5cf9", func := "rootcause/rootcauselaw25.ItcCauses", spec := "itcCauses", inPlace := ["math/bits.Add64", "math/bits.Sub64"], unfollowed := true, recurses := true, named := ["internal/strconv.uint64pow10", "math/bits.deBruijn32tab", "math/bits.deBruijn64tab"], apart := false, laid := [("math/bits.deBruijn32tab", laid_math_bits_deBruijn32tab), ("math/bits.deBruijn64tab", laid_math_bits_deBruijn64tab), ("internal/strconv.uint64pow10", laid_internal_strconv_uint64pow10)] }
def ItcCausesSaid : Prop := itcCausesRow.holds Tryd.pinned (OpenSpec.ofChange itcCausesSpec)

/-- ITS FALSE NEIGHBOUR: 'it returns false'. Refute it at one input. -/
def itcCausesWrong : ChangeSpec := { name := "itcCauses", fn := fun _ => fun
  | [d] => { results := [.lit (.bool false)], args := [d] }
  | _ => none }
def ItcCausesWrongFalsely : Prop := itcCausesRow.holds Tryd.pinned (OpenSpec.ofChange itcCausesWrong)

/-- 'rootcauselaw25.ItcDepth': WHATEVER THE INPUT: true; the input reads as it did. -/
def itcDepthSpec : ChangeSpec := { name := "itcDepth", fn := fun _ => fun
  | [d1, d2] => { results := [.lit (.bool true)], args := [d1, d2] }
  | _ => none }
def itcDepthRow : OpenClaim := { program := "ythnmhdabdiennaadoor", sum := "3fe3e6c190bfe8dfa79946a0ddd51b87e1a7068d0671a518f3072ea1099b5cf9", func := "rootcause/rootcauselaw25.ItcDepth", spec := "itcDepth", inPlace := ["math/bits.Add64", "math/bits.Sub64"], unfollowed := true, recurses := true, named := ["internal/strconv.uint64pow10", "math/bits.deBruijn32tab", "math/bits.deBruijn64tab"], apart := false, laid := [("math/bits.deBruijn32tab", laid_math_bits_deBruijn32tab), ("math/bits.deBruijn64tab", laid_math_bits_deBruijn64tab), ("internal/strconv.uint64pow10", laid_internal_strconv_uint64pow10)] }
def ItcDepthSaid : Prop := itcDepthRow.holds Tryd.pinned (OpenSpec.ofChange itcDepthSpec)

/-- ITS FALSE NEIGHBOUR: 'it returns false'. Refute it at one input. -/
def itcDepthWrong : ChangeSpec := { name := "itcDepth", fn := fun _ => fun
  | [d1, d2] => { results := [.lit (.bool false)], args := [d1, d2] }
  | _ => none }
def ItcDepthWrongFalsely : Prop := itcDepthRow.holds Tryd.pinned (OpenSpec.ofChange itcDepthWrong)

/-- 'rootcauselaw25.ItcEvents': WHATEVER THE INPUT: true; the input reads as it did. -/
def itcEventsSpec : ChangeSpec := { name := "itcEvents", fn := fun _ => fun
  | [d] => { results := [.lit (.bool true)], args := [d] }
  | _ => none }
def itcEventsRow : OpenClaim := { program := "ythnmhdabdiennaadoor", sum := "3fe3e6c190bfe8dfa79946a0ddd51b87e1a7068d0671a518f3072ea1099b5cf9", func := "rootcause/rootcauselaw25.ItcEvents", spec := "itcEvents", inPlace := ["math/bits.Sub64", "math/bits.Add64"], unfollowed := true, recurses := true, named := ["internal/strconv.uint64pow10", "math/bits.deBruijn32tab", "math/bits.deBruijn64tab"], apart := false, laid := [("math/bits.deBruijn32tab", laid_math_bits_deBruijn32tab), ("math/bits.deBruijn64tab", laid_math_bits_deBruijn64tab), ("internal/strconv.uint64pow10", laid_internal_strconv_uint64pow10)] }
def ItcEventsSaid : Prop := itcEventsRow.holds Tryd.pinned (OpenSpec.ofChange itcEventsSpec)

/-- ITS FALSE NEIGHBOUR: 'it returns false'. Refute it at one input. -/
def itcEventsWrong : ChangeSpec := { name := "itcEvents", fn := fun _ => fun
  | [d] => { results := [.lit (.bool false)], args := [d] }
  | _ => none }
def ItcEventsWrongFalsely : Prop := itcEventsRow.holds Tryd.pinned (OpenSpec.ofChange itcEventsWrong)

/-- 'rootcauselaw25.ItcLeq': WHATEVER THE INPUT: true; the input reads as it did. -/
def itcLeqSpec : ChangeSpec := { name := "itcLeq", fn := fun _ => fun
  | [d] => { results := [.lit (.bool true)], args := [d] }
  | _ => none }
def itcLeqRow : OpenClaim := { program := "ythnmhdabdiennaadoor", sum := "3fe3e6c190bfe8dfa79946a0ddd51b87e1a7068d0671a518f3072ea1099b5cf9", func := "rootcause/rootcauselaw25.ItcLeq", spec := "itcLeq", inPlace := ["math/bits.Sub64", "math/bits.Add64"], unfollowed := true, recurses := true, named := ["internal/strconv.uint64pow10", "math/bits.deBruijn32tab", "math/bits.deBruijn64tab"], apart := false, laid := [("math/bits.deBruijn32tab", laid_math_bits_deBruijn32tab), ("math/bits.deBruijn64tab", laid_math_bits_deBruijn64tab), ("internal/strconv.uint64pow10", laid_internal_strconv_uint64pow10)] }
def ItcLeqSaid : Prop := itcLeqRow.holds Tryd.pinned (OpenSpec.ofChange itcLeqSpec)

/-- ITS FALSE NEIGHBOUR: 'it returns false'. Refute it at one input. -/
def itcLeqWrong : ChangeSpec := { name := "itcLeq", fn := fun _ => fun
  | [d] => { results := [.lit (.bool false)], args := [d] }
  | _ => none }
def ItcLeqWrongFalsely : Prop := itcLeqRow.holds Tryd.pinned (OpenSpec.ofChange itcLeqWrong)

/-- 'rootcauselaw25.ItcReads': WHATEVER THE INPUT: true; the input reads as it did. -/
def itcReadsSpec : ChangeSpec := { name := "itcReads", fn := fun _ => fun
  | [d] => { results := [.lit (.bool true)], args := [d] }
  | _ => none }
def itcReadsRow : OpenClaim := { program := "ythnmhdabdiennaadoor", sum := "3fe3e6c190bfe8dfa79946a0ddd51b87e1a7068d0671a518f3072ea1099b5cf9", func := "rootcause/rootcauselaw25.ItcReads", spec := "itcReads", inPlace := ["math/bits.Add64", "math/bits.Sub64"], unfollowed := true, recurses := true, named := ["internal/strconv.uint64pow10", "math/bits.deBruijn32tab", "math/bits.deBruijn64tab"], apart := false, laid := [("math/bits.deBruijn32tab", laid_math_bits_deBruijn32tab), ("math/bits.deBruijn64tab", laid_math_bits_deBruijn64tab), ("internal/strconv.uint64pow10", laid_internal_strconv_uint64pow10)] }
def ItcReadsSaid : Prop := itcReadsRow.holds Tryd.pinned (OpenSpec.ofChange itcReadsSpec)

/-- ITS FALSE NEIGHBOUR: 'it returns false'. Refute it at one input. -/
def itcReadsWrong : ChangeSpec := { name := "itcReads", fn := fun _ => fun
  | [d] => { results := [.lit (.bool false)], args := [d] }
  | _ => none }
def ItcReadsWrongFalsely : Prop := itcReadsRow.holds Tryd.pinned (OpenSpec.ofChange itcReadsWrong)

/-- 'rootcauselaw25.ItcBytes': WHATEVER THE INPUT: true; the input reads as it did. -/
def itcBytesSpec : ChangeSpec := { name := "itcBytes", fn := fun _ => fun
  | [d1, d2, d3] => { results := [.lit (.bool true)], args := [d1, d2, d3] }
  | _ => none }
def itcBytesRow : OpenClaim := { program := "ythnmhdabdiennaadoor", sum := "3fe3e6c190bfe8dfa79946a0ddd51b87e1a7068d0671a518f3072ea1099b5cf9", func := "rootcause/rootcauselaw25.ItcBytes", spec := "itcBytes", inPlace := ["math/bits.Sub64", "math/bits.Add64"], unfollowed := true, recurses := true, named := ["internal/strconv.uint64pow10", "math/bits.deBruijn32tab", "math/bits.deBruijn64tab"], apart := false, laid := [("math/bits.deBruijn32tab", laid_math_bits_deBruijn32tab), ("math/bits.deBruijn64tab", laid_math_bits_deBruijn64tab), ("internal/strconv.uint64pow10", laid_internal_strconv_uint64pow10)] }
def ItcBytesSaid : Prop := itcBytesRow.holds Tryd.pinned (OpenSpec.ofChange itcBytesSpec)

/-- ITS FALSE NEIGHBOUR: 'it returns false'. Refute it at one input. -/
def itcBytesWrong : ChangeSpec := { name := "itcBytes", fn := fun _ => fun
  | [d1, d2, d3] => { results := [.lit (.bool false)], args := [d1, d2, d3] }
  | _ => none }
def ItcBytesWrongFalsely : Prop := itcBytesRow.holds Tryd.pinned (OpenSpec.ofChange itcBytesWrong)

/- THE SECOND FORM. 'bulk': how many values and letters a reading holds, each counted each time it is reached (what is shared counts as often as it is met; a slice's spare places count too). A statement '..UptoSaid' is the law's where the arguments, and the package variables that the reading takes, are together of bulk at most 1048576: NARROWER than '..Said'. Prove '..Said' where nothing that the law and all that it calls make is longer than what came in: it says more and counts as full. Else prove '..UptoSaid'. A law counts once. -/
mutual
def uptoBulk {H : Type} : DataW H → Nat
  | .lit (.string bytes) => bytes.length + 1
  | .lit _ => 1
  | .nil => 1
  | .ptr d => uptoBulk d + 1
  | .slice elems spare => uptoBulkAll elems + uptoBulkAll spare + 1
  | .agg parts => uptoBulkAll parts + 1
  | .iface _ d => uptoBulk d + 1
  | .map entries => uptoBulkEntries entries + 1
  | .held _ => 1
def uptoBulkAll {H : Type} : List (DataW H) → Nat
  | [] => 0
  | d :: r => uptoBulk d + uptoBulkAll r
def uptoBulkEntries {H : Type} : List (Lit × DataW H) → Nat
  | [] => 0
  | x :: r => uptoBulkEntry x + uptoBulkEntries r
def uptoBulkEntry {H : Type} : Lit × DataW H → Nat
  | (.string bytes, d) => bytes.length + uptoBulk d + 1
  | (_, d) => uptoBulk d + 1
 end
def uptoSmall : (H : Type) → List (DataW H) → Bool := fun _ ds => decide (uptoBulkAll ds ≤ 1048576)
def OpenSpec.upto (s : _root_.Go.ChangeSpec) : _root_.Go.OpenSpec := { _root_.Go.OpenSpec.ofChange s with cond := some uptoSmall }

/-- 'rootcauselaw25.ItcPlays', WHERE WHAT IT READS IS OF BULK AT MOST 1048576: true; the input reads as it did. -/
def itcPlaysUptoRow : OpenClaim := { program := "ythnmhdabdiennaadoor", sum := "3fe3e6c190bfe8dfa79946a0ddd51b87e1a7068d0671a518f3072ea1099b5cf9", func := "rootcause/rootcauselaw25.ItcPlays", spec := "itcPlays", inPlace := ["math/bits.Sub64", "math/bits.Add64"], unfollowed := true, recurses := true, named := ["internal/strconv.uint64pow10", "math/bits.deBruijn32tab", "math/bits.deBruijn64tab"], apart := false, laid := [("math/bits.deBruijn32tab", laid_math_bits_deBruijn32tab), ("math/bits.deBruijn64tab", laid_math_bits_deBruijn64tab), ("internal/strconv.uint64pow10", laid_internal_strconv_uint64pow10)], narrowed := true }
def ItcPlaysUptoSaid : Prop := itcPlaysUptoRow.holds Tryd.pinned (OpenSpec.upto itcPlaysSpec)

/-- 'rootcauselaw25.ItcForks', WHERE WHAT IT READS IS OF BULK AT MOST 1048576: true; the input reads as it did. -/
def itcForksUptoRow : OpenClaim := { program := "ythnmhdabdiennaadoor", sum := "3fe3e6c190bfe8dfa79946a0ddd51b87e1a7068d0671a518f3072ea1099b5cf9", func := "rootcause/rootcauselaw25.ItcForks", spec := "itcForks", inPlace := ["math/bits.Sub64", "math/bits.Add64"], unfollowed := true, recurses := true, named := ["internal/strconv.uint64pow10", "math/bits.deBruijn32tab", "math/bits.deBruijn64tab"], apart := false, laid := [("math/bits.deBruijn32tab", laid_math_bits_deBruijn32tab), ("math/bits.deBruijn64tab", laid_math_bits_deBruijn64tab), ("internal/strconv.uint64pow10", laid_internal_strconv_uint64pow10)], narrowed := true }
def ItcForksUptoSaid : Prop := itcForksUptoRow.holds Tryd.pinned (OpenSpec.upto itcForksSpec)

/-- 'rootcauselaw25.ItcCauses', WHERE WHAT IT READS IS OF BULK AT MOST 1048576: true; the input reads as it did. -/
def itcCausesUptoRow : OpenClaim := { program := "ythnmhdabdiennaadoor", sum := "3fe3e6c190bfe8dfa79946a0ddd51b87e1a7068d0671a518f3072ea1099b5cf9", func := "rootcause/rootcauselaw25.ItcCauses", spec := "itcCauses", inPlace := ["math/bits.Add64", "math/bits.Sub64"], unfollowed := true, recurses := true, named := ["internal/strconv.uint64pow10", "math/bits.deBruijn32tab", "math/bits.deBruijn64tab"], apart := false, laid := [("math/bits.deBruijn32tab", laid_math_bits_deBruijn32tab), ("math/bits.deBruijn64tab", laid_math_bits_deBruijn64tab), ("internal/strconv.uint64pow10", laid_internal_strconv_uint64pow10)], narrowed := true }
def ItcCausesUptoSaid : Prop := itcCausesUptoRow.holds Tryd.pinned (OpenSpec.upto itcCausesSpec)

/-- 'rootcauselaw25.ItcDepth', WHERE WHAT IT READS IS OF BULK AT MOST 1048576: true; the input reads as it did. -/
def itcDepthUptoRow : OpenClaim := { program := "ythnmhdabdiennaadoor", sum := "3fe3e6c190bfe8dfa79946a0ddd51b87e1a7068d0671a518f3072ea1099b5cf9", func := "rootcause/rootcauselaw25.ItcDepth", spec := "itcDepth", inPlace := ["math/bits.Add64", "math/bits.Sub64"], unfollowed := true, recurses := true, named := ["internal/strconv.uint64pow10", "math/bits.deBruijn32tab", "math/bits.deBruijn64tab"], apart := false, laid := [("math/bits.deBruijn32tab", laid_math_bits_deBruijn32tab), ("math/bits.deBruijn64tab", laid_math_bits_deBruijn64tab), ("internal/strconv.uint64pow10", laid_internal_strconv_uint64pow10)], narrowed := true }
def ItcDepthUptoSaid : Prop := itcDepthUptoRow.holds Tryd.pinned (OpenSpec.upto itcDepthSpec)

/-- 'rootcauselaw25.ItcEvents', WHERE WHAT IT READS IS OF BULK AT MOST 1048576: true; the input reads as it did. -/
def itcEventsUptoRow : OpenClaim := { program := "ythnmhdabdiennaadoor", sum := "3fe3e6c190bfe8dfa79946a0ddd51b87e1a7068d0671a518f3072ea1099b5cf9", func := "rootcause/rootcauselaw25.ItcEvents", spec := "itcEvents", inPlace := ["math/bits.Sub64", "math/bits.Add64"], unfollowed := true, recurses := true, named := ["internal/strconv.uint64pow10", "math/bits.deBruijn32tab", "math/bits.deBruijn64tab"], apart := false, laid := [("math/bits.deBruijn32tab", laid_math_bits_deBruijn32tab), ("math/bits.deBruijn64tab", laid_math_bits_deBruijn64tab), ("internal/strconv.uint64pow10", laid_internal_strconv_uint64pow10)], narrowed := true }
def ItcEventsUptoSaid : Prop := itcEventsUptoRow.holds Tryd.pinned (OpenSpec.upto itcEventsSpec)

/-- 'rootcauselaw25.ItcLeq', WHERE WHAT IT READS IS OF BULK AT MOST 1048576: true; the input reads as it did. -/
def itcLeqUptoRow : OpenClaim := { program := "ythnmhdabdiennaadoor", sum := "3fe3e6c190bfe8dfa79946a0ddd51b87e1a7068d0671a518f3072ea1099b5cf9", func := "rootcause/rootcauselaw25.ItcLeq", spec := "itcLeq", inPlace := ["math/bits.Sub64", "math/bits.Add64"], unfollowed := true, recurses := true, named := ["internal/strconv.uint64pow10", "math/bits.deBruijn32tab", "math/bits.deBruijn64tab"], apart := false, laid := [("math/bits.deBruijn32tab", laid_math_bits_deBruijn32tab), ("math/bits.deBruijn64tab", laid_math_bits_deBruijn64tab), ("internal/strconv.uint64pow10", laid_internal_strconv_uint64pow10)], narrowed := true }
def ItcLeqUptoSaid : Prop := itcLeqUptoRow.holds Tryd.pinned (OpenSpec.upto itcLeqSpec)

/-- 'rootcauselaw25.ItcReads', WHERE WHAT IT READS IS OF BULK AT MOST 1048576: true; the input reads as it did. -/
def itcReadsUptoRow : OpenClaim := { program := "ythnmhdabdiennaadoor", sum := "3fe3e6c190bfe8dfa79946a0ddd51b87e1a7068d0671a518f3072ea1099b5cf9", func := "rootcause/rootcauselaw25.ItcReads", spec := "itcReads", inPlace := ["math/bits.Add64", "math/bits.Sub64"], unfollowed := true, recurses := true, named := ["internal/strconv.uint64pow10", "math/bits.deBruijn32tab", "math/bits.deBruijn64tab"], apart := false, laid := [("math/bits.deBruijn32tab", laid_math_bits_deBruijn32tab), ("math/bits.deBruijn64tab", laid_math_bits_deBruijn64tab), ("internal/strconv.uint64pow10", laid_internal_strconv_uint64pow10)], narrowed := true }
def ItcReadsUptoSaid : Prop := itcReadsUptoRow.holds Tryd.pinned (OpenSpec.upto itcReadsSpec)

/-- 'rootcauselaw25.ItcBytes', WHERE WHAT IT READS IS OF BULK AT MOST 1048576: true; the input reads as it did. -/
def itcBytesUptoRow : OpenClaim := { program := "ythnmhdabdiennaadoor", sum := "3fe3e6c190bfe8dfa79946a0ddd51b87e1a7068d0671a518f3072ea1099b5cf9", func := "rootcause/rootcauselaw25.ItcBytes", spec := "itcBytes", inPlace := ["math/bits.Sub64", "math/bits.Add64"], unfollowed := true, recurses := true, named := ["internal/strconv.uint64pow10", "math/bits.deBruijn32tab", "math/bits.deBruijn64tab"], apart := false, laid := [("math/bits.deBruijn32tab", laid_math_bits_deBruijn32tab), ("math/bits.deBruijn64tab", laid_math_bits_deBruijn64tab), ("internal/strconv.uint64pow10", laid_internal_strconv_uint64pow10)], narrowed := true }
def ItcBytesUptoSaid : Prop := itcBytesUptoRow.holds Tryd.pinned (OpenSpec.upto itcBytesSpec)

end Rows
end Go.Proofs.YthnmhdabdiennaaDoor
