/-
  NARROWER THAN 'FOR EVERY INPUT', by the rows' own cells (each row's printed sentence says how): RedactDiscloses: laid · RedactRefuses: laid · RedactCloses: laid · RedactCommits: laid · RedactVerifies: laid · RedactHides: laid · RedactBytes: laid.
  DERIVED. THE GIVEN ROWS OF THIS SEAT. 7 by the template 'for every input the law returns true; each argument reads behind the call as it read before'; 0 by the template 'total and deterministic' (their statements: YtjedhndhdkiidaaDoorTotals.lean).
  GIVEN WITH THE SEED: the statements are not yours to turn. If you find one false, say at which input.
  Laid BY PROGRAM, IN A SANDBOX (cutbox-rows.mjs): the forced cells as the released guide's own fill.sh prints them over the translation c9e140024d2bf81d… (all of the seat's roots in one cut). By AI agents, Wed Nov 11 2026. No macro, syntax, notation, axiom, sorry.
-/
import Derived.Test.YtjedhndhdkiidaaDoorChecked
import GoSem.Claim
import GoSem.ClaimJoined
import GoSem.ClaimMapViews
import Derived.JoinedTies
import Derived.KernelRfl
namespace Go.Proofs.YtjedhndhdkiidaaDoor
/- THE CELL 'sum', in the pinned program and in every row, IS THE sha256 OF THE DUMP (.gsa) THAT YtjedhndhdkiidaaDoorProg.lean LOADS. Nothing in Lean hashes anything: it is a label: what it is worth is what the hold of that sum in a sandbox is worth. -/
noncomputable def Tryd.pinned : Pinned := { name := "ytjedhndhdkiidaadoor", sum := "c9e140024d2bf81dc9596a84abe76a200e5ef5188db4bc50471ccecea0be9414", checked := Tryd.checked }
namespace Rows
def none {H : Type} : Left H := { results := [], args := [] }

/- WHAT THE LISTED PACKAGE-LEVEL VARIABLES READ AS WHEN THE CALL BEGINS. Each datum BY PROGRAM (the guide's laid-datum.mjs) off the statement by which the dump's own 'gosem.cut.vars' lays the variable. In a bare row this is a premise. The card (YtjedhndhdkiidaaDoorCards.lean) ties it to the program's text. -/
def laid_rootcause_digest_constants {H : Type} : DataW H := .agg [.lit (.int .u32 1116352408), .lit (.int .u32 1899447441), .lit (.int .u32 3049323471), .lit (.int .u32 3921009573), .lit (.int .u32 961987163), .lit (.int .u32 1508970993), .lit (.int .u32 2453635748), .lit (.int .u32 2870763221), .lit (.int .u32 3624381080), .lit (.int .u32 310598401), .lit (.int .u32 607225278), .lit (.int .u32 1426881987), .lit (.int .u32 1925078388), .lit (.int .u32 2162078206), .lit (.int .u32 2614888103), .lit (.int .u32 3248222580), .lit (.int .u32 3835390401), .lit (.int .u32 4022224774), .lit (.int .u32 264347078), .lit (.int .u32 604807628), .lit (.int .u32 770255983), .lit (.int .u32 1249150122), .lit (.int .u32 1555081692), .lit (.int .u32 1996064986), .lit (.int .u32 2554220882), .lit (.int .u32 2821834349), .lit (.int .u32 2952996808), .lit (.int .u32 3210313671), .lit (.int .u32 3336571891), .lit (.int .u32 3584528711), .lit (.int .u32 113926993), .lit (.int .u32 338241895), .lit (.int .u32 666307205), .lit (.int .u32 773529912), .lit (.int .u32 1294757372), .lit (.int .u32 1396182291), .lit (.int .u32 1695183700), .lit (.int .u32 1986661051), .lit (.int .u32 2177026350), .lit (.int .u32 2456956037), .lit (.int .u32 2730485921), .lit (.int .u32 2820302411), .lit (.int .u32 3259730800), .lit (.int .u32 3345764771), .lit (.int .u32 3516065817), .lit (.int .u32 3600352804), .lit (.int .u32 4094571909), .lit (.int .u32 275423344), .lit (.int .u32 430227734), .lit (.int .u32 506948616), .lit (.int .u32 659060556), .lit (.int .u32 883997877), .lit (.int .u32 958139571), .lit (.int .u32 1322822218), .lit (.int .u32 1537002063), .lit (.int .u32 1747873779), .lit (.int .u32 1955562222), .lit (.int .u32 2024104815), .lit (.int .u32 2227730452), .lit (.int .u32 2361852424), .lit (.int .u32 2428436474), .lit (.int .u32 2756734187), .lit (.int .u32 3204031479), .lit (.int .u32 3329325298)]

/-- 'rootcauselaw53.RedactDiscloses': WHATEVER THE INPUT: true; the input reads as it did. -/
def redactDisclosesSpec : ChangeSpec := { name := "redactDiscloses", fn := fun _ => fun
  | [d1, d2, d3] => { results := [.lit (.bool true)], args := [d1, d2, d3] }
  | _ => none }
def redactDisclosesRow : OpenClaim := { program := "ytjedhndhdkiidaadoor", sum := "c9e140024d2bf81dc9596a84abe76a200e5ef5188db4bc50471ccecea0be9414", func := "rootcause/rootcauselaw53.RedactDiscloses", spec := "redactDiscloses", unfollowed := true, recurses := true, named := ["rootcause/digest.constants"], apart := false, laid := [("rootcause/digest.constants", laid_rootcause_digest_constants)] }
def RedactDisclosesSaid : Prop := redactDisclosesRow.holds Tryd.pinned (OpenSpec.ofChange redactDisclosesSpec)

/-- ITS FALSE NEIGHBOUR: 'it returns false'. Refute it at one input. -/
def redactDisclosesWrong : ChangeSpec := { name := "redactDiscloses", fn := fun _ => fun
  | [d1, d2, d3] => { results := [.lit (.bool false)], args := [d1, d2, d3] }
  | _ => none }
def RedactDisclosesWrongFalsely : Prop := redactDisclosesRow.holds Tryd.pinned (OpenSpec.ofChange redactDisclosesWrong)

/-- 'rootcauselaw53.RedactRefuses': WHATEVER THE INPUT: true; the input reads as it did. -/
def redactRefusesSpec : ChangeSpec := { name := "redactRefuses", fn := fun _ => fun
  | [d] => { results := [.lit (.bool true)], args := [d] }
  | _ => none }
def redactRefusesRow : OpenClaim := { program := "ytjedhndhdkiidaadoor", sum := "c9e140024d2bf81dc9596a84abe76a200e5ef5188db4bc50471ccecea0be9414", func := "rootcause/rootcauselaw53.RedactRefuses", spec := "redactRefuses", unfollowed := true, recurses := true, named := ["rootcause/digest.constants"], apart := false, laid := [("rootcause/digest.constants", laid_rootcause_digest_constants)] }
def RedactRefusesSaid : Prop := redactRefusesRow.holds Tryd.pinned (OpenSpec.ofChange redactRefusesSpec)

/-- ITS FALSE NEIGHBOUR: 'it returns false'. Refute it at one input. -/
def redactRefusesWrong : ChangeSpec := { name := "redactRefuses", fn := fun _ => fun
  | [d] => { results := [.lit (.bool false)], args := [d] }
  | _ => none }
def RedactRefusesWrongFalsely : Prop := redactRefusesRow.holds Tryd.pinned (OpenSpec.ofChange redactRefusesWrong)

/-- 'rootcauselaw53.RedactCloses': WHATEVER THE INPUT: true; the input reads as it did. -/
def redactClosesSpec : ChangeSpec := { name := "redactCloses", fn := fun _ => fun
  | [d1, d2, d3] => { results := [.lit (.bool true)], args := [d1, d2, d3] }
  | _ => none }
def redactClosesRow : OpenClaim := { program := "ytjedhndhdkiidaadoor", sum := "c9e140024d2bf81dc9596a84abe76a200e5ef5188db4bc50471ccecea0be9414", func := "rootcause/rootcauselaw53.RedactCloses", spec := "redactCloses", unfollowed := true, recurses := true, named := ["rootcause/digest.constants"], apart := false, laid := [("rootcause/digest.constants", laid_rootcause_digest_constants)] }
def RedactClosesSaid : Prop := redactClosesRow.holds Tryd.pinned (OpenSpec.ofChange redactClosesSpec)

/-- ITS FALSE NEIGHBOUR: 'it returns false'. Refute it at one input. -/
def redactClosesWrong : ChangeSpec := { name := "redactCloses", fn := fun _ => fun
  | [d1, d2, d3] => { results := [.lit (.bool false)], args := [d1, d2, d3] }
  | _ => none }
def RedactClosesWrongFalsely : Prop := redactClosesRow.holds Tryd.pinned (OpenSpec.ofChange redactClosesWrong)

/-- 'rootcauselaw53.RedactCommits': WHATEVER THE INPUT: true; the input reads as it did. -/
def redactCommitsSpec : ChangeSpec := { name := "redactCommits", fn := fun _ => fun
  | [d1, d2] => { results := [.lit (.bool true)], args := [d1, d2] }
  | _ => none }
def redactCommitsRow : OpenClaim := { program := "ytjedhndhdkiidaadoor", sum := "c9e140024d2bf81dc9596a84abe76a200e5ef5188db4bc50471ccecea0be9414", func := "rootcause/rootcauselaw53.RedactCommits", spec := "redactCommits", unfollowed := true, recurses := true, named := ["rootcause/digest.constants"], apart := false, laid := [("rootcause/digest.constants", laid_rootcause_digest_constants)] }
def RedactCommitsSaid : Prop := redactCommitsRow.holds Tryd.pinned (OpenSpec.ofChange redactCommitsSpec)

/-- ITS FALSE NEIGHBOUR: 'it returns false'. Refute it at one input. -/
def redactCommitsWrong : ChangeSpec := { name := "redactCommits", fn := fun _ => fun
  | [d1, d2] => { results := [.lit (.bool false)], args := [d1, d2] }
  | _ => none }
def RedactCommitsWrongFalsely : Prop := redactCommitsRow.holds Tryd.pinned (OpenSpec.ofChange redactCommitsWrong)

/-- 'rootcauselaw53.RedactVerifies': WHATEVER THE INPUT: true; the input reads as it did. -/
def redactVerifiesSpec : ChangeSpec := { name := "redactVerifies", fn := fun _ => fun
  | [d1, d2, d3] => { results := [.lit (.bool true)], args := [d1, d2, d3] }
  | _ => none }
def redactVerifiesRow : OpenClaim := { program := "ytjedhndhdkiidaadoor", sum := "c9e140024d2bf81dc9596a84abe76a200e5ef5188db4bc50471ccecea0be9414", func := "rootcause/rootcauselaw53.RedactVerifies", spec := "redactVerifies", unfollowed := true, recurses := true, named := ["rootcause/digest.constants"], apart := false, laid := [("rootcause/digest.constants", laid_rootcause_digest_constants)] }
def RedactVerifiesSaid : Prop := redactVerifiesRow.holds Tryd.pinned (OpenSpec.ofChange redactVerifiesSpec)

/-- ITS FALSE NEIGHBOUR: 'it returns false'. Refute it at one input. -/
def redactVerifiesWrong : ChangeSpec := { name := "redactVerifies", fn := fun _ => fun
  | [d1, d2, d3] => { results := [.lit (.bool false)], args := [d1, d2, d3] }
  | _ => none }
def RedactVerifiesWrongFalsely : Prop := redactVerifiesRow.holds Tryd.pinned (OpenSpec.ofChange redactVerifiesWrong)

/-- 'rootcauselaw53.RedactHides': WHATEVER THE INPUT: true; the input reads as it did. -/
def redactHidesSpec : ChangeSpec := { name := "redactHides", fn := fun _ => fun
  | [d1, d2] => { results := [.lit (.bool true)], args := [d1, d2] }
  | _ => none }
def redactHidesRow : OpenClaim := { program := "ytjedhndhdkiidaadoor", sum := "c9e140024d2bf81dc9596a84abe76a200e5ef5188db4bc50471ccecea0be9414", func := "rootcause/rootcauselaw53.RedactHides", spec := "redactHides", unfollowed := true, recurses := true, named := ["rootcause/digest.constants"], apart := false, laid := [("rootcause/digest.constants", laid_rootcause_digest_constants)] }
def RedactHidesSaid : Prop := redactHidesRow.holds Tryd.pinned (OpenSpec.ofChange redactHidesSpec)

/-- ITS FALSE NEIGHBOUR: 'it returns false'. Refute it at one input. -/
def redactHidesWrong : ChangeSpec := { name := "redactHides", fn := fun _ => fun
  | [d1, d2] => { results := [.lit (.bool false)], args := [d1, d2] }
  | _ => none }
def RedactHidesWrongFalsely : Prop := redactHidesRow.holds Tryd.pinned (OpenSpec.ofChange redactHidesWrong)

/-- 'rootcauselaw53.RedactBytes': WHATEVER THE INPUT: true; the input reads as it did. -/
def redactBytesSpec : ChangeSpec := { name := "redactBytes", fn := fun _ => fun
  | [d1, d2, d3] => { results := [.lit (.bool true)], args := [d1, d2, d3] }
  | _ => none }
def redactBytesRow : OpenClaim := { program := "ytjedhndhdkiidaadoor", sum := "c9e140024d2bf81dc9596a84abe76a200e5ef5188db4bc50471ccecea0be9414", func := "rootcause/rootcauselaw53.RedactBytes", spec := "redactBytes", unfollowed := true, recurses := true, named := ["rootcause/digest.constants"], apart := false, laid := [("rootcause/digest.constants", laid_rootcause_digest_constants)] }
def RedactBytesSaid : Prop := redactBytesRow.holds Tryd.pinned (OpenSpec.ofChange redactBytesSpec)

/-- ITS FALSE NEIGHBOUR: 'it returns false'. Refute it at one input. -/
def redactBytesWrong : ChangeSpec := { name := "redactBytes", fn := fun _ => fun
  | [d1, d2, d3] => { results := [.lit (.bool false)], args := [d1, d2, d3] }
  | _ => none }
def RedactBytesWrongFalsely : Prop := redactBytesRow.holds Tryd.pinned (OpenSpec.ofChange redactBytesWrong)

/- THE SECOND FORM. 'bulk': how many values and letters a reading holds, each counted each time it is reached (what is shared counts as often as it is met; a slice's spare places count too). A statement '..UptoSaid' is the law's where the arguments, and the package variables that the reading takes, are together of bulk at most 1048576: NARROWER than '..Said'. Prove '..Said' where nothing that the law and all that it calls make is longer than what came in: it says more and counts as full. Else prove '..UptoSaid'. A law counts once. -/
mutual
def uptoBulk {H : Type} : DataW H → Nat
  | .lit (.string bytes) => bytes.length + 1
  | .lit _ => 1
  | .nil => 1
  | .ptr d => uptoBulk d + 1
  | .slice elems spare => uptoBulkAll elems + uptoBulkAll spare + 1
  | .agg parts => uptoBulkAll parts + 1
  | .iface _ d => uptoBulk d + 1
  | .map entries => uptoBulkEntries entries + 1
  | .held _ => 1
def uptoBulkAll {H : Type} : List (DataW H) → Nat
  | [] => 0
  | d :: r => uptoBulk d + uptoBulkAll r
def uptoBulkEntries {H : Type} : List (Lit × DataW H) → Nat
  | [] => 0
  | x :: r => uptoBulkEntry x + uptoBulkEntries r
def uptoBulkEntry {H : Type} : Lit × DataW H → Nat
  | (.string bytes, d) => bytes.length + uptoBulk d + 1
  | (_, d) => uptoBulk d + 1
 end
def uptoSmall : (H : Type) → List (DataW H) → Bool := fun _ ds => decide (uptoBulkAll ds ≤ 1048576)
def OpenSpec.upto (s : _root_.Go.ChangeSpec) : _root_.Go.OpenSpec := { _root_.Go.OpenSpec.ofChange s with cond := some uptoSmall }

/-- 'rootcauselaw53.RedactDiscloses', WHERE WHAT IT READS IS OF BULK AT MOST 1048576: true; the input reads as it did. -/
def redactDisclosesUptoRow : OpenClaim := { program := "ytjedhndhdkiidaadoor", sum := "c9e140024d2bf81dc9596a84abe76a200e5ef5188db4bc50471ccecea0be9414", func := "rootcause/rootcauselaw53.RedactDiscloses", spec := "redactDiscloses", unfollowed := true, recurses := true, named := ["rootcause/digest.constants"], apart := false, laid := [("rootcause/digest.constants", laid_rootcause_digest_constants)], narrowed := true }
def RedactDisclosesUptoSaid : Prop := redactDisclosesUptoRow.holds Tryd.pinned (OpenSpec.upto redactDisclosesSpec)

/-- 'rootcauselaw53.RedactRefuses', WHERE WHAT IT READS IS OF BULK AT MOST 1048576: true; the input reads as it did. -/
def redactRefusesUptoRow : OpenClaim := { program := "ytjedhndhdkiidaadoor", sum := "c9e140024d2bf81dc9596a84abe76a200e5ef5188db4bc50471ccecea0be9414", func := "rootcause/rootcauselaw53.RedactRefuses", spec := "redactRefuses", unfollowed := true, recurses := true, named := ["rootcause/digest.constants"], apart := false, laid := [("rootcause/digest.constants", laid_rootcause_digest_constants)], narrowed := true }
def RedactRefusesUptoSaid : Prop := redactRefusesUptoRow.holds Tryd.pinned (OpenSpec.upto redactRefusesSpec)

/-- 'rootcauselaw53.RedactCloses', WHERE WHAT IT READS IS OF BULK AT MOST 1048576: true; the input reads as it did. -/
def redactClosesUptoRow : OpenClaim := { program := "ytjedhndhdkiidaadoor", sum := "c9e140024d2bf81dc9596a84abe76a200e5ef5188db4bc50471ccecea0be9414", func := "rootcause/rootcauselaw53.RedactCloses", spec := "redactCloses", unfollowed := true, recurses := true, named := ["rootcause/digest.constants"], apart := false, laid := [("rootcause/digest.constants", laid_rootcause_digest_constants)], narrowed := true }
def RedactClosesUptoSaid : Prop := redactClosesUptoRow.holds Tryd.pinned (OpenSpec.upto redactClosesSpec)

/-- 'rootcauselaw53.RedactCommits', WHERE WHAT IT READS IS OF BULK AT MOST 1048576: true; the input reads as it did. -/
def redactCommitsUptoRow : OpenClaim := { program := "ytjedhndhdkiidaadoor", sum := "c9e140024d2bf81dc9596a84abe76a200e5ef5188db4bc50471ccecea0be9414", func := "rootcause/rootcauselaw53.RedactCommits", spec := "redactCommits", unfollowed := true, recurses := true, named := ["rootcause/digest.constants"], apart := false, laid := [("rootcause/digest.constants", laid_rootcause_digest_constants)], narrowed := true }
def RedactCommitsUptoSaid : Prop := redactCommitsUptoRow.holds Tryd.pinned (OpenSpec.upto redactCommitsSpec)

/-- 'rootcauselaw53.RedactVerifies', WHERE WHAT IT READS IS OF BULK AT MOST 1048576: true; the input reads as it did. -/
def redactVerifiesUptoRow : OpenClaim := { program := "ytjedhndhdkiidaadoor", sum := "c9e140024d2bf81dc9596a84abe76a200e5ef5188db4bc50471ccecea0be9414", func := "rootcause/rootcauselaw53.RedactVerifies", spec := "redactVerifies", unfollowed := true, recurses := true, named := ["rootcause/digest.constants"], apart := false, laid := [("rootcause/digest.constants", laid_rootcause_digest_constants)], narrowed := true }
def RedactVerifiesUptoSaid : Prop := redactVerifiesUptoRow.holds Tryd.pinned (OpenSpec.upto redactVerifiesSpec)

/-- 'rootcauselaw53.RedactHides', WHERE WHAT IT READS IS OF BULK AT MOST 1048576: true; the input reads as it did. -/
def redactHidesUptoRow : OpenClaim := { program := "ytjedhndhdkiidaadoor", sum := "c9e140024d2bf81dc9596a84abe76a200e5ef5188db4bc50471ccecea0be9414", func := "rootcause/rootcauselaw53.RedactHides", spec := "redactHides", unfollowed := true, recurses := true, named := ["rootcause/digest.constants"], apart := false, laid := [("rootcause/digest.constants", laid_rootcause_digest_constants)], narrowed := true }
def RedactHidesUptoSaid : Prop := redactHidesUptoRow.holds Tryd.pinned (OpenSpec.upto redactHidesSpec)

/-- 'rootcauselaw53.RedactBytes', WHERE WHAT IT READS IS OF BULK AT MOST 1048576: true; the input reads as it did. -/
def redactBytesUptoRow : OpenClaim := { program := "ytjedhndhdkiidaadoor", sum := "c9e140024d2bf81dc9596a84abe76a200e5ef5188db4bc50471ccecea0be9414", func := "rootcause/rootcauselaw53.RedactBytes", spec := "redactBytes", unfollowed := true, recurses := true, named := ["rootcause/digest.constants"], apart := false, laid := [("rootcause/digest.constants", laid_rootcause_digest_constants)], narrowed := true }
def RedactBytesUptoSaid : Prop := redactBytesUptoRow.holds Tryd.pinned (OpenSpec.upto redactBytesSpec)

end Rows
end Go.Proofs.YtjedhndhdkiidaaDoor
