/-
  No cell of these rows narrows 'for every input' (looked for: loops, veiled, ifaces, maps, wideKeys, modest, calm, conditions, laid).
  DERIVED. THE GIVEN ROWS OF THIS SEAT. 6 by the template 'for every input the law returns true; each argument reads behind the call as it read before'; 0 by the template 'total and deterministic' (their statements: YtehmpbaiefbemaaTotals.lean).
  GIVEN WITH THE SEED: the statements are not yours to turn. If you find one false, say at which input.
  Laid BY PROGRAM, IN A SANDBOX (cutbox-rows.mjs): the forced cells as the released guide's own fill.sh prints them over the translation 2758e92beeb8de30… (all of the seat's roots in one cut). By AI agents, Wed Nov 11 2026. No macro, syntax, notation, axiom, sorry.
-/
import Derived.Test.YtehmpbaiefbemaaChecked
import GoSem.Claim
import GoSem.ClaimJoined
import GoSem.ClaimMapViews
import Derived.JoinedTies
import Derived.KernelRfl
namespace Go.Proofs.Ytehmpbaiefbemaa
/- THE CELL 'sum', in the pinned program and in every row, IS THE sha256 OF THE DUMP (.gsa) THAT YtehmpbaiefbemaaProg.lean LOADS. Nothing in Lean hashes anything: it is a label: what it is worth is what the hold of that sum in a sandbox is worth. -/
noncomputable def Try.pinned : Pinned := { name := "ytehmpbaiefbemaa", sum := "2758e92beeb8de300c97c57a837a4605e41a299cb7acc6ce82932b51a388fc78", checked := Try.checked }
namespace Rows
def none {H : Type} : Left H := { results := [], args := [] }

/-- 'rootcauselaw16.NetworkHolds': WHATEVER THE INPUT: true; the input reads as it did. -/
def networkHoldsSpec : ChangeSpec := { name := "networkHolds", fn := fun _ => fun
  | [d1, d2, d3] => { results := [.lit (.bool true)], args := [d1, d2, d3] }
  | _ => none }
def networkHoldsRow : OpenClaim := { program := "ytehmpbaiefbemaa", sum := "2758e92beeb8de300c97c57a837a4605e41a299cb7acc6ce82932b51a388fc78", func := "rootcause/rootcauselaw16.NetworkHolds", spec := "networkHolds", unfollowed := true, recurses := true, plainKeys := false, apart := false }
def NetworkHoldsSaid : Prop := networkHoldsRow.holds Try.pinned (OpenSpec.ofChange networkHoldsSpec)

/-- ITS FALSE NEIGHBOUR: 'it returns false'. Refute it at one input. -/
def networkHoldsWrong : ChangeSpec := { name := "networkHolds", fn := fun _ => fun
  | [d1, d2, d3] => { results := [.lit (.bool false)], args := [d1, d2, d3] }
  | _ => none }
def NetworkHoldsWrongFalsely : Prop := networkHoldsRow.holds Try.pinned (OpenSpec.ofChange networkHoldsWrong)

/-- 'rootcauselaw16.NetworkMakes': WHATEVER THE INPUT: true; the input reads as it did. -/
def networkMakesSpec : ChangeSpec := { name := "networkMakes", fn := fun _ => fun
  | [d] => { results := [.lit (.bool true)], args := [d] }
  | _ => none }
def networkMakesRow : OpenClaim := { program := "ytehmpbaiefbemaa", sum := "2758e92beeb8de300c97c57a837a4605e41a299cb7acc6ce82932b51a388fc78", func := "rootcause/rootcauselaw16.NetworkMakes", spec := "networkMakes", unfollowed := true, recurses := true, plainKeys := false, apart := false }
def NetworkMakesSaid : Prop := networkMakesRow.holds Try.pinned (OpenSpec.ofChange networkMakesSpec)

/-- ITS FALSE NEIGHBOUR: 'it returns false'. Refute it at one input. -/
def networkMakesWrong : ChangeSpec := { name := "networkMakes", fn := fun _ => fun
  | [d] => { results := [.lit (.bool false)], args := [d] }
  | _ => none }
def NetworkMakesWrongFalsely : Prop := networkMakesRow.holds Try.pinned (OpenSpec.ofChange networkMakesWrong)

/-- 'rootcauselaw16.NetworkPlays': WHATEVER THE INPUT: true; the input reads as it did. -/
def networkPlaysSpec : ChangeSpec := { name := "networkPlays", fn := fun _ => fun
  | [d1, d2] => { results := [.lit (.bool true)], args := [d1, d2] }
  | _ => none }
def networkPlaysRow : OpenClaim := { program := "ytehmpbaiefbemaa", sum := "2758e92beeb8de300c97c57a837a4605e41a299cb7acc6ce82932b51a388fc78", func := "rootcause/rootcauselaw16.NetworkPlays", spec := "networkPlays", unfollowed := true, recurses := true, plainKeys := false, apart := false }
def NetworkPlaysSaid : Prop := networkPlaysRow.holds Try.pinned (OpenSpec.ofChange networkPlaysSpec)

/-- ITS FALSE NEIGHBOUR: 'it returns false'. Refute it at one input. -/
def networkPlaysWrong : ChangeSpec := { name := "networkPlays", fn := fun _ => fun
  | [d1, d2] => { results := [.lit (.bool false)], args := [d1, d2] }
  | _ => none }
def NetworkPlaysWrongFalsely : Prop := networkPlaysRow.holds Try.pinned (OpenSpec.ofChange networkPlaysWrong)

/-- 'rootcauselaw16.NetworkConsumed': WHATEVER THE INPUT: true; the input reads as it did. -/
def networkConsumedSpec : ChangeSpec := { name := "networkConsumed", fn := fun _ => fun
  | [d1, d2] => { results := [.lit (.bool true)], args := [d1, d2] }
  | _ => none }
def networkConsumedRow : OpenClaim := { program := "ytehmpbaiefbemaa", sum := "2758e92beeb8de300c97c57a837a4605e41a299cb7acc6ce82932b51a388fc78", func := "rootcause/rootcauselaw16.NetworkConsumed", spec := "networkConsumed", unfollowed := true, recurses := true, plainKeys := false, apart := false }
def NetworkConsumedSaid : Prop := networkConsumedRow.holds Try.pinned (OpenSpec.ofChange networkConsumedSpec)

/-- ITS FALSE NEIGHBOUR: 'it returns false'. Refute it at one input. -/
def networkConsumedWrong : ChangeSpec := { name := "networkConsumed", fn := fun _ => fun
  | [d1, d2] => { results := [.lit (.bool false)], args := [d1, d2] }
  | _ => none }
def NetworkConsumedWrongFalsely : Prop := networkConsumedRow.holds Try.pinned (OpenSpec.ofChange networkConsumedWrong)

/-- 'rootcauselaw16.NetworkUnused': WHATEVER THE INPUT: true; the input reads as it did. -/
def networkUnusedSpec : ChangeSpec := { name := "networkUnused", fn := fun _ => fun
  | [d1, d2] => { results := [.lit (.bool true)], args := [d1, d2] }
  | _ => none }
def networkUnusedRow : OpenClaim := { program := "ytehmpbaiefbemaa", sum := "2758e92beeb8de300c97c57a837a4605e41a299cb7acc6ce82932b51a388fc78", func := "rootcause/rootcauselaw16.NetworkUnused", spec := "networkUnused", unfollowed := true, recurses := true, plainKeys := false, apart := false }
def NetworkUnusedSaid : Prop := networkUnusedRow.holds Try.pinned (OpenSpec.ofChange networkUnusedSpec)

/-- ITS FALSE NEIGHBOUR: 'it returns false'. Refute it at one input. -/
def networkUnusedWrong : ChangeSpec := { name := "networkUnused", fn := fun _ => fun
  | [d1, d2] => { results := [.lit (.bool false)], args := [d1, d2] }
  | _ => none }
def NetworkUnusedWrongFalsely : Prop := networkUnusedRow.holds Try.pinned (OpenSpec.ofChange networkUnusedWrong)

/-- 'rootcauselaw16.NetworkNil': WHATEVER THE INPUT: true; the input reads as it did. -/
def networkNilSpec : ChangeSpec := { name := "networkNil", fn := fun _ => fun
  | [d1, d2, d3] => { results := [.lit (.bool true)], args := [d1, d2, d3] }
  | _ => none }
def networkNilRow : OpenClaim := { program := "ytehmpbaiefbemaa", sum := "2758e92beeb8de300c97c57a837a4605e41a299cb7acc6ce82932b51a388fc78", func := "rootcause/rootcauselaw16.NetworkNil", spec := "networkNil", unfollowed := true, recurses := true, plainKeys := false, apart := false }
def NetworkNilSaid : Prop := networkNilRow.holds Try.pinned (OpenSpec.ofChange networkNilSpec)

/-- ITS FALSE NEIGHBOUR: 'it returns false'. Refute it at one input. -/
def networkNilWrong : ChangeSpec := { name := "networkNil", fn := fun _ => fun
  | [d1, d2, d3] => { results := [.lit (.bool false)], args := [d1, d2, d3] }
  | _ => none }
def NetworkNilWrongFalsely : Prop := networkNilRow.holds Try.pinned (OpenSpec.ofChange networkNilWrong)

/- THE SECOND FORM. 'bulk': how many values and letters a reading holds, each counted each time it is reached (what is shared counts as often as it is met; a slice's spare places count too). A statement '..UptoSaid' is the law's where the arguments, and the package variables that the reading takes, are together of bulk at most 1048576: NARROWER than '..Said'. Prove '..Said' where nothing that the law and all that it calls make is longer than what came in: it says more and counts as full. Else prove '..UptoSaid'. A law counts once. -/
mutual
def uptoBulk {H : Type} : DataW H → Nat
  | .lit (.string bytes) => bytes.length + 1
  | .lit _ => 1
  | .nil => 1
  | .ptr d => uptoBulk d + 1
  | .slice elems spare => uptoBulkAll elems + uptoBulkAll spare + 1
  | .agg parts => uptoBulkAll parts + 1
  | .iface _ d => uptoBulk d + 1
  | .map entries => uptoBulkEntries entries + 1
  | .held _ => 1
def uptoBulkAll {H : Type} : List (DataW H) → Nat
  | [] => 0
  | d :: r => uptoBulk d + uptoBulkAll r
def uptoBulkEntries {H : Type} : List (Lit × DataW H) → Nat
  | [] => 0
  | x :: r => uptoBulkEntry x + uptoBulkEntries r
def uptoBulkEntry {H : Type} : Lit × DataW H → Nat
  | (.string bytes, d) => bytes.length + uptoBulk d + 1
  | (_, d) => uptoBulk d + 1
 end
def uptoSmall : (H : Type) → List (DataW H) → Bool := fun _ ds => decide (uptoBulkAll ds ≤ 1048576)
def OpenSpec.upto (s : _root_.Go.ChangeSpec) : _root_.Go.OpenSpec := { _root_.Go.OpenSpec.ofChange s with cond := some uptoSmall }

/-- 'rootcauselaw16.NetworkHolds', WHERE WHAT IT READS IS OF BULK AT MOST 1048576: true; the input reads as it did. -/
def networkHoldsUptoRow : OpenClaim := { program := "ytehmpbaiefbemaa", sum := "2758e92beeb8de300c97c57a837a4605e41a299cb7acc6ce82932b51a388fc78", func := "rootcause/rootcauselaw16.NetworkHolds", spec := "networkHolds", unfollowed := true, recurses := true, plainKeys := false, apart := false, narrowed := true }
def NetworkHoldsUptoSaid : Prop := networkHoldsUptoRow.holds Try.pinned (OpenSpec.upto networkHoldsSpec)

/-- 'rootcauselaw16.NetworkMakes', WHERE WHAT IT READS IS OF BULK AT MOST 1048576: true; the input reads as it did. -/
def networkMakesUptoRow : OpenClaim := { program := "ytehmpbaiefbemaa", sum := "2758e92beeb8de300c97c57a837a4605e41a299cb7acc6ce82932b51a388fc78", func := "rootcause/rootcauselaw16.NetworkMakes", spec := "networkMakes", unfollowed := true, recurses := true, plainKeys := false, apart := false, narrowed := true }
def NetworkMakesUptoSaid : Prop := networkMakesUptoRow.holds Try.pinned (OpenSpec.upto networkMakesSpec)

/-- 'rootcauselaw16.NetworkPlays', WHERE WHAT IT READS IS OF BULK AT MOST 1048576: true; the input reads as it did. -/
def networkPlaysUptoRow : OpenClaim := { program := "ytehmpbaiefbemaa", sum := "2758e92beeb8de300c97c57a837a4605e41a299cb7acc6ce82932b51a388fc78", func := "rootcause/rootcauselaw16.NetworkPlays", spec := "networkPlays", unfollowed := true, recurses := true, plainKeys := false, apart := false, narrowed := true }
def NetworkPlaysUptoSaid : Prop := networkPlaysUptoRow.holds Try.pinned (OpenSpec.upto networkPlaysSpec)

/-- 'rootcauselaw16.NetworkConsumed', WHERE WHAT IT READS IS OF BULK AT MOST 1048576: true; the input reads as it did. -/
def networkConsumedUptoRow : OpenClaim := { program := "ytehmpbaiefbemaa", sum := "2758e92beeb8de300c97c57a837a4605e41a299cb7acc6ce82932b51a388fc78", func := "rootcause/rootcauselaw16.NetworkConsumed", spec := "networkConsumed", unfollowed := true, recurses := true, plainKeys := false, apart := false, narrowed := true }
def NetworkConsumedUptoSaid : Prop := networkConsumedUptoRow.holds Try.pinned (OpenSpec.upto networkConsumedSpec)

/-- 'rootcauselaw16.NetworkUnused', WHERE WHAT IT READS IS OF BULK AT MOST 1048576: true; the input reads as it did. -/
def networkUnusedUptoRow : OpenClaim := { program := "ytehmpbaiefbemaa", sum := "2758e92beeb8de300c97c57a837a4605e41a299cb7acc6ce82932b51a388fc78", func := "rootcause/rootcauselaw16.NetworkUnused", spec := "networkUnused", unfollowed := true, recurses := true, plainKeys := false, apart := false, narrowed := true }
def NetworkUnusedUptoSaid : Prop := networkUnusedUptoRow.holds Try.pinned (OpenSpec.upto networkUnusedSpec)

/-- 'rootcauselaw16.NetworkNil', WHERE WHAT IT READS IS OF BULK AT MOST 1048576: true; the input reads as it did. -/
def networkNilUptoRow : OpenClaim := { program := "ytehmpbaiefbemaa", sum := "2758e92beeb8de300c97c57a837a4605e41a299cb7acc6ce82932b51a388fc78", func := "rootcause/rootcauselaw16.NetworkNil", spec := "networkNil", unfollowed := true, recurses := true, plainKeys := false, apart := false, narrowed := true }
def NetworkNilUptoSaid : Prop := networkNilUptoRow.holds Try.pinned (OpenSpec.upto networkNilSpec)

end Rows
end Go.Proofs.Ytehmpbaiefbemaa
