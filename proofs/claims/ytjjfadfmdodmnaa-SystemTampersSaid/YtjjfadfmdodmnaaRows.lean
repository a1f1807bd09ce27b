/-
  No cell of these rows narrows 'for every input' (looked for: loops, veiled, ifaces, maps, wideKeys, modest, calm, conditions, laid).
  DERIVED. THE GIVEN ROWS OF THIS SEAT. 16 by the template 'for every input the law returns true; each argument reads behind the call as it read before'; 0 by the template 'total and deterministic' (their statements: YtjjfadfmdodmnaaTotals.lean).
  GIVEN WITH THE SEED: the statements are not yours to turn. If you find one false, say at which input.
  Laid BY PROGRAM, IN A SANDBOX (cutbox-rows.mjs): the forced cells as the released guide's own fill.sh prints them over the translation 47223a36ce3b0e50… (all of the seat's roots in one cut). By AI agents, Wed Nov 11 2026. No macro, syntax, notation, axiom, sorry.
-/
import Derived.Test.YtjjfadfmdodmnaaChecked
import GoSem.Claim
import GoSem.ClaimJoined
import GoSem.ClaimMapViews
import Derived.JoinedTies
import Derived.KernelRfl
namespace Go.Proofs.Ytjjfadfmdodmnaa
/- THE CELL 'sum', in the pinned program and in every row, IS THE sha256 OF THE DUMP (.gsa) THAT YtjjfadfmdodmnaaProg.lean LOADS. Nothing in Lean hashes anything: it is a label: what it is worth is what the hold of that sum in a sandbox is worth. -/
noncomputable def Try.pinned : Pinned := { name := "ytjjfadfmdodmnaa", sum := "47223a36ce3b0e5063078fda936bbcc00ec19bcebc0152a5dee78fefb9867c82", checked := Try.checked }
namespace Rows
def none {H : Type} : Left H := { results := [], args := [] }

/-- 'dryweightlaw03.SystemRanges': WHATEVER THE INPUT: true; the input reads as it did. -/
def systemRangesSpec : ChangeSpec := { name := "systemRanges", fn := fun _ => fun
  | [d1, d2, d3, d4] => { results := [.lit (.bool true)], args := [d1, d2, d3, d4] }
  | _ => none }
def systemRangesRow : OpenClaim := { program := "ytjjfadfmdodmnaa", sum := "47223a36ce3b0e5063078fda936bbcc00ec19bcebc0152a5dee78fefb9867c82", func := "dryweight/dryweightlaw03.SystemRanges", spec := "systemRanges", unfollowed := true, recurses := true, plainKeys := false, apart := false }
def SystemRangesSaid : Prop := systemRangesRow.holds Try.pinned (OpenSpec.ofChange systemRangesSpec)

/-- ITS FALSE NEIGHBOUR: 'it returns false'. Refute it at one input. -/
def systemRangesWrong : ChangeSpec := { name := "systemRanges", fn := fun _ => fun
  | [d1, d2, d3, d4] => { results := [.lit (.bool false)], args := [d1, d2, d3, d4] }
  | _ => none }
def SystemRangesWrongFalsely : Prop := systemRangesRow.holds Try.pinned (OpenSpec.ofChange systemRangesWrong)

/-- 'dryweightlaw03.SystemBest': WHATEVER THE INPUT: true; the input reads as it did. -/
def systemBestSpec : ChangeSpec := { name := "systemBest", fn := fun _ => fun
  | [d1, d2] => { results := [.lit (.bool true)], args := [d1, d2] }
  | _ => none }
def systemBestRow : OpenClaim := { program := "ytjjfadfmdodmnaa", sum := "47223a36ce3b0e5063078fda936bbcc00ec19bcebc0152a5dee78fefb9867c82", func := "dryweight/dryweightlaw03.SystemBest", spec := "systemBest", unfollowed := true, recurses := true, plainKeys := false, apart := false }
def SystemBestSaid : Prop := systemBestRow.holds Try.pinned (OpenSpec.ofChange systemBestSpec)

/-- ITS FALSE NEIGHBOUR: 'it returns false'. Refute it at one input. -/
def systemBestWrong : ChangeSpec := { name := "systemBest", fn := fun _ => fun
  | [d1, d2] => { results := [.lit (.bool false)], args := [d1, d2] }
  | _ => none }
def SystemBestWrongFalsely : Prop := systemBestRow.holds Try.pinned (OpenSpec.ofChange systemBestWrong)

/-- 'dryweightlaw03.SystemSums': WHATEVER THE INPUT: true; the input reads as it did. -/
def systemSumsSpec : ChangeSpec := { name := "systemSums", fn := fun _ => fun
  | [d1, d2, d3, d4, d5] => { results := [.lit (.bool true)], args := [d1, d2, d3, d4, d5] }
  | _ => none }
def systemSumsRow : OpenClaim := { program := "ytjjfadfmdodmnaa", sum := "47223a36ce3b0e5063078fda936bbcc00ec19bcebc0152a5dee78fefb9867c82", func := "dryweight/dryweightlaw03.SystemSums", spec := "systemSums", unfollowed := true, recurses := true, plainKeys := false, apart := false }
def SystemSumsSaid : Prop := systemSumsRow.holds Try.pinned (OpenSpec.ofChange systemSumsSpec)

/-- ITS FALSE NEIGHBOUR: 'it returns false'. Refute it at one input. -/
def systemSumsWrong : ChangeSpec := { name := "systemSums", fn := fun _ => fun
  | [d1, d2, d3, d4, d5] => { results := [.lit (.bool false)], args := [d1, d2, d3, d4, d5] }
  | _ => none }
def SystemSumsWrongFalsely : Prop := systemSumsRow.holds Try.pinned (OpenSpec.ofChange systemSumsWrong)

/-- 'dryweightlaw03.SystemConflicts': WHATEVER THE INPUT: true; the input reads as it did. -/
def systemConflictsSpec : ChangeSpec := { name := "systemConflicts", fn := fun _ => fun
  | [d] => { results := [.lit (.bool true)], args := [d] }
  | _ => none }
def systemConflictsRow : OpenClaim := { program := "ytjjfadfmdodmnaa", sum := "47223a36ce3b0e5063078fda936bbcc00ec19bcebc0152a5dee78fefb9867c82", func := "dryweight/dryweightlaw03.SystemConflicts", spec := "systemConflicts", unfollowed := true, recurses := true, plainKeys := false, apart := false }
def SystemConflictsSaid : Prop := systemConflictsRow.holds Try.pinned (OpenSpec.ofChange systemConflictsSpec)

/-- ITS FALSE NEIGHBOUR: 'it returns false'. Refute it at one input. -/
def systemConflictsWrong : ChangeSpec := { name := "systemConflicts", fn := fun _ => fun
  | [d] => { results := [.lit (.bool false)], args := [d] }
  | _ => none }
def SystemConflictsWrongFalsely : Prop := systemConflictsRow.holds Try.pinned (OpenSpec.ofChange systemConflictsWrong)

/-- 'dryweightlaw03.SystemChecks': WHATEVER THE INPUT: true; the input reads as it did. -/
def systemChecksSpec : ChangeSpec := { name := "systemChecks", fn := fun _ => fun
  | [d] => { results := [.lit (.bool true)], args := [d] }
  | _ => none }
def systemChecksRow : OpenClaim := { program := "ytjjfadfmdodmnaa", sum := "47223a36ce3b0e5063078fda936bbcc00ec19bcebc0152a5dee78fefb9867c82", func := "dryweight/dryweightlaw03.SystemChecks", spec := "systemChecks", unfollowed := true, recurses := true, plainKeys := false, apart := false }
def SystemChecksSaid : Prop := systemChecksRow.holds Try.pinned (OpenSpec.ofChange systemChecksSpec)

/-- ITS FALSE NEIGHBOUR: 'it returns false'. Refute it at one input. -/
def systemChecksWrong : ChangeSpec := { name := "systemChecks", fn := fun _ => fun
  | [d] => { results := [.lit (.bool false)], args := [d] }
  | _ => none }
def SystemChecksWrongFalsely : Prop := systemChecksRow.holds Try.pinned (OpenSpec.ofChange systemChecksWrong)

/-- 'dryweightlaw03.SystemProves': WHATEVER THE INPUT: true; the input reads as it did. -/
def systemProvesSpec : ChangeSpec := { name := "systemProves", fn := fun _ => fun
  | [d1, d2, d3] => { results := [.lit (.bool true)], args := [d1, d2, d3] }
  | _ => none }
def systemProvesRow : OpenClaim := { program := "ytjjfadfmdodmnaa", sum := "47223a36ce3b0e5063078fda936bbcc00ec19bcebc0152a5dee78fefb9867c82", func := "dryweight/dryweightlaw03.SystemProves", spec := "systemProves", unfollowed := true, recurses := true, plainKeys := false, apart := false }
def SystemProvesSaid : Prop := systemProvesRow.holds Try.pinned (OpenSpec.ofChange systemProvesSpec)

/-- ITS FALSE NEIGHBOUR: 'it returns false'. Refute it at one input. -/
def systemProvesWrong : ChangeSpec := { name := "systemProves", fn := fun _ => fun
  | [d1, d2, d3] => { results := [.lit (.bool false)], args := [d1, d2, d3] }
  | _ => none }
def SystemProvesWrongFalsely : Prop := systemProvesRow.holds Try.pinned (OpenSpec.ofChange systemProvesWrong)

/-- 'dryweightlaw03.SystemNarrows': WHATEVER THE INPUT: true; the input reads as it did. -/
def systemNarrowsSpec : ChangeSpec := { name := "systemNarrows", fn := fun _ => fun
  | [d1, d2, d3, d4, d5, d6] => { results := [.lit (.bool true)], args := [d1, d2, d3, d4, d5, d6] }
  | _ => none }
def systemNarrowsRow : OpenClaim := { program := "ytjjfadfmdodmnaa", sum := "47223a36ce3b0e5063078fda936bbcc00ec19bcebc0152a5dee78fefb9867c82", func := "dryweight/dryweightlaw03.SystemNarrows", spec := "systemNarrows", unfollowed := true, recurses := true, plainKeys := false, apart := false }
def SystemNarrowsSaid : Prop := systemNarrowsRow.holds Try.pinned (OpenSpec.ofChange systemNarrowsSpec)

/-- ITS FALSE NEIGHBOUR: 'it returns false'. Refute it at one input. -/
def systemNarrowsWrong : ChangeSpec := { name := "systemNarrows", fn := fun _ => fun
  | [d1, d2, d3, d4, d5, d6] => { results := [.lit (.bool false)], args := [d1, d2, d3, d4, d5, d6] }
  | _ => none }
def SystemNarrowsWrongFalsely : Prop := systemNarrowsRow.holds Try.pinned (OpenSpec.ofChange systemNarrowsWrong)

/-- 'dryweightlaw03.SystemChains': WHATEVER THE INPUT: true; the input reads as it did. -/
def systemChainsSpec : ChangeSpec := { name := "systemChains", fn := fun _ => fun
  | [d1, d2, d3, d4] => { results := [.lit (.bool true)], args := [d1, d2, d3, d4] }
  | _ => none }
def systemChainsRow : OpenClaim := { program := "ytjjfadfmdodmnaa", sum := "47223a36ce3b0e5063078fda936bbcc00ec19bcebc0152a5dee78fefb9867c82", func := "dryweight/dryweightlaw03.SystemChains", spec := "systemChains", unfollowed := true, recurses := true, plainKeys := false, apart := false }
def SystemChainsSaid : Prop := systemChainsRow.holds Try.pinned (OpenSpec.ofChange systemChainsSpec)

/-- ITS FALSE NEIGHBOUR: 'it returns false'. Refute it at one input. -/
def systemChainsWrong : ChangeSpec := { name := "systemChains", fn := fun _ => fun
  | [d1, d2, d3, d4] => { results := [.lit (.bool false)], args := [d1, d2, d3, d4] }
  | _ => none }
def SystemChainsWrongFalsely : Prop := systemChainsRow.holds Try.pinned (OpenSpec.ofChange systemChainsWrong)

/-- 'dryweightlaw03.SystemMerges': WHATEVER THE INPUT: true; the input reads as it did. -/
def systemMergesSpec : ChangeSpec := { name := "systemMerges", fn := fun _ => fun
  | [d1, d2] => { results := [.lit (.bool true)], args := [d1, d2] }
  | _ => none }
def systemMergesRow : OpenClaim := { program := "ytjjfadfmdodmnaa", sum := "47223a36ce3b0e5063078fda936bbcc00ec19bcebc0152a5dee78fefb9867c82", func := "dryweight/dryweightlaw03.SystemMerges", spec := "systemMerges", unfollowed := true, recurses := true, plainKeys := false, apart := false }
def SystemMergesSaid : Prop := systemMergesRow.holds Try.pinned (OpenSpec.ofChange systemMergesSpec)

/-- ITS FALSE NEIGHBOUR: 'it returns false'. Refute it at one input. -/
def systemMergesWrong : ChangeSpec := { name := "systemMerges", fn := fun _ => fun
  | [d1, d2] => { results := [.lit (.bool false)], args := [d1, d2] }
  | _ => none }
def SystemMergesWrongFalsely : Prop := systemMergesRow.holds Try.pinned (OpenSpec.ofChange systemMergesWrong)

/-- 'dryweightlaw03.SystemTop': WHATEVER THE INPUT: true; the input reads as it did. -/
def systemTopSpec : ChangeSpec := { name := "systemTop", fn := fun _ => fun
  | [d1, d2, d3] => { results := [.lit (.bool true)], args := [d1, d2, d3] }
  | _ => none }
def systemTopRow : OpenClaim := { program := "ytjjfadfmdodmnaa", sum := "47223a36ce3b0e5063078fda936bbcc00ec19bcebc0152a5dee78fefb9867c82", func := "dryweight/dryweightlaw03.SystemTop", spec := "systemTop", unfollowed := true, recurses := true, plainKeys := false, apart := false }
def SystemTopSaid : Prop := systemTopRow.holds Try.pinned (OpenSpec.ofChange systemTopSpec)

/-- ITS FALSE NEIGHBOUR: 'it returns false'. Refute it at one input. -/
def systemTopWrong : ChangeSpec := { name := "systemTop", fn := fun _ => fun
  | [d1, d2, d3] => { results := [.lit (.bool false)], args := [d1, d2, d3] }
  | _ => none }
def SystemTopWrongFalsely : Prop := systemTopRow.holds Try.pinned (OpenSpec.ofChange systemTopWrong)

/-- 'dryweightlaw03.SystemCounts': WHATEVER THE INPUT: true; the input reads as it did. -/
def systemCountsSpec : ChangeSpec := { name := "systemCounts", fn := fun _ => fun
  | [d1, d2, d3, d4, d5] => { results := [.lit (.bool true)], args := [d1, d2, d3, d4, d5] }
  | _ => none }
def systemCountsRow : OpenClaim := { program := "ytjjfadfmdodmnaa", sum := "47223a36ce3b0e5063078fda936bbcc00ec19bcebc0152a5dee78fefb9867c82", func := "dryweight/dryweightlaw03.SystemCounts", spec := "systemCounts", unfollowed := true, recurses := true, plainKeys := false, apart := false }
def SystemCountsSaid : Prop := systemCountsRow.holds Try.pinned (OpenSpec.ofChange systemCountsSpec)

/-- ITS FALSE NEIGHBOUR: 'it returns false'. Refute it at one input. -/
def systemCountsWrong : ChangeSpec := { name := "systemCounts", fn := fun _ => fun
  | [d1, d2, d3, d4, d5] => { results := [.lit (.bool false)], args := [d1, d2, d3, d4, d5] }
  | _ => none }
def SystemCountsWrongFalsely : Prop := systemCountsRow.holds Try.pinned (OpenSpec.ofChange systemCountsWrong)

/-- 'dryweightlaw03.SystemNets': WHATEVER THE INPUT: true; the input reads as it did. -/
def systemNetsSpec : ChangeSpec := { name := "systemNets", fn := fun _ => fun
  | [d1, d2] => { results := [.lit (.bool true)], args := [d1, d2] }
  | _ => none }
def systemNetsRow : OpenClaim := { program := "ytjjfadfmdodmnaa", sum := "47223a36ce3b0e5063078fda936bbcc00ec19bcebc0152a5dee78fefb9867c82", func := "dryweight/dryweightlaw03.SystemNets", spec := "systemNets", unfollowed := true, recurses := true, plainKeys := false, apart := false }
def SystemNetsSaid : Prop := systemNetsRow.holds Try.pinned (OpenSpec.ofChange systemNetsSpec)

/-- ITS FALSE NEIGHBOUR: 'it returns false'. Refute it at one input. -/
def systemNetsWrong : ChangeSpec := { name := "systemNets", fn := fun _ => fun
  | [d1, d2] => { results := [.lit (.bool false)], args := [d1, d2] }
  | _ => none }
def SystemNetsWrongFalsely : Prop := systemNetsRow.holds Try.pinned (OpenSpec.ofChange systemNetsWrong)

/-- 'dryweightlaw03.SystemOrder': WHATEVER THE INPUT: true; the input reads as it did. -/
def systemOrderSpec : ChangeSpec := { name := "systemOrder", fn := fun _ => fun
  | [d1, d2, d3, d4, d5] => { results := [.lit (.bool true)], args := [d1, d2, d3, d4, d5] }
  | _ => none }
def systemOrderRow : OpenClaim := { program := "ytjjfadfmdodmnaa", sum := "47223a36ce3b0e5063078fda936bbcc00ec19bcebc0152a5dee78fefb9867c82", func := "dryweight/dryweightlaw03.SystemOrder", spec := "systemOrder", unfollowed := true, recurses := true, plainKeys := false, apart := false }
def SystemOrderSaid : Prop := systemOrderRow.holds Try.pinned (OpenSpec.ofChange systemOrderSpec)

/-- ITS FALSE NEIGHBOUR: 'it returns false'. Refute it at one input. -/
def systemOrderWrong : ChangeSpec := { name := "systemOrder", fn := fun _ => fun
  | [d1, d2, d3, d4, d5] => { results := [.lit (.bool false)], args := [d1, d2, d3, d4, d5] }
  | _ => none }
def SystemOrderWrongFalsely : Prop := systemOrderRow.holds Try.pinned (OpenSpec.ofChange systemOrderWrong)

/-- 'dryweightlaw03.SystemOwned': WHATEVER THE INPUT: true; the input reads as it did. -/
def systemOwnedSpec : ChangeSpec := { name := "systemOwned", fn := fun _ => fun
  | [d] => { results := [.lit (.bool true)], args := [d] }
  | _ => none }
def systemOwnedRow : OpenClaim := { program := "ytjjfadfmdodmnaa", sum := "47223a36ce3b0e5063078fda936bbcc00ec19bcebc0152a5dee78fefb9867c82", func := "dryweight/dryweightlaw03.SystemOwned", spec := "systemOwned", unfollowed := true, recurses := true, plainKeys := false, apart := false }
def SystemOwnedSaid : Prop := systemOwnedRow.holds Try.pinned (OpenSpec.ofChange systemOwnedSpec)

/-- ITS FALSE NEIGHBOUR: 'it returns false'. Refute it at one input. -/
def systemOwnedWrong : ChangeSpec := { name := "systemOwned", fn := fun _ => fun
  | [d] => { results := [.lit (.bool false)], args := [d] }
  | _ => none }
def SystemOwnedWrongFalsely : Prop := systemOwnedRow.holds Try.pinned (OpenSpec.ofChange systemOwnedWrong)

/-- 'dryweightlaw03.SystemSharp': WHATEVER THE INPUT: true; the input reads as it did. -/
def systemSharpSpec : ChangeSpec := { name := "systemSharp", fn := fun _ => fun
  | [d1, d2, d3, d4, d5, d6] => { results := [.lit (.bool true)], args := [d1, d2, d3, d4, d5, d6] }
  | _ => none }
def systemSharpRow : OpenClaim := { program := "ytjjfadfmdodmnaa", sum := "47223a36ce3b0e5063078fda936bbcc00ec19bcebc0152a5dee78fefb9867c82", func := "dryweight/dryweightlaw03.SystemSharp", spec := "systemSharp", unfollowed := true, recurses := true, plainKeys := false, apart := false }
def SystemSharpSaid : Prop := systemSharpRow.holds Try.pinned (OpenSpec.ofChange systemSharpSpec)

/-- ITS FALSE NEIGHBOUR: 'it returns false'. Refute it at one input. -/
def systemSharpWrong : ChangeSpec := { name := "systemSharp", fn := fun _ => fun
  | [d1, d2, d3, d4, d5, d6] => { results := [.lit (.bool false)], args := [d1, d2, d3, d4, d5, d6] }
  | _ => none }
def SystemSharpWrongFalsely : Prop := systemSharpRow.holds Try.pinned (OpenSpec.ofChange systemSharpWrong)

/-- 'dryweightlaw03.SystemTampers': WHATEVER THE INPUT: true; the input reads as it did. -/
def systemTampersSpec : ChangeSpec := { name := "systemTampers", fn := fun _ => fun
  | [d1, d2, d3, d4] => { results := [.lit (.bool true)], args := [d1, d2, d3, d4] }
  | _ => none }
def systemTampersRow : OpenClaim := { program := "ytjjfadfmdodmnaa", sum := "47223a36ce3b0e5063078fda936bbcc00ec19bcebc0152a5dee78fefb9867c82", func := "dryweight/dryweightlaw03.SystemTampers", spec := "systemTampers", unfollowed := true, recurses := true, plainKeys := false, apart := false }
def SystemTampersSaid : Prop := systemTampersRow.holds Try.pinned (OpenSpec.ofChange systemTampersSpec)

/-- ITS FALSE NEIGHBOUR: 'it returns false'. Refute it at one input. -/
def systemTampersWrong : ChangeSpec := { name := "systemTampers", fn := fun _ => fun
  | [d1, d2, d3, d4] => { results := [.lit (.bool false)], args := [d1, d2, d3, d4] }
  | _ => none }
def SystemTampersWrongFalsely : Prop := systemTampersRow.holds Try.pinned (OpenSpec.ofChange systemTampersWrong)

/- THE SECOND FORM. 'bulk': how many values and letters a reading holds, each counted each time it is reached (what is shared counts as often as it is met; a slice's spare places count too). A statement '..UptoSaid' is the law's where the arguments, and the package variables that the reading takes, are together of bulk at most 1048576: NARROWER than '..Said'. Prove '..Said' where nothing that the law and all that it calls make is longer than what came in: it says more and counts as full. Else prove '..UptoSaid'. A law counts once. -/
mutual
def uptoBulk {H : Type} : DataW H → Nat
  | .lit (.string bytes) => bytes.length + 1
  | .lit _ => 1
  | .nil => 1
  | .ptr d => uptoBulk d + 1
  | .slice elems spare => uptoBulkAll elems + uptoBulkAll spare + 1
  | .agg parts => uptoBulkAll parts + 1
  | .iface _ d => uptoBulk d + 1
  | .map entries => uptoBulkEntries entries + 1
  | .held _ => 1
def uptoBulkAll {H : Type} : List (DataW H) → Nat
  | [] => 0
  | d :: r => uptoBulk d + uptoBulkAll r
def uptoBulkEntries {H : Type} : List (Lit × DataW H) → Nat
  | [] => 0
  | x :: r => uptoBulkEntry x + uptoBulkEntries r
def uptoBulkEntry {H : Type} : Lit × DataW H → Nat
  | (.string bytes, d) => bytes.length + uptoBulk d + 1
  | (_, d) => uptoBulk d + 1
 end
def uptoSmall : (H : Type) → List (DataW H) → Bool := fun _ ds => decide (uptoBulkAll ds ≤ 1048576)
def OpenSpec.upto (s : _root_.Go.ChangeSpec) : _root_.Go.OpenSpec := { _root_.Go.OpenSpec.ofChange s with cond := some uptoSmall }

/-- 'dryweightlaw03.SystemRanges', WHERE WHAT IT READS IS OF BULK AT MOST 1048576: true; the input reads as it did. -/
def systemRangesUptoRow : OpenClaim := { program := "ytjjfadfmdodmnaa", sum := "47223a36ce3b0e5063078fda936bbcc00ec19bcebc0152a5dee78fefb9867c82", func := "dryweight/dryweightlaw03.SystemRanges", spec := "systemRanges", unfollowed := true, recurses := true, plainKeys := false, apart := false, narrowed := true }
def SystemRangesUptoSaid : Prop := systemRangesUptoRow.holds Try.pinned (OpenSpec.upto systemRangesSpec)

/-- 'dryweightlaw03.SystemBest', WHERE WHAT IT READS IS OF BULK AT MOST 1048576: true; the input reads as it did. -/
def systemBestUptoRow : OpenClaim := { program := "ytjjfadfmdodmnaa", sum := "47223a36ce3b0e5063078fda936bbcc00ec19bcebc0152a5dee78fefb9867c82", func := "dryweight/dryweightlaw03.SystemBest", spec := "systemBest", unfollowed := true, recurses := true, plainKeys := false, apart := false, narrowed := true }
def SystemBestUptoSaid : Prop := systemBestUptoRow.holds Try.pinned (OpenSpec.upto systemBestSpec)

/-- 'dryweightlaw03.SystemSums', WHERE WHAT IT READS IS OF BULK AT MOST 1048576: true; the input reads as it did. -/
def systemSumsUptoRow : OpenClaim := { program := "ytjjfadfmdodmnaa", sum := "47223a36ce3b0e5063078fda936bbcc00ec19bcebc0152a5dee78fefb9867c82", func := "dryweight/dryweightlaw03.SystemSums", spec := "systemSums", unfollowed := true, recurses := true, plainKeys := false, apart := false, narrowed := true }
def SystemSumsUptoSaid : Prop := systemSumsUptoRow.holds Try.pinned (OpenSpec.upto systemSumsSpec)

/-- 'dryweightlaw03.SystemConflicts', WHERE WHAT IT READS IS OF BULK AT MOST 1048576: true; the input reads as it did. -/
def systemConflictsUptoRow : OpenClaim := { program := "ytjjfadfmdodmnaa", sum := "47223a36ce3b0e5063078fda936bbcc00ec19bcebc0152a5dee78fefb9867c82", func := "dryweight/dryweightlaw03.SystemConflicts", spec := "systemConflicts", unfollowed := true, recurses := true, plainKeys := false, apart := false, narrowed := true }
def SystemConflictsUptoSaid : Prop := systemConflictsUptoRow.holds Try.pinned (OpenSpec.upto systemConflictsSpec)

/-- 'dryweightlaw03.SystemChecks', WHERE WHAT IT READS IS OF BULK AT MOST 1048576: true; the input reads as it did. -/
def systemChecksUptoRow : OpenClaim := { program := "ytjjfadfmdodmnaa", sum := "47223a36ce3b0e5063078fda936bbcc00ec19bcebc0152a5dee78fefb9867c82", func := "dryweight/dryweightlaw03.SystemChecks", spec := "systemChecks", unfollowed := true, recurses := true, plainKeys := false, apart := false, narrowed := true }
def SystemChecksUptoSaid : Prop := systemChecksUptoRow.holds Try.pinned (OpenSpec.upto systemChecksSpec)

/-- 'dryweightlaw03.SystemProves', WHERE WHAT IT READS IS OF BULK AT MOST 1048576: true; the input reads as it did. -/
def systemProvesUptoRow : OpenClaim := { program := "ytjjfadfmdodmnaa", sum := "47223a36ce3b0e5063078fda936bbcc00ec19bcebc0152a5dee78fefb9867c82", func := "dryweight/dryweightlaw03.SystemProves", spec := "systemProves", unfollowed := true, recurses := true, plainKeys := false, apart := false, narrowed := true }
def SystemProvesUptoSaid : Prop := systemProvesUptoRow.holds Try.pinned (OpenSpec.upto systemProvesSpec)

/-- 'dryweightlaw03.SystemNarrows', WHERE WHAT IT READS IS OF BULK AT MOST 1048576: true; the input reads as it did. -/
def systemNarrowsUptoRow : OpenClaim := { program := "ytjjfadfmdodmnaa", sum := "47223a36ce3b0e5063078fda936bbcc00ec19bcebc0152a5dee78fefb9867c82", func := "dryweight/dryweightlaw03.SystemNarrows", spec := "systemNarrows", unfollowed := true, recurses := true, plainKeys := false, apart := false, narrowed := true }
def SystemNarrowsUptoSaid : Prop := systemNarrowsUptoRow.holds Try.pinned (OpenSpec.upto systemNarrowsSpec)

/-- 'dryweightlaw03.SystemChains', WHERE WHAT IT READS IS OF BULK AT MOST 1048576: true; the input reads as it did. -/
def systemChainsUptoRow : OpenClaim := { program := "ytjjfadfmdodmnaa", sum := "47223a36ce3b0e5063078fda936bbcc00ec19bcebc0152a5dee78fefb9867c82", func := "dryweight/dryweightlaw03.SystemChains", spec := "systemChains", unfollowed := true, recurses := true, plainKeys := false, apart := false, narrowed := true }
def SystemChainsUptoSaid : Prop := systemChainsUptoRow.holds Try.pinned (OpenSpec.upto systemChainsSpec)

/-- 'dryweightlaw03.SystemMerges', WHERE WHAT IT READS IS OF BULK AT MOST 1048576: true; the input reads as it did. -/
def systemMergesUptoRow : OpenClaim := { program := "ytjjfadfmdodmnaa", sum := "47223a36ce3b0e5063078fda936bbcc00ec19bcebc0152a5dee78fefb9867c82", func := "dryweight/dryweightlaw03.SystemMerges", spec := "systemMerges", unfollowed := true, recurses := true, plainKeys := false, apart := false, narrowed := true }
def SystemMergesUptoSaid : Prop := systemMergesUptoRow.holds Try.pinned (OpenSpec.upto systemMergesSpec)

/-- 'dryweightlaw03.SystemTop', WHERE WHAT IT READS IS OF BULK AT MOST 1048576: true; the input reads as it did. -/
def systemTopUptoRow : OpenClaim := { program := "ytjjfadfmdodmnaa", sum := "47223a36ce3b0e5063078fda936bbcc00ec19bcebc0152a5dee78fefb9867c82", func := "dryweight/dryweightlaw03.SystemTop", spec := "systemTop", unfollowed := true, recurses := true, plainKeys := false, apart := false, narrowed := true }
def SystemTopUptoSaid : Prop := systemTopUptoRow.holds Try.pinned (OpenSpec.upto systemTopSpec)

/-- 'dryweightlaw03.SystemCounts', WHERE WHAT IT READS IS OF BULK AT MOST 1048576: true; the input reads as it did. -/
def systemCountsUptoRow : OpenClaim := { program := "ytjjfadfmdodmnaa", sum := "47223a36ce3b0e5063078fda936bbcc00ec19bcebc0152a5dee78fefb9867c82", func := "dryweight/dryweightlaw03.SystemCounts", spec := "systemCounts", unfollowed := true, recurses := true, plainKeys := false, apart := false, narrowed := true }
def SystemCountsUptoSaid : Prop := systemCountsUptoRow.holds Try.pinned (OpenSpec.upto systemCountsSpec)

/-- 'dryweightlaw03.SystemNets', WHERE WHAT IT READS IS OF BULK AT MOST 1048576: true; the input reads as it did. -/
def systemNetsUptoRow : OpenClaim := { program := "ytjjfadfmdodmnaa", sum := "47223a36ce3b0e5063078fda936bbcc00ec19bcebc0152a5dee78fefb9867c82", func := "dryweight/dryweightlaw03.SystemNets", spec := "systemNets", unfollowed := true, recurses := true, plainKeys := false, apart := false, narrowed := true }
def SystemNetsUptoSaid : Prop := systemNetsUptoRow.holds Try.pinned (OpenSpec.upto systemNetsSpec)

/-- 'dryweightlaw03.SystemOrder', WHERE WHAT IT READS IS OF BULK AT MOST 1048576: true; the input reads as it did. -/
def systemOrderUptoRow : OpenClaim := { program := "ytjjfadfmdodmnaa", sum := "47223a36ce3b0e5063078fda936bbcc00ec19bcebc0152a5dee78fefb9867c82", func := "dryweight/dryweightlaw03.SystemOrder", spec := "systemOrder", unfollowed := true, recurses := true, plainKeys := false, apart := false, narrowed := true }
def SystemOrderUptoSaid : Prop := systemOrderUptoRow.holds Try.pinned (OpenSpec.upto systemOrderSpec)

/-- 'dryweightlaw03.SystemOwned', WHERE WHAT IT READS IS OF BULK AT MOST 1048576: true; the input reads as it did. -/
def systemOwnedUptoRow : OpenClaim := { program := "ytjjfadfmdodmnaa", sum := "47223a36ce3b0e5063078fda936bbcc00ec19bcebc0152a5dee78fefb9867c82", func := "dryweight/dryweightlaw03.SystemOwned", spec := "systemOwned", unfollowed := true, recurses := true, plainKeys := false, apart := false, narrowed := true }
def SystemOwnedUptoSaid : Prop := systemOwnedUptoRow.holds Try.pinned (OpenSpec.upto systemOwnedSpec)

/-- 'dryweightlaw03.SystemSharp', WHERE WHAT IT READS IS OF BULK AT MOST 1048576: true; the input reads as it did. -/
def systemSharpUptoRow : OpenClaim := { program := "ytjjfadfmdodmnaa", sum := "47223a36ce3b0e5063078fda936bbcc00ec19bcebc0152a5dee78fefb9867c82", func := "dryweight/dryweightlaw03.SystemSharp", spec := "systemSharp", unfollowed := true, recurses := true, plainKeys := false, apart := false, narrowed := true }
def SystemSharpUptoSaid : Prop := systemSharpUptoRow.holds Try.pinned (OpenSpec.upto systemSharpSpec)

/-- 'dryweightlaw03.SystemTampers', WHERE WHAT IT READS IS OF BULK AT MOST 1048576: true; the input reads as it did. -/
def systemTampersUptoRow : OpenClaim := { program := "ytjjfadfmdodmnaa", sum := "47223a36ce3b0e5063078fda936bbcc00ec19bcebc0152a5dee78fefb9867c82", func := "dryweight/dryweightlaw03.SystemTampers", spec := "systemTampers", unfollowed := true, recurses := true, plainKeys := false, apart := false, narrowed := true }
def SystemTampersUptoSaid : Prop := systemTampersUptoRow.holds Try.pinned (OpenSpec.upto systemTampersSpec)

end Rows
end Go.Proofs.Ytjjfadfmdodmnaa
