/-
  No cell of these rows narrows 'for every input' (looked for: loops, veiled, ifaces, maps, wideKeys, modest, calm, conditions, laid).
  DERIVED. THE GIVEN ROWS OF THIS SEAT. 12 by the template 'for every input the law returns true; each argument reads behind the call as it read before'; 0 by the template 'total and deterministic' (their statements: YtagedjfjcnemoaaGreatTotals.lean).
  GIVEN WITH THE SEED: the statements are not yours to turn. If you find one false, say at which input.
  Laid BY PROGRAM, IN A SANDBOX (cutbox-rows.mjs): the forced cells as the released guide's own fill.sh prints them over the translation 3b4778767cac4a21… (all of the seat's roots in one cut). By AI agents, Wed Nov 11 2026. No macro, syntax, notation, axiom, sorry.
-/
import Derived.Test.YtagedjfjcnemoaaGreatChecked
import GoSem.Claim
import GoSem.ClaimJoined
import GoSem.ClaimMapViews
import Derived.JoinedTies
import Derived.KernelRfl
namespace Go.Proofs.YtagedjfjcnemoaaGreat
/- THE CELL 'sum', in the pinned program and in every row, IS THE sha256 OF THE DUMP (.gsa) THAT YtagedjfjcnemoaaGreatProg.lean LOADS. Nothing in Lean hashes anything: it is a label: what it is worth is what the hold of that sum in a sandbox is worth. -/
noncomputable def Tryz.pinned : Pinned := { name := "ytagedjfjcnemoaagreat", sum := "3b4778767cac4a21b5a5c0ee258aba70f6c763262d0092ac41618a4b5dc09eb4", checked := Tryz.checked }
namespace Rows
def none {H : Type} : Left H := { results := [], args := [] }

/-- 'dryweightlaw04.BalanceForesees': WHATEVER THE INPUT: true; the input reads as it did. -/
def balanceForeseesSpec : ChangeSpec := { name := "balanceForesees", fn := fun _ => fun
  | [d1, d2, d3] => { results := [.lit (.bool true)], args := [d1, d2, d3] }
  | _ => none }
def balanceForeseesRow : OpenClaim := { program := "ytagedjfjcnemoaagreat", sum := "3b4778767cac4a21b5a5c0ee258aba70f6c763262d0092ac41618a4b5dc09eb4", func := "dryweight/dryweightlaw04.BalanceForesees", spec := "balanceForesees", unfollowed := true, recurses := true, plainKeys := false, apart := false }
def BalanceForeseesSaid : Prop := balanceForeseesRow.holds Tryz.pinned (OpenSpec.ofChange balanceForeseesSpec)

/-- ITS FALSE NEIGHBOUR: 'it returns false'. Refute it at one input. -/
def balanceForeseesWrong : ChangeSpec := { name := "balanceForesees", fn := fun _ => fun
  | [d1, d2, d3] => { results := [.lit (.bool false)], args := [d1, d2, d3] }
  | _ => none }
def BalanceForeseesWrongFalsely : Prop := balanceForeseesRow.holds Tryz.pinned (OpenSpec.ofChange balanceForeseesWrong)

/-- 'dryweightlaw04.BalanceSuspects': WHATEVER THE INPUT: true; the input reads as it did. -/
def balanceSuspectsSpec : ChangeSpec := { name := "balanceSuspects", fn := fun _ => fun
  | [d1, d2] => { results := [.lit (.bool true)], args := [d1, d2] }
  | _ => none }
def balanceSuspectsRow : OpenClaim := { program := "ytagedjfjcnemoaagreat", sum := "3b4778767cac4a21b5a5c0ee258aba70f6c763262d0092ac41618a4b5dc09eb4", func := "dryweight/dryweightlaw04.BalanceSuspects", spec := "balanceSuspects", unfollowed := true, recurses := true, plainKeys := false, apart := false }
def BalanceSuspectsSaid : Prop := balanceSuspectsRow.holds Tryz.pinned (OpenSpec.ofChange balanceSuspectsSpec)

/-- ITS FALSE NEIGHBOUR: 'it returns false'. Refute it at one input. -/
def balanceSuspectsWrong : ChangeSpec := { name := "balanceSuspects", fn := fun _ => fun
  | [d1, d2] => { results := [.lit (.bool false)], args := [d1, d2] }
  | _ => none }
def BalanceSuspectsWrongFalsely : Prop := balanceSuspectsRow.holds Tryz.pinned (OpenSpec.ofChange balanceSuspectsWrong)

/-- 'dryweightlaw04.BalanceNarrows': WHATEVER THE INPUT: true; the input reads as it did. -/
def balanceNarrowsSpec : ChangeSpec := { name := "balanceNarrows", fn := fun _ => fun
  | [d1, d2, d3, d4, d5] => { results := [.lit (.bool true)], args := [d1, d2, d3, d4, d5] }
  | _ => none }
def balanceNarrowsRow : OpenClaim := { program := "ytagedjfjcnemoaagreat", sum := "3b4778767cac4a21b5a5c0ee258aba70f6c763262d0092ac41618a4b5dc09eb4", func := "dryweight/dryweightlaw04.BalanceNarrows", spec := "balanceNarrows", unfollowed := true, recurses := true, plainKeys := false, apart := false }
def BalanceNarrowsSaid : Prop := balanceNarrowsRow.holds Tryz.pinned (OpenSpec.ofChange balanceNarrowsSpec)

/-- ITS FALSE NEIGHBOUR: 'it returns false'. Refute it at one input. -/
def balanceNarrowsWrong : ChangeSpec := { name := "balanceNarrows", fn := fun _ => fun
  | [d1, d2, d3, d4, d5] => { results := [.lit (.bool false)], args := [d1, d2, d3, d4, d5] }
  | _ => none }
def BalanceNarrowsWrongFalsely : Prop := balanceNarrowsRow.holds Tryz.pinned (OpenSpec.ofChange balanceNarrowsWrong)

/-- 'dryweightlaw04.BalanceChecks': WHATEVER THE INPUT: true; the input reads as it did. -/
def balanceChecksSpec : ChangeSpec := { name := "balanceChecks", fn := fun _ => fun
  | [d1, d2, d3, d4, d5] => { results := [.lit (.bool true)], args := [d1, d2, d3, d4, d5] }
  | _ => none }
def balanceChecksRow : OpenClaim := { program := "ytagedjfjcnemoaagreat", sum := "3b4778767cac4a21b5a5c0ee258aba70f6c763262d0092ac41618a4b5dc09eb4", func := "dryweight/dryweightlaw04.BalanceChecks", spec := "balanceChecks", unfollowed := true, recurses := true, plainKeys := false, apart := false }
def BalanceChecksSaid : Prop := balanceChecksRow.holds Tryz.pinned (OpenSpec.ofChange balanceChecksSpec)

/-- ITS FALSE NEIGHBOUR: 'it returns false'. Refute it at one input. -/
def balanceChecksWrong : ChangeSpec := { name := "balanceChecks", fn := fun _ => fun
  | [d1, d2, d3, d4, d5] => { results := [.lit (.bool false)], args := [d1, d2, d3, d4, d5] }
  | _ => none }
def BalanceChecksWrongFalsely : Prop := balanceChecksRow.holds Tryz.pinned (OpenSpec.ofChange balanceChecksWrong)

/-- 'dryweightlaw04.BalanceRanges': WHATEVER THE INPUT: true; the input reads as it did. -/
def balanceRangesSpec : ChangeSpec := { name := "balanceRanges", fn := fun _ => fun
  | [d1, d2, d3, d4, d5, d6] => { results := [.lit (.bool true)], args := [d1, d2, d3, d4, d5, d6] }
  | _ => none }
def balanceRangesRow : OpenClaim := { program := "ytagedjfjcnemoaagreat", sum := "3b4778767cac4a21b5a5c0ee258aba70f6c763262d0092ac41618a4b5dc09eb4", func := "dryweight/dryweightlaw04.BalanceRanges", spec := "balanceRanges", unfollowed := true, recurses := true, plainKeys := false, apart := false }
def BalanceRangesSaid : Prop := balanceRangesRow.holds Tryz.pinned (OpenSpec.ofChange balanceRangesSpec)

/-- ITS FALSE NEIGHBOUR: 'it returns false'. Refute it at one input. -/
def balanceRangesWrong : ChangeSpec := { name := "balanceRanges", fn := fun _ => fun
  | [d1, d2, d3, d4, d5, d6] => { results := [.lit (.bool false)], args := [d1, d2, d3, d4, d5, d6] }
  | _ => none }
def BalanceRangesWrongFalsely : Prop := balanceRangesRow.holds Tryz.pinned (OpenSpec.ofChange balanceRangesWrong)

/-- 'dryweightlaw04.BalanceCompiles': WHATEVER THE INPUT: true; the input reads as it did. -/
def balanceCompilesSpec : ChangeSpec := { name := "balanceCompiles", fn := fun _ => fun
  | [d1, d2, d3] => { results := [.lit (.bool true)], args := [d1, d2, d3] }
  | _ => none }
def balanceCompilesRow : OpenClaim := { program := "ytagedjfjcnemoaagreat", sum := "3b4778767cac4a21b5a5c0ee258aba70f6c763262d0092ac41618a4b5dc09eb4", func := "dryweight/dryweightlaw04.BalanceCompiles", spec := "balanceCompiles", unfollowed := true, recurses := true, plainKeys := false, apart := false }
def BalanceCompilesSaid : Prop := balanceCompilesRow.holds Tryz.pinned (OpenSpec.ofChange balanceCompilesSpec)

/-- ITS FALSE NEIGHBOUR: 'it returns false'. Refute it at one input. -/
def balanceCompilesWrong : ChangeSpec := { name := "balanceCompiles", fn := fun _ => fun
  | [d1, d2, d3] => { results := [.lit (.bool false)], args := [d1, d2, d3] }
  | _ => none }
def BalanceCompilesWrongFalsely : Prop := balanceCompilesRow.holds Tryz.pinned (OpenSpec.ofChange balanceCompilesWrong)

/-- 'dryweightlaw04.BalanceOrder': WHATEVER THE INPUT: true; the input reads as it did. -/
def balanceOrderSpec : ChangeSpec := { name := "balanceOrder", fn := fun _ => fun
  | [d1, d2, d3] => { results := [.lit (.bool true)], args := [d1, d2, d3] }
  | _ => none }
def balanceOrderRow : OpenClaim := { program := "ytagedjfjcnemoaagreat", sum := "3b4778767cac4a21b5a5c0ee258aba70f6c763262d0092ac41618a4b5dc09eb4", func := "dryweight/dryweightlaw04.BalanceOrder", spec := "balanceOrder", unfollowed := true, recurses := true, plainKeys := false, apart := false }
def BalanceOrderSaid : Prop := balanceOrderRow.holds Tryz.pinned (OpenSpec.ofChange balanceOrderSpec)

/-- ITS FALSE NEIGHBOUR: 'it returns false'. Refute it at one input. -/
def balanceOrderWrong : ChangeSpec := { name := "balanceOrder", fn := fun _ => fun
  | [d1, d2, d3] => { results := [.lit (.bool false)], args := [d1, d2, d3] }
  | _ => none }
def BalanceOrderWrongFalsely : Prop := balanceOrderRow.holds Tryz.pinned (OpenSpec.ofChange balanceOrderWrong)

/-- 'dryweightlaw04.BalanceCounts': WHATEVER THE INPUT: true; the input reads as it did. -/
def balanceCountsSpec : ChangeSpec := { name := "balanceCounts", fn := fun _ => fun
  | [d] => { results := [.lit (.bool true)], args := [d] }
  | _ => none }
def balanceCountsRow : OpenClaim := { program := "ytagedjfjcnemoaagreat", sum := "3b4778767cac4a21b5a5c0ee258aba70f6c763262d0092ac41618a4b5dc09eb4", func := "dryweight/dryweightlaw04.BalanceCounts", spec := "balanceCounts", unfollowed := true, recurses := true, plainKeys := false, apart := false }
def BalanceCountsSaid : Prop := balanceCountsRow.holds Tryz.pinned (OpenSpec.ofChange balanceCountsSpec)

/-- ITS FALSE NEIGHBOUR: 'it returns false'. Refute it at one input. -/
def balanceCountsWrong : ChangeSpec := { name := "balanceCounts", fn := fun _ => fun
  | [d] => { results := [.lit (.bool false)], args := [d] }
  | _ => none }
def BalanceCountsWrongFalsely : Prop := balanceCountsRow.holds Tryz.pinned (OpenSpec.ofChange balanceCountsWrong)

/-- 'dryweightlaw04.BalanceTakes': WHATEVER THE INPUT: true; the input reads as it did. -/
def balanceTakesSpec : ChangeSpec := { name := "balanceTakes", fn := fun _ => fun
  | [d1, d2, d3] => { results := [.lit (.bool true)], args := [d1, d2, d3] }
  | _ => none }
def balanceTakesRow : OpenClaim := { program := "ytagedjfjcnemoaagreat", sum := "3b4778767cac4a21b5a5c0ee258aba70f6c763262d0092ac41618a4b5dc09eb4", func := "dryweight/dryweightlaw04.BalanceTakes", spec := "balanceTakes", unfollowed := true, recurses := true, plainKeys := false, apart := false }
def BalanceTakesSaid : Prop := balanceTakesRow.holds Tryz.pinned (OpenSpec.ofChange balanceTakesSpec)

/-- ITS FALSE NEIGHBOUR: 'it returns false'. Refute it at one input. -/
def balanceTakesWrong : ChangeSpec := { name := "balanceTakes", fn := fun _ => fun
  | [d1, d2, d3] => { results := [.lit (.bool false)], args := [d1, d2, d3] }
  | _ => none }
def BalanceTakesWrongFalsely : Prop := balanceTakesRow.holds Tryz.pinned (OpenSpec.ofChange balanceTakesWrong)

/-- 'dryweightlaw04.BalanceIsTrue': WHATEVER THE INPUT: true; the input reads as it did. -/
def balanceIsTrueSpec : ChangeSpec := { name := "balanceIsTrue", fn := fun _ => fun
  | [d1, d2, d3, d4] => { results := [.lit (.bool true)], args := [d1, d2, d3, d4] }
  | _ => none }
def balanceIsTrueRow : OpenClaim := { program := "ytagedjfjcnemoaagreat", sum := "3b4778767cac4a21b5a5c0ee258aba70f6c763262d0092ac41618a4b5dc09eb4", func := "dryweight/dryweightlaw04.BalanceIsTrue", spec := "balanceIsTrue", unfollowed := true, recurses := true, plainKeys := false, apart := false }
def BalanceIsTrueSaid : Prop := balanceIsTrueRow.holds Tryz.pinned (OpenSpec.ofChange balanceIsTrueSpec)

/-- ITS FALSE NEIGHBOUR: 'it returns false'. Refute it at one input. -/
def balanceIsTrueWrong : ChangeSpec := { name := "balanceIsTrue", fn := fun _ => fun
  | [d1, d2, d3, d4] => { results := [.lit (.bool false)], args := [d1, d2, d3, d4] }
  | _ => none }
def BalanceIsTrueWrongFalsely : Prop := balanceIsTrueRow.holds Tryz.pinned (OpenSpec.ofChange balanceIsTrueWrong)

/-- 'dryweightlaw04.BalanceIsSharp': WHATEVER THE INPUT: true; the input reads as it did. -/
def balanceIsSharpSpec : ChangeSpec := { name := "balanceIsSharp", fn := fun _ => fun
  | [d1, d2] => { results := [.lit (.bool true)], args := [d1, d2] }
  | _ => none }
def balanceIsSharpRow : OpenClaim := { program := "ytagedjfjcnemoaagreat", sum := "3b4778767cac4a21b5a5c0ee258aba70f6c763262d0092ac41618a4b5dc09eb4", func := "dryweight/dryweightlaw04.BalanceIsSharp", spec := "balanceIsSharp", unfollowed := true, recurses := true, plainKeys := false, apart := false }
def BalanceIsSharpSaid : Prop := balanceIsSharpRow.holds Tryz.pinned (OpenSpec.ofChange balanceIsSharpSpec)

/-- ITS FALSE NEIGHBOUR: 'it returns false'. Refute it at one input. -/
def balanceIsSharpWrong : ChangeSpec := { name := "balanceIsSharp", fn := fun _ => fun
  | [d1, d2] => { results := [.lit (.bool false)], args := [d1, d2] }
  | _ => none }
def BalanceIsSharpWrongFalsely : Prop := balanceIsSharpRow.holds Tryz.pinned (OpenSpec.ofChange balanceIsSharpWrong)

/-- 'dryweightlaw04.BalanceFits': WHATEVER THE INPUT: true; the input reads as it did. -/
def balanceFitsSpec : ChangeSpec := { name := "balanceFits", fn := fun _ => fun
  | [d1, d2] => { results := [.lit (.bool true)], args := [d1, d2] }
  | _ => none }
def balanceFitsRow : OpenClaim := { program := "ytagedjfjcnemoaagreat", sum := "3b4778767cac4a21b5a5c0ee258aba70f6c763262d0092ac41618a4b5dc09eb4", func := "dryweight/dryweightlaw04.BalanceFits", spec := "balanceFits", unfollowed := true, recurses := true, plainKeys := false, apart := false }
def BalanceFitsSaid : Prop := balanceFitsRow.holds Tryz.pinned (OpenSpec.ofChange balanceFitsSpec)

/-- ITS FALSE NEIGHBOUR: 'it returns false'. Refute it at one input. -/
def balanceFitsWrong : ChangeSpec := { name := "balanceFits", fn := fun _ => fun
  | [d1, d2] => { results := [.lit (.bool false)], args := [d1, d2] }
  | _ => none }
def BalanceFitsWrongFalsely : Prop := balanceFitsRow.holds Tryz.pinned (OpenSpec.ofChange balanceFitsWrong)

/- THE SECOND FORM. 'bulk': how many values and letters a reading holds, each counted each time it is reached (what is shared counts as often as it is met; a slice's spare places count too). A statement '..UptoSaid' is the law's where the arguments, and the package variables that the reading takes, are together of bulk at most 1048576: NARROWER than '..Said'. Prove '..Said' where nothing that the law and all that it calls make is longer than what came in: it says more and counts as full. Else prove '..UptoSaid'. A law counts once. -/
mutual
def uptoBulk {H : Type} : DataW H → Nat
  | .lit (.string bytes) => bytes.length + 1
  | .lit _ => 1
  | .nil => 1
  | .ptr d => uptoBulk d + 1
  | .slice elems spare => uptoBulkAll elems + uptoBulkAll spare + 1
  | .agg parts => uptoBulkAll parts + 1
  | .iface _ d => uptoBulk d + 1
  | .map entries => uptoBulkEntries entries + 1
  | .held _ => 1
def uptoBulkAll {H : Type} : List (DataW H) → Nat
  | [] => 0
  | d :: r => uptoBulk d + uptoBulkAll r
def uptoBulkEntries {H : Type} : List (Lit × DataW H) → Nat
  | [] => 0
  | x :: r => uptoBulkEntry x + uptoBulkEntries r
def uptoBulkEntry {H : Type} : Lit × DataW H → Nat
  | (.string bytes, d) => bytes.length + uptoBulk d + 1
  | (_, d) => uptoBulk d + 1
 end
def uptoSmall : (H : Type) → List (DataW H) → Bool := fun _ ds => decide (uptoBulkAll ds ≤ 1048576)
def OpenSpec.upto (s : _root_.Go.ChangeSpec) : _root_.Go.OpenSpec := { _root_.Go.OpenSpec.ofChange s with cond := some uptoSmall }

/-- 'dryweightlaw04.BalanceForesees', WHERE WHAT IT READS IS OF BULK AT MOST 1048576: true; the input reads as it did. -/
def balanceForeseesUptoRow : OpenClaim := { program := "ytagedjfjcnemoaagreat", sum := "3b4778767cac4a21b5a5c0ee258aba70f6c763262d0092ac41618a4b5dc09eb4", func := "dryweight/dryweightlaw04.BalanceForesees", spec := "balanceForesees", unfollowed := true, recurses := true, plainKeys := false, apart := false, narrowed := true }
def BalanceForeseesUptoSaid : Prop := balanceForeseesUptoRow.holds Tryz.pinned (OpenSpec.upto balanceForeseesSpec)

/-- 'dryweightlaw04.BalanceSuspects', WHERE WHAT IT READS IS OF BULK AT MOST 1048576: true; the input reads as it did. -/
def balanceSuspectsUptoRow : OpenClaim := { program := "ytagedjfjcnemoaagreat", sum := "3b4778767cac4a21b5a5c0ee258aba70f6c763262d0092ac41618a4b5dc09eb4", func := "dryweight/dryweightlaw04.BalanceSuspects", spec := "balanceSuspects", unfollowed := true, recurses := true, plainKeys := false, apart := false, narrowed := true }
def BalanceSuspectsUptoSaid : Prop := balanceSuspectsUptoRow.holds Tryz.pinned (OpenSpec.upto balanceSuspectsSpec)

/-- 'dryweightlaw04.BalanceNarrows', WHERE WHAT IT READS IS OF BULK AT MOST 1048576: true; the input reads as it did. -/
def balanceNarrowsUptoRow : OpenClaim := { program := "ytagedjfjcnemoaagreat", sum := "3b4778767cac4a21b5a5c0ee258aba70f6c763262d0092ac41618a4b5dc09eb4", func := "dryweight/dryweightlaw04.BalanceNarrows", spec := "balanceNarrows", unfollowed := true, recurses := true, plainKeys := false, apart := false, narrowed := true }
def BalanceNarrowsUptoSaid : Prop := balanceNarrowsUptoRow.holds Tryz.pinned (OpenSpec.upto balanceNarrowsSpec)

/-- 'dryweightlaw04.BalanceChecks', WHERE WHAT IT READS IS OF BULK AT MOST 1048576: true; the input reads as it did. -/
def balanceChecksUptoRow : OpenClaim := { program := "ytagedjfjcnemoaagreat", sum := "3b4778767cac4a21b5a5c0ee258aba70f6c763262d0092ac41618a4b5dc09eb4", func := "dryweight/dryweightlaw04.BalanceChecks", spec := "balanceChecks", unfollowed := true, recurses := true, plainKeys := false, apart := false, narrowed := true }
def BalanceChecksUptoSaid : Prop := balanceChecksUptoRow.holds Tryz.pinned (OpenSpec.upto balanceChecksSpec)

/-- 'dryweightlaw04.BalanceRanges', WHERE WHAT IT READS IS OF BULK AT MOST 1048576: true; the input reads as it did. -/
def balanceRangesUptoRow : OpenClaim := { program := "ytagedjfjcnemoaagreat", sum := "3b4778767cac4a21b5a5c0ee258aba70f6c763262d0092ac41618a4b5dc09eb4", func := "dryweight/dryweightlaw04.BalanceRanges", spec := "balanceRanges", unfollowed := true, recurses := true, plainKeys := false, apart := false, narrowed := true }
def BalanceRangesUptoSaid : Prop := balanceRangesUptoRow.holds Tryz.pinned (OpenSpec.upto balanceRangesSpec)

/-- 'dryweightlaw04.BalanceCompiles', WHERE WHAT IT READS IS OF BULK AT MOST 1048576: true; the input reads as it did. -/
def balanceCompilesUptoRow : OpenClaim := { program := "ytagedjfjcnemoaagreat", sum := "3b4778767cac4a21b5a5c0ee258aba70f6c763262d0092ac41618a4b5dc09eb4", func := "dryweight/dryweightlaw04.BalanceCompiles", spec := "balanceCompiles", unfollowed := true, recurses := true, plainKeys := false, apart := false, narrowed := true }
def BalanceCompilesUptoSaid : Prop := balanceCompilesUptoRow.holds Tryz.pinned (OpenSpec.upto balanceCompilesSpec)

/-- 'dryweightlaw04.BalanceOrder', WHERE WHAT IT READS IS OF BULK AT MOST 1048576: true; the input reads as it did. -/
def balanceOrderUptoRow : OpenClaim := { program := "ytagedjfjcnemoaagreat", sum := "3b4778767cac4a21b5a5c0ee258aba70f6c763262d0092ac41618a4b5dc09eb4", func := "dryweight/dryweightlaw04.BalanceOrder", spec := "balanceOrder", unfollowed := true, recurses := true, plainKeys := false, apart := false, narrowed := true }
def BalanceOrderUptoSaid : Prop := balanceOrderUptoRow.holds Tryz.pinned (OpenSpec.upto balanceOrderSpec)

/-- 'dryweightlaw04.BalanceCounts', WHERE WHAT IT READS IS OF BULK AT MOST 1048576: true; the input reads as it did. -/
def balanceCountsUptoRow : OpenClaim := { program := "ytagedjfjcnemoaagreat", sum := "3b4778767cac4a21b5a5c0ee258aba70f6c763262d0092ac41618a4b5dc09eb4", func := "dryweight/dryweightlaw04.BalanceCounts", spec := "balanceCounts", unfollowed := true, recurses := true, plainKeys := false, apart := false, narrowed := true }
def BalanceCountsUptoSaid : Prop := balanceCountsUptoRow.holds Tryz.pinned (OpenSpec.upto balanceCountsSpec)

/-- 'dryweightlaw04.BalanceTakes', WHERE WHAT IT READS IS OF BULK AT MOST 1048576: true; the input reads as it did. -/
def balanceTakesUptoRow : OpenClaim := { program := "ytagedjfjcnemoaagreat", sum := "3b4778767cac4a21b5a5c0ee258aba70f6c763262d0092ac41618a4b5dc09eb4", func := "dryweight/dryweightlaw04.BalanceTakes", spec := "balanceTakes", unfollowed := true, recurses := true, plainKeys := false, apart := false, narrowed := true }
def BalanceTakesUptoSaid : Prop := balanceTakesUptoRow.holds Tryz.pinned (OpenSpec.upto balanceTakesSpec)

/-- 'dryweightlaw04.BalanceIsTrue', WHERE WHAT IT READS IS OF BULK AT MOST 1048576: true; the input reads as it did. -/
def balanceIsTrueUptoRow : OpenClaim := { program := "ytagedjfjcnemoaagreat", sum := "3b4778767cac4a21b5a5c0ee258aba70f6c763262d0092ac41618a4b5dc09eb4", func := "dryweight/dryweightlaw04.BalanceIsTrue", spec := "balanceIsTrue", unfollowed := true, recurses := true, plainKeys := false, apart := false, narrowed := true }
def BalanceIsTrueUptoSaid : Prop := balanceIsTrueUptoRow.holds Tryz.pinned (OpenSpec.upto balanceIsTrueSpec)

/-- 'dryweightlaw04.BalanceIsSharp', WHERE WHAT IT READS IS OF BULK AT MOST 1048576: true; the input reads as it did. -/
def balanceIsSharpUptoRow : OpenClaim := { program := "ytagedjfjcnemoaagreat", sum := "3b4778767cac4a21b5a5c0ee258aba70f6c763262d0092ac41618a4b5dc09eb4", func := "dryweight/dryweightlaw04.BalanceIsSharp", spec := "balanceIsSharp", unfollowed := true, recurses := true, plainKeys := false, apart := false, narrowed := true }
def BalanceIsSharpUptoSaid : Prop := balanceIsSharpUptoRow.holds Tryz.pinned (OpenSpec.upto balanceIsSharpSpec)

/-- 'dryweightlaw04.BalanceFits', WHERE WHAT IT READS IS OF BULK AT MOST 1048576: true; the input reads as it did. -/
def balanceFitsUptoRow : OpenClaim := { program := "ytagedjfjcnemoaagreat", sum := "3b4778767cac4a21b5a5c0ee258aba70f6c763262d0092ac41618a4b5dc09eb4", func := "dryweight/dryweightlaw04.BalanceFits", spec := "balanceFits", unfollowed := true, recurses := true, plainKeys := false, apart := false, narrowed := true }
def BalanceFitsUptoSaid : Prop := balanceFitsUptoRow.holds Tryz.pinned (OpenSpec.upto balanceFitsSpec)

end Rows
end Go.Proofs.YtagedjfjcnemoaaGreat
