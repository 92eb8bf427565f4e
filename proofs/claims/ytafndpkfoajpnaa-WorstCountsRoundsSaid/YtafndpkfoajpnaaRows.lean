/-
  No cell of these rows narrows 'for every input' (looked for: loops, veiled, ifaces, maps, wideKeys, modest, calm, conditions, laid).
  DERIVED. THE GIVEN ROWS OF THIS SEAT. 8 by the template 'for every input the law returns true; each argument reads behind the call as it read before'; 0 by the template 'total and deterministic' (their statements: YtafndpkfoajpnaaTotals.lean).
  GIVEN WITH THE SEED: the statements are not yours to turn. If you find one false, say at which input.
  Laid BY PROGRAM, IN A SANDBOX (cutbox-rows.mjs): the forced cells as the released guide's own fill.sh prints them over the translation 29941a1cf7dc0f4a… (all of the seat's roots in one cut). By AI agents, Wed Nov 11 2026. No macro, syntax, notation, axiom, sorry.
-/
import Derived.Test.YtafndpkfoajpnaaChecked
import GoSem.Claim
import GoSem.ClaimJoined
import GoSem.ClaimMapViews
import Derived.JoinedTies
import Derived.KernelRfl
namespace Go.Proofs.Ytafndpkfoajpnaa
/- THE CELL 'sum', in the pinned program and in every row, IS THE sha256 OF THE DUMP (.gsa) THAT YtafndpkfoajpnaaProg.lean LOADS. Nothing in Lean hashes anything: it is a label: what it is worth is what the hold of that sum in a sandbox is worth. -/
noncomputable def Try.pinned : Pinned := { name := "ytafndpkfoajpnaa", sum := "29941a1cf7dc0f4a6a71143baa27a1f582a8df4484c5e3696b59ba043b17d10a", checked := Try.checked }
namespace Rows
def none {H : Type} : Left H := { results := [], args := [] }

/-- 'selfstablaw20.WorstCountsRounds': WHATEVER THE INPUT: true; the input reads as it did. -/
def worstCountsRoundsSpec : ChangeSpec := { name := "worstCountsRounds", fn := fun _ => fun
  | [d1, d2] => { results := [.lit (.bool true)], args := [d1, d2] }
  | _ => none }
def worstCountsRoundsRow : OpenClaim := { program := "ytafndpkfoajpnaa", sum := "29941a1cf7dc0f4a6a71143baa27a1f582a8df4484c5e3696b59ba043b17d10a", func := "selfstab/selfstablaw20.WorstCountsRounds", spec := "worstCountsRounds", unfollowed := true, recurses := true, plainKeys := false, apart := false }
def WorstCountsRoundsSaid : Prop := worstCountsRoundsRow.holds Try.pinned (OpenSpec.ofChange worstCountsRoundsSpec)

/-- ITS FALSE NEIGHBOUR: 'it returns false'. Refute it at one input. -/
def worstCountsRoundsWrong : ChangeSpec := { name := "worstCountsRounds", fn := fun _ => fun
  | [d1, d2] => { results := [.lit (.bool false)], args := [d1, d2] }
  | _ => none }
def WorstCountsRoundsWrongFalsely : Prop := worstCountsRoundsRow.holds Try.pinned (OpenSpec.ofChange worstCountsRoundsWrong)

/-- 'selfstablaw20.WorstSchedules': WHATEVER THE INPUT: true; the input reads as it did. -/
def worstSchedulesSpec : ChangeSpec := { name := "worstSchedules", fn := fun _ => fun
  | [d1, d2, d3] => { results := [.lit (.bool true)], args := [d1, d2, d3] }
  | _ => none }
def worstSchedulesRow : OpenClaim := { program := "ytafndpkfoajpnaa", sum := "29941a1cf7dc0f4a6a71143baa27a1f582a8df4484c5e3696b59ba043b17d10a", func := "selfstab/selfstablaw20.WorstSchedules", spec := "worstSchedules", unfollowed := true, recurses := true, plainKeys := false, apart := false }
def WorstSchedulesSaid : Prop := worstSchedulesRow.holds Try.pinned (OpenSpec.ofChange worstSchedulesSpec)

/-- ITS FALSE NEIGHBOUR: 'it returns false'. Refute it at one input. -/
def worstSchedulesWrong : ChangeSpec := { name := "worstSchedules", fn := fun _ => fun
  | [d1, d2, d3] => { results := [.lit (.bool false)], args := [d1, d2, d3] }
  | _ => none }
def WorstSchedulesWrongFalsely : Prop := worstSchedulesRow.holds Try.pinned (OpenSpec.ofChange worstSchedulesWrong)

/-- 'selfstablaw20.WorstMeasures': WHATEVER THE INPUT: true; the input reads as it did. -/
def worstMeasuresSpec : ChangeSpec := { name := "worstMeasures", fn := fun _ => fun
  | [d1, d2] => { results := [.lit (.bool true)], args := [d1, d2] }
  | _ => none }
def worstMeasuresRow : OpenClaim := { program := "ytafndpkfoajpnaa", sum := "29941a1cf7dc0f4a6a71143baa27a1f582a8df4484c5e3696b59ba043b17d10a", func := "selfstab/selfstablaw20.WorstMeasures", spec := "worstMeasures", unfollowed := true, recurses := true, plainKeys := false, apart := false }
def WorstMeasuresSaid : Prop := worstMeasuresRow.holds Try.pinned (OpenSpec.ofChange worstMeasuresSpec)

/-- ITS FALSE NEIGHBOUR: 'it returns false'. Refute it at one input. -/
def worstMeasuresWrong : ChangeSpec := { name := "worstMeasures", fn := fun _ => fun
  | [d1, d2] => { results := [.lit (.bool false)], args := [d1, d2] }
  | _ => none }
def WorstMeasuresWrongFalsely : Prop := worstMeasuresRow.holds Try.pinned (OpenSpec.ofChange worstMeasuresWrong)

/-- 'selfstablaw20.WorstIsRecursive': WHATEVER THE INPUT: true; the input reads as it did. -/
def worstIsRecursiveSpec : ChangeSpec := { name := "worstIsRecursive", fn := fun _ => fun
  | [d1, d2] => { results := [.lit (.bool true)], args := [d1, d2] }
  | _ => none }
def worstIsRecursiveRow : OpenClaim := { program := "ytafndpkfoajpnaa", sum := "29941a1cf7dc0f4a6a71143baa27a1f582a8df4484c5e3696b59ba043b17d10a", func := "selfstab/selfstablaw20.WorstIsRecursive", spec := "worstIsRecursive", unfollowed := true, recurses := true, plainKeys := false, apart := false }
def WorstIsRecursiveSaid : Prop := worstIsRecursiveRow.holds Try.pinned (OpenSpec.ofChange worstIsRecursiveSpec)

/-- ITS FALSE NEIGHBOUR: 'it returns false'. Refute it at one input. -/
def worstIsRecursiveWrong : ChangeSpec := { name := "worstIsRecursive", fn := fun _ => fun
  | [d1, d2] => { results := [.lit (.bool false)], args := [d1, d2] }
  | _ => none }
def WorstIsRecursiveWrongFalsely : Prop := worstIsRecursiveRow.holds Try.pinned (OpenSpec.ofChange worstIsRecursiveWrong)

/-- 'selfstablaw20.WorstNumbersAreOrdered': WHATEVER THE INPUT: true; the input reads as it did. -/
def worstNumbersAreOrderedSpec : ChangeSpec := { name := "worstNumbersAreOrdered", fn := fun _ => fun
  | [d1, d2] => { results := [.lit (.bool true)], args := [d1, d2] }
  | _ => none }
def worstNumbersAreOrderedRow : OpenClaim := { program := "ytafndpkfoajpnaa", sum := "29941a1cf7dc0f4a6a71143baa27a1f582a8df4484c5e3696b59ba043b17d10a", func := "selfstab/selfstablaw20.WorstNumbersAreOrdered", spec := "worstNumbersAreOrdered", unfollowed := true, recurses := true, plainKeys := false, apart := false }
def WorstNumbersAreOrderedSaid : Prop := worstNumbersAreOrderedRow.holds Try.pinned (OpenSpec.ofChange worstNumbersAreOrderedSpec)

/-- ITS FALSE NEIGHBOUR: 'it returns false'. Refute it at one input. -/
def worstNumbersAreOrderedWrong : ChangeSpec := { name := "worstNumbersAreOrdered", fn := fun _ => fun
  | [d1, d2] => { results := [.lit (.bool false)], args := [d1, d2] }
  | _ => none }
def WorstNumbersAreOrderedWrongFalsely : Prop := worstNumbersAreOrderedRow.holds Try.pinned (OpenSpec.ofChange worstNumbersAreOrderedWrong)

/-- 'selfstablaw20.WorstIsAttained': WHATEVER THE INPUT: true; the input reads as it did. -/
def worstIsAttainedSpec : ChangeSpec := { name := "worstIsAttained", fn := fun _ => fun
  | [d1, d2, d3] => { results := [.lit (.bool true)], args := [d1, d2, d3] }
  | _ => none }
def worstIsAttainedRow : OpenClaim := { program := "ytafndpkfoajpnaa", sum := "29941a1cf7dc0f4a6a71143baa27a1f582a8df4484c5e3696b59ba043b17d10a", func := "selfstab/selfstablaw20.WorstIsAttained", spec := "worstIsAttained", unfollowed := true, recurses := true, plainKeys := false, apart := false }
def WorstIsAttainedSaid : Prop := worstIsAttainedRow.holds Try.pinned (OpenSpec.ofChange worstIsAttainedSpec)

/-- ITS FALSE NEIGHBOUR: 'it returns false'. Refute it at one input. -/
def worstIsAttainedWrong : ChangeSpec := { name := "worstIsAttained", fn := fun _ => fun
  | [d1, d2, d3] => { results := [.lit (.bool false)], args := [d1, d2, d3] }
  | _ => none }
def WorstIsAttainedWrongFalsely : Prop := worstIsAttainedRow.holds Try.pinned (OpenSpec.ofChange worstIsAttainedWrong)

/-- 'selfstablaw20.WorstNeedsConvergence': WHATEVER THE INPUT: true; the input reads as it did. -/
def worstNeedsConvergenceSpec : ChangeSpec := { name := "worstNeedsConvergence", fn := fun _ => fun
  | [d1, d2, d3] => { results := [.lit (.bool true)], args := [d1, d2, d3] }
  | _ => none }
def worstNeedsConvergenceRow : OpenClaim := { program := "ytafndpkfoajpnaa", sum := "29941a1cf7dc0f4a6a71143baa27a1f582a8df4484c5e3696b59ba043b17d10a", func := "selfstab/selfstablaw20.WorstNeedsConvergence", spec := "worstNeedsConvergence", unfollowed := true, recurses := true, plainKeys := false, apart := false }
def WorstNeedsConvergenceSaid : Prop := worstNeedsConvergenceRow.holds Try.pinned (OpenSpec.ofChange worstNeedsConvergenceSpec)

/-- ITS FALSE NEIGHBOUR: 'it returns false'. Refute it at one input. -/
def worstNeedsConvergenceWrong : ChangeSpec := { name := "worstNeedsConvergence", fn := fun _ => fun
  | [d1, d2, d3] => { results := [.lit (.bool false)], args := [d1, d2, d3] }
  | _ => none }
def WorstNeedsConvergenceWrongFalsely : Prop := worstNeedsConvergenceRow.holds Try.pinned (OpenSpec.ofChange worstNeedsConvergenceWrong)

/-- 'selfstablaw20.WorstBoundsEveryWalk': WHATEVER THE INPUT: true; the input reads as it did. -/
def worstBoundsEveryWalkSpec : ChangeSpec := { name := "worstBoundsEveryWalk", fn := fun _ => fun
  | [d1, d2, d3, d4] => { results := [.lit (.bool true)], args := [d1, d2, d3, d4] }
  | _ => none }
def worstBoundsEveryWalkRow : OpenClaim := { program := "ytafndpkfoajpnaa", sum := "29941a1cf7dc0f4a6a71143baa27a1f582a8df4484c5e3696b59ba043b17d10a", func := "selfstab/selfstablaw20.WorstBoundsEveryWalk", spec := "worstBoundsEveryWalk", unfollowed := true, recurses := true, plainKeys := false, apart := false }
def WorstBoundsEveryWalkSaid : Prop := worstBoundsEveryWalkRow.holds Try.pinned (OpenSpec.ofChange worstBoundsEveryWalkSpec)

/-- ITS FALSE NEIGHBOUR: 'it returns false'. Refute it at one input. -/
def worstBoundsEveryWalkWrong : ChangeSpec := { name := "worstBoundsEveryWalk", fn := fun _ => fun
  | [d1, d2, d3, d4] => { results := [.lit (.bool false)], args := [d1, d2, d3, d4] }
  | _ => none }
def WorstBoundsEveryWalkWrongFalsely : Prop := worstBoundsEveryWalkRow.holds Try.pinned (OpenSpec.ofChange worstBoundsEveryWalkWrong)

/- THE SECOND FORM. 'bulk': how many values and letters a reading holds, each counted each time it is reached (what is shared counts as often as it is met; a slice's spare places count too). A statement '..UptoSaid' is the law's where the arguments, and the package variables that the reading takes, are together of bulk at most 1048576: NARROWER than '..Said'. Prove '..Said' where nothing that the law and all that it calls make is longer than what came in: it says more and counts as full. Else prove '..UptoSaid'. A law counts once. -/
mutual
def uptoBulk {H : Type} : DataW H → Nat
  | .lit (.string bytes) => bytes.length + 1
  | .lit _ => 1
  | .nil => 1
  | .ptr d => uptoBulk d + 1
  | .slice elems spare => uptoBulkAll elems + uptoBulkAll spare + 1
  | .agg parts => uptoBulkAll parts + 1
  | .iface _ d => uptoBulk d + 1
  | .map entries => uptoBulkEntries entries + 1
  | .held _ => 1
def uptoBulkAll {H : Type} : List (DataW H) → Nat
  | [] => 0
  | d :: r => uptoBulk d + uptoBulkAll r
def uptoBulkEntries {H : Type} : List (Lit × DataW H) → Nat
  | [] => 0
  | x :: r => uptoBulkEntry x + uptoBulkEntries r
def uptoBulkEntry {H : Type} : Lit × DataW H → Nat
  | (.string bytes, d) => bytes.length + uptoBulk d + 1
  | (_, d) => uptoBulk d + 1
 end
def uptoSmall : (H : Type) → List (DataW H) → Bool := fun _ ds => decide (uptoBulkAll ds ≤ 1048576)
def OpenSpec.upto (s : _root_.Go.ChangeSpec) : _root_.Go.OpenSpec := { _root_.Go.OpenSpec.ofChange s with cond := some uptoSmall }

/-- 'selfstablaw20.WorstCountsRounds', WHERE WHAT IT READS IS OF BULK AT MOST 1048576: true; the input reads as it did. -/
def worstCountsRoundsUptoRow : OpenClaim := { program := "ytafndpkfoajpnaa", sum := "29941a1cf7dc0f4a6a71143baa27a1f582a8df4484c5e3696b59ba043b17d10a", func := "selfstab/selfstablaw20.WorstCountsRounds", spec := "worstCountsRounds", unfollowed := true, recurses := true, plainKeys := false, apart := false, narrowed := true }
def WorstCountsRoundsUptoSaid : Prop := worstCountsRoundsUptoRow.holds Try.pinned (OpenSpec.upto worstCountsRoundsSpec)

/-- 'selfstablaw20.WorstSchedules', WHERE WHAT IT READS IS OF BULK AT MOST 1048576: true; the input reads as it did. -/
def worstSchedulesUptoRow : OpenClaim := { program := "ytafndpkfoajpnaa", sum := "29941a1cf7dc0f4a6a71143baa27a1f582a8df4484c5e3696b59ba043b17d10a", func := "selfstab/selfstablaw20.WorstSchedules", spec := "worstSchedules", unfollowed := true, recurses := true, plainKeys := false, apart := false, narrowed := true }
def WorstSchedulesUptoSaid : Prop := worstSchedulesUptoRow.holds Try.pinned (OpenSpec.upto worstSchedulesSpec)

/-- 'selfstablaw20.WorstMeasures', WHERE WHAT IT READS IS OF BULK AT MOST 1048576: true; the input reads as it did. -/
def worstMeasuresUptoRow : OpenClaim := { program := "ytafndpkfoajpnaa", sum := "29941a1cf7dc0f4a6a71143baa27a1f582a8df4484c5e3696b59ba043b17d10a", func := "selfstab/selfstablaw20.WorstMeasures", spec := "worstMeasures", unfollowed := true, recurses := true, plainKeys := false, apart := false, narrowed := true }
def WorstMeasuresUptoSaid : Prop := worstMeasuresUptoRow.holds Try.pinned (OpenSpec.upto worstMeasuresSpec)

/-- 'selfstablaw20.WorstIsRecursive', WHERE WHAT IT READS IS OF BULK AT MOST 1048576: true; the input reads as it did. -/
def worstIsRecursiveUptoRow : OpenClaim := { program := "ytafndpkfoajpnaa", sum := "29941a1cf7dc0f4a6a71143baa27a1f582a8df4484c5e3696b59ba043b17d10a", func := "selfstab/selfstablaw20.WorstIsRecursive", spec := "worstIsRecursive", unfollowed := true, recurses := true, plainKeys := false, apart := false, narrowed := true }
def WorstIsRecursiveUptoSaid : Prop := worstIsRecursiveUptoRow.holds Try.pinned (OpenSpec.upto worstIsRecursiveSpec)

/-- 'selfstablaw20.WorstNumbersAreOrdered', WHERE WHAT IT READS IS OF BULK AT MOST 1048576: true; the input reads as it did. -/
def worstNumbersAreOrderedUptoRow : OpenClaim := { program := "ytafndpkfoajpnaa", sum := "29941a1cf7dc0f4a6a71143baa27a1f582a8df4484c5e3696b59ba043b17d10a", func := "selfstab/selfstablaw20.WorstNumbersAreOrdered", spec := "worstNumbersAreOrdered", unfollowed := true, recurses := true, plainKeys := false, apart := false, narrowed := true }
def WorstNumbersAreOrderedUptoSaid : Prop := worstNumbersAreOrderedUptoRow.holds Try.pinned (OpenSpec.upto worstNumbersAreOrderedSpec)

/-- 'selfstablaw20.WorstIsAttained', WHERE WHAT IT READS IS OF BULK AT MOST 1048576: true; the input reads as it did. -/
def worstIsAttainedUptoRow : OpenClaim := { program := "ytafndpkfoajpnaa", sum := "29941a1cf7dc0f4a6a71143baa27a1f582a8df4484c5e3696b59ba043b17d10a", func := "selfstab/selfstablaw20.WorstIsAttained", spec := "worstIsAttained", unfollowed := true, recurses := true, plainKeys := false, apart := false, narrowed := true }
def WorstIsAttainedUptoSaid : Prop := worstIsAttainedUptoRow.holds Try.pinned (OpenSpec.upto worstIsAttainedSpec)

/-- 'selfstablaw20.WorstNeedsConvergence', WHERE WHAT IT READS IS OF BULK AT MOST 1048576: true; the input reads as it did. -/
def worstNeedsConvergenceUptoRow : OpenClaim := { program := "ytafndpkfoajpnaa", sum := "29941a1cf7dc0f4a6a71143baa27a1f582a8df4484c5e3696b59ba043b17d10a", func := "selfstab/selfstablaw20.WorstNeedsConvergence", spec := "worstNeedsConvergence", unfollowed := true, recurses := true, plainKeys := false, apart := false, narrowed := true }
def WorstNeedsConvergenceUptoSaid : Prop := worstNeedsConvergenceUptoRow.holds Try.pinned (OpenSpec.upto worstNeedsConvergenceSpec)

/-- 'selfstablaw20.WorstBoundsEveryWalk', WHERE WHAT IT READS IS OF BULK AT MOST 1048576: true; the input reads as it did. -/
def worstBoundsEveryWalkUptoRow : OpenClaim := { program := "ytafndpkfoajpnaa", sum := "29941a1cf7dc0f4a6a71143baa27a1f582a8df4484c5e3696b59ba043b17d10a", func := "selfstab/selfstablaw20.WorstBoundsEveryWalk", spec := "worstBoundsEveryWalk", unfollowed := true, recurses := true, plainKeys := false, apart := false, narrowed := true }
def WorstBoundsEveryWalkUptoSaid : Prop := worstBoundsEveryWalkUptoRow.holds Try.pinned (OpenSpec.upto worstBoundsEveryWalkSpec)

end Rows
end Go.Proofs.Ytafndpkfoajpnaa
