/-
  No cell of these rows narrows 'for every input' (looked for: loops, veiled, ifaces, maps, wideKeys, modest, calm, conditions, laid).
  DERIVED. THE GIVEN ROWS OF THIS SEAT. 5 by the template 'for every input the law returns true; each argument reads behind the call as it read before'; 0 by the template 'total and deterministic' (their statements: YtmndmapbojhnmaaTotals.lean).
  GIVEN WITH THE SEED: the statements are not yours to turn. If you find one false, say at which input.
  Laid BY PROGRAM, IN A SANDBOX (cutbox-rows.mjs): the forced cells as the released guide's own fill.sh prints them over the translation b74ece7e9b3a0032… (all of the seat's roots in one cut). By AI agents, Wed Nov 11 2026. No macro, syntax, notation, axiom, sorry.
-/
import Derived.Test.YtmndmapbojhnmaaChecked
import GoSem.Claim
import GoSem.ClaimJoined
import GoSem.ClaimMapViews
import Derived.JoinedTies
import Derived.KernelRfl
namespace Go.Proofs.Ytmndmapbojhnmaa
/- THE CELL 'sum', in the pinned program and in every row, IS THE sha256 OF THE DUMP (.gsa) THAT YtmndmapbojhnmaaProg.lean LOADS. Nothing in Lean hashes anything: it is a label: what it is worth is what the hold of that sum in a sandbox is worth. -/
noncomputable def Try.pinned : Pinned := { name := "ytmndmapbojhnmaa", sum := "b74ece7e9b3a003211aea4e35937d77eef8f9cc6e3bf58cdd05fc32091c8046f", checked := Try.checked }
namespace Rows
def none {H : Type} : Left H := { results := [], args := [] }

/-- 'selfstablaw16.AccountAdds': WHATEVER THE INPUT: true; the input reads as it did. -/
def accountAddsSpec : ChangeSpec := { name := "accountAdds", fn := fun _ => fun
  | [d1, d2, d3] => { results := [.lit (.bool true)], args := [d1, d2, d3] }
  | _ => none }
def accountAddsRow : OpenClaim := { program := "ytmndmapbojhnmaa", sum := "b74ece7e9b3a003211aea4e35937d77eef8f9cc6e3bf58cdd05fc32091c8046f", func := "selfstab/selfstablaw16.AccountAdds", spec := "accountAdds", apart := false }
def AccountAddsSaid : Prop := accountAddsRow.holds Try.pinned (OpenSpec.ofChange accountAddsSpec)

/-- ITS FALSE NEIGHBOUR: 'it returns false'. Refute it at one input. -/
def accountAddsWrong : ChangeSpec := { name := "accountAdds", fn := fun _ => fun
  | [d1, d2, d3] => { results := [.lit (.bool false)], args := [d1, d2, d3] }
  | _ => none }
def AccountAddsWrongFalsely : Prop := accountAddsRow.holds Try.pinned (OpenSpec.ofChange accountAddsWrong)

/-- 'selfstablaw16.AccountStaysValid': WHATEVER THE INPUT: true; the input reads as it did. -/
def accountStaysValidSpec : ChangeSpec := { name := "accountStaysValid", fn := fun _ => fun
  | [d1, d2, d3] => { results := [.lit (.bool true)], args := [d1, d2, d3] }
  | _ => none }
def accountStaysValidRow : OpenClaim := { program := "ytmndmapbojhnmaa", sum := "b74ece7e9b3a003211aea4e35937d77eef8f9cc6e3bf58cdd05fc32091c8046f", func := "selfstab/selfstablaw16.AccountStaysValid", spec := "accountStaysValid", apart := false }
def AccountStaysValidSaid : Prop := accountStaysValidRow.holds Try.pinned (OpenSpec.ofChange accountStaysValidSpec)

/-- ITS FALSE NEIGHBOUR: 'it returns false'. Refute it at one input. -/
def accountStaysValidWrong : ChangeSpec := { name := "accountStaysValid", fn := fun _ => fun
  | [d1, d2, d3] => { results := [.lit (.bool false)], args := [d1, d2, d3] }
  | _ => none }
def AccountStaysValidWrongFalsely : Prop := accountStaysValidRow.holds Try.pinned (OpenSpec.ofChange accountStaysValidWrong)

/-- 'selfstablaw16.AccountCountsRounds': WHATEVER THE INPUT: true; the input reads as it did. -/
def accountCountsRoundsSpec : ChangeSpec := { name := "accountCountsRounds", fn := fun _ => fun
  | [d1, d2] => { results := [.lit (.bool true)], args := [d1, d2] }
  | _ => none }
def accountCountsRoundsRow : OpenClaim := { program := "ytmndmapbojhnmaa", sum := "b74ece7e9b3a003211aea4e35937d77eef8f9cc6e3bf58cdd05fc32091c8046f", func := "selfstab/selfstablaw16.AccountCountsRounds", spec := "accountCountsRounds", apart := false }
def AccountCountsRoundsSaid : Prop := accountCountsRoundsRow.holds Try.pinned (OpenSpec.ofChange accountCountsRoundsSpec)

/-- ITS FALSE NEIGHBOUR: 'it returns false'. Refute it at one input. -/
def accountCountsRoundsWrong : ChangeSpec := { name := "accountCountsRounds", fn := fun _ => fun
  | [d1, d2] => { results := [.lit (.bool false)], args := [d1, d2] }
  | _ => none }
def AccountCountsRoundsWrongFalsely : Prop := accountCountsRoundsRow.holds Try.pinned (OpenSpec.ofChange accountCountsRoundsWrong)

/-- 'selfstablaw16.AccountKnowsWhoIsPending': WHATEVER THE INPUT: true; the input reads as it did. -/
def accountKnowsWhoIsPendingSpec : ChangeSpec := { name := "accountKnowsWhoIsPending", fn := fun _ => fun
  | [d1, d2] => { results := [.lit (.bool true)], args := [d1, d2] }
  | _ => none }
def accountKnowsWhoIsPendingRow : OpenClaim := { program := "ytmndmapbojhnmaa", sum := "b74ece7e9b3a003211aea4e35937d77eef8f9cc6e3bf58cdd05fc32091c8046f", func := "selfstab/selfstablaw16.AccountKnowsWhoIsPending", spec := "accountKnowsWhoIsPending", apart := false }
def AccountKnowsWhoIsPendingSaid : Prop := accountKnowsWhoIsPendingRow.holds Try.pinned (OpenSpec.ofChange accountKnowsWhoIsPendingSpec)

/-- ITS FALSE NEIGHBOUR: 'it returns false'. Refute it at one input. -/
def accountKnowsWhoIsPendingWrong : ChangeSpec := { name := "accountKnowsWhoIsPending", fn := fun _ => fun
  | [d1, d2] => { results := [.lit (.bool false)], args := [d1, d2] }
  | _ => none }
def AccountKnowsWhoIsPendingWrongFalsely : Prop := accountKnowsWhoIsPendingRow.holds Try.pinned (OpenSpec.ofChange accountKnowsWhoIsPendingWrong)

/-- 'selfstablaw16.AccountOfSynchronousRuns': WHATEVER THE INPUT: true; the input reads as it did. -/
def accountOfSynchronousRunsSpec : ChangeSpec := { name := "accountOfSynchronousRuns", fn := fun _ => fun
  | [d1, d2] => { results := [.lit (.bool true)], args := [d1, d2] }
  | _ => none }
def accountOfSynchronousRunsRow : OpenClaim := { program := "ytmndmapbojhnmaa", sum := "b74ece7e9b3a003211aea4e35937d77eef8f9cc6e3bf58cdd05fc32091c8046f", func := "selfstab/selfstablaw16.AccountOfSynchronousRuns", spec := "accountOfSynchronousRuns", apart := false }
def AccountOfSynchronousRunsSaid : Prop := accountOfSynchronousRunsRow.holds Try.pinned (OpenSpec.ofChange accountOfSynchronousRunsSpec)

/-- ITS FALSE NEIGHBOUR: 'it returns false'. Refute it at one input. -/
def accountOfSynchronousRunsWrong : ChangeSpec := { name := "accountOfSynchronousRuns", fn := fun _ => fun
  | [d1, d2] => { results := [.lit (.bool false)], args := [d1, d2] }
  | _ => none }
def AccountOfSynchronousRunsWrongFalsely : Prop := accountOfSynchronousRunsRow.holds Try.pinned (OpenSpec.ofChange accountOfSynchronousRunsWrong)

/- THE SECOND FORM. 'bulk': how many values and letters a reading holds, each counted each time it is reached (what is shared counts as often as it is met; a slice's spare places count too). A statement '..UptoSaid' is the law's where the arguments, and the package variables that the reading takes, are together of bulk at most 1048576: NARROWER than '..Said'. Prove '..Said' where nothing that the law and all that it calls make is longer than what came in: it says more and counts as full. Else prove '..UptoSaid'. A law counts once. -/
mutual
def uptoBulk {H : Type} : DataW H → Nat
  | .lit (.string bytes) => bytes.length + 1
  | .lit _ => 1
  | .nil => 1
  | .ptr d => uptoBulk d + 1
  | .slice elems spare => uptoBulkAll elems + uptoBulkAll spare + 1
  | .agg parts => uptoBulkAll parts + 1
  | .iface _ d => uptoBulk d + 1
  | .map entries => uptoBulkEntries entries + 1
  | .held _ => 1
def uptoBulkAll {H : Type} : List (DataW H) → Nat
  | [] => 0
  | d :: r => uptoBulk d + uptoBulkAll r
def uptoBulkEntries {H : Type} : List (Lit × DataW H) → Nat
  | [] => 0
  | x :: r => uptoBulkEntry x + uptoBulkEntries r
def uptoBulkEntry {H : Type} : Lit × DataW H → Nat
  | (.string bytes, d) => bytes.length + uptoBulk d + 1
  | (_, d) => uptoBulk d + 1
 end
def uptoSmall : (H : Type) → List (DataW H) → Bool := fun _ ds => decide (uptoBulkAll ds ≤ 1048576)
def OpenSpec.upto (s : _root_.Go.ChangeSpec) : _root_.Go.OpenSpec := { _root_.Go.OpenSpec.ofChange s with cond := some uptoSmall }

/-- 'selfstablaw16.AccountAdds', WHERE WHAT IT READS IS OF BULK AT MOST 1048576: true; the input reads as it did. -/
def accountAddsUptoRow : OpenClaim := { program := "ytmndmapbojhnmaa", sum := "b74ece7e9b3a003211aea4e35937d77eef8f9cc6e3bf58cdd05fc32091c8046f", func := "selfstab/selfstablaw16.AccountAdds", spec := "accountAdds", apart := false, narrowed := true }
def AccountAddsUptoSaid : Prop := accountAddsUptoRow.holds Try.pinned (OpenSpec.upto accountAddsSpec)

/-- 'selfstablaw16.AccountStaysValid', WHERE WHAT IT READS IS OF BULK AT MOST 1048576: true; the input reads as it did. -/
def accountStaysValidUptoRow : OpenClaim := { program := "ytmndmapbojhnmaa", sum := "b74ece7e9b3a003211aea4e35937d77eef8f9cc6e3bf58cdd05fc32091c8046f", func := "selfstab/selfstablaw16.AccountStaysValid", spec := "accountStaysValid", apart := false, narrowed := true }
def AccountStaysValidUptoSaid : Prop := accountStaysValidUptoRow.holds Try.pinned (OpenSpec.upto accountStaysValidSpec)

/-- 'selfstablaw16.AccountCountsRounds', WHERE WHAT IT READS IS OF BULK AT MOST 1048576: true; the input reads as it did. -/
def accountCountsRoundsUptoRow : OpenClaim := { program := "ytmndmapbojhnmaa", sum := "b74ece7e9b3a003211aea4e35937d77eef8f9cc6e3bf58cdd05fc32091c8046f", func := "selfstab/selfstablaw16.AccountCountsRounds", spec := "accountCountsRounds", apart := false, narrowed := true }
def AccountCountsRoundsUptoSaid : Prop := accountCountsRoundsUptoRow.holds Try.pinned (OpenSpec.upto accountCountsRoundsSpec)

/-- 'selfstablaw16.AccountKnowsWhoIsPending', WHERE WHAT IT READS IS OF BULK AT MOST 1048576: true; the input reads as it did. -/
def accountKnowsWhoIsPendingUptoRow : OpenClaim := { program := "ytmndmapbojhnmaa", sum := "b74ece7e9b3a003211aea4e35937d77eef8f9cc6e3bf58cdd05fc32091c8046f", func := "selfstab/selfstablaw16.AccountKnowsWhoIsPending", spec := "accountKnowsWhoIsPending", apart := false, narrowed := true }
def AccountKnowsWhoIsPendingUptoSaid : Prop := accountKnowsWhoIsPendingUptoRow.holds Try.pinned (OpenSpec.upto accountKnowsWhoIsPendingSpec)

/-- 'selfstablaw16.AccountOfSynchronousRuns', WHERE WHAT IT READS IS OF BULK AT MOST 1048576: true; the input reads as it did. -/
def accountOfSynchronousRunsUptoRow : OpenClaim := { program := "ytmndmapbojhnmaa", sum := "b74ece7e9b3a003211aea4e35937d77eef8f9cc6e3bf58cdd05fc32091c8046f", func := "selfstab/selfstablaw16.AccountOfSynchronousRuns", spec := "accountOfSynchronousRuns", apart := false, narrowed := true }
def AccountOfSynchronousRunsUptoSaid : Prop := accountOfSynchronousRunsUptoRow.holds Try.pinned (OpenSpec.upto accountOfSynchronousRunsSpec)

end Rows
end Go.Proofs.Ytmndmapbojhnmaa
