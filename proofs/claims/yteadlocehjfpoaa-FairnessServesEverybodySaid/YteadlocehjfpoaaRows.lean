/-
  No cell of these rows narrows 'for every input' (looked for: loops, veiled, ifaces, maps, wideKeys, modest, calm, conditions, laid).
  DERIVED. THE GIVEN ROWS OF THIS SEAT. 7 by the template 'for every input the law returns true; each argument reads behind the call as it read before'; 0 by the template 'total and deterministic' (their statements: YteadlocehjfpoaaTotals.lean).
  GIVEN WITH THE SEED: the statements are not yours to turn. If you find one false, say at which input.
  Laid BY PROGRAM, IN A SANDBOX (cutbox-rows.mjs): the forced cells as the released guide's own fill.sh prints them over the translation 95cd0b479d9a2869… (all of the seat's roots in one cut). By AI agents, Wed Nov 11 2026. No macro, syntax, notation, axiom, sorry.
-/
import Derived.Test.YteadlocehjfpoaaChecked
import GoSem.Claim
import GoSem.ClaimJoined
import GoSem.ClaimMapViews
import Derived.JoinedTies
import Derived.KernelRfl
namespace Go.Proofs.Yteadlocehjfpoaa
/- THE CELL 'sum', in the pinned program and in every row, IS THE sha256 OF THE DUMP (.gsa) THAT YteadlocehjfpoaaProg.lean LOADS. Nothing in Lean hashes anything: it is a label: what it is worth is what the hold of that sum in a sandbox is worth. -/
noncomputable def Try.pinned : Pinned := { name := "yteadlocehjfpoaa", sum := "95cd0b479d9a28695e10bd956239aab4e9220a957b8368102009d413090c8232", checked := Try.checked }
namespace Rows
def none {H : Type} : Left H := { results := [], args := [] }

/-- 'selfstablaw21.FairnessFindsTheCore': WHATEVER THE INPUT: true; the input reads as it did. -/
def fairnessFindsTheCoreSpec : ChangeSpec := { name := "fairnessFindsTheCore", fn := fun _ => fun
  | [d1, d2] => { results := [.lit (.bool true)], args := [d1, d2] }
  | _ => none }
def fairnessFindsTheCoreRow : OpenClaim := { program := "yteadlocehjfpoaa", sum := "95cd0b479d9a28695e10bd956239aab4e9220a957b8368102009d413090c8232", func := "selfstab/selfstablaw21.FairnessFindsTheCore", spec := "fairnessFindsTheCore", recurses := true, apart := false }
def FairnessFindsTheCoreSaid : Prop := fairnessFindsTheCoreRow.holds Try.pinned (OpenSpec.ofChange fairnessFindsTheCoreSpec)

/-- ITS FALSE NEIGHBOUR: 'it returns false'. Refute it at one input. -/
def fairnessFindsTheCoreWrong : ChangeSpec := { name := "fairnessFindsTheCore", fn := fun _ => fun
  | [d1, d2] => { results := [.lit (.bool false)], args := [d1, d2] }
  | _ => none }
def FairnessFindsTheCoreWrongFalsely : Prop := fairnessFindsTheCoreRow.holds Try.pinned (OpenSpec.ofChange fairnessFindsTheCoreWrong)

/-- 'selfstablaw21.FairnessComponentsAreLoops': WHATEVER THE INPUT: true; the input reads as it did. -/
def fairnessComponentsAreLoopsSpec : ChangeSpec := { name := "fairnessComponentsAreLoops", fn := fun _ => fun
  | [d1, d2, d3, d4] => { results := [.lit (.bool true)], args := [d1, d2, d3, d4] }
  | _ => none }
def fairnessComponentsAreLoopsRow : OpenClaim := { program := "yteadlocehjfpoaa", sum := "95cd0b479d9a28695e10bd956239aab4e9220a957b8368102009d413090c8232", func := "selfstab/selfstablaw21.FairnessComponentsAreLoops", spec := "fairnessComponentsAreLoops", recurses := true, apart := false }
def FairnessComponentsAreLoopsSaid : Prop := fairnessComponentsAreLoopsRow.holds Try.pinned (OpenSpec.ofChange fairnessComponentsAreLoopsSpec)

/-- ITS FALSE NEIGHBOUR: 'it returns false'. Refute it at one input. -/
def fairnessComponentsAreLoopsWrong : ChangeSpec := { name := "fairnessComponentsAreLoops", fn := fun _ => fun
  | [d1, d2, d3, d4] => { results := [.lit (.bool false)], args := [d1, d2, d3, d4] }
  | _ => none }
def FairnessComponentsAreLoopsWrongFalsely : Prop := fairnessComponentsAreLoopsRow.holds Try.pinned (OpenSpec.ofChange fairnessComponentsAreLoopsWrong)

/-- 'selfstablaw21.FairnessIsWeaker': WHATEVER THE INPUT: true; the input reads as it did. -/
def fairnessIsWeakerSpec : ChangeSpec := { name := "fairnessIsWeaker", fn := fun _ => fun
  | [d1, d2] => { results := [.lit (.bool true)], args := [d1, d2] }
  | _ => none }
def fairnessIsWeakerRow : OpenClaim := { program := "yteadlocehjfpoaa", sum := "95cd0b479d9a28695e10bd956239aab4e9220a957b8368102009d413090c8232", func := "selfstab/selfstablaw21.FairnessIsWeaker", spec := "fairnessIsWeaker", recurses := true, apart := false }
def FairnessIsWeakerSaid : Prop := fairnessIsWeakerRow.holds Try.pinned (OpenSpec.ofChange fairnessIsWeakerSpec)

/-- ITS FALSE NEIGHBOUR: 'it returns false'. Refute it at one input. -/
def fairnessIsWeakerWrong : ChangeSpec := { name := "fairnessIsWeaker", fn := fun _ => fun
  | [d1, d2] => { results := [.lit (.bool false)], args := [d1, d2] }
  | _ => none }
def FairnessIsWeakerWrongFalsely : Prop := fairnessIsWeakerRow.holds Try.pinned (OpenSpec.ofChange fairnessIsWeakerWrong)

/-- 'selfstablaw21.FairnessServesEverybody': WHATEVER THE INPUT: true; the input reads as it did. -/
def fairnessServesEverybodySpec : ChangeSpec := { name := "fairnessServesEverybody", fn := fun _ => fun
  | [d1, d2, d3, d4] => { results := [.lit (.bool true)], args := [d1, d2, d3, d4] }
  | _ => none }
def fairnessServesEverybodyRow : OpenClaim := { program := "yteadlocehjfpoaa", sum := "95cd0b479d9a28695e10bd956239aab4e9220a957b8368102009d413090c8232", func := "selfstab/selfstablaw21.FairnessServesEverybody", spec := "fairnessServesEverybody", recurses := true, apart := false }
def FairnessServesEverybodySaid : Prop := fairnessServesEverybodyRow.holds Try.pinned (OpenSpec.ofChange fairnessServesEverybodySpec)

/-- ITS FALSE NEIGHBOUR: 'it returns false'. Refute it at one input. -/
def fairnessServesEverybodyWrong : ChangeSpec := { name := "fairnessServesEverybody", fn := fun _ => fun
  | [d1, d2, d3, d4] => { results := [.lit (.bool false)], args := [d1, d2, d3, d4] }
  | _ => none }
def FairnessServesEverybodyWrongFalsely : Prop := fairnessServesEverybodyRow.holds Try.pinned (OpenSpec.ofChange fairnessServesEverybodyWrong)

/-- 'selfstablaw21.FairnessIsMonotone': WHATEVER THE INPUT: true; the input reads as it did. -/
def fairnessIsMonotoneSpec : ChangeSpec := { name := "fairnessIsMonotone", fn := fun _ => fun
  | [d1, d2, d3] => { results := [.lit (.bool true)], args := [d1, d2, d3] }
  | _ => none }
def fairnessIsMonotoneRow : OpenClaim := { program := "yteadlocehjfpoaa", sum := "95cd0b479d9a28695e10bd956239aab4e9220a957b8368102009d413090c8232", func := "selfstab/selfstablaw21.FairnessIsMonotone", spec := "fairnessIsMonotone", recurses := true, apart := false }
def FairnessIsMonotoneSaid : Prop := fairnessIsMonotoneRow.holds Try.pinned (OpenSpec.ofChange fairnessIsMonotoneSpec)

/-- ITS FALSE NEIGHBOUR: 'it returns false'. Refute it at one input. -/
def fairnessIsMonotoneWrong : ChangeSpec := { name := "fairnessIsMonotone", fn := fun _ => fun
  | [d1, d2, d3] => { results := [.lit (.bool false)], args := [d1, d2, d3] }
  | _ => none }
def FairnessIsMonotoneWrongFalsely : Prop := fairnessIsMonotoneRow.holds Try.pinned (OpenSpec.ofChange fairnessIsMonotoneWrong)

/-- 'selfstablaw21.FairnessFindsComponents': WHATEVER THE INPUT: true; the input reads as it did. -/
def fairnessFindsComponentsSpec : ChangeSpec := { name := "fairnessFindsComponents", fn := fun _ => fun
  | [d1, d2] => { results := [.lit (.bool true)], args := [d1, d2] }
  | _ => none }
def fairnessFindsComponentsRow : OpenClaim := { program := "yteadlocehjfpoaa", sum := "95cd0b479d9a28695e10bd956239aab4e9220a957b8368102009d413090c8232", func := "selfstab/selfstablaw21.FairnessFindsComponents", spec := "fairnessFindsComponents", recurses := true, apart := false }
def FairnessFindsComponentsSaid : Prop := fairnessFindsComponentsRow.holds Try.pinned (OpenSpec.ofChange fairnessFindsComponentsSpec)

/-- ITS FALSE NEIGHBOUR: 'it returns false'. Refute it at one input. -/
def fairnessFindsComponentsWrong : ChangeSpec := { name := "fairnessFindsComponents", fn := fun _ => fun
  | [d1, d2] => { results := [.lit (.bool false)], args := [d1, d2] }
  | _ => none }
def FairnessFindsComponentsWrongFalsely : Prop := fairnessFindsComponentsRow.holds Try.pinned (OpenSpec.ofChange fairnessFindsComponentsWrong)

/-- 'selfstablaw21.FairnessNumbersComponents': WHATEVER THE INPUT: true; the input reads as it did. -/
def fairnessNumbersComponentsSpec : ChangeSpec := { name := "fairnessNumbersComponents", fn := fun _ => fun
  | [d1, d2] => { results := [.lit (.bool true)], args := [d1, d2] }
  | _ => none }
def fairnessNumbersComponentsRow : OpenClaim := { program := "yteadlocehjfpoaa", sum := "95cd0b479d9a28695e10bd956239aab4e9220a957b8368102009d413090c8232", func := "selfstab/selfstablaw21.FairnessNumbersComponents", spec := "fairnessNumbersComponents", recurses := true, apart := false }
def FairnessNumbersComponentsSaid : Prop := fairnessNumbersComponentsRow.holds Try.pinned (OpenSpec.ofChange fairnessNumbersComponentsSpec)

/-- ITS FALSE NEIGHBOUR: 'it returns false'. Refute it at one input. -/
def fairnessNumbersComponentsWrong : ChangeSpec := { name := "fairnessNumbersComponents", fn := fun _ => fun
  | [d1, d2] => { results := [.lit (.bool false)], args := [d1, d2] }
  | _ => none }
def FairnessNumbersComponentsWrongFalsely : Prop := fairnessNumbersComponentsRow.holds Try.pinned (OpenSpec.ofChange fairnessNumbersComponentsWrong)

/- THE SECOND FORM. 'bulk': how many values and letters a reading holds, each counted each time it is reached (what is shared counts as often as it is met; a slice's spare places count too). A statement '..UptoSaid' is the law's where the arguments, and the package variables that the reading takes, are together of bulk at most 1048576: NARROWER than '..Said'. Prove '..Said' where nothing that the law and all that it calls make is longer than what came in: it says more and counts as full. Else prove '..UptoSaid'. A law counts once. -/
mutual
def uptoBulk {H : Type} : DataW H → Nat
  | .lit (.string bytes) => bytes.length + 1
  | .lit _ => 1
  | .nil => 1
  | .ptr d => uptoBulk d + 1
  | .slice elems spare => uptoBulkAll elems + uptoBulkAll spare + 1
  | .agg parts => uptoBulkAll parts + 1
  | .iface _ d => uptoBulk d + 1
  | .map entries => uptoBulkEntries entries + 1
  | .held _ => 1
def uptoBulkAll {H : Type} : List (DataW H) → Nat
  | [] => 0
  | d :: r => uptoBulk d + uptoBulkAll r
def uptoBulkEntries {H : Type} : List (Lit × DataW H) → Nat
  | [] => 0
  | x :: r => uptoBulkEntry x + uptoBulkEntries r
def uptoBulkEntry {H : Type} : Lit × DataW H → Nat
  | (.string bytes, d) => bytes.length + uptoBulk d + 1
  | (_, d) => uptoBulk d + 1
 end
def uptoSmall : (H : Type) → List (DataW H) → Bool := fun _ ds => decide (uptoBulkAll ds ≤ 1048576)
def OpenSpec.upto (s : _root_.Go.ChangeSpec) : _root_.Go.OpenSpec := { _root_.Go.OpenSpec.ofChange s with cond := some uptoSmall }

/-- 'selfstablaw21.FairnessFindsTheCore', WHERE WHAT IT READS IS OF BULK AT MOST 1048576: true; the input reads as it did. -/
def fairnessFindsTheCoreUptoRow : OpenClaim := { program := "yteadlocehjfpoaa", sum := "95cd0b479d9a28695e10bd956239aab4e9220a957b8368102009d413090c8232", func := "selfstab/selfstablaw21.FairnessFindsTheCore", spec := "fairnessFindsTheCore", recurses := true, apart := false, narrowed := true }
def FairnessFindsTheCoreUptoSaid : Prop := fairnessFindsTheCoreUptoRow.holds Try.pinned (OpenSpec.upto fairnessFindsTheCoreSpec)

/-- 'selfstablaw21.FairnessComponentsAreLoops', WHERE WHAT IT READS IS OF BULK AT MOST 1048576: true; the input reads as it did. -/
def fairnessComponentsAreLoopsUptoRow : OpenClaim := { program := "yteadlocehjfpoaa", sum := "95cd0b479d9a28695e10bd956239aab4e9220a957b8368102009d413090c8232", func := "selfstab/selfstablaw21.FairnessComponentsAreLoops", spec := "fairnessComponentsAreLoops", recurses := true, apart := false, narrowed := true }
def FairnessComponentsAreLoopsUptoSaid : Prop := fairnessComponentsAreLoopsUptoRow.holds Try.pinned (OpenSpec.upto fairnessComponentsAreLoopsSpec)

/-- 'selfstablaw21.FairnessIsWeaker', WHERE WHAT IT READS IS OF BULK AT MOST 1048576: true; the input reads as it did. -/
def fairnessIsWeakerUptoRow : OpenClaim := { program := "yteadlocehjfpoaa", sum := "95cd0b479d9a28695e10bd956239aab4e9220a957b8368102009d413090c8232", func := "selfstab/selfstablaw21.FairnessIsWeaker", spec := "fairnessIsWeaker", recurses := true, apart := false, narrowed := true }
def FairnessIsWeakerUptoSaid : Prop := fairnessIsWeakerUptoRow.holds Try.pinned (OpenSpec.upto fairnessIsWeakerSpec)

/-- 'selfstablaw21.FairnessServesEverybody', WHERE WHAT IT READS IS OF BULK AT MOST 1048576: true; the input reads as it did. -/
def fairnessServesEverybodyUptoRow : OpenClaim := { program := "yteadlocehjfpoaa", sum := "95cd0b479d9a28695e10bd956239aab4e9220a957b8368102009d413090c8232", func := "selfstab/selfstablaw21.FairnessServesEverybody", spec := "fairnessServesEverybody", recurses := true, apart := false, narrowed := true }
def FairnessServesEverybodyUptoSaid : Prop := fairnessServesEverybodyUptoRow.holds Try.pinned (OpenSpec.upto fairnessServesEverybodySpec)

/-- 'selfstablaw21.FairnessIsMonotone', WHERE WHAT IT READS IS OF BULK AT MOST 1048576: true; the input reads as it did. -/
def fairnessIsMonotoneUptoRow : OpenClaim := { program := "yteadlocehjfpoaa", sum := "95cd0b479d9a28695e10bd956239aab4e9220a957b8368102009d413090c8232", func := "selfstab/selfstablaw21.FairnessIsMonotone", spec := "fairnessIsMonotone", recurses := true, apart := false, narrowed := true }
def FairnessIsMonotoneUptoSaid : Prop := fairnessIsMonotoneUptoRow.holds Try.pinned (OpenSpec.upto fairnessIsMonotoneSpec)

/-- 'selfstablaw21.FairnessFindsComponents', WHERE WHAT IT READS IS OF BULK AT MOST 1048576: true; the input reads as it did. -/
def fairnessFindsComponentsUptoRow : OpenClaim := { program := "yteadlocehjfpoaa", sum := "95cd0b479d9a28695e10bd956239aab4e9220a957b8368102009d413090c8232", func := "selfstab/selfstablaw21.FairnessFindsComponents", spec := "fairnessFindsComponents", recurses := true, apart := false, narrowed := true }
def FairnessFindsComponentsUptoSaid : Prop := fairnessFindsComponentsUptoRow.holds Try.pinned (OpenSpec.upto fairnessFindsComponentsSpec)

/-- 'selfstablaw21.FairnessNumbersComponents', WHERE WHAT IT READS IS OF BULK AT MOST 1048576: true; the input reads as it did. -/
def fairnessNumbersComponentsUptoRow : OpenClaim := { program := "yteadlocehjfpoaa", sum := "95cd0b479d9a28695e10bd956239aab4e9220a957b8368102009d413090c8232", func := "selfstab/selfstablaw21.FairnessNumbersComponents", spec := "fairnessNumbersComponents", recurses := true, apart := false, narrowed := true }
def FairnessNumbersComponentsUptoSaid : Prop := fairnessNumbersComponentsUptoRow.holds Try.pinned (OpenSpec.upto fairnessNumbersComponentsSpec)

end Rows
end Go.Proofs.Yteadlocehjfpoaa
