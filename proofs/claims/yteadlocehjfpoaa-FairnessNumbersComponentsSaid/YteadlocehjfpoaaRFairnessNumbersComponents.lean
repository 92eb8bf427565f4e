/- The law FairnessNumbersComponents answers true at every input, and what came in reads as it did. No condition. -/
import Derived.Test.YteadlocehjfpoaaL21a
import Derived.Test.YteadlocehjfpoaaRows
import Derived.WalkKit
import Derived.ProofKit
import Derived.SizedLaws
namespace Go.Proofs.Yteadlocehjfpoaa
open Go Go.Fw G Go.ChangeShapes Go.WideShapes Go.ChangeAt Go.RowKit

theorem ownFairnessNumbersComponents : ownKnob Try.prog.godebug = none := by kernel_rfl
theorem laidOutFairnessNumbersComponents : laidOutB Try.prog = true := by kernel_rfl

theorem liftedFairnessNumbersComponents (os : Os) (started : os.Started) (H : Type) (enc : TypeId × Value → H) :
    ReturnsInHanded {} Try.checked os 9 .any (Rows.fairnessNumbersComponentsSpec.pre6 enc Try.prog Try.f9 Rows.fairnessNumbersComponentsRow.domain false) (Rows.fairnessNumbersComponentsSpec.post enc Try.prog Try.f9 false true false false) := by
  refine returnsInHanded_of_change_sized (C := Try.checked) ownFairnessNumbersComponents started (by kernel_rfl) Try.func9
    (ChangeSpec.witness6 (enc := enc) (C := Try.checked) false ⟨#[], #[.agg #[.slice none 0 0, .slice none 0 0], .slice none 0 0], []⟩ 8 (by kernel_rfl) (by kernel_rfl) (by kernel_rfl) (by kernel_rfl)) ?_
  intro W base args ds gs before hval hW hcnd hsz0 _
  exact law_post (P := Try.prog) (s := Rows.fairnessNumbersComponentsSpec) (fn := Try.f9) (f := 9) (gs := [(.pair (.slice (.int .u32)) (.pair (.slice (.slice (.pair (.int .u32) (.pair (.int .i64) .unit)))) .unit)), (.slice .bool)]) (nt := 87) (lf := fun K x => G.law21_FairnessNumbersComponents K x.1.1 x.1.2.1) (tb := 4)
    rfl (fun ds h => by
      match ds, h with
      | [a, b], _ => rfl) (by kernel_rfl) Try.underlying4 laidOutFairnessNumbersComponents (by kernel_rfl) (fun K => G.law_law21_FairnessNumbersComponents K) (fun x hx => G.pure_law21_FairnessNumbersComponents x hx) (by kernel_rfl) hval hW

theorem holdsFairnessNumbersComponents : Rows.FairnessNumbersComponentsSaid :=
  OpenClaim.holds_of_wide 9 Try.f9 rfl rfl rfl rfl rfl rfl rfl ⟨rfl, rfl, rfl, rfl, rfl⟩ rfl rfl rfl rfl rfl (by kernel_rfl) Try.func9 (by kernel_rfl)
    (of_decide_eq_true (by kernel_rfl)) (by unfold Func.isWrapper; first | (rw [if_pos (by decide +kernel)]; kernel_rfl) | (rw [if_neg (by decide +kernel)]; exact ⟨rfl, rfl⟩))
    (fun os started H enc _ => liftedFairnessNumbersComponents os started H enc)
#print axioms holdsFairnessNumbersComponents
end Go.Proofs.Yteadlocehjfpoaa
