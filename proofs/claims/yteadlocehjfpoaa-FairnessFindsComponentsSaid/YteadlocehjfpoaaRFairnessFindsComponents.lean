/- The law FairnessFindsComponents answers true at every input, and what came in reads as it did. No condition. -/
import Derived.Test.YteadlocehjfpoaaL21a
import Derived.Test.YteadlocehjfpoaaRows
import Derived.WalkKit
import Derived.ProofKit
import Derived.SizedLaws
namespace Go.Proofs.Yteadlocehjfpoaa
open Go Go.Fw G Go.ChangeShapes Go.WideShapes Go.ChangeAt Go.RowKit

theorem ownFairnessFindsComponents : ownKnob Try.prog.godebug = none := by kernel_rfl
theorem laidOutFairnessFindsComponents : laidOutB Try.prog = true := by kernel_rfl

theorem liftedFairnessFindsComponents (os : Os) (started : os.Started) (H : Type) (enc : TypeId × Value → H) :
    ReturnsInHanded {} Try.checked os 8 .any (Rows.fairnessFindsComponentsSpec.pre6 enc Try.prog Try.f8 Rows.fairnessFindsComponentsRow.domain false) (Rows.fairnessFindsComponentsSpec.post enc Try.prog Try.f8 false true false false) := by
  refine returnsInHanded_of_change_sized (C := Try.checked) ownFairnessFindsComponents started (by kernel_rfl) Try.func8
    (ChangeSpec.witness6 (enc := enc) (C := Try.checked) false ⟨#[], #[.agg #[.slice none 0 0, .slice none 0 0], .slice none 0 0], []⟩ 8 (by kernel_rfl) (by kernel_rfl) (by kernel_rfl) (by kernel_rfl)) ?_
  intro W base args ds gs before hval hW hcnd hsz0 _
  exact law_post (P := Try.prog) (s := Rows.fairnessFindsComponentsSpec) (fn := Try.f8) (f := 8) (gs := [(.pair (.slice (.int .u32)) (.pair (.slice (.slice (.pair (.int .u32) (.pair (.int .i64) .unit)))) .unit)), (.slice .bool)]) (nt := 63) (lf := fun K x => G.law21_FairnessFindsComponents K x.1.1 x.1.2.1) (tb := 4)
    rfl (fun ds h => by
      match ds, h with
      | [a, b], _ => rfl) (by kernel_rfl) Try.underlying4 laidOutFairnessFindsComponents (by kernel_rfl) (fun K => G.law_law21_FairnessFindsComponents K) (fun x hx => G.pure_law21_FairnessFindsComponents x hx) (by kernel_rfl) hval hW

theorem holdsFairnessFindsComponents : Rows.FairnessFindsComponentsSaid :=
  OpenClaim.holds_of_wide 8 Try.f8 rfl rfl rfl rfl rfl rfl rfl ⟨rfl, rfl, rfl, rfl, rfl⟩ rfl rfl rfl rfl rfl (by kernel_rfl) Try.func8 (by kernel_rfl)
    (of_decide_eq_true (by kernel_rfl)) (by unfold Func.isWrapper; first | (rw [if_pos (by decide +kernel)]; kernel_rfl) | (rw [if_neg (by decide +kernel)]; exact ⟨rfl, rfl⟩))
    (fun os started H enc _ => liftedFairnessFindsComponents os started H enc)
#print axioms holdsFairnessFindsComponents
end Go.Proofs.Yteadlocehjfpoaa
