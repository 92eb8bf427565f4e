/- The law FairnessFindsTheCore answers true at every input, and what came in reads as it did. No condition. -/
import Derived.Test.YteadlocehjfpoaaL21a
import Derived.Test.YteadlocehjfpoaaRows
import Derived.WalkKit
import Derived.ProofKit
import Derived.SizedLaws
namespace Go.Proofs.Yteadlocehjfpoaa
open Go Go.Fw G Go.ChangeShapes Go.WideShapes Go.ChangeAt Go.RowKit

theorem ownFairnessFindsTheCore : ownKnob Try.prog.godebug = none := by kernel_rfl
theorem laidOutFairnessFindsTheCore : laidOutB Try.prog = true := by kernel_rfl

theorem liftedFairnessFindsTheCore (os : Os) (started : os.Started) (H : Type) (enc : TypeId × Value → H) :
    ReturnsInHanded {} Try.checked os 3 .any (Rows.fairnessFindsTheCoreSpec.pre6 enc Try.prog Try.f3 Rows.fairnessFindsTheCoreRow.domain false) (Rows.fairnessFindsTheCoreSpec.post enc Try.prog Try.f3 false true false false) := by
  refine returnsInHanded_of_change_sized (C := Try.checked) ownFairnessFindsTheCore started (by kernel_rfl) Try.func3
    (ChangeSpec.witness6 (enc := enc) (C := Try.checked) false ⟨#[], #[.agg #[.slice none 0 0, .slice none 0 0], .slice none 0 0], []⟩ 8 (by kernel_rfl) (by kernel_rfl) (by kernel_rfl) (by kernel_rfl)) ?_
  intro W base args ds gs before hval hW hcnd hsz0 _
  exact law_post (P := Try.prog) (s := Rows.fairnessFindsTheCoreSpec) (fn := Try.f3) (f := 3) (gs := [(.pair (.slice (.int .u32)) (.pair (.slice (.slice (.pair (.int .u32) (.pair (.int .i64) .unit)))) .unit)), (.slice .bool)]) (nt := 37) (lf := fun K x => G.law21_FairnessFindsTheCore K x.1.1 x.1.2.1) (tb := 4)
    rfl (fun ds h => by
      match ds, h with
      | [a, b], _ => rfl) (by kernel_rfl) Try.underlying4 laidOutFairnessFindsTheCore (by kernel_rfl) (fun K => G.law_law21_FairnessFindsTheCore K) (fun x hx => G.pure_law21_FairnessFindsTheCore x hx) (by kernel_rfl) hval hW

theorem holdsFairnessFindsTheCore : Rows.FairnessFindsTheCoreSaid :=
  OpenClaim.holds_of_wide 3 Try.f3 rfl rfl rfl rfl rfl rfl rfl ⟨rfl, rfl, rfl, rfl, rfl⟩ rfl rfl rfl rfl rfl (by kernel_rfl) Try.func3 (by kernel_rfl)
    (of_decide_eq_true (by kernel_rfl)) (by unfold Func.isWrapper; first | (rw [if_pos (by decide +kernel)]; kernel_rfl) | (rw [if_neg (by decide +kernel)]; exact ⟨rfl, rfl⟩))
    (fun os started H enc _ => liftedFairnessFindsTheCore os started H enc)
#print axioms holdsFairnessFindsTheCore
end Go.Proofs.Yteadlocehjfpoaa
