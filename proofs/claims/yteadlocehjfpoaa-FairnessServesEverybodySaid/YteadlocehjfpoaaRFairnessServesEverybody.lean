/- The law FairnessServesEverybody answers true at every input, and what came in reads as it did. No condition. -/
import Derived.Test.YteadlocehjfpoaaL21d
import Derived.Test.YteadlocehjfpoaaRows
import Derived.WalkKit
import Derived.ProofKit
import Derived.SizedLaws
namespace Go.Proofs.Yteadlocehjfpoaa
open Go Go.Fw G Go.ChangeShapes Go.WideShapes Go.ChangeAt Go.RowKit

theorem ownFairnessServesEverybody : ownKnob Try.prog.godebug = none := by kernel_rfl
theorem laidOutFairnessServesEverybody : laidOutB Try.prog = true := by kernel_rfl

theorem liftedFairnessServesEverybody (os : Os) (started : os.Started) (H : Type) (enc : TypeId × Value → H) :
    ReturnsInHanded {} Try.checked os 6 .any (Rows.fairnessServesEverybodySpec.pre6 enc Try.prog Try.f6 Rows.fairnessServesEverybodyRow.domain false) (Rows.fairnessServesEverybodySpec.post enc Try.prog Try.f6 false true false false) := by
  refine returnsInHanded_of_change_sized (C := Try.checked) ownFairnessServesEverybody started (by kernel_rfl) Try.func6
    (ChangeSpec.witness6 (enc := enc) (C := Try.checked) false ⟨#[], #[.agg #[.slice none 0 0, .slice none 0 0], .slice none 0 0, .int .i64 0, .slice none 0 0], []⟩ 8 (by kernel_rfl) (by kernel_rfl) (by kernel_rfl) (by kernel_rfl)) ?_
  intro W base args ds gs before hval hW hcnd hsz0 _
  exact law_post (P := Try.prog) (s := Rows.fairnessServesEverybodySpec) (fn := Try.f6) (f := 6) (gs := [(.pair (.slice (.int .u32)) (.pair (.slice (.slice (.pair (.int .u32) (.pair (.int .i64) .unit)))) .unit)), (.slice .bool), (.int .i64), (.slice (.int .u8))]) (nt := 199) (lf := fun K x => G.law21_FairnessServesEverybody K x.1.1 x.1.2.1 x.1.2.2.1 x.1.2.2.2.1) (tb := 4)
    rfl (fun ds h => by
      match ds, h with
      | [a, b, c, d], _ => rfl) (by kernel_rfl) Try.underlying4 laidOutFairnessServesEverybody (by kernel_rfl) (fun K => G.law_law21_FairnessServesEverybody K) (fun x hx => G.pure_law21_FairnessServesEverybody x hx) (by kernel_rfl) hval hW

theorem holdsFairnessServesEverybody : Rows.FairnessServesEverybodySaid :=
  OpenClaim.holds_of_wide 6 Try.f6 rfl rfl rfl rfl rfl rfl rfl ⟨rfl, rfl, rfl, rfl, rfl⟩ rfl rfl rfl rfl rfl (by kernel_rfl) Try.func6 (by kernel_rfl)
    (of_decide_eq_true (by kernel_rfl)) (by unfold Func.isWrapper; first | (rw [if_pos (by decide +kernel)]; kernel_rfl) | (rw [if_neg (by decide +kernel)]; exact ⟨rfl, rfl⟩))
    (fun os started H enc _ => liftedFairnessServesEverybody os started H enc)
#print axioms holdsFairnessServesEverybody
end Go.Proofs.Yteadlocehjfpoaa
