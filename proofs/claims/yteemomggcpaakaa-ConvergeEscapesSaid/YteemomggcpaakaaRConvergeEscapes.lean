/- The law ConvergeEscapes answers true at every input, and what came in reads as it did. No condition. -/
import Derived.Test.YteemomggcpaakaaL19e
import Derived.Test.YteemomggcpaakaaRows
import Derived.WalkKit
import Derived.ProofKit
import Derived.SizedLaws
namespace Go.Proofs.Yteemomggcpaakaa
open Go Go.Fw G Go.ChangeShapes Go.WideShapes Go.ChangeAt Go.RowKit

theorem ownConvergeEscapes : ownKnob Try.prog.godebug = none := by kernel_rfl
theorem laidOutConvergeEscapes : laidOutB Try.prog = true := by kernel_rfl

theorem liftedConvergeEscapes (os : Os) (started : os.Started) (H : Type) (enc : TypeId × Value → H) :
    ReturnsInHanded {} Try.checked os 8 .any (Rows.convergeEscapesSpec.pre6 enc Try.prog Try.f8 Rows.convergeEscapesRow.domain false) (Rows.convergeEscapesSpec.post enc Try.prog Try.f8 false true false false) := by
  refine returnsInHanded_of_change_sized (C := Try.checked) ownConvergeEscapes started (by kernel_rfl) Try.func8
    (ChangeSpec.witness6 (enc := enc) (C := Try.checked) false ⟨#[], #[.agg #[.slice none 0 0, .slice none 0 0], .slice none 0 0, .int .i64 0], []⟩ 8 (by kernel_rfl) (by kernel_rfl) (by kernel_rfl) (by kernel_rfl)) ?_
  intro W base args ds gs before hval hW hcnd hsz0 _
  exact law_post (P := Try.prog) (s := Rows.convergeEscapesSpec) (fn := Try.f8) (f := 8) (gs := [(.pair (.slice (.int .u32)) (.pair (.slice (.slice (.pair (.int .u32) (.pair (.int .i64) .unit)))) .unit)), (.slice .bool), (.int .i64)]) (nt := 50) (lf := fun K x => G.law19_ConvergeEscapes K x.1.1 x.1.2.1 x.1.2.2.1) (tb := 4)
    rfl (fun ds h => by
      match ds, h with
      | [a, b, c], _ => rfl) (by kernel_rfl) Try.underlying4 laidOutConvergeEscapes (by kernel_rfl) (fun K => G.law_law19_ConvergeEscapes K) (fun x hx => G.pure_law19_ConvergeEscapes x hx) (by kernel_rfl) hval hW

theorem holdsConvergeEscapes : Rows.ConvergeEscapesSaid :=
  OpenClaim.holds_of_wide 8 Try.f8 rfl rfl rfl rfl rfl rfl rfl ⟨rfl, rfl, rfl, rfl, rfl⟩ rfl rfl rfl rfl rfl (by kernel_rfl) Try.func8 (by kernel_rfl)
    (of_decide_eq_true (by kernel_rfl)) (by unfold Func.isWrapper; first | (rw [if_pos (by decide +kernel)]; kernel_rfl) | (rw [if_neg (by decide +kernel)]; exact ⟨rfl, rfl⟩))
    (fun os started H enc _ => liftedConvergeEscapes os started H enc)
#print axioms holdsConvergeEscapes
end Go.Proofs.Yteemomggcpaakaa
