/- The law WorstBoundsEveryWalk answers true at every input, and what came in reads as it did. No condition. -/
import Derived.Test.YtafndpkfoajpnaaL20f
import Derived.Test.YtafndpkfoajpnaaRows
import Derived.WalkKit
import Derived.ProofKit
import Derived.SizedLaws
namespace Go.Proofs.Ytafndpkfoajpnaa
open Go Go.Fw G Go.ChangeShapes Go.WideShapes Go.ChangeAt Go.RowKit

theorem ownWorstBoundsEveryWalk : ownKnob Try.prog.godebug = none := by kernel_rfl
theorem laidOutWorstBoundsEveryWalk : laidOutB Try.prog = true := by kernel_rfl

theorem liftedWorstBoundsEveryWalk (os : Os) (started : os.Started) (H : Type) (enc : TypeId × Value → H) :
    ReturnsInHanded {} Try.checked os 10 .any (Rows.worstBoundsEveryWalkSpec.pre6 enc Try.prog Try.f10 Rows.worstBoundsEveryWalkRow.domain false) (Rows.worstBoundsEveryWalkSpec.post enc Try.prog Try.f10 false true false false) := by
  refine returnsInHanded_of_change_sized (C := Try.checked) ownWorstBoundsEveryWalk started (by kernel_rfl) Try.func10
    (ChangeSpec.witness6 (enc := enc) (C := Try.checked) false ⟨#[], #[.agg #[.slice none 0 0, .slice none 0 0], .slice none 0 0, .int .i64 0, .slice none 0 0], []⟩ 8 (by kernel_rfl) (by kernel_rfl) (by kernel_rfl) (by kernel_rfl)) ?_
  intro W base args ds gs before hval hW hcnd hsz0 _
  exact law_post (P := Try.prog) (s := Rows.worstBoundsEveryWalkSpec) (fn := Try.f10) (f := 10) (gs := [(.pair (.slice (.int .u32)) (.pair (.slice (.slice (.pair (.int .u32) (.pair (.int .i64) .unit)))) .unit)), (.slice .bool), (.int .i64), (.slice (.int .u8))]) (nt := 175) (lf := fun K x => G.law20_WorstBoundsEveryWalk K x.1.1 x.1.2.1 x.1.2.2.1 x.1.2.2.2.1) (tb := 4)
    rfl (fun ds h => by
      match ds, h with
      | [a, b, c, d], _ => rfl) (by kernel_rfl) Try.underlying4 laidOutWorstBoundsEveryWalk (by kernel_rfl) (fun K => G.law_law20_WorstBoundsEveryWalk K) (fun x hx => G.pure_law20_WorstBoundsEveryWalk x hx) (by kernel_rfl) hval hW

theorem holdsWorstBoundsEveryWalk : Rows.WorstBoundsEveryWalkSaid :=
  OpenClaim.holds_of_wide 10 Try.f10 rfl rfl rfl rfl rfl rfl rfl ⟨rfl, rfl, rfl, rfl, rfl⟩ rfl rfl rfl rfl rfl (by kernel_rfl) Try.func10 (by kernel_rfl)
    (of_decide_eq_true (by kernel_rfl)) (by unfold Func.isWrapper; first | (rw [if_pos (by decide +kernel)]; kernel_rfl) | (rw [if_neg (by decide +kernel)]; exact ⟨rfl, rfl⟩))
    (fun os started H enc _ => liftedWorstBoundsEveryWalk os started H enc)
#print axioms holdsWorstBoundsEveryWalk
end Go.Proofs.Ytafndpkfoajpnaa
