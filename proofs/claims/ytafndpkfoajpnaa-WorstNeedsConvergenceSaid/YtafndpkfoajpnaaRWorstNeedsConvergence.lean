/- The law WorstNeedsConvergence answers true at every input, and what came in reads as it did. No condition. -/
import Derived.Test.YtafndpkfoajpnaaL20e
import Derived.Test.YtafndpkfoajpnaaRows
import Derived.WalkKit
import Derived.ProofKit
import Derived.SizedLaws
namespace Go.Proofs.Ytafndpkfoajpnaa
open Go Go.Fw G Go.ChangeShapes Go.WideShapes Go.ChangeAt Go.RowKit

theorem ownWorstNeedsConvergence : ownKnob Try.prog.godebug = none := by kernel_rfl
theorem laidOutWorstNeedsConvergence : laidOutB Try.prog = true := by kernel_rfl

theorem liftedWorstNeedsConvergence (os : Os) (started : os.Started) (H : Type) (enc : TypeId × Value → H) :
    ReturnsInHanded {} Try.checked os 9 .any (Rows.worstNeedsConvergenceSpec.pre6 enc Try.prog Try.f9 Rows.worstNeedsConvergenceRow.domain false) (Rows.worstNeedsConvergenceSpec.post enc Try.prog Try.f9 false true false false) := by
  refine returnsInHanded_of_change_sized (C := Try.checked) ownWorstNeedsConvergence started (by kernel_rfl) Try.func9
    (ChangeSpec.witness6 (enc := enc) (C := Try.checked) false ⟨#[], #[.agg #[.slice none 0 0, .slice none 0 0], .slice none 0 0, .int .i64 0], []⟩ 8 (by kernel_rfl) (by kernel_rfl) (by kernel_rfl) (by kernel_rfl)) ?_
  intro W base args ds gs before hval hW hcnd hsz0 _
  exact law_post (P := Try.prog) (s := Rows.worstNeedsConvergenceSpec) (fn := Try.f9) (f := 9) (gs := [(.pair (.slice (.int .u32)) (.pair (.slice (.slice (.pair (.int .u32) (.pair (.int .i64) .unit)))) .unit)), (.slice .bool), (.int .i64)]) (nt := 98) (lf := fun K x => G.law20_WorstNeedsConvergence K x.1.1 x.1.2.1 x.1.2.2.1) (tb := 4)
    rfl (fun ds h => by
      match ds, h with
      | [a, b, c], _ => rfl) (by kernel_rfl) Try.underlying4 laidOutWorstNeedsConvergence (by kernel_rfl) (fun K => G.law_law20_WorstNeedsConvergence K) (fun x hx => G.pure_law20_WorstNeedsConvergence x hx) (by kernel_rfl) hval hW

theorem holdsWorstNeedsConvergence : Rows.WorstNeedsConvergenceSaid :=
  OpenClaim.holds_of_wide 9 Try.f9 rfl rfl rfl rfl rfl rfl rfl ⟨rfl, rfl, rfl, rfl, rfl⟩ rfl rfl rfl rfl rfl (by kernel_rfl) Try.func9 (by kernel_rfl)
    (of_decide_eq_true (by kernel_rfl)) (by unfold Func.isWrapper; first | (rw [if_pos (by decide +kernel)]; kernel_rfl) | (rw [if_neg (by decide +kernel)]; exact ⟨rfl, rfl⟩))
    (fun os started H enc _ => liftedWorstNeedsConvergence os started H enc)
#print axioms holdsWorstNeedsConvergence
end Go.Proofs.Ytafndpkfoajpnaa
