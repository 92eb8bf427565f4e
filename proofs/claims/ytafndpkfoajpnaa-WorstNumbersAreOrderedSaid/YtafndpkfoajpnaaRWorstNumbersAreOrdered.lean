/- The law WorstNumbersAreOrdered answers true at every input, and what came in reads as it did. No condition. -/
import Derived.Test.YtafndpkfoajpnaaL20e
import Derived.Test.YtafndpkfoajpnaaRows
import Derived.WalkKit
import Derived.ProofKit
import Derived.SizedLaws
namespace Go.Proofs.Ytafndpkfoajpnaa
open Go Go.Fw G Go.ChangeShapes Go.WideShapes Go.ChangeAt Go.RowKit

theorem ownWorstNumbersAreOrdered : ownKnob Try.prog.godebug = none := by kernel_rfl
theorem laidOutWorstNumbersAreOrdered : laidOutB Try.prog = true := by kernel_rfl

theorem liftedWorstNumbersAreOrdered (os : Os) (started : os.Started) (H : Type) (enc : TypeId × Value → H) :
    ReturnsInHanded {} Try.checked os 7 .any (Rows.worstNumbersAreOrderedSpec.pre6 enc Try.prog Try.f7 Rows.worstNumbersAreOrderedRow.domain false) (Rows.worstNumbersAreOrderedSpec.post enc Try.prog Try.f7 false true false false) := by
  refine returnsInHanded_of_change_sized (C := Try.checked) ownWorstNumbersAreOrdered started (by kernel_rfl) Try.func7
    (ChangeSpec.witness6 (enc := enc) (C := Try.checked) false ⟨#[], #[.agg #[.slice none 0 0, .slice none 0 0], .slice none 0 0], []⟩ 8 (by kernel_rfl) (by kernel_rfl) (by kernel_rfl) (by kernel_rfl)) ?_
  intro W base args ds gs before hval hW hcnd hsz0 _
  exact law_post (P := Try.prog) (s := Rows.worstNumbersAreOrderedSpec) (fn := Try.f7) (f := 7) (gs := [(.pair (.slice (.int .u32)) (.pair (.slice (.slice (.pair (.int .u32) (.pair (.int .i64) .unit)))) .unit)), (.slice .bool)]) (nt := 122) (lf := fun K x => G.law20_WorstNumbersAreOrdered K x.1.1 x.1.2.1) (tb := 4)
    rfl (fun ds h => by
      match ds, h with
      | [a, b], _ => rfl) (by kernel_rfl) Try.underlying4 laidOutWorstNumbersAreOrdered (by kernel_rfl) (fun K => G.law_law20_WorstNumbersAreOrdered K) (fun x hx => G.pure_law20_WorstNumbersAreOrdered x hx) (by kernel_rfl) hval hW

theorem holdsWorstNumbersAreOrdered : Rows.WorstNumbersAreOrderedSaid :=
  OpenClaim.holds_of_wide 7 Try.f7 rfl rfl rfl rfl rfl rfl rfl ⟨rfl, rfl, rfl, rfl, rfl⟩ rfl rfl rfl rfl rfl (by kernel_rfl) Try.func7 (by kernel_rfl)
    (of_decide_eq_true (by kernel_rfl)) (by unfold Func.isWrapper; first | (rw [if_pos (by decide +kernel)]; kernel_rfl) | (rw [if_neg (by decide +kernel)]; exact ⟨rfl, rfl⟩))
    (fun os started H enc _ => liftedWorstNumbersAreOrdered os started H enc)
#print axioms holdsWorstNumbersAreOrdered
end Go.Proofs.Ytafndpkfoajpnaa
