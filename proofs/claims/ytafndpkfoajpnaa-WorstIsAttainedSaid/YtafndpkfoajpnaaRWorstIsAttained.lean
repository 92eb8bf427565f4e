/- The law WorstIsAttained answers true at every input, and what came in reads as it did. No condition. -/
import Derived.Test.YtafndpkfoajpnaaL20d
import Derived.Test.YtafndpkfoajpnaaRows
import Derived.WalkKit
import Derived.ProofKit
import Derived.SizedLaws
namespace Go.Proofs.Ytafndpkfoajpnaa
open Go Go.Fw G Go.ChangeShapes Go.WideShapes Go.ChangeAt Go.RowKit

theorem ownWorstIsAttained : ownKnob Try.prog.godebug = none := by kernel_rfl
theorem laidOutWorstIsAttained : laidOutB Try.prog = true := by kernel_rfl

theorem liftedWorstIsAttained (os : Os) (started : os.Started) (H : Type) (enc : TypeId × Value → H) :
    ReturnsInHanded {} Try.checked os 8 .any (Rows.worstIsAttainedSpec.pre6 enc Try.prog Try.f8 Rows.worstIsAttainedRow.domain false) (Rows.worstIsAttainedSpec.post enc Try.prog Try.f8 false true false false) := by
  refine returnsInHanded_of_change_sized (C := Try.checked) ownWorstIsAttained started (by kernel_rfl) Try.func8
    (ChangeSpec.witness6 (enc := enc) (C := Try.checked) false ⟨#[], #[.agg #[.slice none 0 0, .slice none 0 0], .slice none 0 0, .int .i64 0], []⟩ 8 (by kernel_rfl) (by kernel_rfl) (by kernel_rfl) (by kernel_rfl)) ?_
  intro W base args ds gs before hval hW hcnd hsz0 _
  exact law_post (P := Try.prog) (s := Rows.worstIsAttainedSpec) (fn := Try.f8) (f := 8) (gs := [(.pair (.slice (.int .u32)) (.pair (.slice (.slice (.pair (.int .u32) (.pair (.int .i64) .unit)))) .unit)), (.slice .bool), (.int .i64)]) (nt := 123) (lf := fun K x => G.law20_WorstIsAttained K x.1.1 x.1.2.1 x.1.2.2.1) (tb := 4)
    rfl (fun ds h => by
      match ds, h with
      | [a, b, c], _ => rfl) (by kernel_rfl) Try.underlying4 laidOutWorstIsAttained (by kernel_rfl) (fun K => G.law_law20_WorstIsAttained K) (fun x hx => G.pure_law20_WorstIsAttained x hx) (by kernel_rfl) hval hW

theorem holdsWorstIsAttained : Rows.WorstIsAttainedSaid :=
  OpenClaim.holds_of_wide 8 Try.f8 rfl rfl rfl rfl rfl rfl rfl ⟨rfl, rfl, rfl, rfl, rfl⟩ rfl rfl rfl rfl rfl (by kernel_rfl) Try.func8 (by kernel_rfl)
    (of_decide_eq_true (by kernel_rfl)) (by unfold Func.isWrapper; first | (rw [if_pos (by decide +kernel)]; kernel_rfl) | (rw [if_neg (by decide +kernel)]; exact ⟨rfl, rfl⟩))
    (fun os started H enc _ => liftedWorstIsAttained os started H enc)
#print axioms holdsWorstIsAttained
end Go.Proofs.Ytafndpkfoajpnaa
