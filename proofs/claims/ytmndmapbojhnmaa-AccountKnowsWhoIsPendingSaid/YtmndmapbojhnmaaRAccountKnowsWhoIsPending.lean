/- The law AccountKnowsWhoIsPending answers true at every input, and what came in reads as it did. No condition. -/
import Derived.Test.YtmndmapbojhnmaaL16Rounds
import Derived.Test.YtmndmapbojhnmaaRows
import Derived.WalkKit
import Derived.ProofKit
import Derived.SizedLaws
namespace Go.Proofs.Ytmndmapbojhnmaa
open Go Go.Fw G Go.ChangeShapes Go.WideShapes Go.ChangeAt Go.RowKit

theorem ownAccountKnowsWhoIsPending : ownKnob Try.prog.godebug = none := by kernel_rfl
theorem laidOutAccountKnowsWhoIsPending : laidOutB Try.prog = true := by kernel_rfl

theorem liftedAccountKnowsWhoIsPending (os : Os) (started : os.Started) (H : Type) (enc : TypeId × Value → H) :
    ReturnsInHanded {} Try.checked os 6 .any (Rows.accountKnowsWhoIsPendingSpec.pre6 enc Try.prog Try.f6 Rows.accountKnowsWhoIsPendingRow.domain false) (Rows.accountKnowsWhoIsPendingSpec.post enc Try.prog Try.f6 false true false false) := by
  refine returnsInHanded_of_change_sized (C := Try.checked) ownAccountKnowsWhoIsPending started (by kernel_rfl) Try.func6
    (ChangeSpec.witness6 (enc := enc) (C := Try.checked) false ⟨#[], #[.int .u32 0, .slice none 0 0], []⟩ 8 (by kernel_rfl) (by kernel_rfl) (by kernel_rfl) (by kernel_rfl)) ?_
  intro W base args ds gs before hval hW hcnd hsz0 _
  exact law_post (P := Try.prog) (s := Rows.accountKnowsWhoIsPendingSpec) (fn := Try.f6) (f := 6) (gs := [(.int .u32), (.slice (.pair (.int .u32) (.pair (.int .u32) .unit)))]) (nt := 85) (lf := fun K x => G.law16_AccountKnowsWhoIsPending K x.1.1 x.1.2.1) (tb := 4)
    rfl (fun ds h => by
      match ds, h with
      | [a, b], _ => rfl) (by kernel_rfl) Try.underlying4 laidOutAccountKnowsWhoIsPending (by kernel_rfl) (fun K => G.law_law16_AccountKnowsWhoIsPending K) (fun x hx => G.pure_law16_AccountKnowsWhoIsPending x hx) (by kernel_rfl) hval hW

theorem holdsAccountKnowsWhoIsPending : Rows.AccountKnowsWhoIsPendingSaid :=
  OpenClaim.holds_of_wide 6 Try.f6 rfl rfl rfl rfl rfl rfl rfl ⟨rfl, rfl, rfl, rfl, rfl⟩ rfl rfl rfl rfl rfl (by kernel_rfl) Try.func6 (by kernel_rfl)
    (of_decide_eq_true (by kernel_rfl)) (by unfold Func.isWrapper; first | (rw [if_pos (by decide +kernel)]; kernel_rfl) | (rw [if_neg (by decide +kernel)]; exact ⟨rfl, rfl⟩))
    (fun os started H enc _ => liftedAccountKnowsWhoIsPending os started H enc)
#print axioms holdsAccountKnowsWhoIsPending
end Go.Proofs.Ytmndmapbojhnmaa
