/- The law AccountStaysValid answers true at every input, and what came in reads as it did. No condition. -/
import Derived.Test.YtmndmapbojhnmaaL16Stays
import Derived.Test.YtmndmapbojhnmaaRows
import Derived.WalkKit
import Derived.ProofKit
import Derived.SizedLaws
namespace Go.Proofs.Ytmndmapbojhnmaa
open Go Go.Fw G Go.ChangeShapes Go.WideShapes Go.ChangeAt Go.RowKit

theorem ownAccountStaysValid : ownKnob Try.prog.godebug = none := by kernel_rfl
theorem laidOutAccountStaysValid : laidOutB Try.prog = true := by kernel_rfl

theorem liftedAccountStaysValid (os : Os) (started : os.Started) (H : Type) (enc : TypeId × Value → H) :
    ReturnsInHanded {} Try.checked os 4 .any (Rows.accountStaysValidSpec.pre6 enc Try.prog Try.f4 Rows.accountStaysValidRow.domain false) (Rows.accountStaysValidSpec.post enc Try.prog Try.f4 false true false false) := by
  refine returnsInHanded_of_change_sized (C := Try.checked) ownAccountStaysValid started (by kernel_rfl) Try.func4
    (ChangeSpec.witness6 (enc := enc) (C := Try.checked) false ⟨#[], #[.agg #[.int .i64 0, .int .i64 0, .int .i64 0, .int .i64 0, .int .u32 0], .int .u32 0, .int .u32 0], []⟩ 8 (by kernel_rfl) (by kernel_rfl) (by kernel_rfl) (by kernel_rfl)) ?_
  intro W base args ds gs before hval hW hcnd hsz0 _
  exact law_post (P := Try.prog) (s := Rows.accountStaysValidSpec) (fn := Try.f4) (f := 4) (gs := [(.pair (.int .i64) (.pair (.int .i64) (.pair (.int .i64) (.pair (.int .i64) (.pair (.int .u32) .unit))))), (.int .u32), (.int .u32)]) (nt := 92) (lf := fun K x => G.law16_AccountStaysValid K x.1.1 x.1.2.1 x.1.2.2.1) (tb := 4)
    rfl (fun ds h => by
      match ds, h with
      | [a, b, c], _ => rfl) (by kernel_rfl) Try.underlying4 laidOutAccountStaysValid (by kernel_rfl) (fun K => G.law_law16_AccountStaysValid K) (fun x hx => G.pure_law16_AccountStaysValid x hx) (by kernel_rfl) hval hW

theorem holdsAccountStaysValid : Rows.AccountStaysValidSaid :=
  OpenClaim.holds_of_wide 4 Try.f4 rfl rfl rfl rfl rfl rfl rfl ⟨rfl, rfl, rfl, rfl, rfl⟩ rfl rfl rfl rfl rfl (by kernel_rfl) Try.func4 (by kernel_rfl)
    (of_decide_eq_true (by kernel_rfl)) (by unfold Func.isWrapper; first | (rw [if_pos (by decide +kernel)]; kernel_rfl) | (rw [if_neg (by decide +kernel)]; exact ⟨rfl, rfl⟩))
    (fun os started H enc _ => liftedAccountStaysValid os started H enc)
#print axioms holdsAccountStaysValid
end Go.Proofs.Ytmndmapbojhnmaa
