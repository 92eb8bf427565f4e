/- The law WorstCountsRounds answers true at every input, and what came in reads as it did. No condition. -/
import Derived.Test.YtafndpkfoajpnaaL20g
import Derived.Test.YtafndpkfoajpnaaRows
import Derived.WalkKit
import Derived.ProofKit
import Derived.SizedLaws
namespace Go.Proofs.Ytafndpkfoajpnaa
open Go Go.Fw G Go.ChangeShapes Go.WideShapes Go.ChangeAt Go.RowKit

theorem ownWorstCountsRounds : ownKnob Try.prog.godebug = none := by kernel_rfl
theorem laidOutWorstCountsRounds : laidOutB Try.prog = true := by kernel_rfl

theorem liftedWorstCountsRounds (os : Os) (started : os.Started) (H : Type) (enc : TypeId × Value → H) :
    ReturnsInHanded {} Try.checked os 3 .any (Rows.worstCountsRoundsSpec.pre6 enc Try.prog Try.f3 Rows.worstCountsRoundsRow.domain false) (Rows.worstCountsRoundsSpec.post enc Try.prog Try.f3 false true false false) := by
  refine returnsInHanded_of_change_sized (C := Try.checked) ownWorstCountsRounds started (by kernel_rfl) Try.func3
    (ChangeSpec.witness6 (enc := enc) (C := Try.checked) false ⟨#[], #[.agg #[.slice none 0 0, .slice none 0 0], .slice none 0 0], []⟩ 8 (by kernel_rfl) (by kernel_rfl) (by kernel_rfl) (by kernel_rfl)) ?_
  intro W base args ds gs before hval hW hcnd hsz0 _
  exact law_post (P := Try.prog) (s := Rows.worstCountsRoundsSpec) (fn := Try.f3) (f := 3) (gs := [(.pair (.slice (.int .u32)) (.pair (.slice (.slice (.pair (.int .u32) (.pair (.int .i64) .unit)))) .unit)), (.slice .bool)]) (nt := 42) (lf := fun K x => G.law20_WorstCountsRounds K x.1.1 x.1.2.1) (tb := 4)
    rfl (fun ds h => by
      match ds, h with
      | [a, b], _ => rfl) (by kernel_rfl) Try.underlying4 laidOutWorstCountsRounds (by kernel_rfl) (fun K => G.law_law20_WorstCountsRounds K) (fun x hx => G.pure_law20_WorstCountsRounds x hx) (by kernel_rfl) hval hW

theorem holdsWorstCountsRounds : Rows.WorstCountsRoundsSaid :=
  OpenClaim.holds_of_wide 3 Try.f3 rfl rfl rfl rfl rfl rfl rfl ⟨rfl, rfl, rfl, rfl, rfl⟩ rfl rfl rfl rfl rfl (by kernel_rfl) Try.func3 (by kernel_rfl)
    (of_decide_eq_true (by kernel_rfl)) (by unfold Func.isWrapper; first | (rw [if_pos (by decide +kernel)]; kernel_rfl) | (rw [if_neg (by decide +kernel)]; exact ⟨rfl, rfl⟩))
    (fun os started H enc _ => liftedWorstCountsRounds os started H enc)
#print axioms holdsWorstCountsRounds
end Go.Proofs.Ytafndpkfoajpnaa
