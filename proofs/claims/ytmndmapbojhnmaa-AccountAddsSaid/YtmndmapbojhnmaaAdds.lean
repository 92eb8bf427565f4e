/- The law AccountAdds answers true at every input, and what came in reads as it did. No condition. -/
import Derived.Test.YtmndmapbojhnmaaP6
import Derived.Test.YtmndmapbojhnmaaRows
import Derived.WalkKit
import Derived.ProofKit
import Derived.SizedLaws
namespace Go.Proofs.Ytmndmapbojhnmaa.G
open Go Go.Fw

abbrev accT : GTy := .pair (.int .i64) (.pair (.int .i64) (.pair (.int .i64) (.pair (.int .i64) (.pair (.int .u32) .unit))))

theorem beq_acc (x : Int × (Int × (Int × (Int × (Int × Unit))))) : GTy.beq (.pair (.int .i64) (.pair (.int .i64) (.pair (.int .i64) (.pair (.int .i64) (.pair (.int .u32) .unit))))) x x = true := by
  simp [GTy.beq]

theorem pure3 : ∀ x, okS [accT, .int .u32, .int .u32] 0 x → ∃ K, f3 K x.1 x.2.1 x.2.2.1 = some ((true, ()), ()) := by
  rintro ⟨⟨t, m, r, q, p0, _⟩, x1, x2, _⟩ ⟨⟨ht, hm, hr, hq, h0, _⟩, h1, h2, _⟩
  obtain ⟨p, rfl, hp⟩ := nat_of_u32 h0
  obtain ⟨a, rfl, ha⟩ := nat_of_u32 h1
  obtain ⟨b, rfl, hb⟩ := nat_of_u32 h2
  refine ⟨0 + 33, ?_⟩
  obtain ⟨y, e8, e9⟩ := f8_f9 0 t m r q hp ha hb
  obtain ⟨v, e11, e12, _⟩ := f11_f12 8 t m r q hp
  have e10 := f10_ok 30
  have e15 := f15_24 8
  have e13 := f13_ok (0 + 33) hb
  have hand : iand .u32 (b : Int) 16777215 = ((b &&& 16777215 : Nat) : Int) := iand_nat (b := 16777215) hb (by omega)
  show f3 (0 + 33) (t, (m, (r, (q, ((p : Int), ()))))) (a : Int) (b : Int) = _
  unfold f3
  rw [e8, e9, show (0 : Nat) + 33 = 30 + 3 from rfl, e10]
  simp only [Option.bind_some, if_true]
  rw [show (30 : Nat) + 3 = 8 + 25 from rfl, e11, e12, show (8 : Nat) + 25 = 0 + 33 from rfl, e13]
  simp only [Option.bind_some, f14]
  rw [show (0 : Nat) + 33 = 8 + 25 from rfl, e15]
  simp only [Option.bind_some, hand]
  have hbv : GTy.beq .bool v v = true := by simp [GTy.beq]
  rw [if_pos hbv]
  refine (if_pos (beq_acc (Acc.v ⟨0, 0, 0, 0, b &&& 16777215⟩))).trans ?_
  refine (if_pos (beq_acc _)).trans ?_
  simp
end Go.Proofs.Ytmndmapbojhnmaa.G
namespace Go.Proofs.Ytmndmapbojhnmaa
open Go Go.Fw G Go.ChangeShapes Go.WideShapes Go.ChangeAt Go.RowKit

theorem own : ownKnob Try.prog.godebug = none := by kernel_rfl
theorem laidOut : laidOutB Try.prog = true := by kernel_rfl

theorem lifted3 (os : Os) (started : os.Started) (H : Type) (enc : TypeId × Value → H) :
    ReturnsInHanded {} Try.checked os 3 .any (Rows.accountAddsSpec.pre6 enc Try.prog Try.f3 Rows.accountAddsRow.domain false) (Rows.accountAddsSpec.post enc Try.prog Try.f3 false true false false) := by
  refine returnsInHanded_of_change_sized (C := Try.checked) own started (by kernel_rfl) Try.func3
    (ChangeSpec.witness6 (enc := enc) (C := Try.checked) false ⟨#[], #[.agg #[.int .i64 0, .int .i64 0, .int .i64 0, .int .i64 0, .int .u32 0], .int .u32 0, .int .u32 0], []⟩ 8 (by kernel_rfl) (by kernel_rfl) (by kernel_rfl) (by kernel_rfl)) ?_
  intro W base args ds gs before hval hW hcnd hsz0 _
  exact law_post (P := Try.prog) (s := Rows.accountAddsSpec) (fn := Try.f3) (f := 3) (gs := [accT, .int .u32, .int .u32]) (nt := 50) (lf := fun K x => f3 K x.1.1 x.1.2.1 x.1.2.2.1) (tb := 4)
    rfl (fun ds h => by
      match ds, h with
      | [a, b, c], _ => rfl) (by kernel_rfl) Try.underlying4 laidOut (by kernel_rfl) (fun K => s_f3 K (base14 K)) (fun x hx => pure3 x hx) (by kernel_rfl) hval hW

theorem adds_holds : Rows.AccountAddsSaid :=
  OpenClaim.holds_of_wide 3 Try.f3 rfl rfl rfl rfl rfl rfl rfl ⟨rfl, rfl, rfl, rfl, rfl⟩ rfl rfl rfl rfl rfl (by kernel_rfl) Try.func3 (by kernel_rfl)
    (of_decide_eq_true (by kernel_rfl)) (by unfold Func.isWrapper; first | (rw [if_pos (by decide +kernel)]; kernel_rfl) | (rw [if_neg (by decide +kernel)]; exact ⟨rfl, rfl⟩))
    (fun os started H enc _ => lifted3 os started H enc)
#print axioms adds_holds
end Go.Proofs.Ytmndmapbojhnmaa
