/- The law AccountOfSynchronousRuns answers true at every input, and what came in reads as it did. No condition. -/
import Derived.Test.YtmndmapbojhnmaaP2
import Derived.Test.YtmndmapbojhnmaaRows
import Derived.WalkKit
import Derived.ProofKit
import Derived.SizedLaws
namespace Go.Proofs.Ytmndmapbojhnmaa.G
open Go Go.Fw

theorem and_not_self {a : Nat} (h : a < 4294967296) : a &&& (4294967295 - a) = 0 := by
  apply Nat.eq_of_testBit_eq
  intro i
  have e : 4294967295 - a = 2 ^ 32 - (a + 1) := by omega
  rw [e, Nat.testBit_and, Nat.testBit_two_pow_sub_succ (by simpa using h)]
  cases a.testBit i <;> simp

theorem f7_loop (n : Nat) (l : List Int) (hl : l.length ≤ 100) (hx : ∀ y ∈ l, IntKind.u32.has y) : ∀ (d i k : Nat) (s : Acc), i + d = l.length → d < k → s.ok → s.t = i →
    f7_250 (n + 25) k l (s.p : Int) (i : Int) s.v = some (.inl ((), ())) := by
  intro d
  induction d with
  | zero =>
    intro i k s h1 h2 _ _
    obtain ⟨k, rfl⟩ : ∃ j, k = j + 1 := ⟨k - 1, by omega⟩
    simp only [f7_250, decide_eq_true_eq]
    rw [if_neg (show ¬ ((i : Int) < (l.length : Int)) by omega)]
  | succ d ih =>
    intro i k s h1 h2 hs ht
    obtain ⟨k, rfl⟩ : ∃ j, k = j + 1 := ⟨k - 1, by omega⟩
    by_cases h0 : s.p = 0
    · simp only [f7_250, decide_eq_true_eq]
      rw [if_pos (show (i : Int) < (l.length : Int) by omega), if_neg (by simp [h0])]
    · have hil : i < l.length := by omega
      obtain ⟨y, hy, hy2⟩ := nat_of_u32 (hx l[i] (List.getElem_mem hil))
      have hr : rdl (.int .u32) l (i : Int).toNat = (y : Int) := by simp [rdl, List.getD, hil, hy]
      have hb : y &&& 16777215 < 16777216 := by have : y &&& 16777215 ≤ 16777215 := Nat.and_le_right; omega
      have hand : iand .u32 (y : Int) 16777215 = ((y &&& 16777215 : Nat) : Int) := iand_nat (b := 16777215) hy2 (by omega)
      obtain ⟨g1, g2, g3, g4, g5, g6, g7⟩ := id hs
      have hpop := pop_le g7
      have hz : s.p &&& (4294967295 - s.p) &&& (y &&& 16777215) = 0 := by rw [and_not_self (by omega)]; simp
      have h8 := f8_ok (n + 22) hs (by omega) g7 h0 hb
      have hst : s.step s.p (y &&& 16777215) = { t := s.t + 1, m := s.m + pop s.p, r := s.r + 1, q := s.r + 1, p := y &&& 16777215 } := by unfold Acc.step; rw [if_pos hz]
      have wr := IntWalk.i64_in ((s.r : Int) + 1) ⟨by omega, by omega⟩
      have wi := IntWalk.i64_in ((i : Int) + 1) ⟨by omega, by omega⟩
      have hp1 := hpop.2 h0
      have hih := ih (i + 1) k { t := s.t + 1, m := s.m + pop s.p, r := s.r + 1, q := s.r + 1, p := y &&& 16777215 } (by omega) (by omega) ⟨Nat.le_refl _, Nat.le_succ _, by show s.r + 1 ≤ s.t + 1; omega, by show s.t + 1 ≤ 4096; omega, by show s.t + 1 ≤ s.m + pop s.p; omega, by show s.m + pop s.p ≤ 24 * (s.t + 1); omega, hb⟩ (by show s.t + 1 = i + 1; omega)
      rw [f7_250]
      rw [if_pos (by rw [decide_eq_true_eq]; omega), if_pos (by simp [h0]), if_pos (by rw [decide_eq_true_eq]; omega), f15_24, hr]
      simp only [Option.bind_some, hand]
      rw [show n + 25 = n + 22 + 3 from rfl, h8, hst]
      simp only [Option.bind_some, wi]
      rw [if_neg (by simp), if_neg (by simp [wr]), if_neg (by simp), if_neg (by simp)]
      exact hih

theorem pure7 : ∀ x, okS [.int .u32, .slice (.int .u32)] 0 x → ∃ K, f7 K x.1 x.2.1 = some ((true, ()), ()) := by
  rintro ⟨x0, l, _⟩ ⟨h0, ⟨hl, hx⟩, _⟩
  refine ⟨l.length + 126, ?_⟩
  obtain ⟨a, rfl, ha⟩ := nat_of_u32 h0
  show f7 (l.length + 126) (a : Int) l = _
  unfold f7
  by_cases h : 100 < l.length
  · rw [if_pos (by rw [decide_eq_true_eq]; omega), show l.length + 126 = (l.length + 123) + 3 from rfl, f10_ok]; rfl
  · rw [if_neg (by rw [decide_eq_true_eq]; omega), show l.length + 126 = (l.length + 101) + 25 from rfl, f15_24]
    have hand : iand .u32 (a : Int) 16777215 = ((a &&& 16777215 : Nat) : Int) := iand_nat (b := 16777215) ha (by omega)
    have hb : a &&& 16777215 ≤ 16777215 := Nat.and_le_right
    simp only [Option.bind_some, hand]
    rw [f13_ok _ (by omega)]
    have hbb : a &&& 16777215 &&& 16777215 = a &&& 16777215 := by rw [Nat.and_assoc, Nat.and_self]
    have hlp := f7_loop (l.length + 101) l (by omega) hx l.length 0 (l.length + 101 + 25) ⟨0, 0, 0, 0, a &&& 16777215⟩ (by omega) (by omega) ⟨Nat.le_refl _, Nat.zero_le _, Nat.le_refl _, Nat.zero_le _, Nat.le_refl _, Nat.zero_le _, by show a &&& 16777215 < 16777216; omega⟩ rfl
    simp only [Option.bind_some, hbb]
    rw [show (0 : Int) = ((0 : Nat) : Int) from rfl, hlp]
    simp only [Option.bind_some]
    rw [show l.length + 101 + 25 = (l.length + 123) + 3 from rfl, f10_ok]; rfl
end Go.Proofs.Ytmndmapbojhnmaa.G
namespace Go.Proofs.Ytmndmapbojhnmaa
open Go Go.Fw G Go.ChangeShapes Go.WideShapes Go.ChangeAt Go.RowKit

theorem own : ownKnob Try.prog.godebug = none := by kernel_rfl
theorem laidOut : laidOutB Try.prog = true := by kernel_rfl

theorem lifted7 (os : Os) (started : os.Started) (H : Type) (enc : TypeId × Value → H) :
    ReturnsInHanded {} Try.checked os 7 .any (Rows.accountOfSynchronousRunsSpec.pre6 enc Try.prog Try.f7 Rows.accountOfSynchronousRunsRow.domain false) (Rows.accountOfSynchronousRunsSpec.post enc Try.prog Try.f7 false true false false) := by
  refine returnsInHanded_of_change_sized (C := Try.checked) own started (by kernel_rfl) Try.func7
    (ChangeSpec.witness6 (enc := enc) (C := Try.checked) false ⟨#[], #[.int .u32 0, .slice none 0 0], []⟩ 8 (by kernel_rfl) (by kernel_rfl) (by kernel_rfl) (by kernel_rfl)) ?_
  intro W base args ds gs before hval hW hcnd hsz0 _
  exact law_post (P := Try.prog) (s := Rows.accountOfSynchronousRunsSpec) (fn := Try.f7) (f := 7) (gs := [.int .u32, .slice (.int .u32)]) (nt := 69) (lf := fun K x => f7 K x.1.1 x.1.2.1) (tb := 4)
    rfl (fun ds h => by
      match ds, h with
      | [a, b], _ => rfl) (by kernel_rfl) Try.underlying4 laidOut (by kernel_rfl) (fun K => s_f7 K (base6 K)) (fun x hx => pure7 x hx) (by kernel_rfl) hval hW

theorem ofRuns_holds : Rows.AccountOfSynchronousRunsSaid :=
  OpenClaim.holds_of_wide 7 Try.f7 rfl rfl rfl rfl rfl rfl rfl ⟨rfl, rfl, rfl, rfl, rfl⟩ rfl rfl rfl rfl rfl (by kernel_rfl) Try.func7 (by kernel_rfl)
    (of_decide_eq_true (by kernel_rfl)) (by unfold Func.isWrapper; first | (rw [if_pos (by decide +kernel)]; kernel_rfl) | (rw [if_neg (by decide +kernel)]; exact ⟨rfl, rfl⟩))
    (fun os started H enc _ => lifted7 os started H enc)
#print axioms ofRuns_holds
end Go.Proofs.Ytmndmapbojhnmaa
