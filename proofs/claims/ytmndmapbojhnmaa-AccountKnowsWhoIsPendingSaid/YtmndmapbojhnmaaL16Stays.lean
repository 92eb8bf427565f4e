/- The plain law of AccountStaysValid. -/
import Derived.Test.YtmndmapbojhnmaaAccount
namespace Go.Proofs.Ytmndmapbojhnmaa.G
open Go Go.Fw

abbrev accT4 : GTy := .pair (.int .i64) (.pair (.int .i64) (.pair (.int .i64) (.pair (.int .i64) (.pair (.int .u32) .unit))))

theorem step_ok {s : Acc} (h : s.ok) (ht : s.t < 4096) {a b : Nat} (ha : a < 16777216) (h0 : a ≠ 0) (hb : b < 16777216) : (s.step a b).ok := by
  have hp := pop_le ha
  have hp0 := hp.2 h0
  obtain ⟨h1, h2, h3, h4, h5, h6, h7⟩ := h
  have l1 : s.p &&& (4294967295 - a) &&& b ≤ s.p := Nat.le_trans Nat.and_le_left Nat.and_le_left
  unfold Acc.step
  split
  · exact ⟨Nat.le_refl _, Nat.le_succ _, by show s.r + 1 ≤ s.t + 1; omega, by show s.t + 1 ≤ 4096; omega, by show s.t + 1 ≤ s.m + pop a; omega, by show s.m + pop a ≤ 24 * (s.t + 1); omega, hb⟩
  · exact ⟨Nat.le_succ _, Nat.le_refl _, by show s.r + 1 ≤ s.t + 1; omega, by show s.t + 1 ≤ 4096; omega, by show s.t + 1 ≤ s.m + pop a; omega, by show s.m + pop a ≤ 24 * (s.t + 1); omega, by show s.p &&& (4294967295 - a) &&& b < 16777216; omega⟩

theorem acc_of {t m r q : Int} {p : Nat} (h : 0 ≤ r ∧ r ≤ q ∧ IntKind.i64.wrap (q - r) ≤ 1 ∧ q ≤ t ∧ t ≤ 4096 ∧ t ≤ m ∧ m ≤ IntKind.i64.wrap (24 * t) ∧ p < 16777216) :
    ∃ s : Acc, s.ok ∧ t = (s.t : Int) ∧ m = (s.m : Int) ∧ r = (s.r : Int) ∧ q = (s.q : Int) ∧ p = s.p := by
  obtain ⟨h1, h2, h3, h4, h5, h6, h7, h8⟩ := h
  rw [wrapI (by omega) (by omega)] at h3
  rw [wrapI (by omega) (by omega)] at h7
  refine ⟨⟨t.toNat, m.toNat, r.toNat, q.toNat, p⟩, ⟨?_, ?_, ?_, ?_, ?_, ?_, h8⟩, ?_, ?_, ?_, ?_, rfl⟩
  · show r.toNat ≤ q.toNat; omega
  · show q.toNat ≤ r.toNat + 1; omega
  · show q.toNat ≤ t.toNat; omega
  · show t.toNat ≤ 4096; omega
  · show t.toNat ≤ m.toNat; omega
  · show m.toNat ≤ 24 * t.toNat; omega
  · show t = ((t.toNat : Nat) : Int); omega
  · show m = ((m.toNat : Nat) : Int); omega
  · show r = ((r.toNat : Nat) : Int); omega
  · show q = ((q.toNat : Nat) : Int); omega

theorem mask_lt (b : Nat) : b &&& 16777215 < 16777216 := by
  have : b &&& 16777215 ≤ 16777215 := Nat.and_le_right
  omega

theorem pure_law16_AccountStaysValid : ∀ x, okS [accT4, .int .u32, .int .u32] 0 x → ∃ K, law16_AccountStaysValid K x.1 x.2.1 x.2.2.1 = some ((true, ()), ()) := by
  rintro ⟨⟨t, m, r, q, p0, _⟩, x1, x2, _⟩ ⟨⟨ht, hm, hr, hq, h0, _⟩, h1, h2, _⟩
  obtain ⟨p, rfl, hp⟩ := nat_of_u32 h0
  obtain ⟨a, rfl, ha⟩ := nat_of_u32 h1
  obtain ⟨b, rfl, hb⟩ := nat_of_u32 h2
  refine ⟨0 + 33, ?_⟩
  show law16_AccountStaysValid (0 + 33) (t, (m, (r, (q, ((p : Int), ()))))) (a : Int) (b : Int) = _
  obtain ⟨v, e11, e12, hv⟩ := f11_f12 8 t m r q hp
  have e15 := ref01_All_24 8
  have e10 := f10_ok 30
  rw [show (30 : Nat) + 3 = 0 + 33 from rfl] at e10
  rw [show (8 : Nat) + 25 = 0 + 33 from rfl] at e12 e15
  have ea : iand .u32 (a : Int) 16777215 = ((a &&& 16777215 : Nat) : Int) := iand_nat (b := 16777215) ha (by omega)
  have eb : iand .u32 (b : Int) 16777215 = ((b &&& 16777215 : Nat) : Int) := iand_nat (b := 16777215) hb (by omega)
  have la := mask_lt a
  have lb := mask_lt b
  unfold law16_AccountStaysValid
  simp only [e15, e12, e10, Option.bind_some, ea, eb]
  cases v with
  | false => rfl
  | true =>
    obtain ⟨s, hs, rfl, rfl, rfl, rfl, rfl⟩ := acc_of (hv rfl)
    simp only [Bool.not_true, Bool.false_eq_true, if_false]
    by_cases hz : a &&& 16777215 = 0
    · rw [if_pos (by rw [hz]; rfl)]
    · rw [if_neg (by simpa using hz)]
      by_cases h4 : s.t = 4096
      · rw [if_pos (by simp [h4])]
      · rw [if_neg (by simpa using (by omega : ¬ ((s.t : Int) = 4096)))]
        have ht4 : s.t < 4096 := by have := hs.t4; omega
        have e8 := f8_ok 30 hs ht4 la hz lb
        rw [show (30 : Nat) + 3 = 0 + 33 from rfl] at e8
        have hk := step_ok hs ht4 la hz lb
        have e11' := f11_ok 30 hk
        rw [show (30 : Nat) + 3 = 0 + 33 from rfl] at e11'
        have e16 := f16_pop 0 la
        simp only [Acc.v] at e8 e11'
        simp only [e8, Option.bind_some, if_true, decide_true, e11', e16]
        have hpop := pop_le la
        obtain ⟨g1, g2, g3, g4, g5, g6, g7⟩ := id hs
        have w1 := wrapS s.t (by omega)
        have w2 := wrapA s.m (pop (a &&& 16777215)) (by omega)
        have w3 := wrapS s.r (by omega)
        have w4 := wrapS s.q (by omega)
        have k1 : (s.step (a &&& 16777215) (b &&& 16777215)).t = s.t + 1 := by unfold Acc.step; split <;> rfl
        have k2 : (s.step (a &&& 16777215) (b &&& 16777215)).m = s.m + pop (a &&& 16777215) := by unfold Acc.step; split <;> rfl
        have k3 : (s.step (a &&& 16777215) (b &&& 16777215)).q = s.r + 1 := by unfold Acc.step; split <;> rfl
        have k4 : s.r ≤ (s.step (a &&& 16777215) (b &&& 16777215)).r ∧ (s.step (a &&& 16777215) (b &&& 16777215)).r ≤ s.r + 1 := by
          unfold Acc.step; split
          · exact ⟨Nat.le_succ _, Nat.le_refl _⟩
          · exact ⟨Nat.le_refl _, Nat.le_succ _⟩
        simp only [w1, w2, w3, w4, k1, k2, k3, decide_true, if_true]
        rw [if_pos (by rw [decide_eq_true_eq]; omega), if_pos (by rw [decide_eq_true_eq]; omega), if_pos (by rw [decide_eq_true_eq]; omega)]
        rw [decide_eq_true (by omega)]
end Go.Proofs.Ytmndmapbojhnmaa.G
