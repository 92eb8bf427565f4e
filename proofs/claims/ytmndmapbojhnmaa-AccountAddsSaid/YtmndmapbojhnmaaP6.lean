import Derived.Test.YtmndmapbojhnmaaP5
namespace Go.Proofs.Ytmndmapbojhnmaa.G
open Go Go.Fw

theorem lor_lt {a b : Nat} (ha : a < 4294967296) (hb : b < 4294967296) : decide ((a ||| b) < 16777216) = (decide (a < 16777216) && decide (b < 16777216)) := by
  by_cases h1 : a < 16777216
  · by_cases h2 : b < 16777216
    · have := Nat.or_lt_two_pow (n := 24) (x := a) (y := b) (by simpa using h1) (by simpa using h2)
      simp [h1, h2]; simpa using this
    · have : b ≤ a ||| b := Nat.right_le_or
      simp [h2]; omega
  · have : a ≤ a ||| b := Nat.left_le_or
    simp [h1]; omega

/-- the two steps are one -/
theorem f8_f9 (n : Nat) (t m r q : Int) {p a b : Nat} (hp : p < 4294967296) (ha : a < 4294967296) (hb : b < 4294967296) :
    ∃ y, f8 (n + 33) (t, (m, (r, (q, ((p : Int), ()))))) a b = some y ∧ f9 (n + 33) (t, (m, (r, (q, ((p : Int), ()))))) a b = some y := by
  obtain ⟨v, h11, h12, _⟩ := f11_f12 (n + 8) t m r q hp
  rw [show n + 8 + 25 = n + 33 from rfl] at h11 h12
  have h15 := f15_24 (n + 8)
  rw [show n + 8 + 25 = n + 33 from rfl] at h15
  have h18 := f18_two (n + 30) a b
  rw [show n + 30 + 3 = n + 33 from rfl] at h18
  have hor : ior .u32 (a : Int) (b : Int) = ((a ||| b : Nat) : Int) := ior_nat ha hb
  have hol : a ||| b < 4294967296 := Nat.or_lt_two_pow (n := 32) (by simpa using ha) (by simpa using hb)
  unfold f8 f9
  rw [h11, h12]
  simp only [Option.bind_some]
  cases v with
  | false => exact ⟨_, rfl, rfl⟩
  | true =>
    simp only [Bool.not_true, Bool.false_eq_true, if_false]
    by_cases h0 : (a : Int) = 0
    · simp only [h0, decide_true, if_true]
      exact ⟨_, rfl, rfl⟩
    · rw [if_neg (by simpa using h0), if_neg (by simpa using h0), h18, h15]
      simp only [Option.bind_some, hor, iandNot24 hol, lor_lt ha hb]
      cases hv : (decide (a < 16777216) && decide (b < 16777216)) with
      | false => exact ⟨_, rfl, rfl⟩
      | true =>
        simp only [Bool.and_eq_true, decide_eq_true_eq] at hv
        by_cases ht : t = 4096
        · simp only [f8_103, f9_103, ht, decide_true, Bool.not_true, Bool.false_eq_true, if_false, if_true]
          exact ⟨_, rfl, rfl⟩
        · simp only [f8_103, f9_103, decide_eq_true_eq, Bool.not_true, Bool.false_eq_true, if_false, ht, Option.bind_some, f8_7, f9_7]
          rw [f19_pop _ hv.1, f16_pop n hv.1]
          simp only [Option.bind_some, decide_eq_true_eq]
          split <;> exact ⟨_, rfl, rfl⟩
end Go.Proofs.Ytmndmapbojhnmaa.G
