import Derived.Test.YtmndmapbojhnmaaP4
namespace Go.Proofs.Ytmndmapbojhnmaa.G
open Go Go.Fw

theorem f11_f12 (n : Nat) (t m r q : Int) {p : Nat} (hp : p < 4294967296) : ∃ b, f11 (n + 25) (t, (m, (r, (q, ((p : Int), ()))))) = some ((b, ()), ()) ∧ f12 (n + 25) (t, (m, (r, (q, ((p : Int), ()))))) = some ((b, ()), ()) ∧
    (b = true → 0 ≤ r ∧ r ≤ q ∧ IntKind.i64.wrap (q - r) ≤ 1 ∧ q ≤ t ∧ t ≤ 4096 ∧ t ≤ m ∧ m ≤ IntKind.i64.wrap (24 * t) ∧ p < 16777216) := by
  have h18 := f18_one (n + 22) p
  rw [show n + 22 + 3 = n + 25 from rfl] at h18
  simp only [f11, f12, decide_eq_true_eq, h18, f15_24, Option.bind_some, iandNot24 hp]
  by_cases h1 : 0 ≤ r
  · rw [if_pos h1, if_neg (show ¬ r < 0 by omega)]
    by_cases h2 : r ≤ q
    · rw [if_pos h2, if_neg (show ¬ q < r by omega)]
      by_cases h3 : IntKind.i64.wrap (q - r) ≤ 1
      · rw [if_pos h3, if_neg (show ¬ 1 < IntKind.i64.wrap (q - r) by omega)]
        by_cases h4 : q ≤ t
        · rw [if_pos h4, if_neg (show ¬ t < q by omega)]
          by_cases h5 : t ≤ 4096
          · rw [if_pos h5]
            by_cases h6 : t ≤ m
            · rw [if_pos h6]
              by_cases h7 : m ≤ IntKind.i64.wrap (24 * t)
              · rw [if_pos h7]
                exact ⟨_, rfl, rfl, fun hb => ⟨h1, h2, h3, h4, h5, h6, h7, of_decide_eq_true hb⟩⟩
              · rw [if_neg h7]; exact ⟨_, rfl, rfl, by simp⟩
            · rw [if_neg h6]; exact ⟨_, rfl, rfl, by simp⟩
          · rw [if_neg h5]; exact ⟨_, rfl, rfl, by simp⟩
        · rw [if_neg h4, if_pos (show t < q by omega)]; exact ⟨_, rfl, rfl, by simp⟩
      · rw [if_neg h3, if_pos (show 1 < IntKind.i64.wrap (q - r) by omega)]; exact ⟨_, rfl, rfl, by simp⟩
    · rw [if_neg h2, if_pos (show q < r by omega)]; exact ⟨_, rfl, rfl, by simp⟩
  · rw [if_neg h1, if_pos (show r < 0 by omega)]; exact ⟨_, rfl, rfl, by simp⟩
end Go.Proofs.Ytmndmapbojhnmaa.G
