import Derived.Test.YtmndmapbojhnmaaP3
namespace Go.Proofs.Ytmndmapbojhnmaa.G
open Go Go.Fw

theorem mask_bit (i : Nat) : (4278190080 : Nat).testBit i = (decide (i < 32) && !decide (i < 24)) := by
  have e : (4278190080 : Nat) = 2 ^ 32 - (16777215 + 1) := rfl
  rw [e, Nat.testBit_two_pow_sub_succ (by decide), show (16777215 : Nat) = 2 ^ 24 - 1 from rfl, Nat.testBit_two_pow_sub_one]

theorem mask_zero {p : Nat} (hp : p < 4294967296) : p &&& 4278190080 = 0 ↔ p < 16777216 := by
  constructor
  · intro h
    rcases Nat.lt_or_ge p 16777216 with h1 | h1
    · exact h1
    · exfalso
      obtain ⟨i, hi, hb⟩ := Nat.exists_ge_and_testBit_of_ge_two_pow (n := 24) (x := p) (by simpa using h1)
      have hlt : i < 32 := by
        rcases Nat.lt_or_ge i 32 with h2 | h2
        · exact h2
        · rw [Nat.testBit_lt_two_pow (Nat.lt_of_lt_of_le hp (by rw [show (4294967296 : Nat) = 2 ^ 32 from rfl]; exact Nat.pow_le_pow_right (by omega) h2))] at hb
          simp at hb
      have : (p &&& 4278190080).testBit i = true := by rw [Nat.testBit_and, hb, mask_bit]; simp [hlt]; omega
      rw [h] at this
      simp at this
  · intro h
    apply Nat.eq_of_testBit_eq
    intro i
    rw [Nat.testBit_and, mask_bit]
    rcases Nat.lt_or_ge i 24 with h2 | h2
    · simp [h2]
    · rw [Nat.testBit_lt_two_pow (Nat.lt_of_lt_of_le h (by rw [show (16777216 : Nat) = 2 ^ 24 from rfl]; exact Nat.pow_le_pow_right (by omega) h2))]
      simp

theorem iandNot24 {p : Nat} (hp : p < 4294967296) : decide (iandNot .u32 (p : Int) 16777215 = 0) = decide (p < 16777216) := by
  have e : iandNot .u32 (p : Int) 16777215 = ((p &&& 4278190080 : Nat) : Int) := iandNot_nat (b := 16777215) hp (by omega)
  rw [e]
  have := mask_zero hp
  by_cases h : p < 16777216
  · simp [h, this.2 h]
  · have h2 : ¬ (p &&& 4278190080 = 0) := fun hh => h (this.1 hh)
    simp [h, h2]

theorem ishr24 {p : Nat} : decide (ishr .u32 (p : Int) 24 = 0) = decide (p < 16777216) := by
  have e : ishr .u32 (p : Int) 24 = ((p >>> 24 : Nat) : Int) := ishr_nat p 24 (by omega)
  rw [e, Nat.shiftRight_eq_div_pow]
  by_cases h : p < 16777216
  · simp [h, Nat.div_eq_of_lt (show p < 2 ^ 24 by simpa using h)]
  · have : ¬ (p / 2 ^ 24 = 0) := by omega
    simp [h]; omega

theorem f18_one (n : Nat) (p : Nat) : f18 (n + 3) [(p : Int)] = some ((decide (p < 16777216), ()), ()) := by
  have h := ishr24 (p := p)
  by_cases hp : p < 16777216
  · rw [f18_1 n hp]; simp [hp]
  · have h1 : ¬ ishr .u32 (p : Int) 24 = 0 := by intro hh; rw [hh] at h; simp [hp] at h
    simp [f18, f18_26, rdl, h1, hp]

theorem f18_two (n : Nat) (a b : Nat) : f18 (n + 3) [(a : Int), (b : Int)] = some ((decide (a < 16777216) && decide (b < 16777216), ()), ()) := by
  have ha := ishr24 (p := a)
  have hb := ishr24 (p := b)
  by_cases h1 : a < 16777216
  · by_cases h2 : b < 16777216
    · rw [f18_2 n h1 h2]; simp [h1, h2]
    · have e1 : ishr .u32 (a : Int) 24 = 0 := small h1
      have e2 : ¬ ishr .u32 (b : Int) 24 = 0 := by intro hh; rw [hh] at hb; simp [h2] at hb
      simp [f18, f18_26, rdl, e1, e2, h1, h2, IntWalk.i64_in]
  · have e1 : ¬ ishr .u32 (a : Int) 24 = 0 := by intro hh; rw [hh] at ha; simp [h1] at ha
    simp [f18, f18_26, rdl, e1, h1]
end Go.Proofs.Ytmndmapbojhnmaa.G
