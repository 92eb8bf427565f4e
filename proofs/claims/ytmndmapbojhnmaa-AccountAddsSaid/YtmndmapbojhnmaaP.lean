import Derived.Test.YtmndmapbojhnmaaG
namespace Go.Proofs.Ytmndmapbojhnmaa.G
open Go Go.Fw

theorem f15_24 (n : Nat) : f15 (n + 25) 24 = some ((16777215, ()), ()) := by kernel_rfl

theorem small {a : Nat} (h : a < 16777216) : ishr .u32 (a : Int) 24 = 0 := by
  have : ishr .u32 (a : Int) ((24 : Nat) : Int) = ((a >>> 24 : Nat) : Int) := ishr_nat a 24 (by omega)
  rw [show ((24 : Int)) = ((24 : Nat) : Int) from rfl, this, Nat.shiftRight_eq_div_pow]
  have : a / 2 ^ 24 = 0 := Nat.div_eq_of_lt (by simpa using h)
  simp [this]

theorem f18_1 (n : Nat) {a : Nat} (h : a < 16777216) : f18 (n + 3) [(a : Int)] = some ((true, ()), ()) := by
  have h0 := small h
  simp [f18, f18_26, rdl, h0, IntWalk.i64_in]

theorem f18_2 (n : Nat) {a b : Nat} (ha : a < 16777216) (hb : b < 16777216) : f18 (n + 3) [(a : Int), (b : Int)] = some ((true, ()), ()) := by
  have h0 := small ha
  have h1 := small hb
  simp [f18, f18_26, rdl, h0, h1, IntWalk.i64_in]

/-! The table of bits. -/
def tab (b : Nat) : Nat := (bytes0.data.toList.getD b 0).toNat
theorem tab_le : ∀ b, b < 256 → tab b ≤ 8 ∧ (tab b = 0 → b = 0) := by decide +kernel
theorem size0 : bytes0.size = 256 := by decide +kernel

/-- how many bits a set of 24 has -/
def pop (a : Nat) : Nat := tab (a >>> 24) + tab (a >>> 16 &&& 255) + tab (a >>> 8 &&& 255) + tab (a &&& 255)

theorem f19_pop (K : Nat) {a : Nat} (h : a < 16777216) : f19 K (a : Int) = some ((((pop a : Nat) : Int), ()), ()) := by
  have e24 : ishr .u32 (a : Int) 24 = ((a >>> 24 : Nat) : Int) := ishr_nat a 24 (by omega)
  have e16 : ishr .u32 (a : Int) 16 = ((a >>> 16 : Nat) : Int) := ishr_nat a 16 (by omega)
  have e8 : ishr .u32 (a : Int) 8 = ((a >>> 8 : Nat) : Int) := ishr_nat a 8 (by omega)
  have l24 : a >>> 24 = 0 := by rw [Nat.shiftRight_eq_div_pow]; exact Nat.div_eq_of_lt (by simpa using h)
  have l16 : a >>> 16 ≤ a := by rw [Nat.shiftRight_eq_div_pow]; exact Nat.div_le_self ..
  have l8 : a >>> 8 ≤ a := by rw [Nat.shiftRight_eq_div_pow]; exact Nat.div_le_self ..
  have i16 : iand .u32 ((a >>> 16 : Nat) : Int) 255 = ((a >>> 16 &&& 255 : Nat) : Int) := iand_nat (b := 255) (by omega) (by omega)
  have i8 : iand .u32 ((a >>> 8 : Nat) : Int) 255 = ((a >>> 8 &&& 255 : Nat) : Int) := iand_nat (b := 255) (by omega) (by omega)
  have i0 : iand .u32 (a : Int) 255 = ((a &&& 255 : Nat) : Int) := iand_nat (b := 255) (by omega) (by omega)
  have b16 : a >>> 16 &&& 255 ≤ 255 := Nat.and_le_right
  have b8 : a >>> 8 &&& 255 ≤ 255 := Nat.and_le_right
  have b0 : a &&& 255 ≤ 255 := Nat.and_le_right
  have t24 := tab_le (a >>> 24) (by omega)
  have t16 := tab_le (a >>> 16 &&& 255) (by omega)
  have t8 := tab_le (a >>> 8 &&& 255) (by omega)
  have t0 := tab_le (a &&& 255) (by omega)
  unfold f19
  rw [e24, e16, e8, i16, i8, i0, size0]
  rw [if_pos (by rw [decide_eq_true_eq]; omega), if_pos (by rw [decide_eq_true_eq]; omega), if_pos (by rw [decide_eq_true_eq]; omega), if_pos (by rw [decide_eq_true_eq]; omega)]
  simp only [Int.toNat_natCast]
  have u8 : ∀ n : Nat, n ≤ 255 → IntKind.u8.wrap (n : Int) = (n : Int) := fun n hn => IntWalk.u8_in _ ⟨by omega, by omega⟩
  show some (((IntKind.i64.wrap (IntKind.u8.wrap (IntKind.u8.wrap (IntKind.u8.wrap ((tab (a >>> 24) : Int) + (tab (a >>> 16 &&& 255) : Int)) + (tab (a >>> 8 &&& 255) : Int)) + (tab (a &&& 255) : Int)))), ()), ()) = _
  rw [show (tab (a >>> 24) : Int) + (tab (a >>> 16 &&& 255) : Int) = ((tab (a >>> 24) + tab (a >>> 16 &&& 255) : Nat) : Int) by simp, u8 _ (by omega),
    show ((tab (a >>> 24) + tab (a >>> 16 &&& 255) : Nat) : Int) + (tab (a >>> 8 &&& 255) : Int) = ((tab (a >>> 24) + tab (a >>> 16 &&& 255) + tab (a >>> 8 &&& 255) : Nat) : Int) by simp, u8 _ (by omega),
    show ((tab (a >>> 24) + tab (a >>> 16 &&& 255) + tab (a >>> 8 &&& 255) : Nat) : Int) + (tab (a &&& 255) : Int) = ((pop a : Nat) : Int) by simp [pop], u8 _ (by simp only [pop]; omega), IntWalk.i64_in _ ⟨by omega, by simp only [pop]; omega⟩]

theorem pop_le {a : Nat} (h : a < 16777216) : pop a ≤ 24 ∧ (a ≠ 0 → 1 ≤ pop a) := by
  have l24 : a >>> 24 = 0 := by rw [Nat.shiftRight_eq_div_pow]; exact Nat.div_eq_of_lt (by simpa using h)
  have b16 : a >>> 16 &&& 255 ≤ 255 := Nat.and_le_right
  have b8 : a >>> 8 &&& 255 ≤ 255 := Nat.and_le_right
  have b0 : a &&& 255 ≤ 255 := Nat.and_le_right
  have t16 := tab_le (a >>> 16 &&& 255) (by omega)
  have t8 := tab_le (a >>> 8 &&& 255) (by omega)
  have t0 := tab_le (a &&& 255) (by omega)
  have z : tab 0 = 0 := by decide +kernel
  unfold pop
  rw [l24, z]
  refine ⟨by omega, fun hne => ?_⟩
  rcases Nat.eq_zero_or_pos (0 + tab (a >>> 16 &&& 255) + tab (a >>> 8 &&& 255) + tab (a &&& 255)) with h0 | h0
  · exfalso
    have c16 := t16.2 (by omega)
    have c8 := t8.2 (by omega)
    have c0 := t0.2 (by omega)
    rw [show (255 : Nat) = 2 ^ 8 - 1 from rfl, Nat.and_two_pow_sub_one_eq_mod] at c16 c8 c0
    rw [Nat.shiftRight_eq_div_pow] at c16 c8
    omega
  · exact h0
end Go.Proofs.Ytmndmapbojhnmaa.G
