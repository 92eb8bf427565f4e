import Derived.Test.YtmndmapbojhnmaaP2
namespace Go.Proofs.Ytmndmapbojhnmaa.G
open Go Go.Fw

def bit (a i : Nat) : Nat := if a.testBit i then 1 else 0
def cntBits (a : Nat) : Nat → Nat
  | 0 => 0
  | n + 1 => cntBits a n + bit a n

theorem tab_bits : ∀ b, b < 256 → tab b = cntBits b 8 := by decide +kernel

theorem pop_bits {a : Nat} (h : a < 16777216) : pop a = cntBits a 32 := by
  have l24 : a >>> 24 = 0 := by rw [Nat.shiftRight_eq_div_pow]; exact Nat.div_eq_of_lt (by simpa using h)
  have b16 : a >>> 16 &&& 255 ≤ 255 := Nat.and_le_right
  have b8 : a >>> 8 &&& 255 ≤ 255 := Nat.and_le_right
  have b0 : a &&& 255 ≤ 255 := Nat.and_le_right
  have hi : ∀ j, 24 ≤ j → a.testBit j = false := fun j hj => Nat.testBit_lt_two_pow (Nat.lt_of_lt_of_le h (by rw [show (16777216 : Nat) = 2 ^ 24 from rfl]; exact Nat.pow_le_pow_right (by omega) hj))
  have m : ∀ s j, j < 8 → (a >>> s &&& 255).testBit j = a.testBit (s + j) := fun s j hj => by
    rw [show (255 : Nat) = 2 ^ 8 - 1 from rfl, Nat.testBit_and, Nat.testBit_shiftRight, Nat.testBit_two_pow_sub_one]
    simp [hj]
  have m0 : ∀ j, j < 8 → (a &&& 255).testBit j = a.testBit j := fun j hj => by
    rw [show (255 : Nat) = 2 ^ 8 - 1 from rfl, Nat.testBit_and, Nat.testBit_two_pow_sub_one]
    simp [hj]
  have z : tab 0 = 0 := by decide +kernel
  unfold pop
  rw [l24, z, tab_bits _ (by omega), tab_bits _ (by omega), tab_bits _ (by omega)]
  simp only [cntBits, bit, m 16 0, m 16 1, m 16 2, m 16 3, m 16 4, m 16 5, m 16 6, m 16 7, m 8 0, m 8 1, m 8 2, m 8 3, m 8 4, m 8 5, m 8 6, m 8 7, m0 0, m0 1, m0 2, m0 3, m0 4, m0 5, m0 6, m0 7,
    hi 24, hi 25, hi 26, hi 27, hi 28, hi 29, hi 30, hi 31, Nat.reduceLT, Nat.reduceAdd, Nat.reduceLeDiff]
  simp
  omega

theorem f20_ok (K : Nat) {a i : Nat} (ha : a < 4294967296) (hi : i < 32) : f20 K (a : Int) (i : Int) = some ((a.testBit i, ()), ()) := by
  have w : IntKind.u64.wrap (i : Int) = (i : Int) := IntWalk.u64_in _ ⟨by omega, by omega⟩
  have e : ishr .u32 (a : Int) (i : Int) = ((a >>> i : Nat) : Int) := ishr_nat a i (by omega)
  have l : a >>> i ≤ a := by rw [Nat.shiftRight_eq_div_pow]; exact Nat.div_le_self ..
  have e1 : iand .u32 ((a >>> i : Nat) : Int) 1 = ((a >>> i &&& 1 : Nat) : Int) := iand_nat (b := 1) (by omega) (by omega)
  simp only [f20, decide_eq_true_eq, w]
  rw [if_pos (by omega), if_pos (by omega), if_neg (by omega), e, e1]
  have : decide (((a >>> i &&& 1 : Nat) : Int) = 1) = a.testBit i := by
    rw [Nat.testBit, Nat.and_comm 1, Nat.and_one_is_mod]
    rcases Nat.mod_two_eq_zero_or_one (a >>> i) with h | h <;> simp [h]
  rw [this]

theorem f16_loop (K : Nat) {a : Nat} (ha : a < 4294967296) : ∀ (d i k c : Nat), i + d = 32 → d < k → c ≤ i →
    f16_58 K k (a : Int) (c : Int) (i : Int) = some ((((c + (cntBits a 32 - cntBits a i) : Nat) : Int), ()), ()) := by
  have mono : ∀ i, cntBits a i ≤ cntBits a (i + 1) := fun i => Nat.le_add_right _ _
  have mono2 : ∀ d i, cntBits a i ≤ cntBits a (i + d) := by
    intro d
    induction d with
    | zero => intro i; exact Nat.le_refl _
    | succ d ih => intro i; exact Nat.le_trans (ih i) (mono (i + d))
  intro d
  induction d with
  | zero =>
    intro i k c h1 h2 _
    obtain ⟨k, rfl⟩ : ∃ j, k = j + 1 := ⟨k - 1, by omega⟩
    simp only [f16_58, decide_eq_true_eq]
    rw [if_neg (by omega), show i = 32 by omega]
    simp
  | succ d ih =>
    intro i k c h1 h2 hc
    obtain ⟨k, rfl⟩ : ∃ j, k = j + 1 := ⟨k - 1, by omega⟩
    have wc := IntWalk.i64_in ((c : Int) + 1) ⟨by omega, by omega⟩
    have wi := IntWalk.i64_in ((i : Int) + 1) ⟨by omega, by omega⟩
    have hm := mono2 d (i + 1)
    rw [show i + 1 + d = 32 by omega] at hm
    simp only [f16_58, decide_eq_true_eq]
    rw [if_pos (by omega), f20_ok K ha (by omega)]
    simp only [Option.bind_some, wc, wi]
    have hb : cntBits a (i + 1) = cntBits a i + bit a i := rfl
    cases ht : a.testBit i with
    | true =>
      rw [if_pos rfl]
      have := ih (i + 1) k (c + 1) (by omega) (by omega) (by omega)
      have hbit : bit a i = 1 := by simp [bit, ht]
      rw [show (c : Int) + 1 = ((c + 1 : Nat) : Int) by simp, show (i : Int) + 1 = ((i + 1 : Nat) : Int) by simp, this]
      congr 4; omega
    | false =>
      rw [if_neg (by simp)]
      have := ih (i + 1) k c (by omega) (by omega) (by omega)
      have hbit : bit a i = 0 := by simp [bit, ht]
      rw [show (i : Int) + 1 = ((i + 1 : Nat) : Int) by simp, this]
      congr 4; omega

theorem f16_pop (n : Nat) {a : Nat} (h : a < 16777216) : f16 (n + 33) (a : Int) = some ((((pop a : Nat) : Int), ()), ()) := by
  have := f16_loop (n + 33) (a := a) (by omega) 32 0 (n + 33) 0 (by omega) (by omega) (by omega)
  unfold f16
  rw [show (0 : Int) = ((0 : Nat) : Int) from rfl, this]
  simp [pop_bits h, cntBits]
end Go.Proofs.Ytmndmapbojhnmaa.G
