/- What the functions of the account compute. -/
import Derived.Test.YtafndpkfoajpnaaG
namespace Go.Proofs.Ytafndpkfoajpnaa.G
open Go Go.Fw

theorem acc_All_24 (n : Nat) : ref01_All (n + 25) 24 = some ((16777215, ()), ()) := by kernel_rfl

theorem small {a : Nat} (h : a < 16777216) : ishr .u32 (a : Int) 24 = 0 := by
  have : ishr .u32 (a : Int) ((24 : Nat) : Int) = ((a >>> 24 : Nat) : Int) := ishr_nat a 24 (by omega)
  rw [show ((24 : Int)) = ((24 : Nat) : Int) from rfl, this, Nat.shiftRight_eq_div_pow]
  have : a / 2 ^ 24 = 0 := Nat.div_eq_of_lt (by simpa using h)
  simp [this]

theorem account_inside_1 (n : Nat) {a : Nat} (h : a < 16777216) : account_inside (n + 3) [(a : Int)] = some ((true, ()), ()) := by
  have h0 := small h
  simp [account_inside, account_inside_26, rdl, h0, IntWalk.i64_in]

theorem account_inside_2 (n : Nat) {a b : Nat} (ha : a < 16777216) (hb : b < 16777216) : account_inside (n + 3) [(a : Int), (b : Int)] = some ((true, ()), ()) := by
  have h0 := small ha
  have h1 := small hb
  simp [account_inside, account_inside_26, rdl, h0, h1, IntWalk.i64_in]

/-! The table of bits. -/
def tab (b : Nat) : Nat := (bytes_93484e48.data.toList.getD b 0).toNat
theorem tab_le : ∀ b, b < 256 → tab b ≤ 8 ∧ (tab b = 0 → b = 0) := by decide +kernel
theorem size0 : bytes_93484e48.size = 256 := by decide +kernel

/-- how many bits a set of 24 has -/
def pop (a : Nat) : Nat := tab (a >>> 24) + tab (a >>> 16 &&& 255) + tab (a >>> 8 &&& 255) + tab (a &&& 255)

theorem f19_pop (K : Nat) {a : Nat} (h : a < 16777216) : bits_OnesCount32 K (a : Int) = some ((((pop a : Nat) : Int), ()), ()) := by
  have e24 : ishr .u32 (a : Int) 24 = ((a >>> 24 : Nat) : Int) := ishr_nat a 24 (by omega)
  have e16 : ishr .u32 (a : Int) 16 = ((a >>> 16 : Nat) : Int) := ishr_nat a 16 (by omega)
  have e8 : ishr .u32 (a : Int) 8 = ((a >>> 8 : Nat) : Int) := ishr_nat a 8 (by omega)
  have l24 : a >>> 24 = 0 := by rw [Nat.shiftRight_eq_div_pow]; exact Nat.div_eq_of_lt (by simpa using h)
  have l16 : a >>> 16 ≤ a := by rw [Nat.shiftRight_eq_div_pow]; exact Nat.div_le_self ..
  have l8 : a >>> 8 ≤ a := by rw [Nat.shiftRight_eq_div_pow]; exact Nat.div_le_self ..
  have i16 : iand .u32 ((a >>> 16 : Nat) : Int) 255 = ((a >>> 16 &&& 255 : Nat) : Int) := iand_nat (b := 255) (by omega) (by omega)
  have i8 : iand .u32 ((a >>> 8 : Nat) : Int) 255 = ((a >>> 8 &&& 255 : Nat) : Int) := iand_nat (b := 255) (by omega) (by omega)
  have i0 : iand .u32 (a : Int) 255 = ((a &&& 255 : Nat) : Int) := iand_nat (b := 255) (by omega) (by omega)
  have b16 : a >>> 16 &&& 255 ≤ 255 := Nat.and_le_right
  have b8 : a >>> 8 &&& 255 ≤ 255 := Nat.and_le_right
  have b0 : a &&& 255 ≤ 255 := Nat.and_le_right
  have t24 := tab_le (a >>> 24) (by omega)
  have t16 := tab_le (a >>> 16 &&& 255) (by omega)
  have t8 := tab_le (a >>> 8 &&& 255) (by omega)
  have t0 := tab_le (a &&& 255) (by omega)
  unfold bits_OnesCount32
  rw [e24, e16, e8, i16, i8, i0, size0]
  rw [if_pos (by rw [decide_eq_true_eq]; omega), if_pos (by rw [decide_eq_true_eq]; omega), if_pos (by rw [decide_eq_true_eq]; omega), if_pos (by rw [decide_eq_true_eq]; omega)]
  simp only [Int.toNat_natCast]
  have u8 : ∀ n : Nat, n ≤ 255 → IntKind.u8.wrap (n : Int) = (n : Int) := fun n hn => IntWalk.u8_in _ ⟨by omega, by omega⟩
  show some (((IntKind.i64.wrap (IntKind.u8.wrap (IntKind.u8.wrap (IntKind.u8.wrap ((tab (a >>> 24) : Int) + (tab (a >>> 16 &&& 255) : Int)) + (tab (a >>> 8 &&& 255) : Int)) + (tab (a &&& 255) : Int)))), ()), ()) = _
  rw [show (tab (a >>> 24) : Int) + (tab (a >>> 16 &&& 255) : Int) = ((tab (a >>> 24) + tab (a >>> 16 &&& 255) : Nat) : Int) by simp, u8 _ (by omega),
    show ((tab (a >>> 24) + tab (a >>> 16 &&& 255) : Nat) : Int) + (tab (a >>> 8 &&& 255) : Int) = ((tab (a >>> 24) + tab (a >>> 16 &&& 255) + tab (a >>> 8 &&& 255) : Nat) : Int) by simp, u8 _ (by omega),
    show ((tab (a >>> 24) + tab (a >>> 16 &&& 255) + tab (a >>> 8 &&& 255) : Nat) : Int) + (tab (a &&& 255) : Int) = ((pop a : Nat) : Int) by simp [pop], u8 _ (by simp only [pop]; omega), IntWalk.i64_in _ ⟨by omega, by simp only [pop]; omega⟩]

theorem pop_le {a : Nat} (h : a < 16777216) : pop a ≤ 24 ∧ (a ≠ 0 → 1 ≤ pop a) := by
  have l24 : a >>> 24 = 0 := by rw [Nat.shiftRight_eq_div_pow]; exact Nat.div_eq_of_lt (by simpa using h)
  have b16 : a >>> 16 &&& 255 ≤ 255 := Nat.and_le_right
  have b8 : a >>> 8 &&& 255 ≤ 255 := Nat.and_le_right
  have b0 : a &&& 255 ≤ 255 := Nat.and_le_right
  have t16 := tab_le (a >>> 16 &&& 255) (by omega)
  have t8 := tab_le (a >>> 8 &&& 255) (by omega)
  have t0 := tab_le (a &&& 255) (by omega)
  have z : tab 0 = 0 := by decide +kernel
  unfold pop
  rw [l24, z]
  refine ⟨by omega, fun hne => ?_⟩
  rcases Nat.eq_zero_or_pos (0 + tab (a >>> 16 &&& 255) + tab (a >>> 8 &&& 255) + tab (a &&& 255)) with h0 | h0
  · exfalso
    have c16 := t16.2 (by omega)
    have c8 := t8.2 (by omega)
    have c0 := t0.2 (by omega)
    rw [show (255 : Nat) = 2 ^ 8 - 1 from rfl, Nat.and_two_pow_sub_one_eq_mod] at c16 c8 c0
    rw [Nat.shiftRight_eq_div_pow] at c16 c8
    omega
  · exact h0


/-- an account, as plain numbers -/
structure Acc where
  t : Nat
  m : Nat
  r : Nat
  q : Nat
  p : Nat

@[reducible] def Acc.v (s : Acc) : Int × (Int × (Int × (Int × (Int × Unit)))) := ((s.t : Int), ((s.m : Int), ((s.r : Int), ((s.q : Int), ((s.p : Int), ())))))

structure Acc.ok (s : Acc) : Prop where
  rq : s.r ≤ s.q
  qr : s.q ≤ s.r + 1
  qt : s.q ≤ s.t
  t4 : s.t ≤ 4096
  tm : s.t ≤ s.m
  mt : s.m ≤ 24 * s.t
  p : s.p < 16777216

theorem f11_ok (n : Nat) {s : Acc} (h : s.ok) : account_Valid (n + 3) s.v = some ((true, ()), ()) := by
  obtain ⟨h1, h2, h3, h4, h5, h6, h7⟩ := h
  have w1 := IntWalk.i64_in ((s.q : Int) - (s.r : Int)) ⟨by omega, by omega⟩
  have w2 := IntWalk.i64_in (24 * (s.t : Int)) ⟨by omega, by omega⟩
  simp only [account_Valid, Acc.v, decide_eq_true_eq]
  rw [if_pos (show (0 : Int) ≤ (s.r : Int) by omega), if_pos (show (s.r : Int) ≤ (s.q : Int) by omega),
    if_pos (show IntKind.i64.wrap ((s.q : Int) - (s.r : Int)) ≤ 1 by rw [w1]; omega), if_pos (show (s.q : Int) ≤ (s.t : Int) by omega),
    if_pos (show (s.t : Int) ≤ 4096 by omega), if_pos (show (s.t : Int) ≤ (s.m : Int) by omega),
    if_pos (show (s.m : Int) ≤ IntKind.i64.wrap (24 * (s.t : Int)) by rw [w2]; omega)]
  have h18 := account_inside_1 n h7
  simp only [h18, Option.bind_some]

/-- the account behind a step -/
def Acc.step (s : Acc) (a b : Nat) : Acc :=
  if s.p &&& (4294967295 - a) &&& b = 0 then { t := s.t + 1, m := s.m + pop a, r := s.r + 1, q := s.r + 1, p := b }
  else { t := s.t + 1, m := s.m + pop a, r := s.r, q := s.r + 1, p := s.p &&& (4294967295 - a) &&& b }

theorem f8_ok (n : Nat) {s : Acc} (h : s.ok) (ht : s.t < 4096) {a b : Nat} (ha : a < 16777216) (h0 : a ≠ 0) (hb : b < 16777216) :
    account_Add (n + 3) s.v a b = some ((((s.step a b).v, (0, ())), ()), ()) := by
  have hp := pop_le ha
  obtain ⟨h1, h2, h3, h4, h5, h6, h7⟩ := id h
  have e1 : iandNot .u32 (s.p : Int) (a : Int) = ((s.p &&& (4294967295 - a) : Nat) : Int) := iandNot_nat (by omega) (by omega)
  have l1 : s.p &&& (4294967295 - a) ≤ s.p := Nat.and_le_left
  have e2 : iand .u32 ((s.p &&& (4294967295 - a) : Nat) : Int) (b : Int) = ((s.p &&& (4294967295 - a) &&& b : Nat) : Int) := iand_nat (by omega) (by omega)
  unfold account_Add
  rw [f11_ok n h]
  simp only [Option.bind_some, Bool.not_true, Bool.false_eq_true, if_false]
  rw [if_neg (show ¬ decide ((a : Int) = 0) = true by simpa using h0), account_inside_2 n ha hb]
  simp only [Option.bind_some, Bool.not_true]
  simp only [account_Add_103, Acc.v, Bool.false_eq_true, if_false, decide_eq_true_eq]
  rw [if_neg (show ¬ ((s.t : Int) = 4096) by omega)]
  simp only [Option.bind_some, account_Add_7]
  rw [f19_pop _ ha]
  simp only [Option.bind_some, e1, e2, decide_eq_true_eq]
  have wt := IntWalk.i64_in ((s.t : Int) + 1) ⟨by omega, by omega⟩
  have wm := IntWalk.i64_in ((s.m : Int) + (pop a : Int)) ⟨by omega, by omega⟩
  have wr := IntWalk.i64_in ((s.r : Int) + 1) ⟨by omega, by omega⟩
  simp only [wt, wm, wr]
  unfold Acc.step
  by_cases hz : s.p &&& (4294967295 - a) &&& b = 0
  · rw [if_pos (by rw [hz]; rfl), if_pos hz]
    simp [Acc.v]
  · rw [if_neg (fun hh => hz (by exact_mod_cast hh)), if_neg hz]
    simp [Acc.v]

theorem f13_ok (K : Nat) {x : Nat} (hx : x < 4294967296) : account_Begin K (x : Int) = some (((Acc.v ⟨0, 0, 0, 0, x &&& 16777215⟩), ()), ()) := by
  have : iand .u32 (x : Int) 16777215 = ((x &&& 16777215 : Nat) : Int) := iand_nat (b := 16777215) hx (by omega)
  simp [account_Begin, this, Acc.v]


def bit (a i : Nat) : Nat := if a.testBit i then 1 else 0
def cntBits (a : Nat) : Nat → Nat
  | 0 => 0
  | n + 1 => cntBits a n + bit a n

theorem tab_bits : ∀ b, b < 256 → tab b = cntBits b 8 := by decide +kernel

theorem pop_bits {a : Nat} (h : a < 16777216) : pop a = cntBits a 32 := by
  have l24 : a >>> 24 = 0 := by rw [Nat.shiftRight_eq_div_pow]; exact Nat.div_eq_of_lt (by simpa using h)
  have b16 : a >>> 16 &&& 255 ≤ 255 := Nat.and_le_right
  have b8 : a >>> 8 &&& 255 ≤ 255 := Nat.and_le_right
  have b0 : a &&& 255 ≤ 255 := Nat.and_le_right
  have hi : ∀ j, 24 ≤ j → a.testBit j = false := fun j hj => Nat.testBit_lt_two_pow (Nat.lt_of_lt_of_le h (by rw [show (16777216 : Nat) = 2 ^ 24 from rfl]; exact Nat.pow_le_pow_right (by omega) hj))
  have m : ∀ s j, j < 8 → (a >>> s &&& 255).testBit j = a.testBit (s + j) := fun s j hj => by
    rw [show (255 : Nat) = 2 ^ 8 - 1 from rfl, Nat.testBit_and, Nat.testBit_shiftRight, Nat.testBit_two_pow_sub_one]
    simp [hj]
  have m0 : ∀ j, j < 8 → (a &&& 255).testBit j = a.testBit j := fun j hj => by
    rw [show (255 : Nat) = 2 ^ 8 - 1 from rfl, Nat.testBit_and, Nat.testBit_two_pow_sub_one]
    simp [hj]
  have z : tab 0 = 0 := by decide +kernel
  unfold pop
  rw [l24, z, tab_bits _ (by omega), tab_bits _ (by omega), tab_bits _ (by omega)]
  simp only [cntBits, bit, m 16 0, m 16 1, m 16 2, m 16 3, m 16 4, m 16 5, m 16 6, m 16 7, m 8 0, m 8 1, m 8 2, m 8 3, m 8 4, m 8 5, m 8 6, m 8 7, m0 0, m0 1, m0 2, m0 3, m0 4, m0 5, m0 6, m0 7,
    hi 24, hi 25, hi 26, hi 27, hi 28, hi 29, hi 30, hi 31, Nat.reduceLT, Nat.reduceAdd, Nat.reduceLeDiff]
  simp
  omega

theorem f20_ok (K : Nat) {a i : Nat} (ha : a < 4294967296) (hi : i < 32) : ref01_Has K (a : Int) (i : Int) = some ((a.testBit i, ()), ()) := by
  have w : IntKind.u64.wrap (i : Int) = (i : Int) := IntWalk.u64_in _ ⟨by omega, by omega⟩
  have e : ishr .u32 (a : Int) (i : Int) = ((a >>> i : Nat) : Int) := ishr_nat a i (by omega)
  have l : a >>> i ≤ a := by rw [Nat.shiftRight_eq_div_pow]; exact Nat.div_le_self ..
  have e1 : iand .u32 ((a >>> i : Nat) : Int) 1 = ((a >>> i &&& 1 : Nat) : Int) := iand_nat (b := 1) (by omega) (by omega)
  simp only [ref01_Has, decide_eq_true_eq, w]
  rw [if_pos (by omega), if_pos (by omega), if_neg (by omega), e, e1]
  have : decide (((a >>> i &&& 1 : Nat) : Int) = 1) = a.testBit i := by
    rw [Nat.testBit, Nat.and_comm 1, Nat.and_one_is_mod]
    rcases Nat.mod_two_eq_zero_or_one (a >>> i) with h | h <;> simp [h]
  rw [this]

theorem f16_loop (K : Nat) {a : Nat} (ha : a < 4294967296) : ∀ (d i k c : Nat), i + d = 32 → d < k → c ≤ i →
    ref15_Count_58 K k (a : Int) (c : Int) (i : Int) = some ((((c + (cntBits a 32 - cntBits a i) : Nat) : Int), ()), ()) := by
  have mono : ∀ i, cntBits a i ≤ cntBits a (i + 1) := fun i => Nat.le_add_right _ _
  have mono2 : ∀ d i, cntBits a i ≤ cntBits a (i + d) := by
    intro d
    induction d with
    | zero => intro i; exact Nat.le_refl _
    | succ d ih => intro i; exact Nat.le_trans (ih i) (mono (i + d))
  intro d
  induction d with
  | zero =>
    intro i k c h1 h2 _
    obtain ⟨k, rfl⟩ : ∃ j, k = j + 1 := ⟨k - 1, by omega⟩
    simp only [ref15_Count_58, decide_eq_true_eq]
    rw [if_neg (by omega), show i = 32 by omega]
    simp
  | succ d ih =>
    intro i k c h1 h2 hc
    obtain ⟨k, rfl⟩ : ∃ j, k = j + 1 := ⟨k - 1, by omega⟩
    have wc := IntWalk.i64_in ((c : Int) + 1) ⟨by omega, by omega⟩
    have wi := IntWalk.i64_in ((i : Int) + 1) ⟨by omega, by omega⟩
    have hm := mono2 d (i + 1)
    rw [show i + 1 + d = 32 by omega] at hm
    simp only [ref15_Count_58, decide_eq_true_eq]
    rw [if_pos (by omega), f20_ok K ha (by omega)]
    simp only [Option.bind_some, wc, wi]
    have hb : cntBits a (i + 1) = cntBits a i + bit a i := rfl
    cases ht : a.testBit i with
    | true =>
      rw [if_pos rfl]
      have := ih (i + 1) k (c + 1) (by omega) (by omega) (by omega)
      have hbit : bit a i = 1 := by simp [bit, ht]
      rw [show (c : Int) + 1 = ((c + 1 : Nat) : Int) by simp, show (i : Int) + 1 = ((i + 1 : Nat) : Int) by simp, this]
      congr 4; omega
    | false =>
      rw [if_neg (by simp)]
      have := ih (i + 1) k c (by omega) (by omega) (by omega)
      have hbit : bit a i = 0 := by simp [bit, ht]
      rw [show (i : Int) + 1 = ((i + 1 : Nat) : Int) by simp, this]
      congr 4; omega

theorem f16_pop (n : Nat) {a : Nat} (h : a < 16777216) : ref15_Count (n + 33) (a : Int) = some ((((pop a : Nat) : Int), ()), ()) := by
  have := f16_loop (n + 33) (a := a) (by omega) 32 0 (n + 33) 0 (by omega) (by omega) (by omega)
  unfold ref15_Count
  rw [show (0 : Int) = ((0 : Nat) : Int) from rfl, this]
  simp [pop_bits h, cntBits]


theorem mask_bit (i : Nat) : (4278190080 : Nat).testBit i = (decide (i < 32) && !decide (i < 24)) := by
  have e : (4278190080 : Nat) = 2 ^ 32 - (16777215 + 1) := rfl
  rw [e, Nat.testBit_two_pow_sub_succ (by decide), show (16777215 : Nat) = 2 ^ 24 - 1 from rfl, Nat.testBit_two_pow_sub_one]

theorem mask_zero {p : Nat} (hp : p < 4294967296) : p &&& 4278190080 = 0 ↔ p < 16777216 := by
  constructor
  · intro h
    rcases Nat.lt_or_ge p 16777216 with h1 | h1
    · exact h1
    · exfalso
      obtain ⟨i, hi, hb⟩ := Nat.exists_ge_and_testBit_of_ge_two_pow (n := 24) (x := p) (by simpa using h1)
      have hlt : i < 32 := by
        rcases Nat.lt_or_ge i 32 with h2 | h2
        · exact h2
        · rw [Nat.testBit_lt_two_pow (Nat.lt_of_lt_of_le hp (by rw [show (4294967296 : Nat) = 2 ^ 32 from rfl]; exact Nat.pow_le_pow_right (by omega) h2))] at hb
          simp at hb
      have : (p &&& 4278190080).testBit i = true := by rw [Nat.testBit_and, hb, mask_bit]; simp [hlt]; omega
      rw [h] at this
      simp at this
  · intro h
    apply Nat.eq_of_testBit_eq
    intro i
    rw [Nat.testBit_and, mask_bit]
    rcases Nat.lt_or_ge i 24 with h2 | h2
    · simp [h2]
    · rw [Nat.testBit_lt_two_pow (Nat.lt_of_lt_of_le h (by rw [show (16777216 : Nat) = 2 ^ 24 from rfl]; exact Nat.pow_le_pow_right (by omega) h2))]
      simp

theorem iandNot24 {p : Nat} (hp : p < 4294967296) : decide (iandNot .u32 (p : Int) 16777215 = 0) = decide (p < 16777216) := by
  have e : iandNot .u32 (p : Int) 16777215 = ((p &&& 4278190080 : Nat) : Int) := iandNot_nat (b := 16777215) hp (by omega)
  rw [e]
  have := mask_zero hp
  by_cases h : p < 16777216
  · simp [h, this.2 h]
  · have h2 : ¬ (p &&& 4278190080 = 0) := fun hh => h (this.1 hh)
    simp [h, h2]

theorem acc_ishr24 {p : Nat} : decide (ishr .u32 (p : Int) 24 = 0) = decide (p < 16777216) := by
  have e : ishr .u32 (p : Int) 24 = ((p >>> 24 : Nat) : Int) := ishr_nat p 24 (by omega)
  rw [e, Nat.shiftRight_eq_div_pow]
  by_cases h : p < 16777216
  · simp [h, Nat.div_eq_of_lt (show p < 2 ^ 24 by simpa using h)]
  · have : ¬ (p / 2 ^ 24 = 0) := by omega
    simp [h]; omega

theorem f18_one (n : Nat) (p : Nat) : account_inside (n + 3) [(p : Int)] = some ((decide (p < 16777216), ()), ()) := by
  have h := acc_ishr24 (p := p)
  by_cases hp : p < 16777216
  · rw [account_inside_1 n hp]; simp [hp]
  · have h1 : ¬ ishr .u32 (p : Int) 24 = 0 := by intro hh; rw [hh] at h; simp [hp] at h
    simp [account_inside, account_inside_26, rdl, h1, hp]

theorem f18_two (n : Nat) (a b : Nat) : account_inside (n + 3) [(a : Int), (b : Int)] = some ((decide (a < 16777216) && decide (b < 16777216), ()), ()) := by
  have ha := acc_ishr24 (p := a)
  have hb := acc_ishr24 (p := b)
  by_cases h1 : a < 16777216
  · by_cases h2 : b < 16777216
    · rw [account_inside_2 n h1 h2]; simp [h1, h2]
    · have e1 : ishr .u32 (a : Int) 24 = 0 := small h1
      have e2 : ¬ ishr .u32 (b : Int) 24 = 0 := by intro hh; rw [hh] at hb; simp [h2] at hb
      simp [account_inside, account_inside_26, rdl, e1, e2, h1, h2, IntWalk.i64_in]
  · have e1 : ¬ ishr .u32 (a : Int) 24 = 0 := by intro hh; rw [hh] at ha; simp [h1] at ha
    simp [account_inside, account_inside_26, rdl, e1, h1]
end Go.Proofs.Ytafndpkfoajpnaa.G
