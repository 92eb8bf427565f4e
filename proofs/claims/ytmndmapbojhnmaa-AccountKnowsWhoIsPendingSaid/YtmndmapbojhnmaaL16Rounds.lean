/- The plain laws of AccountCountsRounds and AccountKnowsWhoIsPending. -/
import Derived.Test.YtmndmapbojhnmaaL16Run
namespace Go.Proofs.Ytmndmapbojhnmaa.G
open Go Go.Fw

/-- the nodes served between two steps -/
def served (cs es : List Nat) (j : Nat) : Nat → Nat
  | 0 => 0
  | d + 1 => served cs es j d ||| (cs.getD (j + d) 0 ||| (4294967295 ^^^ es.getD (j + d + 1) 0))
/-- the nodes pending between two steps -/
def pend (cs es : List Nat) (j : Nat) : Nat → Nat
  | 0 => es.getD j 0
  | d + 1 => pend cs es j d &&& (4294967295 - cs.getD (j + d) 0) &&& es.getD (j + d + 1) 0

theorem sub_bit {s : Nat} (h : s < 4294967296) (i : Nat) : (4294967295 - s).testBit i = (decide (i < 32) && !s.testBit i) := by
  rw [show 4294967295 - s = 2 ^ 32 - (s + 1) by omega, Nat.testBit_two_pow_sub_succ (by simpa using h)]
theorem all_bit (i : Nat) : (4294967295 : Nat).testBit i = decide (i < 32) := by
  rw [show (4294967295 : Nat) = 2 ^ 32 - 1 from rfl, Nat.testBit_two_pow_sub_one]
theorem hi_bit {s : Nat} (h : s < 4294967296) {i : Nat} (hi : ¬ i < 32) : s.testBit i = false :=
  Nat.testBit_lt_two_pow (Nat.lt_of_lt_of_le h (by rw [show (4294967296 : Nat) = 2 ^ 32 from rfl]; exact Nat.pow_le_pow_right (by omega) (by omega)))

theorem served_lt {cs es : List Nat} (hc : ∀ i, cs.getD i 0 < 4294967296) (he : ∀ i, es.getD i 0 < 4294967296) (j : Nat) : ∀ d, served cs es j d < 4294967296
  | 0 => by show (0 : Nat) < 4294967296; decide
  | d + 1 => Nat.or_lt_two_pow (n := 32) (served_lt hc he j d) (Nat.or_lt_two_pow (n := 32) (hc _) (Nat.xor_lt_two_pow (n := 32) (by decide) (he _)))

theorem pend_served {cs es : List Nat} (hc : ∀ i, cs.getD i 0 < 4294967296) (he : ∀ i, es.getD i 0 < 4294967296) (j : Nat) : ∀ d, pend cs es j d = es.getD j 0 &&& (4294967295 - served cs es j d)
  | 0 => by
    apply Nat.eq_of_testBit_eq
    intro i
    simp only [pend, served, Nat.testBit_and, sub_bit (show 0 < 4294967296 by decide), Nat.zero_testBit]
    by_cases h : i < 32
    · simp [h]
    · rw [hi_bit (he j) h]; simp
  | d + 1 => by
    have hs := served_lt hc he j d
    have hs1 := served_lt hc he j (d + 1)
    simp only [pend]
    rw [pend_served hc he j d]
    apply Nat.eq_of_testBit_eq
    intro i
    simp only [Nat.testBit_and, sub_bit hs, sub_bit hs1, sub_bit (hc (j + d))]
    simp only [served, Nat.testBit_or, Nat.testBit_xor, all_bit]
    by_cases h : i < 32
    · simp only [h, decide_true, Bool.true_and, Bool.true_xor]
      cases (es.getD j 0).testBit i <;> cases (served cs es j d).testBit i <;> cases (cs.getD (j + d) 0).testBit i <;> cases (es.getD (j + d + 1) 0).testBit i <;> rfl
    · simp [h]

theorem bound_all {l : List Nat} {n : Nat} (hl : l.length ≤ n) (h : ∀ i, i < n → l.getD i 0 < 16777216) (i : Nat) : l.getD i 0 < 4294967296 := by
  rcases Nat.lt_or_ge i n with h1 | h1
  · have := h i h1; omega
  · rw [List.getD_eq_getElem?_getD, List.getElem?_eq_none (by omega)]; decide

/-- where a round is: since which step, and what is pending -/
structure Round (cs es : List Nat) (j i : Nat) : Prop where
  le : j ≤ i
  p : (accAt cs es i).p = pend cs es j (i - j)
  at0 : j = i → (accAt cs es i).q = (accAt cs es i).r
  lt0 : j < i → (accAt cs es i).q = (accAt cs es i).r + 1

theorem Round.next {cs es : List Nat} {j i : Nat} (h : Round cs es j i) :
    if pend cs es j (i + 1 - j) = 0 then Round cs es (i + 1) (i + 1) ∧ (accAt cs es (i + 1)).r = (accAt cs es i).r + 1 ∧ (accAt cs es (i + 1)).q = (accAt cs es i).r + 1
    else Round cs es j (i + 1) ∧ (accAt cs es (i + 1)).r = (accAt cs es i).r ∧ (accAt cs es (i + 1)).q = (accAt cs es i).r + 1 := by
  obtain ⟨h1, h2, _, _⟩ := h
  have e : i + 1 - j = i - j + 1 := by omega
  have e2 : pend cs es j (i - j + 1) = (accAt cs es i).p &&& (4294967295 - cs.getD i 0) &&& es.getD (i + 1) 0 := by
    simp only [pend]; rw [h2, show j + (i - j) = i by omega]
  rw [e, e2]
  split
  · rename_i hz
    have k : accAt cs es (i + 1) = { t := (accAt cs es i).t + 1, m := (accAt cs es i).m + pop (cs.getD i 0), r := (accAt cs es i).r + 1, q := (accAt cs es i).r + 1, p := es.getD (i + 1) 0 } := by
      simp only [accAt, Acc.step]; rw [if_pos hz]
    rw [k]
    refine ⟨⟨Nat.le_refl _, ?_, fun _ => ?_, fun hh => absurd hh (Nat.lt_irrefl _)⟩, rfl, rfl⟩
    · rw [k, Nat.sub_self]; rfl
    · rw [k]
  · rename_i hz
    have k : accAt cs es (i + 1) = { t := (accAt cs es i).t + 1, m := (accAt cs es i).m + pop (cs.getD i 0), r := (accAt cs es i).r, q := (accAt cs es i).r + 1, p := (accAt cs es i).p &&& (4294967295 - cs.getD i 0) &&& es.getD (i + 1) 0 } := by
      simp only [accAt, Acc.step]; rw [if_neg hz]
    rw [k]
    refine ⟨⟨by omega, ?_, fun hh => by omega, fun _ => ?_⟩, rfl, rfl⟩
    · rw [k, e, e2]
    · rw [k]

theorem Round.zero (cs es : List Nat) : Round cs es 0 0 := ⟨Nat.le_refl _, rfl, fun _ => rfl, fun h => absurd h (Nat.lt_irrefl _)⟩


theorem cs_lt {cs es : List Nat} {a : Acc} (hch : Chain cs es a) (i : Nat) : cs.getD i 0 < 4294967296 := bound_all (Nat.le_refl _) (fun i hi => (hch.cb i hi).2) i
theorem es_lt {cs es : List Nat} {a : Acc} (hch : Chain cs es a) (i : Nat) : es.getD i 0 < 4294967296 := bound_all (Nat.le_refl _) (fun i hi => hch.eb i (by have := hch.len; omega)) i

theorem served_loop {cs es : List Nat} {a : Acc} (n : Nat) (hch : Chain cs es a) (h100 : cs.length ≤ 100) (o0 : Int × (Int × (Int × (Int × (Int × Unit))))) (b g : Int) (j i : Nat) (hi : i < cs.length) : ∀ (d e k : Nat), j + e + d = i + 1 → d < k →
    law16_AccountCountsRounds_259226 n k (numl cs) (numl es) b g (j : Int) (i : Int) ((served cs es j e : Nat) : Int) ((j + e : Nat) : Int) o0 = some ((((served cs es j (i + 1 - j) : Nat) : Int), ()), (o0, ())) := by
  intro d
  have hcs := cs_lt hch
  have hes := es_lt hch
  have hlen := hch.len
  induction d with
  | zero =>
    intro e k h1 h2
    obtain ⟨k, rfl⟩ : ∃ j, k = j + 1 := ⟨k - 1, by omega⟩
    simp only [law16_AccountCountsRounds_259226, decide_eq_true_eq]
    rw [if_neg (by omega), show i + 1 - j = e by omega]
  | succ d ih =>
    intro e k h1 h2
    obtain ⟨k, rfl⟩ : ∃ j, k = j + 1 := ⟨k - 1, by omega⟩
    have w := wrapS (j + e) (by omega)
    have e1 : ixor .u32 4294967295 ((es.getD (j + e + 1) 0 : Nat) : Int) = ((4294967295 ^^^ es.getD (j + e + 1) 0 : Nat) : Int) := ixor_nat (a := 4294967295) (by decide) (hes _)
    have l1 : 4294967295 ^^^ es.getD (j + e + 1) 0 < 4294967296 := Nat.xor_lt_two_pow (n := 32) (by decide) (hes _)
    have e2 : ior .u32 ((cs.getD (j + e) 0 : Nat) : Int) ((4294967295 ^^^ es.getD (j + e + 1) 0 : Nat) : Int) = ((cs.getD (j + e) 0 ||| (4294967295 ^^^ es.getD (j + e + 1) 0) : Nat) : Int) := ior_nat (hcs _) l1
    have l2 : cs.getD (j + e) 0 ||| (4294967295 ^^^ es.getD (j + e + 1) 0) < 4294967296 := Nat.or_lt_two_pow (n := 32) (hcs _) l1
    have e3 : ior .u32 ((served cs es j e : Nat) : Int) ((cs.getD (j + e) 0 ||| (4294967295 ^^^ es.getD (j + e + 1) 0) : Nat) : Int) = ((served cs es j (e + 1) : Nat) : Int) := ior_nat (served_lt hcs hes j e) l2
    rw [law16_AccountCountsRounds_259226]
    simp only [w, numl_length, Int.toNat_natCast, rdl_numl, e1, e2, e3]
    rw [if_pos (by rw [decide_eq_true_eq]; omega), if_pos (by rw [decide_eq_true_eq]; omega), if_pos (by rw [decide_eq_true_eq]; omega)]
    exact ih (e + 1) k (by omega) (by omega)

theorem round_ok {cs es : List Nat} {a : Acc} (n : Nat) (hch : Chain cs es a) (h100 : cs.length ≤ 100) (o0 : Int × (Int × (Int × (Int × (Int × Unit))))) (b g : Int) (j i : Nat) (hi : i < cs.length) (hn : i + 1 < n) (hR : Round cs es j i) (hb : b = (((accAt cs es i).r : Nat) : Int)) :
    ∃ j', Round cs es j' (i + 1) ∧ law16_AccountCountsRounds_16201 n (numl cs) (numl es) b g (j : Int) (i : Int) o0 = some (((((accAt cs es (i + 1)).r : Nat) : Int), ((j' : Int), ())), (o0, ())) := by
  have hcs := cs_lt hch
  have hes := es_lt hch
  have hlen := hch.len
  have hle := hR.le
  have hs := served_loop n hch h100 o0 b g j i hi (i + 1 - j) 0 n (by omega) (by omega)
  have e1 : iandNot .u32 ((es.getD j 0 : Nat) : Int) ((served cs es j (i + 1 - j) : Nat) : Int) = ((pend cs es j (i + 1 - j) : Nat) : Int) := by
    rw [pend_served hcs hes]; exact iandNot_nat (hes _) (served_lt hcs hes _ _)
  have hnx := hR.next
  obtain ⟨hok, _⟩ := hch.ok (by omega) i (by omega)
  have hrt : (accAt cs es i).r ≤ 4096 := Nat.le_trans hok.rq (Nat.le_trans hok.qt hok.t4)
  unfold law16_AccountCountsRounds_16201
  rw [Nat.add_zero, show ((served cs es j 0 : Nat) : Int) = 0 from rfl] at hs
  rw [hs]
  simp only [Option.bind_some, numl_length, Int.toNat_natCast, rdl_numl, e1, hb, wrapS (accAt cs es i).r (by omega), wrapS i (by omega)]
  rw [if_pos (by rw [decide_eq_true_eq]; omega)]
  by_cases hz : pend cs es j (i + 1 - j) = 0
  · rw [if_pos hz] at hnx
    rw [if_pos (by rw [hz]; rfl)]
    exact ⟨i + 1, hnx.1, by rw [hnx.2.1]⟩
  · rw [if_neg hz] at hnx
    rw [if_neg (by simpa using hz)]
    exact ⟨j, hnx.1, by rw [hnx.2.1]⟩

theorem rounds_loop {cs es : List Nat} {a : Acc} (n : Nat) (hch : Chain cs es a) (h100 : cs.length ≤ 100) (o0 : Int × (Int × (Int × (Int × (Int × Unit))))) (hn : 100 < n) : ∀ (d i j k : Nat), i + d = cs.length → d < k → Round cs es j i →
    law16_AccountCountsRounds_506 n k (numl cs) (numl es) (((accAt cs es i).r : Nat) : Int) (((accAt cs es i).q : Nat) : Int) (j : Int) (i : Int) o0 = some (((((accAt cs es cs.length).r : Nat) : Int), ((((accAt cs es cs.length).q : Nat) : Int), ())), (o0, ())) := by
  intro d
  have hlen := hch.len
  induction d with
  | zero =>
    intro i j k h1 h2 hR
    obtain ⟨k, rfl⟩ : ∃ j, k = j + 1 := ⟨k - 1, by omega⟩
    simp only [law16_AccountCountsRounds_506, decide_eq_true_eq, numl_length]
    rw [if_neg (by omega), show i = cs.length by omega]
  | succ d ih =>
    intro i j k h1 h2 hR
    obtain ⟨k, rfl⟩ : ∃ j, k = j + 1 := ⟨k - 1, by omega⟩
    obtain ⟨hok, _⟩ := hch.ok (by omega) i (by omega)
    have hqt : (accAt cs es i).q ≤ 4096 := Nat.le_trans hok.qt hok.t4
    have w := wrapS i (by omega)
    have wq := wrapS (accAt cs es i).q (by omega)
    have hnx := hR.next
    have hq1 : (accAt cs es (i + 1)).q = (accAt cs es i).r + 1 := by
      split at hnx
      · exact hnx.2.2
      · exact hnx.2.2
    rw [law16_AccountCountsRounds_506]
    simp only [numl_length, w, wq]
    rw [if_pos (by rw [decide_eq_true_eq]; omega)]
    by_cases hj : j = i
    · rw [if_pos (by rw [decide_eq_true_eq]; omega)]
      obtain ⟨j', hR', he⟩ := round_ok n hch h100 o0 (((accAt cs es i).r : Nat) : Int) (((accAt cs es i).q + 1 : Nat) : Int) j i (by omega) (by omega) hR rfl
      rw [he]
      have := ih (i + 1) j' k (by omega) (by omega) hR'
      rw [hq1, ← hR.at0 hj] at this
      exact this
    · rw [if_neg (by rw [decide_eq_true_eq]; omega)]
      obtain ⟨j', hR', he⟩ := round_ok n hch h100 o0 (((accAt cs es i).r : Nat) : Int) (((accAt cs es i).q : Nat) : Int) j i (by omega) (by omega) hR rfl
      rw [he]
      have := ih (i + 1) j' k (by omega) (by omega) hR'
      rw [hq1, ← hR.lt0 (by have := hR.le; omega)] at this
      exact this

theorem pend_loop {cs es : List Nat} {a : Acc} (n : Nat) (hch : Chain cs es a) (h100 : cs.length ≤ 100) (o0 : Int × (Int × (Int × (Int × (Int × Unit))))) (p0 : Int) (j i : Nat) (hi : i < cs.length) : ∀ (d e k : Nat), j + e + d = i + 1 → d < k →
    law16_AccountKnowsWhoIsPending_260682 n k (numl cs) (numl es) p0 ((pend cs es j e : Nat) : Int) (i : Int) ((j + e : Nat) : Int) o0 = some ((((pend cs es j (i + 1 - j) : Nat) : Int), ()), (o0, ())) := by
  intro d
  have hcs := cs_lt hch
  have hes := es_lt hch
  have hlen := hch.len
  have hp : ∀ e, pend cs es j e < 4294967296 := fun e => by
    rw [pend_served hcs hes]; exact Nat.lt_of_le_of_lt Nat.and_le_left (hes _)
  induction d with
  | zero =>
    intro e k h1 h2
    obtain ⟨k, rfl⟩ : ∃ j, k = j + 1 := ⟨k - 1, by omega⟩
    simp only [law16_AccountKnowsWhoIsPending_260682, decide_eq_true_eq]
    rw [if_neg (by omega), show i + 1 - j = e by omega]
  | succ d ih =>
    intro e k h1 h2
    obtain ⟨k, rfl⟩ : ∃ j, k = j + 1 := ⟨k - 1, by omega⟩
    have w := wrapS (j + e) (by omega)
    have e1 : iandNot .u32 ((pend cs es j e : Nat) : Int) ((cs.getD (j + e) 0 : Nat) : Int) = ((pend cs es j e &&& (4294967295 - cs.getD (j + e) 0) : Nat) : Int) := iandNot_nat (hp _) (hcs _)
    have e2 : iand .u32 ((pend cs es j e &&& (4294967295 - cs.getD (j + e) 0) : Nat) : Int) ((es.getD (j + e + 1) 0 : Nat) : Int) = ((pend cs es j (e + 1) : Nat) : Int) := iand_nat (Nat.lt_of_le_of_lt Nat.and_le_left (hp e)) (hes _)
    rw [law16_AccountKnowsWhoIsPending_260682]
    simp only [w, numl_length, Int.toNat_natCast, rdl_numl, e1, e2]
    rw [if_pos (by rw [decide_eq_true_eq]; omega), if_pos (by rw [decide_eq_true_eq]; omega), if_pos (by rw [decide_eq_true_eq]; omega)]
    exact ih (e + 1) k (by omega) (by omega)

theorem pending_loop {cs es : List Nat} {a : Acc} (n : Nat) (hch : Chain cs es a) (h100 : cs.length ≤ 100) (o0 : Int × (Int × (Int × (Int × (Int × Unit))))) (hn : 100 < n) : ∀ (d i j k : Nat), i + d = cs.length → d < k → Round cs es j i →
    law16_AccountKnowsWhoIsPending_1018 n k (numl cs) (numl es) (j : Int) (((accAt cs es i).p : Nat) : Int) (i : Int) o0 = some (((((accAt cs es cs.length).p : Nat) : Int), ()), (o0, ())) := by
  intro d
  have hlen := hch.len
  induction d with
  | zero =>
    intro i j k h1 h2 hR
    obtain ⟨k, rfl⟩ : ∃ j, k = j + 1 := ⟨k - 1, by omega⟩
    simp only [law16_AccountKnowsWhoIsPending_1018, decide_eq_true_eq, numl_length]
    rw [if_neg (by omega), show i = cs.length by omega]
  | succ d ih =>
    intro i j k h1 h2 hR
    obtain ⟨k, rfl⟩ : ∃ j, k = j + 1 := ⟨k - 1, by omega⟩
    have w := wrapS i (by omega)
    have hnx := hR.next
    have hle := hR.le
    have hs := pend_loop n hch h100 o0 (j : Int) j i (by omega) (i + 1 - j) 0 n (by omega) (by omega)
    rw [Nat.add_zero] at hs
    rw [law16_AccountKnowsWhoIsPending_1018]
    simp only [numl_length, w, Int.toNat_natCast, rdl_numl]
    rw [if_pos (by rw [decide_eq_true_eq]; omega), if_pos (by rw [decide_eq_true_eq]; omega), show ((es.getD j 0 : Nat) : Int) = ((pend cs es j 0 : Nat) : Int) from rfl, hs]
    simp only [Option.bind_some]
    by_cases hz : pend cs es j (i + 1 - j) = 0
    · rw [if_pos hz] at hnx
      rw [if_pos (by rw [hz]; rfl), if_pos (by rw [decide_eq_true_eq]; omega)]
      have := ih (i + 1) (i + 1) k (by omega) (by omega) hnx.1
      rw [hnx.1.p, Nat.sub_self] at this
      exact this
    · rw [if_neg hz] at hnx
      rw [if_neg (by simpa using hz)]
      have := ih (i + 1) j k (by omega) (by omega) hnx.1
      rw [hnx.1.p] at this
      exact this

theorem pend_sub {cs es : List Nat} : ∀ i, (accAt cs es i).p &&& es.getD i 0 = (accAt cs es i).p
  | 0 => by simp [accAt]
  | i + 1 => by
    simp only [accAt, Acc.step]
    split
    · simp
    · simp [Nat.and_assoc]

theorem and_sub_zero {p e : Nat} (hp : p < 4294967296) (he : e < 4294967296) (h : p &&& e = p) : p &&& (4294967295 - e) = 0 := by
  apply Nat.eq_of_testBit_eq
  intro i
  rw [← h]
  simp only [Nat.testBit_and, sub_bit he, Nat.zero_testBit]
  cases e.testBit i <;> simp

theorem stages {l : List (Int × (Int × Unit))} (h : ∀ y ∈ l, okD (.pair (.int .u32) (.pair (.int .u32) .unit)) y) : ∀ y ∈ l, IntKind.u32.has y.1 ∧ IntKind.u32.has y.2.1 :=
  fun y hy => ⟨(h y hy).1, (h y hy).2.1⟩

theorem pure_law16_AccountCountsRounds : ∀ x, okS [.int .u32, .slice (.pair (.int .u32) (.pair (.int .u32) .unit))] 0 x → ∃ K, law16_AccountCountsRounds K x.1 x.2.1 = some ((true, ()), ()) := by
  rintro ⟨x0, l, _⟩ ⟨h0, ⟨_, hx⟩, _⟩
  obtain ⟨a, rfl, ha⟩ := nat_of_u32 h0
  refine ⟨l.length + 133, ?_⟩
  show law16_AccountCountsRounds (l.length + 133) (a : Int) l = _
  have e10 := f10_ok (l.length + 130)
  rw [show l.length + 130 + 3 = l.length + 133 from rfl] at e10
  unfold law16_AccountCountsRounds
  rw [e10]
  by_cases h : 100 < l.length
  · rw [if_pos (by rw [decide_eq_true_eq]; omega)]; rfl
  · rw [if_neg (by rw [decide_eq_true_eq]; omega)]
    obtain ⟨cs, es, s, hc, h1, he⟩ := run_ok l.length a ha l (by omega) (stages hx)
    rw [he]
    simp only [Option.bind_some, Bool.not_true, Bool.false_eq_true, if_false]
    have hl := rounds_loop (l.length + 133) hc h1 s.v (by omega) cs.length 0 0 (l.length + 133) (by omega) (by omega) (Round.zero _ _)
    obtain ⟨_, ht⟩ := hc.ok (by omega) cs.length (Nat.le_refl _)
    have hr0 : (accAt cs es 0).r = 0 := rfl
    have hq0 : (accAt cs es 0).q = 0 := rfl
    rw [hr0, hq0] at hl
    rw [show ((0 : Nat) : Int) = (0 : Int) from rfl] at hl
    rw [hl]
    simp only [Option.bind_some, if_true, numl_length]
    rw [← hc.acc] at ht ⊢
    simp only [decide_true, if_true, ht]

theorem pure_law16_AccountKnowsWhoIsPending : ∀ x, okS [.int .u32, .slice (.pair (.int .u32) (.pair (.int .u32) .unit))] 0 x → ∃ K, law16_AccountKnowsWhoIsPending K x.1 x.2.1 = some ((true, ()), ()) := by
  rintro ⟨x0, l, _⟩ ⟨h0, ⟨_, hx⟩, _⟩
  obtain ⟨a, rfl, ha⟩ := nat_of_u32 h0
  refine ⟨l.length + 133, ?_⟩
  show law16_AccountKnowsWhoIsPending (l.length + 133) (a : Int) l = _
  have e10 := f10_ok (l.length + 130)
  rw [show l.length + 130 + 3 = l.length + 133 from rfl] at e10
  unfold law16_AccountKnowsWhoIsPending
  rw [e10]
  by_cases h : 100 < l.length
  · rw [if_pos (by rw [decide_eq_true_eq]; omega)]; rfl
  · rw [if_neg (by rw [decide_eq_true_eq]; omega)]
    obtain ⟨cs, es, s, hc, h1, he⟩ := run_ok l.length a ha l (by omega) (stages hx)
    have hlen := hc.len
    rw [he]
    simp only [Option.bind_some, Bool.not_true, Bool.false_eq_true, if_false]
    have hl := pending_loop (l.length + 133) hc h1 s.v (by omega) cs.length 0 0 (l.length + 133) (by omega) (by omega) (Round.zero _ _)
    have hp0 : (accAt cs es 0).p = es.getD 0 0 := rfl
    rw [hp0] at hl
    rw [show ((0 : Nat) : Int) = (0 : Int) from rfl] at hl
    have w := wrapP es.length (by omega) (by omega)
    simp only [numl_length, rdl_numl, show ((0 : Int).toNat) = 0 from rfl, w, Int.toNat_natCast]
    rw [if_pos (by rw [decide_eq_true_eq]; omega), hl]
    have hes := es_lt hc
    have hpb : (accAt cs es cs.length).p < 4294967296 := by
      rw [← pend_sub]; exact Nat.lt_of_le_of_lt Nat.and_le_right (hes _)
    have e1 : iandNot .u32 (((accAt cs es cs.length).p : Nat) : Int) ((es.getD cs.length 0 : Nat) : Int) = (((accAt cs es cs.length).p &&& (4294967295 - es.getD cs.length 0) : Nat) : Int) := iandNot_nat hpb (hes _)
    simp only [Option.bind_some, if_true, show es.length - 1 = cs.length by omega, e1, and_sub_zero hpb (hes _) (pend_sub _)]
    rw [← hc.acc]
    simp only [decide_true, if_true]
    rw [if_pos (by rw [decide_eq_true_eq]; omega)]
    rfl
end Go.Proofs.Ytmndmapbojhnmaa.G
