/- What the runs of the account are. -/
import Derived.Test.YtmndmapbojhnmaaL16Stays
namespace Go.Proofs.Ytmndmapbojhnmaa.G
open Go Go.Fw

/-- the account behind i steps -/
def accAt (cs es : List Nat) : Nat → Acc
  | 0 => ⟨0, 0, 0, 0, es.getD 0 0⟩
  | i + 1 => (accAt cs es i).step (cs.getD i 0) (es.getD (i + 1) 0)

structure Chain (cs es : List Nat) (a : Acc) : Prop where
  len : es.length = cs.length + 1
  acc : a = accAt cs es cs.length
  cb : ∀ i, i < cs.length → cs.getD i 0 ≠ 0 ∧ cs.getD i 0 < 16777216
  eb : ∀ i, i ≤ cs.length → es.getD i 0 < 16777216

theorem getD_app_lt {l m : List Nat} {i : Nat} (h : i < l.length) : (l ++ m).getD i 0 = l.getD i 0 := by
  simp [List.getD_eq_getElem?_getD, List.getElem?_append_left h]
theorem getD_app_at {l : List Nat} {x : Nat} : (l ++ [x]).getD l.length 0 = x := by
  simp [List.getD_eq_getElem?_getD]

theorem accAt_snoc {cs es : List Nat} {c e : Nat} (hl : es.length = cs.length + 1) : ∀ i, i ≤ cs.length → accAt (cs ++ [c]) (es ++ [e]) i = accAt cs es i
  | 0, _ => by simp only [accAt]; rw [getD_app_lt (by omega)]
  | i + 1, h => by
    simp only [accAt]
    rw [accAt_snoc hl i (by omega), getD_app_lt (by omega), getD_app_lt (by omega)]

theorem Chain.snoc {cs es : List Nat} {a : Acc} (h : Chain cs es a) {c e : Nat} (h0 : c ≠ 0) (hc : c < 16777216) (he : e < 16777216) : Chain (cs ++ [c]) (es ++ [e]) (a.step c e) := by
  refine ⟨by simp [h.len], ?_, fun i hi => ?_, fun i hi => ?_⟩
  · rw [List.length_append, List.length_singleton]
    simp only [accAt]
    rw [accAt_snoc h.len _ (Nat.le_refl _), ← h.acc, getD_app_at, ← h.len, getD_app_at]
  · rw [List.length_append, List.length_singleton] at hi
    rcases Nat.lt_or_ge i cs.length with h1 | h1
    · rw [getD_app_lt h1]; exact h.cb i h1
    · rw [show i = cs.length by omega, getD_app_at]; exact ⟨h0, hc⟩
  · rw [List.length_append, List.length_singleton] at hi
    rcases Nat.lt_or_ge i es.length with h1 | h1
    · rw [getD_app_lt h1]; exact h.eb i (by have := h.len; omega)
    · rw [show i = es.length by have := h.len; omega, getD_app_at]; exact he

theorem step_t (s : Acc) (a b : Nat) : (s.step a b).t = s.t + 1 := by unfold Acc.step; split <;> rfl
theorem Chain.ok {cs es : List Nat} {a : Acc} (h : Chain cs es a) (h4 : cs.length ≤ 4096) : ∀ i, i ≤ cs.length → (accAt cs es i).ok ∧ (accAt cs es i).t = i
  | 0, _ => ⟨⟨Nat.le_refl _, Nat.zero_le _, Nat.le_refl _, Nat.zero_le _, Nat.le_refl _, Nat.zero_le _, h.eb 0 (Nat.zero_le _)⟩, rfl⟩
  | i + 1, hi => by
    obtain ⟨h1, h2⟩ := h.ok h4 i (by omega)
    obtain ⟨h3, h5⟩ := h.cb i (by omega)
    exact ⟨step_ok h1 (by omega) h5 h3 (h.eb _ hi), by simp only [accAt]; rw [step_t, h2]⟩

theorem run_loop (n : Nat) (l : List (Int × (Int × Unit))) (hl : l.length ≤ 100) (hx : ∀ y ∈ l, IntKind.u32.has y.1 ∧ IntKind.u32.has y.2.1) (o0 : Int × (Int × (Int × (Int × (Int × Unit))))) :
    ∀ (d i k : Nat) (cs es : List Nat) (a : Acc), i + d = l.length → d < k → Chain cs es a → cs.length ≤ i → ∃ cs' es' a', Chain cs' es' a' ∧ cs'.length ≤ 100 ∧
      law16_run_250 (n + 33) k l (i : Int) o0 (numl es) (numl cs) a.v = some (.inl (((), ((), ())), (numl es', (numl cs', (o0, (a'.v, ())))))) := by
  intro d
  induction d with
  | zero =>
    intro i k cs es a h1 h2 hc hi
    obtain ⟨k, rfl⟩ : ∃ j, k = j + 1 := ⟨k - 1, by omega⟩
    refine ⟨cs, es, a, hc, by omega, ?_⟩
    simp only [law16_run_250, decide_eq_true_eq]
    rw [if_neg (show ¬ ((i : Int) < (l.length : Int)) by omega)]
  | succ d ih =>
    intro i k cs es a h1 h2 hc hi
    obtain ⟨k, rfl⟩ : ∃ j, k = j + 1 := ⟨k - 1, by omega⟩
    have hil : i < l.length := by omega
    have hlen := hc.len
    obtain ⟨c, hcc, hc2⟩ := nat_of_u32 (hx l[i] (List.getElem_mem hil)).1
    obtain ⟨e, hee, he2⟩ := nat_of_u32 (hx l[i] (List.getElem_mem hil)).2
    have hr : rdl (.pair (.int .u32) (.pair (.int .u32) .unit)) l i = l[i] := by simp [rdl, List.getD, hil]
    have hw := wrapP es.length (by omega) (by omega)
    have hes : es.length - 1 = cs.length := by omega
    have hnow : es.getD cs.length 0 < 16777216 := hc.eb _ (Nat.le_refl _)
    have e1 : iand .u32 (c : Int) ((es.getD cs.length 0 : Nat) : Int) = ((c &&& es.getD cs.length 0 : Nat) : Int) := iand_nat hc2 (by omega)
    have e2 : iand .u32 (e : Int) 16777215 = ((e &&& 16777215 : Nat) : Int) := iand_nat (b := 16777215) he2 (by omega)
    have lc : c &&& es.getD cs.length 0 ≤ es.getD cs.length 0 := Nat.and_le_right
    have le := mask_lt e
    have wi := wrapS i (by omega)
    have e15 := ref01_All_24 (n + 8)
    rw [show n + 8 + 25 = n + 33 from rfl] at e15
    rw [law16_run_250]
    simp only [hr, hcc, hee, numl_length, hw, hes, rdl_numl, Int.toNat_natCast, e15, Option.bind_some, e1, e2, wi]
    rw [if_pos (by rw [decide_eq_true_eq]; omega), if_pos (by rw [decide_eq_true_eq]; omega), if_pos (by rw [decide_eq_true_eq]; omega)]
    by_cases hz : c &&& es.getD cs.length 0 = 0
    · rw [if_pos (by rw [hz]; rfl)]
      exact ih (i + 1) k cs es a (by omega) (by omega) hc (by omega)
    · rw [if_neg (by simpa using hz)]
      obtain ⟨hok, hat⟩ := hc.ok (by omega) cs.length (Nat.le_refl _)
      rw [← hc.acc] at hok hat
      have e8 := f8_ok (n + 30) hok (by omega) (show c &&& es.getD cs.length 0 < 16777216 by omega) hz le
      rw [show n + 30 + 3 = n + 33 from rfl] at e8
      simp only [e8, Option.bind_some, decide_true, Bool.not_true, Bool.false_eq_true, if_false]
      have g1 : ∀ x : Nat, x ≤ 101 → decide (x + 1 ≤ 4294967296) = true := fun x hx => decide_eq_true (by omega)
      simp only [List.length_singleton]
      have g2 : decide ((0 : Int) ≤ (i : Int) ∧ (i : Int) < (l.length : Int)) = true := decide_eq_true (by omega)
      rw [if_pos g2, if_pos (g1 cs.length (by omega)), if_pos g2, if_pos (g1 es.length (by omega)), numl_snoc, numl_snoc]
      exact ih (i + 1) k _ _ _ (by omega) (by omega) (hc.snoc hz (by omega) le) (by simp; omega)

theorem run_ok (n : Nat) (a : Nat) (ha : a < 4294967296) (l : List (Int × (Int × Unit))) (hl : l.length ≤ 100) (hx : ∀ y ∈ l, IntKind.u32.has y.1 ∧ IntKind.u32.has y.2.1) :
    ∃ cs es s, Chain cs es s ∧ cs.length ≤ 100 ∧ law16_run (n + 133) (a : Int) l = some ((((), ((), (s.v, (true, ())))), ()), (numl cs, (numl es, ()))) := by
  have hand : iand .u32 (a : Int) 16777215 = ((a &&& 16777215 : Nat) : Int) := iand_nat (b := 16777215) ha (by omega)
  obtain ⟨cs, es, s, h1, h2, h3⟩ := run_loop (n + 100) l hl hx (0, (0, (0, (0, (0, ()))))) l.length 0 (n + 133) [] [a &&& 16777215] ⟨0, 0, 0, 0, a &&& 16777215⟩ (by omega) (by omega)
    ⟨rfl, rfl, fun i hi => absurd hi (Nat.not_lt_zero _), fun i hi => by rw [show i = 0 from Nat.le_zero.1 hi]; exact mask_lt a⟩ (Nat.le_refl _)
  refine ⟨cs, es, s, h1, h2, ?_⟩
  have e15 := ref01_All_24 (n + 108)
  rw [show n + 108 + 25 = n + 133 from rfl] at e15
  rw [show n + 100 + 33 = n + 133 from rfl] at h3
  unfold law16_run
  rw [e15, f13_ok _ ha]
  simp only [Option.bind_some, hand]
  rw [show (0 : Int) = ((0 : Nat) : Int) from rfl, ← numl_single, show ([] : List Int) = numl [] from rfl]
  rw [show ((0 : Nat) : Int) = (0 : Int) from rfl] at h3 ⊢
  rw [h3]
  rfl
end Go.Proofs.Ytmndmapbojhnmaa.G
