/- Sums, and how many sets lie in a set. -/
import Derived.Test.YtafndpkfoajpnaaNet
namespace Go.Fw
def sumTo : Nat → (Nat → Nat) → Nat
  | 0, _ => 0
  | k + 1, f => sumTo k f + f k
theorem sumTo_le {k : Nat} {f g : Nat → Nat} (h : ∀ j, j < k → f j ≤ g j) : sumTo k f ≤ sumTo k g := by
  induction k with
  | zero => exact Nat.le_refl _
  | succ k ih =>
    have h1 := ih fun j hj => h j (by omega)
    have h2 := h k (by omega)
    simp only [sumTo]; omega
theorem sumTo_lt {k : Nat} {f g : Nat → Nat} (h : ∀ j, j < k → f j ≤ g j) {i : Nat} (hi : i < k) (h2 : f i < g i) : sumTo k f < sumTo k g := by
  induction k with
  | zero => omega
  | succ k ih =>
    simp only [sumTo]
    have h3 := h k (by omega)
    rcases Nat.lt_or_ge i k with h4 | h4
    · have := ih (fun j hj => h j (by omega)) h4; omega
    · have h5 : i = k := by omega
      subst h5
      have := sumTo_le (k := i) (f := f) (g := g) fun j hj => h j (by omega)
      omega
theorem sumTo_const (k m : Nat) : sumTo k (fun _ => m) = k * m := by
  induction k with
  | zero => simp [sumTo]
  | succ k ih => simp only [sumTo, ih, Nat.succ_mul]

/-- the bits of a number below k, counted -/
def pops : Nat → Nat → Nat
  | 0, _ => 0
  | k + 1, e => pops k e + (if e.testBit k then 1 else 0)
/-- the sets in a set -/
def subs : Nat → Nat → List Nat
  | 0, _ => [0]
  | k + 1, e => if e.testBit k then subs k e ++ (subs k e).map (fun x => x + 2 ^ k) else subs k e
theorem subs_length (k e : Nat) : (subs k e).length = 2 ^ pops k e := by
  induction k with
  | zero => rfl
  | succ k ih =>
    simp only [subs, pops]
    split
    · simp only [List.length_append, List.length_map, ih, Nat.pow_succ]; omega
    · rw [ih, Nat.add_zero]
theorem mem_subs : ∀ k e p, p < 2 ^ k → (∀ b, b < k → p.testBit b = true → e.testBit b = true) → p ∈ subs k e := by
  intro k e
  induction k with
  | zero => intro p h _; simp only [subs, List.mem_singleton]; simpa using h
  | succ k ih =>
    intro p h h2
    simp only [subs]
    by_cases hp : p < 2 ^ k
    · have h3 := ih p hp fun b hb => h2 b (by omega)
      split
      · exact List.mem_append_left _ h3
      · exact h3
    · have hb : p.testBit k = true := by
        rw [Nat.testBit_eq_decide_div_mod_eq]
        have h5 : p / 2 ^ k = 1 := by
          rw [Nat.pow_succ] at h
          have h6 : p / 2 ^ k < 2 := Nat.div_lt_of_lt_mul (by omega)
          have h7 : 0 < p / 2 ^ k := Nat.div_pos (by omega) (Nat.two_pow_pos k)
          omega
        rw [h5]; rfl
      rw [if_pos (h2 k (by omega) hb)]
      refine List.mem_append_right _ (List.mem_map.2 ⟨p - 2 ^ k, ih _ (by rw [Nat.pow_succ] at h; omega) fun b hb' h3 => ?_, by omega⟩)
      refine h2 b (by omega) ?_
      have h4 : p = 2 ^ k + (p - 2 ^ k) := by omega
      rw [h4, Nat.testBit_two_pow_add_gt hb']; exact h3

/-- a list without doubles in another one is not longer -/
theorem nodup_sub {α : Type} [DecidableEq α] : ∀ (l m : List α), l.Nodup → (∀ x ∈ l, x ∈ m) → l.length ≤ m.length := by
  intro l
  induction l with
  | nil => intro m _ _; exact Nat.zero_le _
  | cons a l ih =>
    intro m hd hm
    have h1 := List.nodup_cons.1 hd
    have h2 := ih (m.erase a) h1.2 fun x hx => (List.mem_erase_of_ne (fun h => by subst h; exact h1.1 hx)).2 (hm x (List.mem_cons_of_mem _ hx))
    have h3 := List.length_erase_of_mem (hm a (List.mem_cons_self ..))
    have h4 := List.length_pos_of_mem (hm a (List.mem_cons_self ..))
    rw [List.length_cons]; omega
/-- pairs of a state and a set in its set -/
def pairsTo (k : Nat) (e : Nat → Nat) : Nat → List (Nat × Nat)
  | 0 => []
  | n + 1 => pairsTo k e n ++ (subs k (e n)).map (fun p => (n, p))
theorem mem_pairsTo {k : Nat} {e : Nat → Nat} {x p : Nat} : ∀ n, x < n → p < 2 ^ k → (∀ b, b < k → p.testBit b = true → (e x).testBit b = true) → (x, p) ∈ pairsTo k e n := by
  intro n
  induction n with
  | zero => intro h; omega
  | succ n ih =>
    intro h1 h2 h3
    simp only [pairsTo]
    rcases Nat.lt_or_ge x n with h4 | h4
    · exact List.mem_append_left _ (ih h4 h2 h3)
    · have h5 : x = n := by omega
      subst h5
      exact List.mem_append_right _ (List.mem_map.2 ⟨p, mem_subs k _ p h2 h3, rfl⟩)
theorem pairsTo_length {k : Nat} {e : Nat → Nat} {m : Nat} : ∀ n, (∀ x, x < n → pops k (e x) ≤ m) → (pairsTo k e n).length ≤ n * 2 ^ m := by
  intro n
  induction n with
  | zero => intro _; simp [pairsTo]
  | succ n ih =>
    intro h
    have h1 := ih fun x hx => h x (by omega)
    have h2 : 2 ^ pops k (e n) ≤ 2 ^ m := Nat.pow_le_pow_right (by decide) (h n (by omega))
    simp only [pairsTo, List.length_append, List.length_map, subs_length, Nat.succ_mul]; omega
end Go.Fw
