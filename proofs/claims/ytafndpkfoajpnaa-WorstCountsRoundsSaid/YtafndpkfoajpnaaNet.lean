/- The longest walks of a net without loops: the equation that they solve, one solution, and no other. -/
namespace Go.Fw
/-- the greatest of the first numbers of a list, and 0 -/
def maxTo : Nat → (Nat → Nat) → Nat
  | 0, _ => 0
  | k + 1, f => max (maxTo k f) (f k)
theorem le_maxTo {k : Nat} {f : Nat → Nat} {j : Nat} (h : j < k) : f j ≤ maxTo k f := by
  induction k with
  | zero => omega
  | succ k ih =>
    simp only [maxTo]
    rcases Nat.lt_or_ge j k with h1 | h1
    · have := ih h1; omega
    · have : j = k := by omega
      subst this; omega
theorem maxTo_le {k : Nat} {f : Nat → Nat} {m : Nat} (h : ∀ j, j < k → f j ≤ m) : maxTo k f ≤ m := by
  induction k with
  | zero => exact Nat.zero_le _
  | succ k ih =>
    have h1 := ih fun j hj => h j (by omega)
    have h2 := h k (by omega)
    simp only [maxTo]; omega
theorem maxTo_at {k : Nat} {f : Nat → Nat} (h : 0 < k) : ∃ j, j < k ∧ maxTo k f = f j := by
  induction k with
  | zero => omega
  | succ k ih =>
    simp only [maxTo]
    by_cases h1 : maxTo k f ≤ f k
    · exact ⟨k, by omega, by omega⟩
    · rcases Nat.eq_zero_or_pos k with h2 | h2
      · subst h2; simp only [maxTo] at h1; omega
      · obtain ⟨j, h3, h4⟩ := ih h2
        exact ⟨j, by omega, by omega⟩
theorem maxTo_congr {k : Nat} {f g : Nat → Nat} (h : ∀ j, j < k → f j = g j) : maxTo k f = maxTo k g := by
  induction k with
  | zero => rfl
  | succ k ih =>
    simp only [maxTo]
    rw [ih fun j hj => h j (by omega), h k (by omega)]

/-- nodes with arcs, of which some are ends -/
structure Net (α : Type) where
  leg : α → Bool
  deg : α → Nat
  nxt : α → Nat → α
  len : α → Nat → Nat
  low : Nat

variable {α : Type} {N : Net α}

/-- every walk from a node comes to an end -/
inductive Net.Ends (N : Net α) : α → Prop
  | leg {a : α} : N.leg a = true → Net.Ends N a
  | go {a : α} : N.leg a = false → (∀ j, j < N.deg a → Net.Ends N (N.nxt a j)) → Net.Ends N a

def Net.rhs (N : Net α) (v : α → Nat) (a : α) : Nat := if N.leg a = true then 0 else max N.low (maxTo (N.deg a) fun j => N.len a j + v (N.nxt a j))

theorem Net.rhs_congr {v w : α → Nat} {a : α} (h : ∀ j, j < N.deg a → v (N.nxt a j) = w (N.nxt a j)) : N.rhs v a = N.rhs w a := by
  unfold Net.rhs
  rw [maxTo_congr fun j hj => by rw [h j hj]]
theorem Net.rhs_leg {v : α → Nat} {a : α} (h : N.leg a = true) : N.rhs v a = 0 := by unfold Net.rhs; rw [if_pos h]
theorem Net.rhs_go {v : α → Nat} {a : α} (h : N.leg a = false) : N.rhs v a = max N.low (maxTo (N.deg a) fun j => N.len a j + v (N.nxt a j)) := by unfold Net.rhs; rw [if_neg (by rw [h]; simp)]

/-- the lengths of walks of a number of steps -/
def Net.walk (N : Net α) : Nat → α → Nat
  | 0, _ => 0
  | m + 1, a => N.rhs (N.walk m) a

theorem fin_max {k : Nat} {P : Nat → Nat → Prop} (h : ∀ j, j < k → ∃ m, ∀ m', m ≤ m' → P j m') : ∃ m, ∀ j, j < k → ∀ m', m ≤ m' → P j m' := by
  induction k with
  | zero => exact ⟨0, fun j hj => by omega⟩
  | succ k ih =>
    obtain ⟨a, ha⟩ := ih fun j hj => h j (by omega)
    obtain ⟨b, hb⟩ := h k (by omega)
    refine ⟨max a b, fun j hj m' hm => ?_⟩
    rcases Nat.lt_or_ge j k with h1 | h1
    · exact ha j h1 m' (by omega)
    · have : j = k := by omega
      subst this; exact hb m' (by omega)

theorem Net.Ends.still {a : α} (h : N.Ends a) : ∃ v m, ∀ m', m ≤ m' → N.walk m' a = v := by
  induction h with
  | leg h =>
    refine ⟨0, 1, fun m' hm => ?_⟩
    obtain ⟨k, rfl⟩ : ∃ k, m' = k + 1 := ⟨m' - 1, by omega⟩
    exact Net.rhs_leg h
  | go h _ ih =>
    rename_i a _
    obtain ⟨m, hm⟩ := fin_max (P := fun j m' => N.walk m' (N.nxt a j) = N.walk (m' + 1) (N.nxt a j)) fun j hj => by
      obtain ⟨v, m, h1⟩ := ih j hj
      exact ⟨m, fun m' h2 => by rw [h1 m' h2, h1 (m' + 1) (by omega)]⟩
    refine ⟨N.walk (m + 1) a, m + 1, fun m' h1 => ?_⟩
    have key : ∀ d, N.walk (m + d + 1) a = N.walk (m + 1) a := by
      intro d
      induction d with
      | zero => rfl
      | succ d ih2 =>
        rw [← ih2]
        exact Net.rhs_congr fun j hj => (hm j hj (m + d) (by omega)).symm
    have := key (m' - (m + 1))
    rwa [show m + (m' - (m + 1)) + 1 = m' by omega] at this

/-- the longest walk -/
noncomputable def Net.val (N : Net α) (a : α) : Nat := Classical.epsilon fun v => ∃ m, ∀ m', m ≤ m' → N.walk m' a = v
theorem Net.Ends.val {a : α} (h : N.Ends a) : ∃ m, ∀ m', m ≤ m' → N.walk m' a = N.val a := Classical.epsilon_spec h.still
theorem Net.Ends.eq {a : α} (h : N.Ends a) : N.val a = N.rhs N.val a := by
  cases h with
  | leg h =>
    obtain ⟨m, hm⟩ := (Net.Ends.leg h).val
    rw [← hm (m + 1) (by omega), Net.rhs_leg h]; exact Net.rhs_leg h
  | go h h2 =>
    obtain ⟨m, hm⟩ := (Net.Ends.go h h2).val
    obtain ⟨k, hk⟩ := fin_max (P := fun j m' => N.walk m' (N.nxt a j) = N.val (N.nxt a j)) fun j hj => (h2 j hj).val
    rw [← hm (max m k + 1) (by omega)]
    exact Net.rhs_congr fun j hj => hk j hj (max m k) (by omega)
theorem Net.Ends.uniq {v w : α → Nat} {P : α → Prop} (hP : ∀ a, P a → ∀ j, j < N.deg a → N.leg a = false → P (N.nxt a j)) (hv : ∀ a, P a → v a = N.rhs v a) (hw : ∀ a, P a → w a = N.rhs w a) {a : α} (h : N.Ends a) (ha : P a) : v a = w a := by
  induction h with
  | leg h => rw [hv _ ha, hw _ ha, Net.rhs_leg h, Net.rhs_leg h]
  | go h _ ih =>
    rw [hv _ ha, hw _ ha]
    exact Net.rhs_congr fun j hj => ih j hj (hP _ ha j hj h)
theorem Net.Ends.next {a : α} (h : N.Ends a) (hl : N.leg a = false) : ∀ j, j < N.deg a → N.Ends (N.nxt a j) := by
  cases h with
  | leg h => rw [hl] at h; simp at h
  | go _ h => exact h
/-- what is at least the right side is at least the longest walk -/
theorem Net.Ends.least {v : α → Nat} {P : α → Prop} (hP : ∀ a, P a → ∀ j, j < N.deg a → N.leg a = false → P (N.nxt a j)) (hv : ∀ a, P a → N.rhs v a ≤ v a) {a : α} (h : N.Ends a) (ha : P a) : N.val a ≤ v a := by
  induction h with
  | leg h => rw [(Net.Ends.leg h).eq, Net.rhs_leg h]; exact Nat.zero_le _
  | go h h2 ih =>
    rename_i a
    refine Nat.le_trans ?_ (hv a ha)
    rw [(Net.Ends.go h h2).eq, Net.rhs_go h, Net.rhs_go h]
    have : maxTo (N.deg a) (fun j => N.len a j + N.val (N.nxt a j)) ≤ maxTo (N.deg a) (fun j => N.len a j + v (N.nxt a j)) := maxTo_le fun j hj => by
      have h3 := ih j hj (hP a ha j hj h)
      have h4 := le_maxTo (f := fun j => N.len a j + v (N.nxt a j)) hj
      omega
    omega
end Go.Fw
