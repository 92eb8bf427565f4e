/- Attractors of transition systems: what is said of them without any program. -/
import Derived.Test.YtafndpkfoajpnaaFwE
namespace Go.Fw

/-- the states from which every execution reaches a set -/
inductive Attr (T : Nat → List Nat) (S : Nat → Prop) : Nat → Prop
  | base {k : Nat} : S k → Attr T S k
  | step {k : Nat} : T k ≠ [] → (∀ t ∈ T k, Attr T S t) → Attr T S k

namespace Attr
variable {T : Nat → List Nat} {S S' : Nat → Prop}

theorem mono (h : ∀ k, S k → S' k) {k : Nat} (ha : Attr T S k) : Attr T S' k := by
  induction ha with
  | base h1 => exact .base (h _ h1)
  | step h1 _ ih => exact .step h1 ih

theorem idem {k : Nat} (ha : Attr T (Attr T S) k) : Attr T S k := by
  induction ha with
  | base h1 => exact h1
  | step h1 _ ih => exact .step h1 ih

/-- a set that contains S and is closed under the rule contains the attractor -/
theorem least {X : Nat → Prop} (h0 : ∀ k, S k → X k) (h1 : ∀ k, T k ≠ [] → (∀ t ∈ T k, X t) → X k) {k : Nat} (ha : Attr T S k) : X k := by
  induction ha with
  | base h => exact h0 _ h
  | step h2 _ ih => exact h1 _ h2 ih

theorem cases' {k : Nat} (ha : Attr T S k) : S k ∨ (T k ≠ [] ∧ ∀ t ∈ T k, Attr T S t) := by
  cases ha with
  | base h => exact .inl h
  | step h1 h2 => exact .inr ⟨h1, h2⟩

theorem not_of {k : Nat} (h : ¬ Attr T S k) : ¬ S k ∧ (T k = [] ∨ ∃ t ∈ T k, ¬ Attr T S t) := by
  refine ⟨fun hs => h (.base hs), ?_⟩
  rcases Classical.em (T k = []) with h1 | h1
  · exact .inl h1
  · refine .inr (Classical.byContradiction fun h2 => h (.step h1 fun t ht => Classical.byContradiction fun h3 => h2 ⟨t, ht, h3⟩))

/-- a set outside of S whose states are without arcs or have an arc into the set lies outside of the attractor -/
theorem coind {C : Nat → Prop} (h : ∀ k, C k → ¬ S k ∧ (T k = [] ∨ ∃ t ∈ T k, C t)) {k : Nat} (hc : C k) : ¬ Attr T S k := by
  intro ha
  induction ha with
  | base hs => exact (h _ hc).1 hs
  | step h1 _ ih =>
    rcases (h _ hc).2 with h2 | ⟨t, ht, h2⟩
    · exact h1 h2
    · exact ih t ht h2
end Attr

/-! ### Lists of different numbers -/
theorem nodup_le : ∀ (n : Nat) (l : List Nat), l.Nodup → (∀ x ∈ l, x < n) → l.length ≤ n
  | 0, [], _, _ => Nat.le_refl _
  | 0, a :: l, _, h => absurd (h a (List.mem_cons_self ..)) (Nat.not_lt_zero _)
  | n + 1, l, hd, h => by
    by_cases hm : n ∈ l
    · have h1 := nodup_le n (l.erase n) (hd.erase n) fun x hx => by
        have h2 := List.mem_of_mem_erase hx
        have h3 := h x h2
        have h4 : x ≠ n := fun e => by
          subst e
          exact (List.Nodup.not_mem_erase hd) hx
        omega
      rw [List.length_erase_of_mem hm] at h1
      omega
    · have h1 := nodup_le n l hd fun x hx => by
        have h3 := h x hx
        have h4 : x ≠ n := fun e => hm (e ▸ hx)
        omega
      omega

/-! ### Readings of lists -/
theorem gset {α : Type} (l : List α) (i j : Nat) (x d : α) : (l.set i x).getD j d = if i = j ∧ i < l.length then x else l.getD j d := by
  simp only [List.getD_eq_getElem?_getD, List.getElem?_set]
  by_cases h : i = j
  · subst h
    by_cases h2 : i < l.length
    · simp [h2]
    · simp [h2]
  · simp [h]
theorem gset_eq {α : Type} {l : List α} {i : Nat} {x d : α} (h : i < l.length) : (l.set i x).getD i d = x := by
  rw [gset, if_pos ⟨rfl, h⟩]
theorem gset_ne {α : Type} {l : List α} {i j : Nat} {x d : α} (h : i ≠ j) : (l.set i x).getD j d = l.getD j d := by
  rw [gset, if_neg (fun h2 => h h2.1)]
theorem getD_rep {α : Type} (n i : Nat) (x d : α) : (List.replicate n x).getD i d = if i < n then x else d := by
  simp only [List.getD_eq_getElem?_getD, List.getElem?_replicate]
  split <;> rfl
theorem getD_over {α : Type} {l : List α} {i : Nat} {d : α} (h : l.length ≤ i) : l.getD i d = d := by
  rw [List.getD_eq_getElem?_getD, List.getElem?_eq_none h]; rfl
theorem getD_at {α : Type} {l : List α} {i : Nat} (d : α) (h : i < l.length) : l.getD i d = l[i] := by
  rw [List.getD_eq_getElem?_getD, List.getElem?_eq_getElem h]; rfl
theorem getD_mem {α : Type} {l : List α} {i : Nat} (d : α) (h : i < l.length) : l.getD i d ∈ l := by
  rw [getD_at d h]; exact List.getElem_mem h
theorem getD_append {α : Type} (l m : List α) (i : Nat) (d : α) : (l ++ m).getD i d = if i < l.length then l.getD i d else m.getD (i - l.length) d := by
  simp only [List.getD_eq_getElem?_getD, List.getElem?_append]
  split <;> rfl
theorem getD_app1 {α : Type} {l m : List α} {i : Nat} {d : α} (h : i < l.length) : (l ++ m).getD i d = l.getD i d := by rw [getD_append, if_pos h]
theorem getD_app2 {α : Type} {l m : List α} {i : Nat} {d : α} (h : l.length ≤ i) : (l ++ m).getD i d = m.getD (i - l.length) d := by rw [getD_append, if_neg (by omega)]
/-- lists are equal that read equal -/
theorem ext_getD {α : Type} {l m : List α} (d : α) (hl : l.length = m.length) (h : ∀ i, i < l.length → l.getD i d = m.getD i d) : l = m := by
  apply List.ext_getElem hl
  intro i h1 h2
  have := h i h1
  rwa [getD_at d h1, getD_at d h2] at this
theorem mem_getD {α : Type} {l : List α} {x : α} (d : α) (h : x ∈ l) : ∃ i, i < l.length ∧ l.getD i d = x := by
  obtain ⟨i, hi, rfl⟩ := List.getElem_of_mem h
  exact ⟨i, hi, getD_at d hi⟩

/-! ### Counting -/
/-- how many places of a list of truth values are false -/
def holes (l : List Bool) : Nat := l.countP (fun b => !b)
theorem holes_set {l : List Bool} {i : Nat} (hi : i < l.length) (h : l.getD i false = false) : holes (l.set i true) + 1 = holes l := by
  unfold holes
  induction l generalizing i with
  | nil => simp at hi
  | cons a l ih =>
    cases i with
    | zero =>
      simp only [List.getD_cons_zero] at h
      subst h
      simp
    | succ i =>
      simp only [List.length_cons, Nat.add_lt_add_iff_right] at hi
      simp only [List.getD_cons_succ] at h
      have := ih hi h
      simp only [List.set_cons_succ, List.countP_cons]
      omega
theorem holes_le (l : List Bool) : holes l ≤ l.length := List.countP_le_length
end Go.Fw
