/- Valid systems by the goals of their arcs; lists that tell sets. -/
import Derived.Test.YtafndpkfoajpnaaSpace2
namespace Go.Fw
open Go

/-! ### Counting in lists -/
theorem countP_split (p : Nat → Bool) (k : Nat) (hk : p k = false) (l : List Nat) : l.countP (fun t => !(p t || t == k)) + l.count k = l.countP (fun t => !p t) := by
  induction l with
  | nil => rfl
  | cons a l ih =>
    simp only [List.countP_cons, List.count_cons]
    by_cases h : a = k
    · subst h
      simp only [hk, beq_self_eq_true, Bool.or_true, Bool.not_true, Bool.not_false, Bool.false_eq_true, if_false, if_true]
      omega
    · have hb : (a == k) = false := by simpa using h
      cases hp : p a <;> simp only [hb, Bool.or_false, Bool.not_true, Bool.not_false, Bool.false_eq_true, if_false, if_true] <;> omega
theorem count_le_countP (p : Nat → Bool) (k : Nat) (hk : p k = false) (l : List Nat) : l.count k ≤ l.countP (fun t => !p t) := by
  have := countP_split p k hk l; omega
theorem only_of_count {p : Nat → Bool} {k : Nat} (hk : p k = false) {l : List Nat} (h : l.countP (fun t => !p t) ≤ l.count k) : ∀ t ∈ l, p t = true ∨ t = k := by
  have h1 := countP_split p k hk l
  have h2 : l.countP (fun t => !(p t || t == k)) = 0 := by omega
  rw [List.countP_eq_zero] at h2
  intro t ht
  have := h2 t ht
  cases hp : p t
  · right
    simpa [hp] using this
  · exact .inl rfl
theorem count_take_le (l : List Nat) (i j : Nat) : (l.take i).count j ≤ l.count j := (List.take_sublist i l).count_le j
theorem count_take_succ {l : List Nat} {i : Nat} (hi : i < l.length) (j : Nat) : (l.take (i + 1)).count j = (l.take i).count j + if l.getD i 0 = j then 1 else 0 := by
  rw [List.take_succ_eq_append_getElem hi, List.count_append, getD_at 0 hi]
  simp [List.count_cons, List.count_nil]

/-- lists of lists of numbers -/
def numll (l : List (List Nat)) : List (List Int) := l.map numl
theorem numll_length (l : List (List Nat)) : (numll l).length = l.length := by simp [numll]
theorem numll_getD (l : List (List Nat)) (i : Nat) : (numll l).getD i [] = numl (l.getD i []) := by
  simp only [numll, List.getD_eq_getElem?_getD, List.getElem?_map]
  cases l[i]? <;> rfl
theorem numll_set (l : List (List Nat)) (i : Nat) (x : List Nat) : (numll l).set i (numl x) = numll (l.set i x) := by
  simp [numll, List.map_set]
theorem numl_getD (l : List Nat) (i : Nat) : (numl l).getD i 0 = ((l.getD i 0 : Nat) : Int) := by
  simp only [numl, List.getD_eq_getElem?_getD, List.getElem?_map]
  cases l[i]? <;> rfl
theorem numl_take (l : List Nat) (i : Nat) : (numl l).take i = numl (l.take i) := by simp [numl, List.map_take]
theorem numl_drop (l : List Nat) (i : Nat) : (numl l).drop i = numl (l.drop i) := by simp [numl, List.map_drop]
theorem numll_rep (n : Nat) : List.replicate n ([] : List Int) = numll (List.replicate n []) := by simp [numll, numl]
end Go.Fw
namespace Go.Proofs.Ytafndpkfoajpnaa.G
open Go Go.Fw

/-- the goals of a state's arcs -/
def goals (s : SpaceV) (k : Nat) : List Nat := (arcs s k).map fun a => a.2.1.toNat

/-- a valid system, as its goals tell -/
structure Sys (s : SpaceV) (n : Nat) : Prop where
  en : s.1.length = n
  ar : s.2.1.length = n
  pos : 1 ≤ n
  le : n ≤ 32768
  tot : total s n ≤ 262144
  lt : ∀ k, ∀ t ∈ goals s k, t < n
  at' : ∀ k j, j < (arcs s k).length → ato (arcs s k) j = (((goals s k).getD j 0 : Nat) : Int)

theorem goals_len (s : SpaceV) (k : Nat) : (goals s k).length = (arcs s k).length := by simp [goals]
theorem goals_over {s : SpaceV} {n : Nat} (h : Sys s n) {k : Nat} (hk : n ≤ k) : goals s k = [] := by
  have : arcs s k = [] := getD_over (by rw [h.ar]; exact hk)
  simp [goals, this]
theorem goals_at {s : SpaceV} {n : Nat} (h : Sys s n) {k j : Nat} (hj : j < (arcs s k).length) : (goals s k).getD j 0 < n := h.lt k _ (getD_mem 0 (by rw [goals_len]; exact hj))
theorem goals_lt {s : SpaceV} {n : Nat} (h : Sys s n) {k : Nat} (hk : goals s k ≠ []) : k < n := by
  rcases Nat.lt_or_ge k n with h1 | h1
  · exact h1
  · exact absurd (goals_over h h1) hk
theorem total_ge {s : SpaceV} {n k : Nat} (hk : k < n) : total s k + (arcs s k).length ≤ total s n := total_mono s (show k + 1 ≤ n from hk)

theorem sys_of {s : SpaceV} (h : SpaceP s) : Sys s s.1.length where
  en := rfl
  ar := h.2.2.1
  pos := h.1
  le := h.2.1
  tot := h.2.2.2.1
  lt := fun k t ht => by
    simp only [goals, List.mem_map] at ht
    obtain ⟨a, ha, rfl⟩ := ht
    obtain ⟨j, hj, rfl⟩ := mem_getD (0, (0, ())) ha
    have hk : k < s.1.length := by
      rcases Nat.lt_or_ge k s.1.length with h1 | h1
      · exact h1
      · have : arcs s k = [] := getD_over (by rw [h.2.2.1]; exact h1)
        rw [this] at hj; simp at hj
    have := ((h.2.2.2.2 k hk).1 j hj).2.2.2
    rw [ato] at this
    omega
  at' := fun k j hj => by
    have hk : k < s.1.length := by
      rcases Nat.lt_or_ge k s.1.length with h1 | h1
      · exact h1
      · have : arcs s k = [] := getD_over (by rw [h.2.2.1]; exact h1)
        rw [this] at hj; simp at hj
    have h1 := ((h.2.2.2.2 k hk).1 j hj).2.2.2.1
    have h2 : (goals s k).getD j 0 = (ato (arcs s k) j).toNat := by
      rw [getD_at 0 (by rw [goals_len]; exact hj)]
      simp only [goals, List.getElem_map, ato]
      rw [getD_at _ hj]
    rw [h2]; omega

/-- a list tells a set of states -/
def Tells (n : Nat) (out : List Bool) (P : Nat → Prop) : Prop := out.length = n ∧ ∀ j, j < n → (out.getD j false = true ↔ P j)
theorem Tells.unique {n : Nat} {a b : List Bool} {P : Nat → Prop} (ha : Tells n a P) (hb : Tells n b P) : a = b := by
  refine ext_getD false (ha.1.trans hb.1.symm) fun i hi => ?_
  have h1 := ha.2 i (by rw [← ha.1]; exact hi)
  have h2 := hb.2 i (by rw [← ha.1]; exact hi)
  rw [Bool.eq_iff_iff, h1, h2]

/-- the states of a list -/
def SetOf (l : List Bool) (j : Nat) : Prop := l.getD j false = true

end Go.Proofs.Ytafndpkfoajpnaa.G
