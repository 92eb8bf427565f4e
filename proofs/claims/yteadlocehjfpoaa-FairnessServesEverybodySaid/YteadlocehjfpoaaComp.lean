/- Reaching, components and their numbers: what is said of them without any program. -/
import Derived.Test.YteadlocehjfpoaaRefA
namespace Go.Fw

/-- reaching along arcs -/
inductive Rch (G : Nat → List Nat) (x : Nat) : Nat → Prop
  | refl : Rch G x x
  | tail {y z : Nat} : Rch G x y → z ∈ G y → Rch G x z
namespace Rch
variable {G H : Nat → List Nat} {x y z : Nat}
theorem trans (h : Rch G x y) (h' : Rch G y z) : Rch G x z := by
  induction h' with
  | refl => exact h
  | tail _ h2 ih => exact .tail ih h2
theorem one (h : y ∈ G x) : Rch G x y := .tail .refl h
theorem head (h : y ∈ G x) (h' : Rch G y z) : Rch G x z := (one h).trans h'
theorem mono (hs : ∀ a b, b ∈ G a → b ∈ H a) (h : Rch G x y) : Rch H x y := by
  induction h with
  | refl => exact .refl
  | tail _ h2 ih => exact .tail ih (hs _ _ h2)
/-- a closed set is not left -/
theorem closed {X : Nat → Prop} (hX : ∀ a, X a → ∀ b ∈ G a, X b) (hx : X x) (h : Rch G x y) : X y := by
  induction h with
  | refl => exact hx
  | tail _ h2 ih => exact hX _ ih _ h2
theorem cases' (h : Rch G x z) : x = z ∨ ∃ y ∈ G x, Rch G y z := by
  induction h with
  | refl => exact .inl rfl
  | tail h1 h2 ih =>
    rcases ih with rfl | ⟨w, h3, h4⟩
    · exact .inr ⟨_, h2, .refl⟩
    · exact .inr ⟨w, h3, .tail h4 h2⟩
end Rch

/-- each reaches the other -/
def Both (G : Nat → List Nat) (x y : Nat) : Prop := Rch G x y ∧ Rch G y x
theorem Both.refl {G : Nat → List Nat} {x : Nat} : Both G x x := ⟨.refl, .refl⟩
theorem Both.symm {G : Nat → List Nat} {x y : Nat} (h : Both G x y) : Both G y x := ⟨h.2, h.1⟩
theorem Both.trans {G : Nat → List Nat} {x y z : Nat} (h : Both G x y) (h' : Both G y z) : Both G x z := ⟨h.1.trans h'.1, h'.2.trans h.2⟩

/-! ### Numbers of components, by their least states -/
section
open Classical
/-- no earlier state is of the same component -/
def Least (L : Nat → Prop) (E : Nat → Nat → Prop) (k : Nat) : Prop := ∀ j, j < k → ¬ L j → ¬ E j k
/-- how many components have a state below -/
noncomputable def cntC (L : Nat → Prop) (E : Nat → Nat → Prop) : Nat → Nat
  | 0 => 0
  | k + 1 => cntC L E k + if ¬ L k ∧ Least L E k then 1 else 0
theorem cntC_mono (L : Nat → Prop) (E : Nat → Nat → Prop) {a b : Nat} (h : a ≤ b) : cntC L E a ≤ cntC L E b := by
  induction b with
  | zero => rw [show a = 0 by omega]; exact Nat.le_refl _
  | succ b ih =>
    rcases Nat.eq_or_lt_of_le h with rfl | h1
    · exact Nat.le_refl _
    · exact Nat.le_trans (ih (by omega)) (Nat.le_add_right _ _)
theorem cntC_le (L : Nat → Prop) (E : Nat → Nat → Prop) : ∀ k, cntC L E k ≤ k
  | 0 => Nat.le_refl _
  | k + 1 => by
    have := cntC_le L E k
    simp only [cntC]
    split <;> omega

/-- the numbers -/
structure Num (n : Nat) (L : Nat → Prop) (E : Nat → Nat → Prop) (out : List Int) : Prop where
  len : out.length = n
  leg : ∀ k, k < n → L k → out.getD k 0 = -1
  new : ∀ k, k < n → ¬ L k → Least L E k → out.getD k 0 = (cntC L E k : Int)
  old : ∀ j k, j < n → k < n → ¬ L j → ¬ L k → E j k → out.getD j 0 = out.getD k 0

theorem least_ex {L : Nat → Prop} {E : Nat → Nat → Prop} (hr : ∀ x, E x x) (ht : ∀ x y z, E x y → E y z → E x z) : ∀ k, ¬ L k → ∃ j, j ≤ k ∧ ¬ L j ∧ E j k ∧ Least L E j := by
  intro k
  induction k using Nat.strongRecOn with
  | ind k ih =>
    intro hk
    by_cases h : Least L E k
    · exact ⟨k, Nat.le_refl _, hk, hr k, h⟩
    · have h' := h
      unfold Least at h'
      obtain ⟨j, h1, h2, h3⟩ : ∃ j, j < k ∧ ¬ L j ∧ E j k := Classical.byContradiction fun hn => h' fun j h1 h2 h3 => hn ⟨j, h1, h2, h3⟩
      obtain ⟨i, h4, h5, h6, h7⟩ := ih j h1 h2
      exact ⟨i, by omega, h5, ht _ _ _ h6 h3, h7⟩

theorem Num.unique {n : Nat} {L : Nat → Prop} {E : Nat → Nat → Prop} (hr : ∀ x, E x x) (ht : ∀ x y z, E x y → E y z → E x z) {a b : List Int} (ha : Num n L E a) (hb : Num n L E b) : a = b := by
  refine ext_getD 0 (ha.len.trans hb.len.symm) fun k hk => ?_
  have hk : k < n := by have := ha.len; omega
  by_cases hL : L k
  · rw [ha.leg k hk hL, hb.leg k hk hL]
  · obtain ⟨j, h1, h2, h3, h4⟩ := least_ex hr ht k hL
    rw [← ha.old j k (by omega) hk h2 hL h3, ← hb.old j k (by omega) hk h2 hL h3, ha.new j (by omega) h2 h4, hb.new j (by omega) h2 h4]

theorem Num.range {n : Nat} {L : Nat → Prop} {E : Nat → Nat → Prop} (hr : ∀ x, E x x) (ht : ∀ x y z, E x y → E y z → E x z) {a : List Int} (ha : Num n L E a) {k : Nat} (hk : k < n) (hL : ¬ L k) :
    ∃ c : Nat, a.getD k 0 = (c : Int) ∧ c < cntC L E (k + 1) := by
  obtain ⟨j, h1, h2, h3, h4⟩ := least_ex hr ht k hL
  refine ⟨cntC L E j, by rw [← ha.old j k (by omega) hk h2 hL h3, ha.new j (by omega) h2 h4], ?_⟩
  have := cntC_mono L E (show j + 1 ≤ k + 1 by omega)
  simp only [cntC] at this ⊢
  rw [if_pos ⟨h2, h4⟩] at this
  omega

/-- numbers are equal in one component only -/
theorem Num.inj {n : Nat} {L : Nat → Prop} {E : Nat → Nat → Prop} (hr : ∀ x, E x x) (hs : ∀ x y, E x y → E y x) (ht : ∀ x y z, E x y → E y z → E x z) {a : List Int} (ha : Num n L E a) {j k : Nat} (hj : j < n) (hk : k < n) (hLj : ¬ L j) (hLk : ¬ L k) (h : a.getD j 0 = a.getD k 0) : E j k := by
  obtain ⟨j', h1, h2, h3, h4⟩ := least_ex hr ht j hLj
  obtain ⟨k', h5, h6, h7, h8⟩ := least_ex hr ht k hLk
  have e1 : a.getD j 0 = (cntC L E j' : Int) := by rw [← ha.old j' j (by omega) hj h2 hLj h3, ha.new j' (by omega) h2 h4]
  have e2 : a.getD k 0 = (cntC L E k' : Int) := by rw [← ha.old k' k (by omega) hk h6 hLk h7, ha.new k' (by omega) h6 h8]
  have hc : cntC L E j' = cntC L E k' := by omega
  have : j' = k' := by
    rcases Nat.lt_trichotomy j' k' with h9 | h9 | h9
    · have := cntC_mono L E (show j' + 1 ≤ k' from h9)
      simp only [cntC] at this
      rw [if_pos ⟨h2, h4⟩] at this
      omega
    · exact h9
    · have := cntC_mono L E (show k' + 1 ≤ j' from h9)
      simp only [cntC] at this
      rw [if_pos ⟨h6, h8⟩] at this
      omega
  subst this
  exact ht _ _ _ (hs _ _ h3) h7
end
end Go.Fw
