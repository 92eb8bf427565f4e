/- The worst numbers of steps, moves and rounds, without the program. -/
import Derived.Test.YtafndpkfoajpnaaSysA
import Derived.Test.YtafndpkfoajpnaaNetB
namespace Go.Fw
theorem pops_pos {a : Nat} : ∀ k, a < 2 ^ k → a ≠ 0 → 1 ≤ pops k a := by
  intro k
  induction k generalizing a with
  | zero => intro h h0; simp at h; omega
  | succ k ih =>
    intro h h0
    simp only [pops]
    cases hb : a.testBit k with
    | true => simp
    | false =>
      have h1 : a < 2 ^ k := by
        refine Nat.lt_pow_two_of_testBit _ fun i hi => ?_
        rcases Nat.eq_or_lt_of_le hi with h2 | h2
        · rw [← h2]; exact hb
        · exact Nat.testBit_lt_two_pow (Nat.lt_of_lt_of_le h (Nat.pow_le_pow_right (by decide) h2))
      have := ih h1 h0
      omega
theorem pops_le : ∀ k a, pops k a ≤ k := by
  intro k
  induction k with
  | zero => intro a; exact Nat.le_refl _
  | succ k ih =>
    intro a
    have := ih a
    simp only [pops]
    split <;> omega
end Go.Fw
namespace Go.Proofs.Ytafndpkfoajpnaa.G
open Go Go.Fw

def enN (s : SpaceV) (x : Nat) : Nat := (s.1.getD x 0).toNat
def setN (s : SpaceV) (x j : Nat) : Nat := (aset (arcs s x) j).toNat
def goN (s : SpaceV) (x j : Nat) : Nat := (goals s x).getD j 0
def baseN (s : SpaceV) (l : List Bool) (w : Nat → Nat → Nat) : Net Nat := { leg := fun x => l.getD x false, deg := fun x => (arcs s x).length, nxt := goN s, len := w, low := 0 }
def stepsW (_ _ : Nat) : Nat := 1
def movesW (s : SpaceV) (x j : Nat) : Nat := pops 32 (setN s x j)
def leftN (s : SpaceV) (p x j : Nat) : Nat := p &&& (4294967295 - setN s x j) &&& enN s (goN s x j)
def doneN (s : SpaceV) (p x j : Nat) : Nat := if leftN s p x j = 0 then 1 else 0
def afterN (s : SpaceV) (p x j : Nat) : Nat := if leftN s p x j = 0 then enN s (goN s x j) else leftN s p x j
def roundsN (s : SpaceV) (l : List Bool) : Net (Nat × Nat) := { leg := fun x => l.getD x.1 false, deg := fun x => (arcs s x.1).length, nxt := fun x j => (goN s x.1 j, afterN s x.2 x.1 j), len := fun x j => doneN s x.2 x.1 j, low := 1 }

section
variable {s : SpaceV} {l : List Bool} {w : Nat → Nat → Nat} {x p j : Nat}

theorem goN_mem (h : j < (arcs s x).length) : goN s x j ∈ goals s x := getD_mem 0 (by rw [goals_len]; exact h)

theorem ends_base (h : Attr (goals s) (SetOf l) x) : (baseN s l w).Ends x := by
  induction h with
  | base h => exact .leg h
  | step _ _ ih =>
    rename_i k _ _
    cases hb : l.getD k false with
    | true => exact .leg hb
    | false => exact .go hb fun j hj => ih _ (goN_mem hj)
theorem ends_rounds (h : Attr (goals s) (SetOf l) x) : ∀ p, (roundsN s l).Ends (x, p) := by
  induction h with
  | base h => exact fun p => .leg h
  | step _ _ ih =>
    rename_i k _ _
    intro p
    cases hb : l.getD k false with
    | true => exact .leg hb
    | false => exact .go hb fun j hj => ih _ (goN_mem hj) _
theorem attr_next (h : Attr (goals s) (SetOf l) x) (hl : l.getD x false = false) : 0 < (arcs s x).length ∧ ∀ j, j < (arcs s x).length → Attr (goals s) (SetOf l) (goN s x j) := by
  obtain ⟨h1, h2⟩ := h.cases'.resolve_left (by rw [SetOf, hl]; simp)
  refine ⟨?_, fun j hj => h2 _ (goN_mem hj)⟩
  rw [← goals_len]
  exact Nat.pos_of_ne_zero fun h => h1 (List.eq_nil_of_length_eq_zero h)

theorem val_leg (h : Attr (goals s) (SetOf l) x) (hl : l.getD x false = true) : (baseN s l w).val x = 0 := by
  rw [(ends_base h).eq]; exact Net.rhs_leg hl
theorem val_go (h : Attr (goals s) (SetOf l) x) (hl : l.getD x false = false) : (baseN s l w).val x = maxTo (arcs s x).length (fun j => w x j + (baseN s l w).val (goN s x j)) := by
  rw [(ends_base h).eq, Net.rhs_go hl]; exact Nat.max_eq_right (Nat.zero_le _)
theorem val_ge (h : Attr (goals s) (SetOf l) x) (hl : l.getD x false = false) (hj : j < (arcs s x).length) : w x j + (baseN s l w).val (goN s x j) ≤ (baseN s l w).val x := by
  rw [val_go h hl]; exact le_maxTo (f := fun j => w x j + (baseN s l w).val (goN s x j)) hj
theorem val_at (h : Attr (goals s) (SetOf l) x) (hl : l.getD x false = false) : ∃ j, j < (arcs s x).length ∧ (baseN s l w).val x = w x j + (baseN s l w).val (goN s x j) := by
  rw [val_go h hl]; exact maxTo_at (attr_next h hl).1
theorem rval_leg (h : Attr (goals s) (SetOf l) x) (hl : l.getD x false = true) : (roundsN s l).val (x, p) = 0 := by
  rw [(ends_rounds h p).eq]; exact Net.rhs_leg hl
theorem rval_go (h : Attr (goals s) (SetOf l) x) (hl : l.getD x false = false) : (roundsN s l).val (x, p) = max 1 (maxTo (arcs s x).length (fun j => doneN s p x j + (roundsN s l).val (goN s x j, afterN s p x j))) := by
  rw [(ends_rounds h p).eq, Net.rhs_go hl]; rfl
theorem rval_ge (h : Attr (goals s) (SetOf l) x) (hl : l.getD x false = false) (hj : j < (arcs s x).length) : doneN s p x j + (roundsN s l).val (goN s x j, afterN s p x j) ≤ (roundsN s l).val (x, p) := by
  rw [rval_go h hl]
  have := le_maxTo (f := fun j => doneN s p x j + (roundsN s l).val (goN s x j, afterN s p x j)) hj
  omega
theorem rval_pos (h : Attr (goals s) (SetOf l) x) (hl : l.getD x false = false) : 1 ≤ (roundsN s l).val (x, p) := by
  rw [rval_go h hl]; omega

theorem rounds_le_steps (h : Attr (goals s) (SetOf l) x) : ∀ p, (roundsN s l).val (x, p) ≤ (baseN s l stepsW).val x := by
  have key : Attr (goals s) (SetOf l) x ∧ ∀ p, (roundsN s l).val (x, p) ≤ (baseN s l stepsW).val x := by
    induction h with
    | base h => exact ⟨.base h, fun p => by rw [rval_leg (.base h) h]; exact Nat.zero_le _⟩
    | step h1 h2 ih =>
      rename_i k
      have hA : Attr (goals s) (SetOf l) k := .step h1 h2
      refine ⟨hA, fun p => ?_⟩
      cases hb : l.getD k false with
      | true => rw [rval_leg hA hb]; exact Nat.zero_le _
      | false =>
        obtain ⟨h3, _⟩ := attr_next hA hb
        have h4 := val_ge (w := stepsW) hA hb h3
        rw [rval_go hA hb]
        have h5 : maxTo (arcs s k).length (fun j => doneN s p k j + (roundsN s l).val (goN s k j, afterN s p k j)) ≤ (baseN s l stepsW).val k := maxTo_le fun j hj => by
          have h6 := (ih _ (goN_mem hj)).2 (afterN s p k j)
          have h7 := val_ge (w := stepsW) hA hb hj
          have h8 : doneN s p k j ≤ 1 := by unfold doneN; split <;> omega
          simp only [stepsW] at h7; omega
        simp only [stepsW] at h4; omega
  exact key.2

theorem steps_le_moves (hset : ∀ x j, j < (arcs s x).length → 1 ≤ movesW s x j) (h : Attr (goals s) (SetOf l) x) : (baseN s l stepsW).val x ≤ (baseN s l (movesW s)).val x := by
  have key : Attr (goals s) (SetOf l) x ∧ (baseN s l stepsW).val x ≤ (baseN s l (movesW s)).val x := by
    induction h with
    | base h => exact ⟨.base h, by rw [val_leg (.base h) h]; exact Nat.zero_le _⟩
    | step h1 h2 ih =>
      rename_i k
      have hA : Attr (goals s) (SetOf l) k := .step h1 h2
      refine ⟨hA, ?_⟩
      cases hb : l.getD k false with
      | true => rw [val_leg hA hb]; exact Nat.zero_le _
      | false =>
        rw [val_go hA hb]
        refine maxTo_le fun j hj => ?_
        have h6 := (ih _ (goN_mem hj)).2
        have h7 := val_ge (w := movesW s) hA hb hj
        have h8 := hset k j hj
        simp only [stepsW]; omega
  exact key.2
end
end Go.Proofs.Ytafndpkfoajpnaa.G
