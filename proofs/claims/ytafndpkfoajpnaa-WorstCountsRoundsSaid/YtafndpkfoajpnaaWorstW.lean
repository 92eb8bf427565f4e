/- A walk's account, against the worst numbers. -/
import Derived.Test.YtafndpkfoajpnaaAccountA
import Derived.Test.YtafndpkfoajpnaaWorstP
namespace Go.Proofs.Ytafndpkfoajpnaa.G
open Go Go.Fw

theorem pops_cnt (a : Nat) : ∀ k, pops k a = cntBits a k := by
  intro k
  induction k with
  | zero => rfl
  | succ k ih => simp only [pops, cntBits, bit, ih]
theorem pop_pops {a : Nat} (h : a < 16777216) : pop a = pops 32 a := by rw [pop_bits h, pops_cnt]

section
variable {s : SpaceV} {l : List Bool}

structure WB (s : SpaceV) (l : List Bool) (first : Nat) (k : Acc) (x i : Nat) : Prop where
  ok : k.ok
  t : k.t = i
  attr : Attr (goals s) (SetOf l) x
  steps : k.t + (baseN s l stepsW).val x ≤ (baseN s l stepsW).val first
  moves : k.m + (baseN s l (movesW s)).val x ≤ (baseN s l (movesW s)).val first
  begun : k.q ≤ (roundsN s l).val (first, enN s first)
  rounds : l.getD x false = false → k.r + (roundsN s l).val (x, k.p) ≤ (roundsN s l).val (first, enN s first)

theorem WB.zero {first : Nat} (h : Attr (goals s) (SetOf l) first) (he : enN s first < 16777216) : WB s l first ⟨0, 0, 0, 0, enN s first &&& 16777215⟩ first 0 := by
  have e1 : enN s first &&& 16777215 = enN s first := by
    rw [show (16777215 : Nat) = 2 ^ 24 - 1 from rfl, Nat.and_two_pow_sub_one_eq_mod]
    exact Nat.mod_eq_of_lt (by simpa using he)
  rw [e1]
  exact ⟨⟨by simp, by simp, by simp, by simp, by simp, by simp, he⟩, rfl, h, by simp, by simp, by simp, fun _ => by simp⟩

theorem WB.step {first : Nat} {k : Acc} {x i j : Nat} (h : WB s l first k x i) (hi : i < 4096) (hl : l.getD x false = false) (hj : j < (arcs s x).length) (hs : setN s x j < 16777216) (h0 : setN s x j ≠ 0) (hb : enN s (goN s x j) < 16777216) : WB s l first (k.step (setN s x j) (enN s (goN s x j))) (goN s x j) (i + 1) := by
  obtain ⟨hok, ht, hA, h1, h2, h3, h4⟩ := h
  have h5 := h4 hl
  have h6 := rval_pos (p := k.p) hA hl
  have h7 := rval_ge (p := k.p) hA hl hj
  have h8 := val_ge (w := stepsW) hA hl hj
  have h9 := val_ge (w := movesW s) hA hl hj
  have hp := pop_pops hs
  have hple := pop_le hs
  have hA' := (attr_next hA hl).2 j hj
  have hpos := hple.2 h0
  simp only [stepsW, movesW] at h8 h9
  have hleft : leftN s k.p x j = k.p &&& (4294967295 - setN s x j) &&& enN s (goN s x j) := rfl
  have hand : leftN s k.p x j ≤ enN s (goN s x j) := Nat.and_le_right
  obtain ⟨o1, o2, o3, o4, o5, o6, o7⟩ := hok
  unfold Acc.step
  rw [← hleft]
  by_cases hz : leftN s k.p x j = 0
  · rw [if_pos hz]
    have e1 : doneN s k.p x j = 1 := by unfold doneN; rw [if_pos hz]
    have e2 : afterN s k.p x j = enN s (goN s x j) := by unfold afterN; rw [if_pos hz]
    rw [e1, e2] at h7
    exact ⟨⟨by simp, by simp, by simp only; omega, by simp only; omega, by simp only; omega, by simp only; omega, hb⟩, by simp only; omega, hA', by simp only; omega, by simp only; omega, by simp only; omega, fun _ => by simp only; omega⟩
  · rw [if_neg hz]
    have e1 : doneN s k.p x j = 0 := by unfold doneN; rw [if_neg hz]
    have e2 : afterN s k.p x j = leftN s k.p x j := by unfold afterN; rw [if_neg hz]
    rw [e1, e2] at h7
    exact ⟨⟨by simp only; omega, by simp, by simp only; omega, by simp only; omega, by simp only; omega, by simp only; omega, by simp only; omega⟩, by simp only; omega, hA', by simp only; omega, by simp only; omega, by simp only; omega, fun _ => by simp only; omega⟩
end
end Go.Proofs.Ytafndpkfoajpnaa.G
