/- Bounds of the worst numbers; the sets of a valid system. -/
import Derived.Test.YtafndpkfoajpnaaWorstP
namespace Go.Proofs.Ytafndpkfoajpnaa.G
open Go Go.Fw

section
variable {s : SpaceV} {n : Nat} {l : List Bool} {w : Nat → Nat → Nat} {x p j : Nat}

theorem rank_next (h : Attr (goals s) (SetOf l) x) (hl : l.getD x false = false) (hj : j < (arcs s x).length) : (baseN s l stepsW).val (goN s x j) < (baseN s l stepsW).val x := by
  have := val_ge (w := stepsW) h hl hj
  simp only [stepsW] at this ⊢; omega

theorem rank_list (hs : Sys s n) (h : Attr (goals s) (SetOf l) x) : x < n → ∃ V : List Nat, V.Nodup ∧ V.length = (baseN s l stepsW).val x + 1 ∧ ∀ v ∈ V, v < n ∧ (baseN s l stepsW).val v ≤ (baseN s l stepsW).val x := by
  have one : ∀ k, k < n → l.getD k false = true → Attr (goals s) (SetOf l) k → ∃ V : List Nat, V.Nodup ∧ V.length = (baseN s l stepsW).val k + 1 ∧ ∀ v ∈ V, v < n ∧ (baseN s l stepsW).val v ≤ (baseN s l stepsW).val k := fun k hk hb hA => by
    refine ⟨[k], by simp, by rw [val_leg hA hb]; rfl, fun v hv => ?_⟩
    rw [List.mem_singleton] at hv; subst hv; exact ⟨hk, Nat.le_refl _⟩
  induction h with
  | base h => intro hk; exact one _ hk h (.base h)
  | step h1 h2 ih =>
    rename_i k
    intro hk
    have hA : Attr (goals s) (SetOf l) k := .step h1 h2
    cases hb : l.getD k false with
    | true => exact one k hk hb hA
    | false =>
      obtain ⟨j, hj, he⟩ := val_at (w := stepsW) hA hb
      obtain ⟨V, v1, v2, v3⟩ := ih _ (goN_mem hj) (hs.lt k _ (goN_mem hj))
      simp only [stepsW] at he v2 v3 ⊢
      refine ⟨k :: V, List.nodup_cons.2 ⟨fun hm => ?_, v1⟩, by rw [List.length_cons]; omega, fun v hv => ?_⟩
      · have := (v3 k hm).2; omega
      · rcases List.mem_cons.1 hv with rfl | hv
        · exact ⟨hk, Nat.le_refl _⟩
        · have := v3 v hv; exact ⟨this.1, by omega⟩
theorem rank_lt (hs : Sys s n) (h : Attr (goals s) (SetOf l) x) (hx : x < n) : (baseN s l stepsW).val x < n := by
  obtain ⟨V, v1, v2, v3⟩ := rank_list hs h hx
  have := nodup_le n V v1 fun v hv => (v3 v hv).1
  omega
theorem val_bound (c : Nat) (hw : ∀ x j, j < (arcs s x).length → w x j ≤ c) (h : Attr (goals s) (SetOf l) x) : (baseN s l w).val x ≤ c * (baseN s l stepsW).val x := by
  have key : Attr (goals s) (SetOf l) x ∧ (baseN s l w).val x ≤ c * (baseN s l stepsW).val x := by
    induction h with
    | base h => exact ⟨.base h, by rw [val_leg (.base h) h]; exact Nat.zero_le _⟩
    | step h1 h2 ih =>
      rename_i k
      have hA : Attr (goals s) (SetOf l) k := .step h1 h2
      refine ⟨hA, ?_⟩
      cases hb : l.getD k false with
      | true => rw [val_leg hA hb]; exact Nat.zero_le _
      | false =>
        rw [val_go hA hb]
        refine maxTo_le fun j hj => ?_
        have h6 := (ih _ (goN_mem hj)).2
        have h7 := rank_next hA hb hj
        have h8 := hw k j hj
        have h9 : c * ((baseN s l stepsW).val (goN s k j) + 1) ≤ c * (baseN s l stepsW).val k := Nat.mul_le_mul_left c (by omega)
        rw [Nat.mul_add, Nat.mul_one] at h9
        omega
  exact key.2

/-- the sets of a valid system, as numbers -/
structure Sets (s : SpaceV) (n : Nat) : Prop where
  en : ∀ x, x < n → s.1.getD x 0 = ((enN s x : Nat) : Int) ∧ enN s x < 16777216
  st : ∀ x j, j < (arcs s x).length → aset (arcs s x) j = ((setN s x j : Nat) : Int) ∧ setN s x j < 16777216 ∧ setN s x j ≠ 0

theorem sets_of (hi : SpaceIn s) (hP : SpaceP s) : Sets s s.1.length where
  en := fun x hx => by
    obtain ⟨e, he, _⟩ := nat_of_u32 (getD_ok hi.en (0 : Int) hx)
    have h1 : s.1.getD x 0 < 16777216 := (hP.2.2.2.2 x hx).2.1
    have h2 : enN s x = e := by unfold enN; rw [he]; exact Int.toNat_natCast e
    rw [h2]; exact ⟨he, by omega⟩
  st := fun x j hj => by
    have hx : x < s.2.1.length := by
      rcases Nat.lt_or_ge x s.2.1.length with h | h
      · exact h
      · have : arcs s x = [] := getD_over h
        rw [this] at hj; simp at hj
    have hx' : x < s.1.length := by have := hP.2.2.1; omega
    obtain ⟨m, hm, hm2⟩ := nat_of_u32 (getD_ok (arcs_ok hi hx) (0, (0, ())) hj).1
    have hm : aset (arcs s x) j = (m : Int) := hm
    obtain ⟨e, he, he2⟩ := nat_of_u32 (getD_ok hi.en (0 : Int) hx')
    obtain ⟨hA, hB, _⟩ := hP.2.2.2.2 x hx'
    obtain ⟨h1, _, h3, _⟩ := hA j hj
    have h2 : setN s x j = m := by unfold setN; rw [hm]; exact Int.toNat_natCast m
    rw [hm] at h1 h3
    rw [he] at h3 hB
    have h4 : iandNot .u32 (m : Int) (e : Int) = ((m &&& (4294967295 - e) : Nat) : Int) := iandNot_nat hm2 he2
    rw [h4] at h3
    have h5 : m &&& (4294967295 - e) = 0 := by omega
    rw [h2]
    refine ⟨hm, ?_, by omega⟩
    rw [show (16777216 : Nat) = 2 ^ 24 from rfl]
    refine Nat.lt_pow_two_of_testBit _ fun i hi' => ?_
    rcases Nat.lt_or_ge i 32 with h6 | h6
    · have h7 := congrArg (fun z => z.testBit i) h5
      simp only [Nat.testBit_and, Nat.zero_testBit] at h7
      have h8 : (4294967295 - e).testBit i = true := by
        rw [show 4294967295 - e = 2 ^ 32 - (e + 1) by omega, Nat.testBit_two_pow_sub_succ (by omega)]
        have : e.testBit i = false := Nat.testBit_lt_two_pow (Nat.lt_of_lt_of_le (show e < 2 ^ 24 by omega) (Nat.pow_le_pow_right (by decide) hi'))
        simp [h6, this]
      rw [h8, Bool.and_true] at h7; exact h7
    · exact Nat.testBit_lt_two_pow (Nat.lt_of_lt_of_le (show m < 2 ^ 32 by omega) (Nat.pow_le_pow_right (by decide) h6))
end
end Go.Proofs.Ytafndpkfoajpnaa.G
