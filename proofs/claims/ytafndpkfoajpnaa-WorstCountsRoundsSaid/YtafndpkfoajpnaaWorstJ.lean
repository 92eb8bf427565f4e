/- The reference's rounds are the worst ones; the law WorstCountsRounds. -/
import Derived.Test.YtafndpkfoajpnaaWorstI
namespace Go.Proofs.Ytafndpkfoajpnaa.G
open Go Go.Fw

section
variable {s : SpaceV} {n : Nat} {l : List Bool}
theorem rest_rd {T : List (List (Nat × Nat))} (hT : GoodT s l n T) (h : ∀ y, y < n → ∀ i, i < (T.getD y []).length → Rest s l T y i) {x p j : Nat} (hin : InT T x p) (hj : j < (arcs s x).length) : thr s l T x p j ≤ rd T x p := by
  have hp := (hT.tab.ok x p hin).1
  obtain ⟨i, h1, h2⟩ := hin
  have h3 := h x hp.1 i h1 j hj
  have h4 := rd_at (hT.tab.nd x) h1
  rw [h2] at h3 h4
  omega
theorem one_le {T : List (List (Nat × Nat))} (hT : GoodT s l n T) (h : ∀ y, y < n → ∀ i, i < (T.getD y []).length → Rest s l T y i) {x : Nat} (hA : Attr (goals s) (SetOf l) x) : ∀ p, InT T x p → 1 ≤ rd T x p := by
  have key : Attr (goals s) (SetOf l) x ∧ ∀ p, InT T x p → 1 ≤ rd T x p := by
    induction hA with
    | base hb => exact ⟨.base hb, fun p hin => by have := (hT.tab.ok _ p hin).2; rw [SetOf, this] at hb; simp at hb⟩
    | step h1 h2 ih =>
      rename_i k
      have hA : Attr (goals s) (SetOf l) k := .step h1 h2
      refine ⟨hA, fun p hin => ?_⟩
      have hlk := (hT.tab.ok k p hin).2
      have h0 := (attr_next hA hlk).1
      have h3 := rest_rd hT h hin h0
      unfold thr at h3
      split at h3
      · exact h3
      · rename_i hlg
        have h4 := (ih _ (goN_mem h0)).2 _ (hT.clo k p hin 0 h0 (by simpa using hlg))
        omega
  exact key.2
theorem at_rest (hs : Sys s n) (hf : ∀ x, x < n → Attr (goals s) (SetOf l) x) {T : List (List (Nat × Nat))} (hT : GoodT s l n T) (h : ∀ y, y < n → ∀ i, i < (T.getD y []).length → Rest s l T y i) {x p : Nat} (hin : InT T x p) : rd T x p = (roundsN s l).val (x, p) := by
  refine Nat.le_antisymm (rd_le hT hin) ?_
  obtain ⟨hp, hlx⟩ := hT.tab.ok x p hin
  have hk := (ends_rounds (hf x hp.1) p).least (v := fun a => if l.getD a.1 false = true then 0 else rd T a.1 a.2) (P := fun a => l.getD a.1 false = true ∨ InT T a.1 a.2) (fun a ha j hj hla => ?_) (fun a ha => ?_) (.inr hin)
  · simp only at hk
    rw [if_neg (by rw [hlx]; simp)] at hk
    exact hk
  · obtain ⟨y, q⟩ := a
    have hla : l.getD y false = false := hla
    have hy : InT T y q := ha.resolve_left (by simp only; rw [hla]; simp)
    cases hg : l.getD (goN s y j) false with
    | true => exact .inl hg
    | false => exact .inr (hT.clo y q hy j hj hg)
  · obtain ⟨y, q⟩ := a
    cases hla : l.getD y false with
    | true => rw [Net.rhs_leg (N := roundsN s l) (a := (y, q)) hla]; exact Nat.zero_le _
    | false =>
      have hy : InT T y q := ha.resolve_left (by simp only; rw [hla]; simp)
      rw [Net.rhs_go (N := roundsN s l) (a := (y, q)) hla]
      simp only
      rw [if_neg (by simp)]
      refine Nat.max_le.2 ⟨one_le hT h (hf y (hT.tab.ok y q hy).1.1) q hy, maxTo_le fun j hj => ?_⟩
      have h1 := rest_rd hT h hy hj
      have hd1 : doneN s q y j ≤ 1 := by unfold doneN; split <;> omega
      show doneN s q y j + (if l.getD (goN s y j) false = true then 0 else rd T (goN s y j) (afterN s q y j)) ≤ _
      unfold thr at h1
      split
      · rename_i hg; rw [if_pos hg] at h1; omega
      · rename_i hg; rw [if_neg hg] at h1; exact h1

theorem improve_loop (hs : Sys s n) (hl : l.length = n) (hf : ∀ x, x < n → Attr (goals s) (SetOf l) x) (hS : Sets s n) (hrow : ∀ T, GoodT s l n T → ∀ x, x < n → (T.getD x []).length ≤ 30720) (hbig : ∀ x p, x < n → (roundsN s l).val (x, p) ≤ 1000000) : ∀ c (T : List (List (Nat × Nat))), lackT s l n T = c → GoodT s l n T →
    Wp (fun K k => ref20_Rounds_250 K k l true s (encT T)) (fun y => ∃ T' : List (List (Nat × Nat)), y = ((), (s, (encT T', ()))) ∧ GoodT s l n T' ∧ ∀ x p, InT T' x p → rd T' x p = (roundsN s l).val (x, p)) := by
  intro c
  induction c using Nat.strongRecOn with
  | ind c ih =>
    intro T hc hT
    refine Wp.step ?_
    simp only [ref20_Rounds_250, if_true]
    refine (Wp.diag (table_loop hs hl hf hS hrow hbig T n 0 false T (by omega) hT (fun _ => rfl) (fun _ _ => rfl) (.inr ⟨rfl, rfl, fun y hy => absurd hy (Nat.not_lt_zero _)⟩))).call fun y hy => ?_
    obtain ⟨b, T', rfl, h1, h2⟩ := hy
    rcases h2 with ⟨rfl, h2⟩ | ⟨rfl, h2, h3⟩
    · exact ih _ (by omega) T' rfl h1
    · refine Wp.step ?_
      simp only [ref20_Rounds_250, Bool.false_eq_true, if_false]
      subst h2
      exact Wp.ret ⟨T', rfl, h1, fun x p hin => at_rest hs hf h1 h3 hin⟩
end
end Go.Proofs.Ytafndpkfoajpnaa.G
