/- All pairs of the reference. -/
import Derived.Test.YtafndpkfoajpnaaWorstF
namespace Go.Proofs.Ytafndpkfoajpnaa.G
open Go Go.Fw

section
variable {s : SpaceV} {n : Nat} {l : List Bool}
theorem seed_loop (hs : Sys s n) (hl : l.length = n) (hS : Sets s n) (hn : n ≤ 120) : ∀ d i (D : List (Nat × Nat)), i + d = n → D.length ≤ i → (∀ q ∈ D, PairOk s n q.2 q.1 ∧ l.getD q.2 false = false) → (∀ x, x < i → l.getD x false = false → (enN s x, x) ∈ D) →
    Wp (fun K k => ref20_reach_250 K k l (i : Int) s (encP D)) (fun y => ∃ E : List (Nat × Nat), y = (((), ()), (encP E, (s, ()))) ∧ E.length ≤ n ∧ (∀ q ∈ E, PairOk s n q.2 q.1 ∧ l.getD q.2 false = false) ∧ ∀ x, x < n → l.getD x false = false → (enN s x, x) ∈ E) := by
  have hen := hs.en
  intro d
  induction d with
  | zero =>
    intro i D h1 h2 h3 h4
    refine Wp.step ?_
    simp only [ref20_reach_250]
    exact Wp.negd (by omega) (Wp.ret ⟨D, rfl, by omega, h3, fun x hx => h4 x (by omega)⟩)
  | succ d ih =>
    intro i D h1 h2 h3 h4
    have hi : i < n := by omega
    have hel := encP_length D
    refine Wp.step ?_
    simp only [ref20_reach_250, wrapS i (by omega), Int.toNat_natCast, List.length_singleton, (hS.en i hi).1]
    refine Wp.posd (by omega) (Wp.posd (by omega) ?_)
    refine Wp.itebn (fun hli => Wp.posd (by omega) (Wp.posd (by omega) ?_)) (fun hli => ?_)
    · simp only [encP_snoc]
      refine ih (i + 1) (D ++ [(enN s i, i)]) (by omega) (by rw [List.length_append, List.length_singleton]; omega) (fun q hq => ?_) (fun x hx hlx => ?_)
      · rcases List.mem_append.1 hq with hq | hq
        · exact h3 q hq
        · rw [List.mem_singleton] at hq
          subst hq
          exact ⟨pair_start hS hi, hli⟩
      · rcases Nat.lt_or_ge x i with h5 | h5
        · exact List.mem_append_left _ (h4 x h5 hlx)
        · have h6 : x = i := by omega
          subst h6
          exact List.mem_append_right _ (List.mem_singleton.2 rfl)
    · refine ih (i + 1) D (by omega) (by omega) h3 (fun x hx hlx => ?_)
      rcases Nat.lt_or_ge x i with h5 | h5
      · exact h4 x h5 hlx
      · have h6 : x = i := by omega
        subst h6
        rw [hli] at hlx; simp at hlx

theorem reach20_ok (hs : Sys s n) (hl : l.length = n) (hS : Sets s n) (hfew : ∀ x, x < n → pops 32 (enN s x) ≤ 8) (hn : n ≤ 120) (hdeg : ∀ x, x < n → (arcs s x).length ≤ 40) :
    Wp (fun K _ => ref20_reach K s l) (fun y => ∃ T, y = ((((), (true, ())), ()), (encT T, ())) ∧ RI s l n T []) := by
  simp only [ref20_reach]
  refine Wp.posd (by omega) ?_
  refine (Wp.diag (seed_loop hs hl hS hn n 0 [] (by omega) (Nat.le_refl _) (fun q hq => by simp at hq) (fun x hx => absurd hx (Nat.not_lt_zero _)))).call fun y hy => ?_
  obtain ⟨E, rfl, h1, h2, h3⟩ := hy
  have hrep : List.replicate (l.length : Int).toNat ([] : List (Int × (Int × Unit))) = encT (List.replicate n []) := by rw [Int.toNat_natCast, hl]; simp [encT, encP]
  have hrow : ∀ x, (List.replicate n ([] : List (Nat × Nat))).getD x [] = [] := fun x => by rw [getD_rep]; split <;> rfl
  have hno : ∀ x p, ¬ InT (List.replicate n []) x p := fun x p ⟨i, hi, _⟩ => by rw [hrow] at hi; simp at hi
  have hzero : (pairsOf (List.replicate n []) n).length = 0 := by
    cases hp : pairsOf (List.replicate n []) n with
    | nil => rfl
    | cons q r =>
      exfalso
      obtain ⟨x, p⟩ := q
      exact hno x p ((mem_pairsOf n).1 (by rw [hp]; exact List.mem_cons_self ..)).2
  have hRI : RI s l n (List.replicate n []) E := ⟨⟨by simp, fun x p h => absurd h (hno x p), fun x => by rw [hrow]; exact List.nodup_nil⟩, fun x i => by rw [hrow]; rfl, h2, fun x hx hlx => .inr (h3 x hx hlx), fun x p h => absurd h (hno x p)⟩
  have h := reach_loop hs hl hS hfew hn hdeg _ _ (List.replicate n []) E rfl rfl hRI (by omega)
  rw [hzero] at h
  rw [hrep]
  refine (Wp.diag h).call fun y hy => ?_
  obtain ⟨T, rfl, hT⟩ := hy
  exact Wp.ret ⟨T, rfl, hT⟩
end
end Go.Proofs.Ytafndpkfoajpnaa.G
