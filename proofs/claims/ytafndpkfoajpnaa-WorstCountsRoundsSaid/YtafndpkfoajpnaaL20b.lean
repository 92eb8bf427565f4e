/- The law WorstIsRecursive. -/
import Derived.Test.YtafndpkfoajpnaaL20a
namespace Go.Proofs.Ytafndpkfoajpnaa.G
open Go Go.Fw

theorem fair_ok {s : SpaceV} (hs : okD spaceG s) (l : List Bool) : Wp (fun K _ => law20_fair K s l) (fun y => ∃ b, y = ((b, ()), ()) ∧ (b = true → Light s l ∧ SpaceP s ∧ l.length = s.1.length ∧ Falls s l)) := by
  simp only [law20_fair]
  refine (light_ok hs l).call fun y hy => ?_
  obtain ⟨b, rfl, hb⟩ := hy
  refine Wp.itebn (fun _ => Wp.ret ⟨_, rfl, by simp⟩) (fun h1 => ?_)
  have hL := hb h1
  refine (ref18_Valid_ok hL.inn).call fun y hy => ?_
  obtain ⟨b2, rfl, hb2⟩ := hy
  refine Wp.itebn (fun _ => Wp.ret ⟨_, rfl, by simp⟩) (fun h2 => ?_)
  have hP := hb2.1 h2
  refine Wp.iten (fun _ => Wp.ret ⟨_, rfl, by simp⟩) (fun h3 => ?_)
  have hl : l.length = s.1.length := by omega
  refine (ref19_Core_ok hL.inn l).call fun y hy => ?_
  obtain ⟨e, out, rfl, r⟩ := hy
  refine (any_ok out (res_small r)).call fun y hy => ?_
  obtain ⟨b3, rfl, hb3⟩ := hy
  refine Wp.ret ⟨_, rfl, fun h4 => ⟨hL, hP, hl, ?_⟩⟩
  rw [has_falls (r.fair hP hl).2] at hb3
  refine Classical.byContradiction fun h5 => ?_
  rw [hb3.2 h5] at h4; simp at h4

theorem Worst.fair {s : SpaceV} {l : List Bool} {w : Nat → Nat → Nat} {e : Int} {a : List Int} (h : Worst s l w e a) (h1 : SpaceP s) (h2 : l.length = s.1.length) (h3 : Falls s l) : e = 0 ∧ ∃ V : List Nat, a = numl V ∧ V.length = s.1.length ∧ ∀ x, x < s.1.length → V.getD x 0 = (baseN s l w).val x := by
  have h4 := h.1.fair h1 h2 h3
  rcases h.2 with h5 | h5
  · exact h5
  · exact absurd h4 h5.1

section
variable {s : SpaceV} {n : Nat} {l : List Bool}
theorem max_num {a b c : Nat} (h : a + b ≤ 9223372036854775807) : (if IntKind.i64.wrap ((a : Int) + (b : Int)) > (c : Int) then IntKind.i64.wrap ((a : Int) + (b : Int)) else (c : Int)) = ((max c (a + b) : Nat) : Int) := by
  rw [wrapA _ _ h]
  split <;> omega

theorem rec_in (hs : Sys s n) (hl : l.length = n) (hf : ∀ x, x < n → Attr (goals s) (SetOf l) x) (hS : Sets s n) {A M : List Nat} (hA : A.length = n ∧ ∀ x, x < n → A.getD x 0 = (baseN s l stepsW).val x) (hM : M.length = n ∧ ∀ x, x < n → M.getD x 0 = (baseN s l (movesW s)).val x) {x : Nat} (hx : x < n) : ∀ d i, i + d = (arcs s x).length →
    Wp (fun K k => law20_WorstIsRecursive_129610 K k l (numl A) (numl M) (x : Int) ((if l.getD x false = true then 0 else maxTo i (fun j => stepsW x j + (baseN s l stepsW).val (goN s x j)) : Nat) : Int) ((if l.getD x false = true then 0 else maxTo i (fun j => movesW s x j + (baseN s l (movesW s)).val (goN s x j)) : Nat) : Int) (i : Int) s)
      (fun y => y = ((((baseN s l stepsW).val x : Int), (((baseN s l (movesW s)).val x : Int), ())), (s, ()))) := by
  have har := hs.ar
  have htot := total_ge (s := s) hx
  have htt := hs.tot
  have hle := hs.le
  have hal := numl_length A
  have hml := numl_length M
  obtain ⟨hA1, hA2⟩ := hA
  obtain ⟨hM1, hM2⟩ := hM
  intro d
  induction d with
  | zero =>
    intro i h1
    refine Wp.step ?_
    simp only [law20_WorstIsRecursive_129610, Int.toNat_natCast, arcs_def]
    refine Wp.posd (by omega) (Wp.negd (by omega) (Wp.ret ?_))
    have hi : i = (arcs s x).length := by omega
    subst hi
    cases hb : l.getD x false with
    | true => simp only [if_true]; rw [val_leg (hf x hx) hb, val_leg (hf x hx) hb]
    | false => simp only [Bool.false_eq_true, if_false]; rw [val_go (hf x hx) hb, val_go (hf x hx) hb]
  | succ d ih =>
    intro i h1
    have hil : i < (arcs s x).length := by omega
    have hg : goN s x i < n := goals_at hs hil
    have hgo : (goals s x).getD i 0 = goN s x i := rfl
    refine Wp.step ?_
    cases hb : l.getD x false with
    | true =>
      simp only [law20_WorstIsRecursive_129610, Int.toNat_natCast, arcs_def, if_true]
      refine Wp.posd (by omega) (Wp.posd (by omega) (Wp.posd (by omega) (Wp.itebn (fun h => by rw [hb] at h; simp at h) (fun _ => Wp.ret ?_))))
      rw [val_leg (hf x hx) hb, val_leg (hf x hx) hb]
    | false =>
      have ih' := ih (i + 1) (by omega)
      rw [hb] at ih'
      have hb1 := val_bound 24 (steps_le (s := s)) (hf _ hg)
      have hb2 := val_bound 24 (moves_le hS) (hf _ hg)
      have hb3 := rank_lt hs (hf _ hg) hg
      have hb4 := moves_le hS x i hil
      have e1 : (1 : Int) = ((stepsW x i : Nat) : Int) := rfl
      have hb5 : stepsW x i = 1 := rfl
      simp only [Bool.false_eq_true, if_false] at ih' ⊢
      simp only [law20_WorstIsRecursive_129610, Int.toNat_natCast, arcs_def, ato_def, hs.at' x i hil, wrapS i (by omega), hgo, numl_getD, hA2 _ hg, hM2 _ hg]
      refine Wp.posd (by omega) (Wp.posd (by omega) (Wp.posd (by omega) (Wp.itebn (fun _ => ?_) (fun h => by rw [hb] at h; simp at h))))
      refine Wp.posd (by omega) (Wp.posd (by omega) (Wp.posd (by omega) ?_))
      refine Wp.callE (moves_c hS x i hil) (Wp.posd (by omega) ?_)
      rw [e1]
      rw [max_num (by omega), max_num (by omega)]
      exact ih'

theorem rec_out (hs : Sys s n) (hl : l.length = n) (hf : ∀ x, x < n → Attr (goals s) (SetOf l) x) (hS : Sets s n) {A M : List Nat} (hA : A.length = n ∧ ∀ x, x < n → A.getD x 0 = (baseN s l stepsW).val x) (hM : M.length = n ∧ ∀ x, x < n → M.getD x 0 = (baseN s l (movesW s)).val x) : ∀ d x, x + d = n →
    Wp (fun K k => law20_WorstIsRecursive_506 K k l (numl A) (numl M) (x : Int) s) (fun y => y = .inl ((), ())) := by
  have hle := hs.le
  have hal := numl_length A
  have hml := numl_length M
  have hA1 := hA.1
  have hM1 := hM.1
  intro d
  induction d with
  | zero =>
    intro x h1
    refine Wp.step ?_
    simp only [law20_WorstIsRecursive_506]
    exact Wp.negd (by omega) (Wp.ret rfl)
  | succ d ih =>
    intro x h1
    have hx : x < n := by omega
    have h := rec_in hs hl hf hS hA hM hx (arcs s x).length 0 (by omega)
    have e0 : ∀ f : Nat → Nat, (if l.getD x false = true then 0 else maxTo 0 f) = 0 := fun f => by split <;> rfl
    rw [e0, e0] at h
    refine Wp.step ?_
    simp only [law20_WorstIsRecursive_506, Int.toNat_natCast, wrapS x (by omega), numl_getD, hA.2 x hx, hM.2 x hx]
    refine Wp.posd (by omega) (Wp.callE (Wp.diag h) ?_)
    exact Wp.posd (by omega) (Wp.negn rfl (Wp.posd (by omega) (Wp.negn rfl (ih (x + 1) (by omega)))))
end

theorem recursive (s : SpaceV) (l : List Bool) (hs : okD spaceG s) : Wp (fun K _ => law20_WorstIsRecursive K s l) (fun y => y = ((true, ()), ())) := by
  simp only [law20_WorstIsRecursive]
  refine (fair_ok hs l).call fun y hy => ?_
  obtain ⟨b, rfl, hb⟩ := hy
  refine Wp.itebn (fun _ => asleep rfl) (fun h1 => ?_)
  obtain ⟨hL, hP, hl, hF⟩ := hb h1
  have hfew := hL.few
  refine (worst_Steps_ok hL.inn l).call fun y hy => ?_
  obtain ⟨e1, a1, rfl, r1⟩ := hy
  refine (worst_Moves_ok hL.inn l).call fun y hy => ?_
  obtain ⟨e3, a3, rfl, r3⟩ := hy
  obtain ⟨rfl, A, rfl, hA1, hA2⟩ := r1.fair hP hl hF
  obtain ⟨rfl, M, rfl, hM1, hM2⟩ := r3.fair hP hl hF
  have hal := numl_length A
  have hml := numl_length M
  refine Wp.negn rfl (Wp.negn rfl (Wp.negn (by simp only; omega) (Wp.negn (by simp only; omega) ?_)))
  refine Wp.callE (Wp.diag (rec_out (sys_of hP) hl hF (sets_of hL.inn hP) ⟨hA1, hA2⟩ ⟨hM1, hM2⟩ s.1.length 0 (by omega))) ?_
  exact asleep rfl

theorem pure_law20_WorstIsRecursive : ∀ x, okS [spaceG, .slice .bool] 0 x → ∃ K, law20_WorstIsRecursive K x.1 x.2.1 = some ((true, ()), ()) := by
  rintro ⟨s, l, _⟩ ⟨hs, _, _⟩
  exact (recursive s l hs).outE
end Go.Proofs.Ytafndpkfoajpnaa.G
