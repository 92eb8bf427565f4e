/- The laws WorstNumbersAreOrdered and WorstNeedsConvergence. -/
import Derived.Test.YtafndpkfoajpnaaL20d
import Derived.Test.YtafndpkfoajpnaaWorstC
namespace Go.Proofs.Ytafndpkfoajpnaa.G
open Go Go.Fw

/-- the rounds, or an error -/
def RWorst (s : SpaceV) (l : List Bool) (e : Int) (out : List Int) : Prop := Cyc s l e ∧ ((e = 0 ∧ ∃ V : List Nat, out = numl V ∧ V.length = s.1.length ∧ ∀ x, x < s.1.length → V.getD x 0 = (roundsN s l).val (x, enN s x)) ∨ (e ≠ 0 ∧ out = []))
theorem RWorst.unique {s : SpaceV} {l : List Bool} {e f : Int} {a b : List Int} (ha : RWorst s l e a) (hb : RWorst s l f b) : e = f ∧ a = b := by
  obtain ⟨h1, h2⟩ := ha
  obtain ⟨h3, h4⟩ := hb
  have h5 := h1.unique h3
  subst h5
  refine ⟨rfl, ?_⟩
  rcases h2 with ⟨h6, V, rfl, h7, h8⟩ | ⟨h6, rfl⟩ <;> rcases h4 with ⟨h9, W, rfl, h10, h11⟩ | ⟨h9, rfl⟩
  · rw [ext_getD 0 (h7.trans h10.symm) fun i hi => by rw [h8 i (by omega), h11 i (by omega)]]
  · exact absurd h6 h9
  · exact absurd h9 h6
  · rfl
theorem RWorst.fair {s : SpaceV} {l : List Bool} {e : Int} {a : List Int} (h : RWorst s l e a) (h1 : SpaceP s) (h2 : l.length = s.1.length) (h3 : Falls s l) : e = 0 ∧ ∃ V : List Nat, a = numl V ∧ V.length = s.1.length ∧ ∀ x, x < s.1.length → V.getD x 0 = (roundsN s l).val (x, enN s x) := by
  have h4 := h.1.fair h1 h2 h3
  rcases h.2 with h5 | h5
  · exact h5
  · exact absurd h4 h5.1

/-- few nodes are enabled in a state -/
def Few (s : SpaceV) : Prop := ∀ x, x < s.1.length → s.1.getD x 0 < 16777216 → pops 32 (enN s x) ≤ 8

section
variable {s : SpaceV} {n : Nat} {l : List Bool}
theorem all_loop (hs : Sys s n) (hl : l.length = n) (hf : ∀ x, x < n → Attr (goals s) (SetOf l) x) (hS : Sets s n) (hfew : ∀ x, x < n → pops 32 (enN s x) ≤ 8) (hn : n ≤ 120) : ∀ d i (m : Most) (z : Seen) (out : List Nat), i + d = n → MostOk s l n m → SeenOk s n z → out.length = n → (∀ x, x < i → out.getD x 0 = (roundsN s l).val (x, enN s x)) →
    Wp (fun K k => worst_Rounds_250 K k (n : Int) (i : Int) s s l () m z (numl out)) (fun y => ∃ V : List Nat, y = .inl ((), (numl V, ())) ∧ V.length = n ∧ ∀ x, x < n → V.getD x 0 = (roundsN s l).val (x, enN s x)) := by
  have hen := hs.en
  intro d
  induction d with
  | zero =>
    intro i m z out h1 h2 h3 h4 h5
    refine Wp.step ?_
    simp only [worst_Rounds_250]
    exact Wp.negd (by omega) (Wp.ret ⟨out, rfl, h4, fun x hx => h5 x (by omega)⟩)
  | succ d ih =>
    intro i m z out h1 h2 h3 h4 h5
    have hi : i < n := by omega
    have hol := numl_length out
    refine Wp.step ?_
    simp only [worst_Rounds_250, wrapS i (by omega), Int.toNat_natCast, (hS.en i hi).1]
    refine Wp.posd (by omega) (Wp.posd (by omega) ?_)
    refine (Wp.diag (rounds_ok hs hl hf hS hfew hn _ i (enN s i) rfl (pair_start hS hi) m z h2 h3)).call fun y hy => ?_
    obtain ⟨m', z', rfl, h6, h7⟩ := hy
    refine Wp.itebn (fun h => by simp at h) (fun _ => Wp.posd (by omega) ?_)
    simp only [numl_put]
    refine ih (i + 1) m' z' _ (by omega) h6 h7 (by simpa using h4) fun x hx => ?_
    rw [gset]
    by_cases hxi : i = x
    · rw [if_pos ⟨hxi, by omega⟩, hxi]
    · rw [if_neg (fun hh => hxi hh.1)]; exact h5 x (by omega)
end

theorem worst_Rounds_ok {s : SpaceV} (hs : SpaceIn s) (l : List Bool) (hfew : Few s) (hn : s.1.length ≤ 120) : Wp (fun K _ => worst_Rounds K s l) (fun y => ∃ e out, y = ((((), (e, ())), ()), (out, ())) ∧ RWorst s l e out) := by
  simp only [worst_Rounds]
  refine (worst_check_ok hs l).call fun y hy => ?_
  obtain ⟨e, rfl, he⟩ := hy
  refine Wp.iten (fun h0 => Wp.ret ⟨_, _, rfl, he, .inr ⟨h0, rfl⟩⟩) (fun h0 => ?_)
  simp only at h0
  subst h0
  obtain ⟨h1, h2, h3⟩ := he.zero
  have hS := sets_of hs h1
  have hfew' : ∀ x, x < s.1.length → pops 32 (enN s x) ≤ 8 := fun x hx => hfew x hx (h1.2.2.2.2 x hx).2.1
  refine Wp.posd (by omega) ?_
  have hrep : List.replicate (l.length : Int).toNat (0 : Int) = numl (List.replicate s.1.length 0) := by rw [Int.toNat_natCast, h2]; simp [numl]
  simp only [hrep, numl_length, List.length_replicate]
  refine (Wp.diag (all_loop (sys_of h1) h2 h3 hS hfew' hn s.1.length 0 [] [] (List.replicate s.1.length 0) (by omega) MostOk.nil SeenOk.nil (by simp) (fun x hx => absurd hx (Nat.not_lt_zero _)))).call fun y hy => ?_
  obtain ⟨V, rfl, h4, h5⟩ := hy
  exact Wp.ret ⟨_, _, rfl, he, .inl ⟨rfl, V, rfl, h4, h5⟩⟩

theorem count_cnt (k : Nat) {a : Nat} (ha : a < 4294967296) : ref15_Count (k + 33) (a : Int) = some ((((cntBits a 32 : Nat) : Int), ()), ()) := by
  have := f16_loop (k + 33) (a := a) ha 32 0 (k + 33) 0 (by omega) (by omega) (by omega)
  unfold ref15_Count
  rw [show (0 : Int) = ((0 : Nat) : Int) from rfl, this]
  simp [cntBits]
theorem count_any {e : Int} (h : IntKind.u32.has e) : Wp (fun K _ => ref15_Count K e) (fun y => ∃ c : Int, y = ((c, ()), ()) ∧ (e < 16777216 → c = ((pops 32 e.toNat : Nat) : Int))) := by
  obtain ⟨a, rfl, ha⟩ := nat_of_u32 h
  exact Wp.of_add 33 (fun k => count_cnt k ha) ⟨_, rfl, fun _ => by rw [Int.toNat_natCast, pops_cnt]⟩

theorem few_loop {s : SpaceV} (hs : SpaceIn s) (hle : s.1.length ≤ 120) : ∀ d i, i + d = s.1.length → (∀ x, x < i → s.1.getD x 0 < 16777216 → pops 32 (enN s x) ≤ 8) →
    Wp (fun K k => law20_few_26 K k (i : Int) s) (fun y => (y = .inl ((), ()) ∧ Few s) ∨ y = .inr ((false, ()), ())) := by
  intro d
  induction d with
  | zero =>
    intro i h1 h2
    refine Wp.step ?_
    simp only [law20_few_26]
    exact Wp.negd (by omega) (Wp.ret (.inl ⟨rfl, fun x hx => h2 x (by omega)⟩))
  | succ d ih =>
    intro i h1 h2
    have hi : i < s.1.length := by omega
    refine Wp.step ?_
    simp only [law20_few_26, wrapS i (by omega), Int.toNat_natCast]
    refine Wp.posd (by omega) (Wp.posd (by omega) ?_)
    refine (count_any (getD_ok hs.en (0 : Int) hi)).call fun y hy => ?_
    obtain ⟨c, rfl, hc⟩ := hy
    refine Wp.ited (fun _ => Wp.ret (.inr rfl)) (fun h8 => ih (i + 1) (by omega) fun x hx hlt => ?_)
    rcases Nat.lt_or_ge x i with h3 | h3
    · exact h2 x h3 hlt
    · have h4 : x = i := by omega
      subst h4
      have := hc hlt
      simp only at h8
      show pops 32 (s.1.getD x 0).toNat ≤ 8
      omega
theorem few_ok {s : SpaceV} (hs : SpaceIn s) (hle : s.1.length ≤ 120) : Wp (fun K _ => law20_few K s) (fun y => ∃ b, y = ((b, ()), ()) ∧ (b = true → Few s)) := by
  simp only [law20_few]
  refine (Wp.diag (few_loop hs hle s.1.length 0 (by omega) (fun x hx => absurd hx (Nat.not_lt_zero _)))).call fun y hy => ?_
  rcases hy with ⟨rfl, h⟩ | rfl
  · exact Wp.ret ⟨true, rfl, fun _ => h⟩
  · exact Wp.ret ⟨false, rfl, by simp⟩

/-! ### WorstNumbersAreOrdered -/
section
variable {s : SpaceV} {n : Nat} {l : List Bool}
theorem ordered_loop (hs : Sys s n) (hl : l.length = n) (hf : ∀ x, x < n → Attr (goals s) (SetOf l) x) (hS : Sets s n) {A M R : List Nat} (hA : A.length = n ∧ ∀ x, x < n → A.getD x 0 = (baseN s l stepsW).val x) (hM : M.length = n ∧ ∀ x, x < n → M.getD x 0 = (baseN s l (movesW s)).val x) (hR : R.length = n ∧ ∀ x, x < n → R.getD x 0 = (roundsN s l).val (x, enN s x)) : ∀ d x, x + d = n →
    Wp (fun K k => law20_WorstNumbersAreOrdered_1018 K k l (numl A) (numl M) (numl R) (x : Int)) (fun y => y = .inl ((), ())) := by
  have hle := hs.le
  have hal := numl_length A
  have hml := numl_length M
  have hrl := numl_length R
  have hA1 := hA.1
  have hM1 := hM.1
  have hR1 := hR.1
  intro d
  induction d with
  | zero =>
    intro x h1
    refine Wp.step ?_
    simp only [law20_WorstNumbersAreOrdered_1018]
    exact Wp.negd (by omega) (Wp.ret rfl)
  | succ d ih =>
    intro x h1
    have hx : x < n := by omega
    have h2 := rounds_le_steps (hf x hx) (enN s x)
    have h3 := steps_le_moves (moves_pos hS) (hf x hx)
    have key : ∀ v : Nat, (l.getD x false = true → v = 0) → (l.getD x false = false → 1 ≤ v) → (GTy.beq .bool (decide (0 < ((v : Nat) : Int))) (l.getD x false)) = false := fun v h4 h5 => by
      rw [beq_bool]
      cases hb : l.getD x false with
      | true => rw [h4 hb]; rfl
      | false =>
        have := h5 hb
        rw [decide_eq_true (show 0 < ((v : Nat) : Int) by omega)]; rfl
    have hr0 : ∀ p, l.getD x false = true → (roundsN s l).val (x, p) = 0 := fun p hb => rval_leg (hf x hx) hb
    have hr1 : l.getD x false = false → 1 ≤ (roundsN s l).val (x, enN s x) := fun hb => rval_pos (hf x hx) hb
    have hm0 : l.getD x false = true → (baseN s l (movesW s)).val x = 0 := fun hb => val_leg (hf x hx) hb
    have k1 := key _ (hr0 (enN s x)) hr1
    have k2 := key _ hm0 (fun hb => by have := hr1 hb; omega)
    refine Wp.step ?_
    simp only [law20_WorstNumbersAreOrdered_1018, Int.toNat_natCast, wrapS x (by omega), numl_getD, hA.2 x hx, hM.2 x hx, hR.2 x hx, k1, k2]
    refine Wp.posd (by omega) (Wp.posd (by omega) (Wp.posd (by omega) (Wp.negd (by omega) (Wp.posd (by omega) (Wp.posd (by omega) (Wp.negd (by omega) (Wp.posd (by omega) (Wp.posd (by omega) ?_))))))))
    refine Wp.iteb (fun h => by simp at h) (fun _ => Wp.posd (by omega) (Wp.posd (by omega) ?_))
    exact Wp.iteb (fun h => by simp at h) (fun _ => ih (x + 1) (by omega))
end

theorem ordered (s : SpaceV) (l : List Bool) (hs : okD spaceG s) : Wp (fun K _ => law20_WorstNumbersAreOrdered K s l) (fun y => y = ((true, ()), ())) := by
  simp only [law20_WorstNumbersAreOrdered]
  refine (fair_ok hs l).call fun y hy => ?_
  obtain ⟨b, rfl, hb⟩ := hy
  refine Wp.itebn (fun _ => asleep rfl) (fun h1 => ?_)
  obtain ⟨hL, hP, hl, hF⟩ := hb h1
  have hn := hL.few
  refine (few_ok hL.inn hn).call fun y hy => ?_
  obtain ⟨b2, rfl, hb2⟩ := hy
  refine Wp.itebn (fun _ => asleep rfl) (fun h2 => ?_)
  have hfew := hb2 h2
  refine (worst_Steps_ok hL.inn l).call fun y hy => ?_
  obtain ⟨e1, a1, rfl, r1⟩ := hy
  refine (worst_Moves_ok hL.inn l).call fun y hy => ?_
  obtain ⟨e3, a3, rfl, r3⟩ := hy
  refine (worst_Rounds_ok hL.inn l hfew hn).call fun y hy => ?_
  obtain ⟨e4, a4, rfl, r4⟩ := hy
  obtain ⟨rfl, A, rfl, hA⟩ := r1.fair hP hl hF
  obtain ⟨rfl, M, rfl, hM⟩ := r3.fair hP hl hF
  obtain ⟨rfl, R, rfl, hR⟩ := r4.fair hP hl hF
  have hal := numl_length A
  have hml := numl_length M
  have hrl := numl_length R
  have hA1 := hA.1
  have hM1 := hM.1
  have hR1 := hR.1
  refine Wp.negn rfl (Wp.negn rfl (Wp.negn rfl (Wp.negn (by simp only; omega) (Wp.negn (by simp only; omega) ?_))))
  have hc : (((numl R).length : Int) = (l.length : Int)) = True := eq_true (by omega)
  simp only [hc, decide_true, Bool.not_true, law20_WorstNumbersAreOrdered_253, Bool.false_eq_true, if_false, Option.bind_some, law20_WorstNumbersAreOrdered_127]
  have h3 : Wp (fun K _ => (law20_WorstNumbersAreOrdered_1018 K K l (numl A) (numl M) (numl R) 0).bind fun y4 =>
      match y4 with
      | .inl _ => (law20_awake K).bind fun y7 => some ((y7.1.1, ()), ())
      | .inr y6 => some ((y6.1.1, ()), ())) (fun y => y = ((true, ()), ())) := by
    refine Wp.callE (Wp.diag (ordered_loop (sys_of hP) hl hF (sets_of hL.inn hP) hA hM hR s.1.length 0 (by omega))) ?_
    exact asleep rfl
  exact Wp.callE h3 (Wp.ret rfl)

theorem pure_law20_WorstNumbersAreOrdered : ∀ x, okS [spaceG, .slice .bool] 0 x → ∃ K, law20_WorstNumbersAreOrdered K x.1 x.2.1 = some ((true, ()), ()) := by
  rintro ⟨s, l, _⟩ ⟨hs, _, _⟩
  exact (ordered s l hs).outE

/-! ### WorstNeedsConvergence -/
theorem needs63 {s : SpaceV} {l : List Bool} (hL : Light s l) (hP : SpaceP s) (hl : l.length = s.1.length) (hfew : Few s) (g : Int) {e : Int} (he : Cyc s l e) : Wp (fun K _ => law20_WorstNeedsConvergence_63 K l g e s) (fun y => y = ((true, ()), ())) := by
  have hn := hL.few
  have hpos := (sys_of hP).pos
  simp only [law20_WorstNeedsConvergence_63]
  refine (worst_Steps_ok hL.inn l).call fun y hy => ?_
  obtain ⟨e1, a1, rfl, r1⟩ := hy
  refine (worst_Moves_ok hL.inn l).call fun y hy => ?_
  obtain ⟨e2, a2, rfl, r2⟩ := hy
  refine (worst_Rounds_ok hL.inn l hfew hn).call fun y hy => ?_
  obtain ⟨e3, a3, rfl, r3⟩ := hy
  refine (made_Mod_ok (x := g) (n := l.length) (by omega) (by omega)).call fun y hy => ?_
  obtain ⟨x, rfl, hx⟩ := hy
  refine (worst_Schedule_ok hL.inn l (x : Int)).call fun y hy => ?_
  obtain ⟨e4, a4, rfl, r4⟩ := hy
  have h1 := r1.1.unique he
  have h2 := r2.1.unique he
  have h3 := r3.1.unique he
  have h4 : e4 = e := by
    rcases r4 with ⟨h5, _, _⟩ | ⟨h5, ⟨h6, _⟩ | ⟨h6, _⟩⟩
    · exact h5.unique he
    · omega
    · rw [h6]; exact h5.unique he
  subst h1; subst h2; subst h3; subst h4
  refine Wp.callE awake20 (Wp.iteb (fun _ => ?_) (fun h => by simp at h))
  refine Wp.posd rfl (Wp.posd rfl (Wp.posd rfl (Wp.ret ?_)))
  simp only [decide_true]

theorem needs (s : SpaceV) (l : List Bool) (g : Int) (hs : okD spaceG s) : Wp (fun K _ => law20_WorstNeedsConvergence K s l g) (fun y => y = ((true, ()), ())) := by
  have slp : Wp (fun K _ => (law20_WorstNeedsConvergence_13 K true).bind fun y2 =>
      match y2 with
      | .inl _ => (law20_WorstNeedsConvergence_7 K l g s).bind fun y5 => some ((y5.1.1, ()), ())
      | .inr y4 => some ((y4.1.1, ()), ())) (fun y => y = ((true, ()), ())) := by
    simp only [law20_WorstNeedsConvergence_13, if_true]
    refine Wp.callE (y := .inr ((true, ()), ())) ?_ (Wp.ret rfl)
    exact Wp.callE awake20 (Wp.ret rfl)
  simp only [law20_WorstNeedsConvergence]
  refine (light_ok hs l).call fun y hy => ?_
  obtain ⟨b, rfl, hb⟩ := hy
  refine Wp.itebn (fun _ => slp) (fun h1 => ?_)
  have hL := hb h1
  have hn := hL.few
  refine (few_ok hL.inn hn).call fun y hy => ?_
  obtain ⟨b2, rfl, hb2⟩ := hy
  refine Wp.itebn (fun _ => slp) (fun h2 => ?_)
  have hfew := hb2 h2
  refine (ref18_Valid_ok hL.inn).call fun y hy => ?_
  obtain ⟨b3, rfl, hb3⟩ := hy
  refine Wp.itebn (fun _ => slp) (fun h3 => ?_)
  have hP := hb3.1 h3
  by_cases hl : l.length = s.1.length
  · have hc : ((l.length : Int) = (s.1.length : Int)) = True := eq_true (by omega)
    simp only [hc, decide_true, Bool.not_true, law20_WorstNeedsConvergence_13, Bool.false_eq_true, if_false, Option.bind_some, law20_WorstNeedsConvergence_7]
    refine Wp.callE (y := ((true, ()), ())) ?_ (Wp.ret rfl)
    refine (ref19_Core_ok hL.inn l).call fun y hy => ?_
    obtain ⟨e, out, rfl, r⟩ := hy
    refine (any_ok out (res_small r)).call fun y hy => ?_
    obtain ⟨b4, rfl, hb4⟩ := hy
    have h5 := cyc_of r b4 hb4 (r.fair hP hl).1
    refine Wp.iteb (fun h6 => ?_) (fun h6 => ?_)
    · have h6 : b4 = true := h6
      rw [h6] at h5
      exact Wp.callE (needs63 hL hP hl hfew g h5) (Wp.ret rfl)
    · have h6 : b4 = false := h6
      rw [h6] at h5
      exact Wp.callE (needs63 hL hP hl hfew g h5) (Wp.ret rfl)
  · have hc : ((l.length : Int) = (s.1.length : Int)) = False := eq_false (by omega)
    simp only [hc, decide_false, Bool.not_false]
    exact slp

theorem pure_law20_WorstNeedsConvergence : ∀ x, okS [spaceG, .slice .bool, .int .i64] 0 x → ∃ K, law20_WorstNeedsConvergence K x.1 x.2.1 x.2.2.1 = some ((true, ()), ()) := by
  rintro ⟨s, l, g, _⟩ ⟨hs, _⟩
  exact (needs s l g hs).outE
end Go.Proofs.Ytafndpkfoajpnaa.G
