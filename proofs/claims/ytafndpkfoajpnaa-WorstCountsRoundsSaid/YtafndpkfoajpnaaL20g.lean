/- The reference's rounds are the worst ones; the law WorstCountsRounds. -/
import Derived.Test.YtafndpkfoajpnaaWorstJ
namespace Go.Proofs.Ytafndpkfoajpnaa.G
open Go Go.Fw

theorem light40_ok {s : SpaceV} (hs : okD spaceG s) (l : List Bool) : Wp (fun K _ => law20_light K s l) (fun y => ∃ b, y = ((b, ()), ()) ∧ (b = true → Light s l ∧ ∀ x, (arcs s x).length ≤ 40)) := by
  simp only [law20_light]
  refine Wp.ited (fun _ => Wp.ret ⟨_, rfl, by simp⟩) (fun h1 => ?_)
  refine Wp.ited (fun _ => Wp.ret ⟨_, rfl, by simp⟩) (fun h2 => ?_)
  refine Wp.ited (fun _ => Wp.ret ⟨_, rfl, by simp⟩) (fun h3 => ?_)
  refine (Wp.diag (light_loop s (by omega) s.2.1.length 0 (by omega))).call fun y hy => ?_
  rcases hy with ⟨rfl, h4⟩ | ⟨⟨a, rfl⟩, h4⟩
  · exact Wp.ret ⟨_, rfl, fun _ => ⟨⟨⟨hs.1, hs.2.1, fun k hk => by have := h4 k (by omega) hk; omega⟩, by omega, by omega⟩, fun x => by
      rcases Nat.lt_or_ge x s.2.1.length with h | h
      · exact h4 x (by omega) h
      · have : arcs s x = [] := getD_over h
        rw [this]; exact Nat.zero_le _⟩⟩
  · exact Wp.ret ⟨_, rfl, by simp⟩

section
variable {s : SpaceV} {n : Nat} {l : List Bool}
theorem rout_loop (hs : Sys s n) (hl : l.length = n) (hf : ∀ x, x < n → Attr (goals s) (SetOf l) x) (hS : Sets s n) {T : List (List (Nat × Nat))} (hT : GoodT s l n T) (hrow : ∀ x, x < n → (T.getD x []).length ≤ 30720) (hr : ∀ x p, InT T x p → rd T x p = (roundsN s l).val (x, p)) : ∀ d x (out : List Nat), x + d = n → out.length = x → (∀ y, y < x → out.getD y 0 = (roundsN s l).val (y, enN s y)) →
    Wp (fun K k => ref20_Rounds_1018 K k l (encT T) (x : Int) s (numl out)) (fun y => ∃ V : List Nat, y = (((), ()), (numl V, ())) ∧ V.length = n ∧ ∀ x, x < n → V.getD x 0 = (roundsN s l).val (x, enN s x)) := by
  have hen := hs.en
  have htl := hT.tab.len
  have hle := hs.le
  intro d
  induction d with
  | zero =>
    intro x out h1 h2 h3
    refine Wp.step ?_
    simp only [ref20_Rounds_1018]
    exact Wp.negd (by omega) (Wp.ret ⟨out, rfl, by omega, fun y hy => h3 y (by omega)⟩)
  | succ d ih =>
    intro x out h1 h2 h3
    have hx : x < n := by omega
    have hol := numl_length out
    have hrx := hrow x hx
    have hext : ∀ v : Nat, v = (roundsN s l).val (x, enN s x) → ∀ y, y < x + 1 → (out ++ [v]).getD y 0 = (roundsN s l).val (y, enN s y) := fun v hv y hy => by
      rcases Nat.lt_or_ge y x with h4 | h4
      · rw [getD_app1 (by omega)]; exact h3 y h4
      · have h5 : y = x := by omega
        subst h5
        rw [getD_app2 (by omega), h2, Nat.sub_self]; exact hv
    refine Wp.step ?_
    simp only [ref20_Rounds_1018, Int.toNat_natCast, encT_length, encT_getD, wrapS x (by omega), List.length_singleton, (hS.en x hx).1]
    refine Wp.posd (by omega) (Wp.posd (by omega) ?_)
    refine Wp.itebn (fun hlx => ?_) (fun hlx => ?_)
    · refine Wp.posd (by omega) (Wp.posd (by omega) (Wp.posd (by omega) ?_))
      refine (place_ok (T.getD x []) (by omega) (enN s x)).call fun y hy => ?_
      have hin := hT.seed x hx hlx
      have hel := encP_length (T.getD x [])
      rcases hy with ⟨i, rfl, h4, h5, _⟩ | ⟨rfl, h4⟩
      · have h6 := rd_at (hT.tab.nd x) h4
        rw [h5, hr x _ hin] at h6
        simp only [Int.toNat_natCast, encP_getD]
        refine Wp.posd (by omega) (Wp.posd (by omega) ?_)
        simp only [numl_snoc]
        exact ih (x + 1) _ (by omega) (by rw [List.length_append, List.length_singleton]; omega) (hext _ h6.symm)
      · obtain ⟨i, h5, h6⟩ := hin
        exact absurd h6 (h4 i h5)
    · refine Wp.posd (by omega) ?_
      have h0 : (numl out ++ [(0 : Int)]) = numl (out ++ [0]) := numl_snoc out 0
      simp only [h0]
      exact ih (x + 1) _ (by omega) (by rw [List.length_append, List.length_singleton]; omega) (hext 0 (rval_leg (hf x hx) hlx).symm)
end

theorem ref20_Rounds_ok {s : SpaceV} (hs : SpaceIn s) (l : List Bool) (hfew : Few s) (hn : s.1.length ≤ 120) (hdeg : ∀ x, (arcs s x).length ≤ 40) : Wp (fun K _ => ref20_Rounds K s l) (fun y => ∃ e out, y = ((((), (e, ())), ()), (out, ())) ∧ RWorst s l e out) := by
  simp only [ref20_Rounds]
  refine (ref20_begin_ok hs l).call fun y hy => ?_
  obtain ⟨e, rfl, he⟩ := hy
  refine Wp.iten (fun h0 => Wp.ret ⟨_, _, rfl, he, .inr ⟨h0, rfl⟩⟩) (fun h0 => ?_)
  simp only at h0
  subst h0
  obtain ⟨h1, h2, h3⟩ := he.zero
  have hS := sets_of hs h1
  have hsys := sys_of h1
  have hfew' : ∀ x, x < s.1.length → pops 32 (enN s x) ≤ 8 := fun x hx => hfew x hx (h1.2.2.2.2 x hx).2.1
  have hbig : ∀ x p, x < s.1.length → (roundsN s l).val (x, p) ≤ 1000000 := fun x p hx => by
    have h4 := rounds_le_steps (h3 x hx) p
    have h5 := rank_lt hsys (h3 x hx) hx
    omega
  have hrow : ∀ T, GoodT s l s.1.length T → ∀ x, x < s.1.length → (T.getD x []).length ≤ 30720 := fun T hT x hx => by
    have h4 := row_le (T := T) (x := x) s.1.length hx
    have h5 := hT.tab.few hfew' hn
    omega
  refine (reach20_ok hsys h2 hS hfew' hn (fun x _ => hdeg x)).call fun y hy => ?_
  obtain ⟨T, rfl, hT⟩ := hy
  have hG : GoodT s l s.1.length T := ⟨hT.tab, fun x i _ => by rw [hT.zero]; exact Nat.zero_le _, fun x p hin j hj hlg => (hT.clo x p hin j hj hlg).resolve_right (by simp), fun x hx hlx => (hT.seed x hx hlx).resolve_right (by simp)⟩
  refine Wp.itebn (fun h => by simp at h) (fun _ => ?_)
  refine (Wp.diag (improve_loop hsys h2 h3 hS hrow hbig _ T rfl hG)).call fun y hy => ?_
  obtain ⟨T', rfl, hG', hr⟩ := hy
  refine (Wp.diag (rout_loop hsys h2 h3 hS hG' (hrow T' hG') hr s.1.length 0 [] (by omega) rfl (fun y hy => absurd hy (Nat.not_lt_zero _)))).call fun y hy => ?_
  obtain ⟨V, rfl, h4, h5⟩ := hy
  exact Wp.ret ⟨_, _, rfl, he, .inl ⟨rfl, V, rfl, h4, h5⟩⟩

theorem RWorst.small {s : SpaceV} {l : List Bool} {e : Int} {a : List Int} (h : RWorst s l e a) (hs : s.1.length ≤ 120) : a.length ≤ 1000000 := by
  rcases h.2 with ⟨_, V, rfl, h1, _⟩ | ⟨_, rfl⟩
  · rw [numl_length]; omega
  · simp

theorem counts (s : SpaceV) (l : List Bool) (hs : okD spaceG s) : Wp (fun K _ => law20_WorstCountsRounds K s l) (fun y => y = ((true, ()), ())) := by
  simp only [law20_WorstCountsRounds]
  refine (light40_ok hs l).call fun y hy => ?_
  obtain ⟨b, rfl, hb⟩ := hy
  refine Wp.itebn (fun _ => asleep rfl) (fun h1 => ?_)
  obtain ⟨hL, hdeg⟩ := hb h1
  have hn := hL.few
  refine (few_ok hL.inn hn).call fun y hy => ?_
  obtain ⟨b2, rfl, hb2⟩ := hy
  refine Wp.itebn (fun _ => asleep rfl) (fun h2 => ?_)
  have hfew := hb2 h2
  refine (worst_Rounds_ok hL.inn l hfew hn).call fun y hy => ?_
  obtain ⟨e1, a1, rfl, r1⟩ := hy
  refine (ref20_Rounds_ok hL.inn l hfew hn hdeg).call fun y hy => ?_
  obtain ⟨e2, a2, rfl, r2⟩ := hy
  obtain ⟨rfl, rfl⟩ := r1.unique r2
  refine Wp.callE awake20 (Wp.iteb (fun _ => ?_) (fun h => by simp at h))
  refine Wp.callE (sameInts_refl a1 (r1.small hn)) (Wp.iteb (fun _ => ?_) (fun h => by simp at h))
  refine Wp.ret ?_
  simp only [decide_true]

theorem pure_law20_WorstCountsRounds : ∀ x, okS [spaceG, .slice .bool] 0 x → ∃ K, law20_WorstCountsRounds K x.1 x.2.1 = some ((true, ()), ()) := by
  rintro ⟨s, l, _⟩ ⟨hs, _, _⟩
  exact (counts s l hs).outE
end Go.Proofs.Ytafndpkfoajpnaa.G
