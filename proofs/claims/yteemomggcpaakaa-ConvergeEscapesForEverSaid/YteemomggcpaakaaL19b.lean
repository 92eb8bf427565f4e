/- The laws ConvergeIsMonotone, ConvergeNeedsNoStrayArcs and ConvergeByRandomWalks. -/
import Derived.Test.YteemomggcpaakaaL19a
namespace Go.Proofs.Yteemomggcpaakaa.G
open Go Go.Fw

theorem both_loop (l m : List Bool) (n : Nat) (hn : n ≤ 210) (hl : l.length = n) (hm : m.length = n) : ∀ d i (o : List Bool), i + d = n → o.length = i → (∀ j, j < i → o.getD j false = (l.getD j false || m.getD j false)) →
    Wp (fun K k => law19_ConvergeIsMonotone_122 K k l m (i : Int) o) (fun y => ∃ o' : List Bool, y = (((), ()), (o', ())) ∧ o'.length = n ∧ ∀ j, j < n → o'.getD j false = (l.getD j false || m.getD j false)) := by
  intro d
  induction d with
  | zero =>
    intro i o h1 h2 h3
    refine Wp.step ?_
    simp only [law19_ConvergeIsMonotone_122]
    refine Wp.negd (by omega) (Wp.ret ⟨o, rfl, by omega, fun j hj => h3 j (by omega)⟩)
  | succ d ih =>
    intro i o h1 h2 h3
    have key : ∀ b : Bool, b = (l.getD i false || m.getD i false) → Wp (fun K k => law19_ConvergeIsMonotone_122 K k l m ((i + 1 : Nat) : Int) (o ++ [b])) (fun y => ∃ o' : List Bool, y = (((), ()), (o', ())) ∧ o'.length = n ∧ ∀ j, j < n → o'.getD j false = (l.getD j false || m.getD j false)) := by
      intro b hb
      refine ih (i + 1) _ (by omega) (by simp [h2]) fun j hj => ?_
      rw [getD_append]
      split
      · exact h3 j (by omega)
      · rw [show j = i by omega, h2, Nat.sub_self, ← hb]; rfl
    refine Wp.step ?_
    simp only [law19_ConvergeIsMonotone_122, wrapS i (by omega), Int.toNat_natCast, List.length_singleton]
    refine Wp.posd (by omega) (Wp.posd (by omega) ?_)
    refine Wp.iteb (fun hb => Wp.posd (by omega) (key true (by rw [hb]; rfl))) (fun hb => Wp.posd (by omega) (Wp.posd (by omega) (key _ (by rw [hb]; rfl))))

theorem mono_loop (l a b : List Bool) (n : Nat) (hn : n ≤ 210) (hl : l.length = n) (ha : a.length = n) (hb : b.length = n) (h : ∀ j, j < n → (a.getD j false = true → b.getD j false = true) ∧ (l.getD j false = true → a.getD j false = true)) :
    ∀ d i, i + d = n → Wp (fun K k => law19_ConvergeIsMonotone_4090 K k l a b (i : Int)) (fun y => y = .inl ((), ())) := by
  intro d
  induction d with
  | zero =>
    intro i h1
    refine Wp.step ?_
    simp only [law19_ConvergeIsMonotone_4090]
    exact Wp.negd (by omega) (Wp.ret rfl)
  | succ d ih =>
    intro i h1
    obtain ⟨h2, h3⟩ := h i (by omega)
    have g0 : decide ((i : Int) < (l.length : Int)) = true := decide_eq_true (by omega)
    have ga : decide (0 ≤ (i : Int) ∧ (i : Int) < (a.length : Int)) = true := decide_eq_true (by omega)
    have gb : decide (0 ≤ (i : Int) ∧ (i : Int) < (b.length : Int)) = true := decide_eq_true (by omega)
    have gl : decide (0 ≤ (i : Int) ∧ (i : Int) < (l.length : Int)) = true := decide_eq_true (by omega)
    refine Wp.step ?_
    cases hx : a.getD i false with
    | false =>
      have hz : l.getD i false = false := by
        cases hz : l.getD i false with
        | false => rfl
        | true => rw [h3 hz] at hx; simp at hx
      simp only [law19_ConvergeIsMonotone_4090, g0, ga, gl, wrapS i (by omega), Int.toNat_natCast, if_true, hx, hz, Bool.false_eq_true, if_false, law19_ConvergeIsMonotone_130889, law19_ConvergeIsMonotone_32723, Option.bind_some]
      exact ih (i + 1) (by omega)
    | true =>
      have hy := h2 hx
      cases hz : l.getD i false with
      | false =>
        simp only [law19_ConvergeIsMonotone_4090, g0, ga, gb, gl, wrapS i (by omega), Int.toNat_natCast, if_true, hx, hy, hz, Bool.not_true, Bool.false_eq_true, if_false, law19_ConvergeIsMonotone_130889, law19_ConvergeIsMonotone_32723, Option.bind_some]
        exact ih (i + 1) (by omega)
      | true =>
        simp only [law19_ConvergeIsMonotone_4090, g0, ga, gb, gl, wrapS i (by omega), Int.toNat_natCast, if_true, hx, hy, hz, Bool.not_true, Bool.false_eq_true, if_false, law19_ConvergeIsMonotone_130889, law19_ConvergeIsMonotone_32723, Option.bind_some]
        exact ih (i + 1) (by omega)

theorem setOf_tells {n : Nat} {a : List Bool} {P : Nat → Prop} (h : Tells n a P) {j : Nat} : SetOf a j ↔ j < n ∧ P j := by
  constructor
  · intro h1
    have hj : j < n := by
      rcases Nat.lt_or_ge j n with h2 | h2
      · exact h2
      · rw [SetOf, getD_over (by rw [h.1]; exact h2)] at h1; simp at h1
    exact ⟨hj, (h.2 j hj).1 h1⟩
  · rintro ⟨h1, h2⟩; exact (h.2 j h1).2 h2

theorem mono19 (s : SpaceV) (l m : List Bool) (hs : okD spaceG s) : Wp (fun K _ => law19_ConvergeIsMonotone K s l m) (fun y => y = ((true, ()), ())) := by
  simp only [law19_ConvergeIsMonotone]
  refine (fair_ok hs l).call fun y hy => ?_
  obtain ⟨b, rfl, hb⟩ := hy
  refine Wp.itebn (fun _ => asleep rfl) (fun h1 => ?_)
  obtain ⟨hL, hP, hl⟩ := hb h1
  have hfew := hL.few
  refine Wp.iten (fun _ => asleep rfl) (fun hm => ?_)
  have hm : m.length = s.1.length := by omega
  refine (Wp.diag (both_loop l m s.1.length (by omega) hl hm s.1.length 0 [] (by omega) rfl (fun j hj => absurd hj (Nat.not_lt_zero _)))).call fun y hy => ?_
  obtain ⟨o, rfl, ho1, ho2⟩ := hy
  refine (converge_Attractor_ok hL.inn l).call fun y hy => ?_
  obtain ⟨e, a, rfl, ha⟩ := hy
  obtain ⟨h0, hA⟩ := ha.fair hP hl
  subst h0
  refine (converge_Attractor_ok hL.inn o).call fun y hy => ?_
  obtain ⟨e, b, rfl, hb'⟩ := hy
  obtain ⟨h0, hB⟩ := hb'.fair hP ho1
  subst h0
  refine (converge_Attractor_ok hL.inn a).call fun y hy => ?_
  obtain ⟨e, c, rfl, hc⟩ := hy
  obtain ⟨h0, hC⟩ := hc.fair hP hA.1
  subst h0
  have hac : a = c := by
    refine hA.unique ⟨hC.1, fun j hj => ?_⟩
    rw [hC.2 j hj]
    constructor
    · intro h2
      exact (h2.mono fun k hk => ((setOf_tells hA).1 hk).2).idem
    · intro h2
      exact .base ((setOf_tells hA).2 ⟨hj, h2⟩)
  subst hac
  have hsame : Wp (fun K _ => ref19_Same K a a) (fun y => y = ((true, ()), ())) := same_refl a (by rw [hA.1]; omega)
  have hla := hA.1
  have hlb := hB.1
  refine Wp.negn rfl (Wp.negn rfl (Wp.negn rfl (Wp.negn (by simp only; omega) (Wp.negn (by simp only; omega) ?_))))
  refine Wp.callE hsame ?_
  simp only [law19_ConvergeIsMonotone_1021, Bool.not_true, Bool.false_eq_true, if_false, Option.bind_some, law19_ConvergeIsMonotone_511]
  have hloop := mono_loop l a b s.1.length (by omega) hl hla hlb (fun j hj => ⟨fun h2 => (hB.2 j hj).2 (((hA.2 j hj).1 h2).mono fun k hk => ?_), fun h2 => (hA.2 j hj).2 (.base h2)⟩) s.1.length 0 (by omega)
  · refine Wp.bind ?_
    refine Wp.callE (Wp.diag hloop) ?_
    exact Wp.callE awake19 (Wp.ret (Wp.ret rfl))
  · show o.getD k false = true
    have hk' : k < s.1.length := by
      rcases Nat.lt_or_ge k s.1.length with h5 | h5
      · exact h5
      · rw [SetOf, getD_over (by omega)] at hk; simp at hk
    rw [ho2 k hk', show l.getD k false = true from hk]; rfl

theorem pure_law19_ConvergeIsMonotone : ∀ x, okS [spaceG, .slice .bool, .slice .bool] 0 x → ∃ K, law19_ConvergeIsMonotone K x.1 x.2.1 x.2.2.1 = some ((true, ()), ()) := by
  rintro ⟨s, l, m, _⟩ ⟨hs, _, _⟩
  exact (mono19 s l m hs).outE

/-! ### No stray arcs -/
theorem stray_count {s : SpaceV} {n : Nat} (hs : Sys s n) (x : Nat) (hx : x < n) (c : List Bool) (hc : c.length = n) : ∀ d i, i + d = (arcs s x).length →
    Wp (fun K k => law19_ConvergeNeedsNoStrayArcs_64074 K k c (x : Int) (((goals s x).take i).countP (fun t => c.getD t false) : Int) (i : Int) s) (fun y => y = ((((goals s x).countP (fun t => c.getD t false) : Int), ()), (s, ()))) := by
  intro d
  have har := hs.ar
  induction d with
  | zero =>
    intro i h1
    refine Wp.step ?_
    simp only [law19_ConvergeNeedsNoStrayArcs_64074, Int.toNat_natCast, arcs_def]
    refine Wp.posd (by omega) (Wp.negd (by omega) (Wp.ret ?_))
    rw [List.take_of_length_le (by rw [goals_len]; omega)]
  | succ d ih =>
    intro i h1
    have hil : i < (arcs s x).length := by omega
    have hg := goals_at hs hil
    have htot := total_ge (s := s) hx
    have htt := hs.tot
    have hw := wrapS i (by omega)
    have hcn : ((goals s x).take i).countP (fun t => c.getD t false) ≤ i := Nat.le_trans List.countP_le_length (by rw [List.length_take]; omega)
    have hn : ((goals s x).take (i + 1)).countP (fun t => c.getD t false) = ((goals s x).take i).countP (fun t => c.getD t false) + if c.getD ((goals s x).getD i 0) false = true then 1 else 0 := by
      rw [List.take_succ_eq_append_getElem (by rw [goals_len]; exact hil), List.countP_append, getD_at 0 (by rw [goals_len]; exact hil), List.countP_singleton]
    have hnext := ih (i + 1) (by omega)
    rw [hn] at hnext
    refine Wp.step ?_
    simp only [law19_ConvergeNeedsNoStrayArcs_64074, hw, Int.toNat_natCast, arcs_def, ato_def, hs.at' x i hil]
    refine Wp.posd (by omega) (Wp.posd (by omega) (Wp.posd (by omega) (Wp.posd (by omega) (Wp.posd (by omega) ?_))))
    refine Wp.iteb (fun hb => ?_) (fun hb => ?_)
    · rw [if_pos hb] at hnext
      simp only [wrapS _ (show ((goals s x).take i).countP (fun t => c.getD t false) < 9223372036854775807 by omega)]
      exact hnext
    · rw [if_neg (by rw [hb]; simp), Nat.add_zero] at hnext
      exact hnext

theorem stray_loop {s : SpaceV} {n : Nat} (hs : Sys s n) (l c : List Bool) (hl : l.length = n) (hc : c.length = n)
    (h1 : ∀ j, j < n → c.getD j false = true → goals s j = [] ∨ 0 < (goals s j).countP (fun t => c.getD t false))
    (h2 : ∀ j, j < n → c.getD j false = false → l.getD j false = false → (goals s j).countP (fun t => c.getD t false) = 0 ∧ goals s j ≠ []) :
    ∀ d i, i + d = n → Wp (fun K k => law19_ConvergeNeedsNoStrayArcs_250 K k l c (i : Int) s) (fun y => y = .inl ((), ())) := by
  intro d
  have har := hs.ar
  have hle := hs.le
  induction d with
  | zero =>
    intro i h
    refine Wp.step ?_
    simp only [law19_ConvergeNeedsNoStrayArcs_250]
    exact Wp.negd (by omega) (Wp.ret rfl)
  | succ d ih =>
    intro i h
    have hi : i < n := by omega
    have hlen := goals_len s i
    have gc : decide (0 ≤ (i : Int) ∧ (i : Int) < (c.length : Int)) = true := decide_eq_true (by omega)
    have gl : decide (0 ≤ (i : Int) ∧ (i : Int) < (l.length : Int)) = true := decide_eq_true (by omega)
    have gs : decide (0 ≤ (i : Int) ∧ (i : Int) < (s.2.1.length : Int)) = true := decide_eq_true (by omega)
    refine Wp.step ?_
    simp only [law19_ConvergeNeedsNoStrayArcs_250]
    refine Wp.posd (by omega) ?_
    refine Wp.callE (Wp.diag (stray_count hs i hi c hc (arcs s i).length 0 (by omega))) ?_
    have hih := ih (i + 1) (by omega)
    cases hx : c.getD i false with
    | true =>
      have e1 := h1 i hi hx
      by_cases hz : (goals s i).countP (fun t => c.getD t false) = 0
      · have e2 : goals s i = [] := by
          rcases e1 with e1 | e1
          · exact e1
          · omega
        have e3 : (arcs s i).length = 0 := by rw [← hlen, e2]; rfl
        simp only [gc, gs, if_true, Int.toNat_natCast, hx, hz, arcs_def, e3, Int.natCast_zero, decide_true, Bool.not_true, Bool.false_eq_true, if_false, law19_ConvergeNeedsNoStrayArcs_32039, law19_ConvergeNeedsNoStrayArcs_2003, Option.bind_some, wrapS i (by omega)]
        simpa using hih
      · have e4 : decide (((goals s i).countP (fun t => c.getD t false) : Int) = 0) = false := decide_eq_false (by omega)
        simp only [gc, if_true, Int.toNat_natCast, hx, e4, Bool.not_true, Bool.false_eq_true, if_false, law19_ConvergeNeedsNoStrayArcs_32039, law19_ConvergeNeedsNoStrayArcs_2003, Option.bind_some, wrapS i (by omega)]
        exact hih
    | false =>
      cases hy : l.getD i false with
      | true =>
        simp only [gc, gl, if_true, Int.toNat_natCast, hx, hy, Bool.not_true, Bool.not_false, Bool.false_eq_true, if_false, law19_ConvergeNeedsNoStrayArcs_32039, law19_ConvergeNeedsNoStrayArcs_2003, Option.bind_some, wrapS i (by omega)]
        exact hih
      | false =>
        obtain ⟨e1, e2⟩ := h2 i hi hx hy
        have e3 : ¬ (arcs s i).length = 0 := by rw [← hlen]; exact fun he => e2 (List.eq_nil_of_length_eq_zero he)
        have e4 : (((arcs s i).length : Int) = 0) = False := eq_false (by omega)
        simp only [gc, gl, gs, if_true, Int.toNat_natCast, hx, hy, e1, e4, arcs_def, Int.natCast_zero, Int.lt_irrefl, decide_false, Bool.not_false, Bool.false_eq_true, if_false, law19_ConvergeNeedsNoStrayArcs_32039, law19_ConvergeNeedsNoStrayArcs_2003, Option.bind_some, wrapS i (by omega)]
        exact hih

theorem stray (s : SpaceV) (l : List Bool) (hs : okD spaceG s) : Wp (fun K _ => law19_ConvergeNeedsNoStrayArcs K s l) (fun y => y = ((true, ()), ())) := by
  simp only [law19_ConvergeNeedsNoStrayArcs]
  refine (fair_ok hs l).call fun y hy => ?_
  obtain ⟨b, rfl, hb⟩ := hy
  refine Wp.itebn (fun _ => asleep rfl) (fun h1 => ?_)
  obtain ⟨hL, hP, hl⟩ := hb h1
  refine (converge_Core_ok hL.inn l).call fun y hy => ?_
  obtain ⟨f, c, rfl, hc⟩ := hy
  obtain ⟨rfl, hc1, hc2⟩ := hc.fair hP hl
  have hS := sys_of hP
  refine Wp.negn rfl (Wp.negn (by simp only; omega) ?_)
  refine Wp.callE (Wp.diag (stray_loop hS l c hl hc1 (fun j hj hcj => ?_) (fun j hj hcj hlj => ?_) s.1.length 0 (by omega))) (asleep rfl)
  · rcases (Attr.not_of ((hc2 j hj).1 hcj)).2 with h2 | ⟨t, h2, h3⟩
    · exact .inl h2
    · exact .inr (List.countP_pos_iff.2 ⟨t, h2, (hc2 t (hS.lt j t h2)).2 h3⟩)
  · have hA : Attr (goals s) (SetOf l) j := Classical.byContradiction fun hn => by
      rw [(hc2 j hj).2 hn] at hcj; simp at hcj
    rcases hA.cases' with h2 | ⟨h2, h3⟩
    · rw [SetOf, hlj] at h2; simp at h2
    · refine ⟨List.countP_eq_zero.2 fun t ht hct => ?_, h2⟩
      exact (hc2 t (hS.lt j t ht)).1 hct (h3 t ht)

theorem pure_law19_ConvergeNeedsNoStrayArcs : ∀ x, okS [spaceG, .slice .bool] 0 x → ∃ K, law19_ConvergeNeedsNoStrayArcs K x.1 x.2.1 = some ((true, ()), ()) := by
  rintro ⟨s, l, _⟩ ⟨hs, _, _⟩
  exact (stray s l hs).outE
end Go.Proofs.Yteemomggcpaakaa.G
