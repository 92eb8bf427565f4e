/- The laws FairnessIsMonotone and FairnessIsWeaker. -/
import Derived.Test.YteadlocehjfpoaaL21a
namespace Go.Proofs.Yteadlocehjfpoaa.G
open Go Go.Fw

section
variable {s : SpaceV} {n : Nat} {l : List Bool} {of : List Int}

/-! ### The core, without numbers -/
def InA (s : SpaceV) (l : List Bool) (u j : Nat) : Prop := l.getD ((goals s u).getD j 0) false = false ∧ Eq' s l u ((goals s u).getD j 0)
def KeptY (s : SpaceV) (l : List Bool) (y : Nat) : Prop := (∃ u, Eq' s l u y ∧ ∃ j, j < (arcs s u).length ∧ InA s l u j) ∧
  ∀ b, b < 24 → ∃ u, Eq' s l u y ∧ (Free s u b ∨ ∃ j, j < (arcs s u).length ∧ InA s l u j ∧ (aset (arcs s u) j).toNat.testBit b = true)
def CoreY (s : SpaceV) (n : Nat) (l : List Bool) (x : Nat) : Prop := ∃ y, Rch (outer s l) x y ∧ y < n ∧ l.getD y false = false ∧ (goals s y = [] ∨ KeptY s l y)

theorem eq_side (hs : Sys s n) {u y : Nat} (h : Eq' s l u y) (hy : y < n) (hl : l.getD y false = false) : u < n ∧ l.getD u false = false := by
  rcases h.1.cases' with h1 | ⟨z, h1, _⟩
  · rw [h1]; exact ⟨hy, hl⟩
  · exact ⟨(outer_lt hs h1).1, (mem_outer.1 h1).1⟩

theorem inside_iff (hs : Sys s n) (hN : Num n (SetOf l) (Eq' s l) of) {u j : Nat} (hu : u < n) (hl : l.getD u false = false) (hj : j < (arcs s u).length) : Inside s of u j ↔ InA s l u j := by
  have hg := goals_at hs hj
  constructor
  · intro h
    have hgl : l.getD ((goals s u).getD j 0) false = false := by
      cases hb : l.getD ((goals s u).getD j 0) false with
      | false => rfl
      | true =>
        have h1 := (ofLeg hN _ hg).2 hb
        rw [h] at h1
        rw [(ofLeg hN u hu).1 h1] at hl; simp at hl
    exact ⟨hgl, hN.inj (eq_refl s l) (eq_symm s l) (eq_trans s l) hu hg (notL.2 hl) (notL.2 hgl) h.symm⟩
  · rintro ⟨h1, h2⟩
    exact hN.old _ _ hg hu (notL.2 h1) (notL.2 hl) h2.symm

theorem kept_iff (hs : Sys s n) (hN : Num n (SetOf l) (Eq' s l) of) {y : Nat} (hy : y < n) (hl : l.getD y false = false) : (∃ c : Nat, of.getD y 0 = (c : Int) ∧ KeptP s n of c) ↔ KeptY s l y := by
  have hside : ∀ u, u < n → ∀ c : Nat, of.getD y 0 = (c : Int) → of.getD u 0 = (c : Int) → l.getD u false = false ∧ Eq' s l u y := fun u hu c hc hcu => by
    have h1 : l.getD u false = false := by
      cases hb : l.getD u false with
      | false => rfl
      | true => have := (ofLeg hN u hu).2 hb; omega
    exact ⟨h1, hN.inj (eq_refl s l) (eq_symm s l) (eq_trans s l) hu hy (notL.2 h1) (notL.2 hl) (by rw [hc, hcu])⟩
  constructor
  · rintro ⟨c, hc, ⟨u, hu, hcu, j, hj, hin⟩, hsv⟩
    obtain ⟨h1, h2⟩ := hside u hu c hc hcu
    refine ⟨⟨u, h2, j, hj, (inside_iff hs hN hu h1 hj).1 hin⟩, fun b hb => ?_⟩
    obtain ⟨v, hv, hcv, h3⟩ := hsv b hb
    obtain ⟨h4, h5⟩ := hside v hv c hc hcv
    refine ⟨v, h5, h3.imp (fun h => h) ?_⟩
    rintro ⟨j', h6, h7, h8⟩
    exact ⟨j', h6, (inside_iff hs hN hv h4 h6).1 h7, h8⟩
  · rintro ⟨⟨u, h2, j, hj, hin⟩, hsv⟩
    obtain ⟨c, hc, _⟩ := num_range hN hy (notL.2 hl)
    obtain ⟨hu, h1⟩ := eq_side hs h2 hy hl
    have hof : ∀ v, v < n → l.getD v false = false → Eq' s l v y → of.getD v 0 = (c : Int) := fun v hv hvl he => by rw [← hc]; exact hN.old v y hv hy (notL.2 hvl) (notL.2 hl) he
    refine ⟨c, hc, ⟨u, hu, hof u hu h1 h2, j, hj, (inside_iff hs hN hu h1 hj).2 hin⟩, fun b hb => ?_⟩
    obtain ⟨v, h5, h3⟩ := hsv b hb
    obtain ⟨hv, h4⟩ := eq_side hs h5 hy hl
    refine ⟨v, hv, hof v hv h4 h5, h3.imp (fun h => h) ?_⟩
    rintro ⟨j', h6, h7, h8⟩
    exact ⟨j', h6, (inside_iff hs hN hv h4 h6).2 h7, h8⟩

theorem core_iff (hs : Sys s n) (hN : Num n (SetOf l) (Eq' s l) of) (x : Nat) : CoreP s n l of x ↔ CoreY s n l x := by
  constructor
  · rintro ⟨y, h1, h2, h3, h4⟩
    exact ⟨y, h1, h2, h3, h4.imp (fun h => h) (kept_iff hs hN h2 h3).1⟩
  · rintro ⟨y, h1, h2, h3, h4⟩
    exact ⟨y, h1, h2, h3, h4.imp (fun h => h) (kept_iff hs hN h2 h3).2⟩

theorem CoreY.leg {x : Nat} (h : CoreY s n l x) : l.getD x false = false := by
  obtain ⟨y, h1, _, h2, _⟩ := h
  rcases h1.cases' with h3 | ⟨z, h3, _⟩
  · rw [h3]; exact h2
  · exact (mem_outer.1 h3).1
end

/-- the function's result, in a valid system -/
theorem core21 {s : SpaceV} (hs : SpaceIn s) (l : List Bool) (hP : SpaceP s) (hl : l.length = s.1.length) : Wp (fun K _ => fairness_Core K s l) (fun y => ∃ out, y = ((((), ((0 : Int), ())), ()), (out, ())) ∧ Tells s.1.length out (CoreY s s.1.length l)) := by
  refine (fairness_Core_ok hs l).mono fun y hy => ?_
  obtain ⟨e, out, rfl, r⟩ := hy
  obtain ⟨h0, of, hN, hT⟩ := r.fair hP hl
  subst h0
  exact ⟨out, rfl, hT.1, fun j hj => (hT.2 j hj).trans (core_iff (sys_of hP) hN j)⟩

/-! ### FairnessIsMonotone -/
theorem outer_mono {s : SpaceV} {l o : List Bool} (h : ∀ k, SetOf l k → SetOf o k) : ∀ a b, b ∈ outer s o a → b ∈ outer s l a := fun a b hb => by
  obtain ⟨h1, h2, h3⟩ := mem_outer.1 hb
  have key : ∀ x, o.getD x false = false → l.getD x false = false := fun x hx => notL.1 fun hL => by
    have := h x hL
    rw [SetOf, hx] at this; simp at this
  exact mem_outer.2 ⟨key a h1, h2, key b h3⟩
theorem core_mono {s : SpaceV} {n : Nat} {l o : List Bool} (h : ∀ k, SetOf l k → SetOf o k) {x : Nat} (hc : CoreY s n o x) : CoreY s n l x := by
  have hm := outer_mono (s := s) h
  have key : ∀ x, o.getD x false = false → l.getD x false = false := fun x hx => notL.1 fun hL => by
    have := h x hL
    rw [SetOf, hx] at this; simp at this
  have heq : ∀ a b, Eq' s o a b → Eq' s l a b := fun a b h => ⟨h.1.mono hm, h.2.mono hm⟩
  have hin : ∀ u j, InA s o u j → InA s l u j := fun u j h => ⟨key _ h.1, heq _ _ h.2⟩
  obtain ⟨y, h1, h2, h3, h4⟩ := hc
  refine ⟨y, h1.mono hm, h2, key y h3, h4.imp (fun h => h) ?_⟩
  rintro ⟨⟨u, h5, j, h6, h7⟩, h8⟩
  refine ⟨⟨u, heq _ _ h5, j, h6, hin u j h7⟩, fun b hb => ?_⟩
  obtain ⟨v, h9, h10⟩ := h8 b hb
  exact ⟨v, heq _ _ h9, h10.imp (fun h => h) (fun ⟨j', h11, h12, h13⟩ => ⟨j', h11, hin v j' h12, h13⟩)⟩

theorem both21 (l m : List Bool) (n : Nat) (hn : n ≤ 210) (hl : l.length = n) (hm : m.length = n) : ∀ d i (o : List Bool), i + d = n → o.length = i → (∀ j, j < i → o.getD j false = (l.getD j false || m.getD j false)) →
    Wp (fun K k => law21_FairnessIsMonotone_122 K k l m (i : Int) o) (fun y => ∃ o' : List Bool, y = (((), ()), (o', ())) ∧ o'.length = n ∧ ∀ j, j < n → o'.getD j false = (l.getD j false || m.getD j false)) := by
  intro d
  induction d with
  | zero =>
    intro i o h1 h2 h3
    refine Wp.step ?_
    simp only [law21_FairnessIsMonotone_122]
    refine Wp.negd (by omega) (Wp.ret ⟨o, rfl, by omega, fun j hj => h3 j (by omega)⟩)
  | succ d ih =>
    intro i o h1 h2 h3
    have key : ∀ b : Bool, b = (l.getD i false || m.getD i false) → Wp (fun K k => law21_FairnessIsMonotone_122 K k l m ((i + 1 : Nat) : Int) (o ++ [b])) (fun y => ∃ o' : List Bool, y = (((), ()), (o', ())) ∧ o'.length = n ∧ ∀ j, j < n → o'.getD j false = (l.getD j false || m.getD j false)) := by
      intro b hb
      refine ih (i + 1) _ (by omega) (by simp [h2]) fun j hj => ?_
      rw [getD_append]
      split
      · exact h3 j (by omega)
      · rw [show j = i by omega, h2, Nat.sub_self, ← hb]; rfl
    refine Wp.step ?_
    simp only [law21_FairnessIsMonotone_122, wrapS i (by omega), Int.toNat_natCast, List.length_singleton]
    refine Wp.posd (by omega) (Wp.posd (by omega) ?_)
    refine Wp.iteb (fun hb => Wp.posd (by omega) (key true (by rw [hb]; rfl))) (fun hb => Wp.posd (by omega) (Wp.posd (by omega) (key _ (by rw [hb]; rfl))))

theorem mono21 (l a b : List Bool) (n : Nat) (hn : n ≤ 210) (hl : l.length = n) (ha : a.length = n) (hb : b.length = n) (h : ∀ j, j < n → (b.getD j false = true → a.getD j false = true) ∧ (a.getD j false = true → l.getD j false = false)) :
    ∀ d i, i + d = n → Wp (fun K k => law21_FairnessIsMonotone_2042 K k l a b (i : Int)) (fun y => y = .inl ((), ())) := by
  intro d
  induction d with
  | zero =>
    intro i h1
    refine Wp.step ?_
    simp only [law21_FairnessIsMonotone_2042]
    exact Wp.negd (by omega) (Wp.ret rfl)
  | succ d ih =>
    intro i h1
    obtain ⟨h2, h3⟩ := h i (by omega)
    have g0 : ((i : Int) < (l.length : Int)) = True := eq_true (by omega)
    have ga : (0 ≤ (i : Int) ∧ (i : Int) < (a.length : Int)) = True := eq_true (by omega)
    have gb : (0 ≤ (i : Int) ∧ (i : Int) < (b.length : Int)) = True := eq_true (by omega)
    have gl : (0 ≤ (i : Int) ∧ (i : Int) < (l.length : Int)) = True := eq_true (by omega)
    refine Wp.step ?_
    cases hy : a.getD i false with
    | false =>
      have hx : b.getD i false = false := by
        cases hx : b.getD i false with
        | false => rfl
        | true => rw [h2 hx] at hy; simp at hy
      simp only [law21_FairnessIsMonotone_2042, g0, ga, gb, gl, decide_true, wrapS i (by omega), Int.toNat_natCast, if_true, hx, hy, Bool.false_eq_true, if_false, law21_FairnessIsMonotone_65353, law21_FairnessIsMonotone_16339, Option.bind_some]
      exact ih (i + 1) (by omega)
    | true =>
      have hz := h3 hy
      cases hx : b.getD i false with
      | false =>
        simp only [law21_FairnessIsMonotone_2042, g0, ga, gb, gl, decide_true, wrapS i (by omega), Int.toNat_natCast, if_true, hx, hy, hz, Bool.false_eq_true, if_false, law21_FairnessIsMonotone_65353, law21_FairnessIsMonotone_16339, Option.bind_some]
        exact ih (i + 1) (by omega)
      | true =>
        simp only [law21_FairnessIsMonotone_2042, g0, ga, gb, gl, decide_true, wrapS i (by omega), Int.toNat_natCast, if_true, hx, hy, hz, Bool.not_true, Bool.false_eq_true, if_false, law21_FairnessIsMonotone_65353, law21_FairnessIsMonotone_16339, Option.bind_some]
        exact ih (i + 1) (by omega)

theorem isMonotone (s : SpaceV) (l m : List Bool) (hs : okD spaceG s) : Wp (fun K _ => law21_FairnessIsMonotone K s l m) (fun y => y = ((true, ()), ())) := by
  simp only [law21_FairnessIsMonotone]
  refine (fair_ok hs l).call fun y hy => ?_
  obtain ⟨b, rfl, hb⟩ := hy
  refine Wp.itebn (fun _ => asleep rfl) (fun h1 => ?_)
  obtain ⟨hL, hP, hl⟩ := hb h1
  have hfew := hL.few
  refine Wp.iten (fun _ => asleep rfl) (fun hm => ?_)
  have hm : m.length = s.1.length := by omega
  refine (Wp.diag (both21 l m s.1.length (by omega) hl hm s.1.length 0 [] (by omega) rfl (fun j hj => absurd hj (Nat.not_lt_zero _)))).call fun y hy => ?_
  obtain ⟨o, rfl, ho1, ho2⟩ := hy
  have hsub : ∀ k, SetOf l k → SetOf o k := fun k hk => by
    have hk' : k < s.1.length := by
      rcases Nat.lt_or_ge k s.1.length with h5 | h5
      · exact h5
      · rw [SetOf, getD_over (by omega)] at hk; simp at hk
    show o.getD k false = true
    rw [ho2 k hk', show l.getD k false = true from hk]; rfl
  refine (core21 hL.inn l hP hl).call fun y hy => ?_
  obtain ⟨a, rfl, hA⟩ := hy
  refine (core21 hL.inn o hP ho1).call fun y hy => ?_
  obtain ⟨b, rfl, hB⟩ := hy
  have hla := hA.1
  have hlb := hB.1
  refine Wp.negn rfl (Wp.negn rfl (Wp.negn (by simp only; omega) (Wp.negn (by simp only; omega) ?_)))
  refine Wp.callE (Wp.diag (mono21 l a b s.1.length (by omega) hl hla hlb (fun j hj => ⟨fun h2 => (hA.2 j hj).2 (core_mono hsub ((hB.2 j hj).1 h2)), fun h2 => ((hA.2 j hj).1 h2).leg⟩) s.1.length 0 (by omega))) ?_
  exact asleep rfl

theorem pure_law21_FairnessIsMonotone : ∀ x, okS [spaceG, .slice .bool, .slice .bool] 0 x → ∃ K, law21_FairnessIsMonotone K x.1 x.2.1 x.2.2.1 = some ((true, ()), ()) := by
  rintro ⟨s, l, m, _⟩ ⟨hs, _, _⟩
  exact (isMonotone s l m hs).outE

/-! ### FairnessIsWeaker -/
theorem weaker {s : SpaceV} {n : Nat} {l : List Bool} {x : Nat} (h : CoreY s n l x) : ¬ Attr (goals s) (SetOf l) x := by
  refine Attr.coind (C := CoreY s n l) (fun z hz => ⟨fun hL => by rw [SetOf, hz.leg] at hL; simp at hL, ?_⟩) h
  obtain ⟨y, h1, h2, h3, h4⟩ := hz
  rcases h1.cases' with h5 | ⟨w, h5, h6⟩
  · rw [h5]
    rcases h4 with h4 | h4
    · exact .inl h4
    · right
      have hk := h4
      obtain ⟨⟨u, h7, j, h8, h9⟩, _⟩ := h4
      rcases h7.2.cases' with h10 | ⟨w, h10, h11⟩
      · refine ⟨(goals s u).getD j 0, by rw [h10]; exact getD_mem 0 (by rw [goals_len]; exact h8), y, ?_, h2, h3, .inr hk⟩
        exact h9.2.2.trans h7.1
      · exact ⟨w, (mem_outer.1 h10).2.1, y, h11.trans h7.1, h2, h3, .inr hk⟩
  · exact .inr ⟨w, (mem_outer.1 h5).2.1, y, h6, h2, h3, h4⟩

theorem turn {s : SpaceV} {n : Nat} (hs : Sys s n) {l : List Bool} : ∀ m (z : Nat) (V : List Nat), n - V.length = m → ¬ Attr (goals s) (SetOf l) z → z < n → (z :: V).Nodup → (∀ v ∈ V, v < n ∧ Rch (outer s l) v z) →
    ∃ y, Rch (outer s l) z y ∧ y < n ∧ l.getD y false = false ∧ (goals s y = [] ∨ ∃ t ∈ outer s l y, Rch (outer s l) t y) := by
  intro m
  induction m with
  | zero =>
    intro z V hm hz hzn hd hV
    have := nodup_le n (z :: V) hd (fun x hx => by
      rcases List.mem_cons.1 hx with rfl | hx
      · exact hzn
      · exact (hV x hx).1)
    rw [List.length_cons] at this
    omega
  | succ m ih =>
    intro z V hm hz hzn hd hV
    obtain ⟨h1, h2⟩ := Attr.not_of hz
    have hzl := notL.1 h1
    rcases h2 with h2 | ⟨t, h2, h3⟩
    · exact ⟨z, .refl, hzn, hzl, .inl h2⟩
    · have htl := notL.1 (Attr.not_of h3).1
      have hto : t ∈ outer s l z := mem_outer.2 ⟨hzl, h2, htl⟩
      by_cases ht : t ∈ z :: V
      · refine ⟨z, .refl, hzn, hzl, .inr ⟨t, hto, ?_⟩⟩
        rcases List.mem_cons.1 ht with rfl | ht
        · exact .refl
        · exact (hV t ht).2
      · obtain ⟨y, h4, h5⟩ := ih t (z :: V) (by rw [List.length_cons]; omega) h3 (hs.lt z t h2) (List.nodup_cons.2 ⟨ht, hd⟩) (fun v hv => by
          rcases List.mem_cons.1 hv with rfl | hv
          · exact ⟨hzn, .one hto⟩
          · exact ⟨(hV v hv).1, .tail (hV v hv).2 hto⟩)
        exact ⟨y, .head hto h4, h5⟩

theorem sync_core {s : SpaceV} {n : Nat} (hs : Sys s n) {l : List Bool} (hsy : ∀ x, x < n → ∀ j, j < (arcs s x).length → aset (arcs s x) j = s.1.getD x 0) {x : Nat} (hx : x < n) (h : ¬ Attr (goals s) (SetOf l) x) : CoreY s n l x := by
  obtain ⟨y, h1, h2, h3, h4⟩ := turn hs _ x [] rfl h hx (by simp) (fun v hv => by simp at hv)
  refine ⟨y, h1, h2, h3, h4.imp (fun h => h) ?_⟩
  rintro ⟨t, h5, h6⟩
  obtain ⟨_, h7, h8⟩ := mem_outer.1 h5
  obtain ⟨j, h9, h10⟩ := mem_getD 0 h7
  rw [goals_len] at h9
  have hin : InA s l y j := by
    unfold InA
    rw [h10]; exact ⟨h8, .one h5, h6⟩
  refine ⟨⟨y, .refl, j, h9, hin⟩, fun b _ => ⟨y, .refl, ?_⟩⟩
  cases hb : (s.1.getD y 0).toNat.testBit b with
  | false => exact .inl hb
  | true => exact .inr ⟨j, h9, hin, by rw [hsy y h2 j h9]; exact hb⟩

theorem sync_in {s : SpaceV} {n : Nat} (hs : Sys s n) {x : Nat} (hx : x < n) : ∀ d i (b : Bool), i + d = (arcs s x).length →
    Wp (fun K k => law21_FairnessIsWeaker_65170 K k b (x : Int) (i : Int) s) (fun y => ∃ b' : Bool, y = ((b', ()), (s, ())) ∧ (b' = true → b = true ∧ ∀ j, i ≤ j → j < (arcs s x).length → aset (arcs s x) j = s.1.getD x 0)) := by
  have har := hs.ar
  have hen := hs.en
  have htot := total_ge (s := s) hx
  have htt := hs.tot
  intro d
  induction d with
  | zero =>
    intro i b h1
    refine Wp.step ?_
    simp only [law21_FairnessIsWeaker_65170, Int.toNat_natCast, arcs_def]
    exact Wp.posd (by omega) (Wp.negd (by omega) (Wp.ret ⟨b, rfl, fun h => ⟨h, fun j h2 h3 => by omega⟩⟩))
  | succ d ih =>
    intro i b h1
    refine Wp.step ?_
    simp only [law21_FairnessIsWeaker_65170, Int.toNat_natCast, arcs_def, aset_def, wrapS i (by omega)]
    refine Wp.posd (by omega) (Wp.posd (by omega) ?_)
    refine Wp.iteb (fun hb => ?_) (fun hb => ?_)
    · refine Wp.posd (by omega) (Wp.posd (by omega) (Wp.posd (by omega) ?_))
      refine (ih (i + 1) _ (by omega)).mono fun y hy => ?_
      obtain ⟨b', rfl, h2⟩ := hy
      refine ⟨b', rfl, fun h3 => ?_⟩
      obtain ⟨h4, h5⟩ := h2 h3
      have h4 := of_decide_eq_true h4
      refine ⟨hb, fun j h6 h7 => ?_⟩
      rcases Nat.eq_or_lt_of_le h6 with h8 | h8
      · rw [← h8]; exact h4
      · exact h5 j h8 h7
    · refine (ih (i + 1) false (by omega)).mono fun y hy => ?_
      obtain ⟨b', rfl, h2⟩ := hy
      exact ⟨b', rfl, fun h3 => by have := (h2 h3).1; simp at this⟩
theorem sync_out {s : SpaceV} {n : Nat} (hs : Sys s n) : ∀ d x (b : Bool), x + d = n →
    Wp (fun K k => law21_FairnessIsWeaker_1018 K k b (x : Int) s) (fun y => ∃ b' : Bool, y = ((b', ()), ()) ∧ (b' = true → b = true ∧ ∀ z, x ≤ z → z < n → ∀ j, j < (arcs s z).length → aset (arcs s z) j = s.1.getD z 0)) := by
  have har := hs.ar
  have hle := hs.le
  intro d
  induction d with
  | zero =>
    intro x b h1
    refine Wp.step ?_
    simp only [law21_FairnessIsWeaker_1018]
    exact Wp.negd (by omega) (Wp.ret ⟨b, rfl, fun h => ⟨h, fun j h2 h3 => by omega⟩⟩)
  | succ d ih =>
    intro x b h1
    refine Wp.step ?_
    simp only [law21_FairnessIsWeaker_1018, wrapS x (by omega)]
    refine Wp.posd (by omega) ?_
    refine (Wp.diag (sync_in hs (show x < n by omega) (arcs s x).length 0 b (by omega))).call fun y hy => ?_
    obtain ⟨b1, rfl, h2⟩ := hy
    refine (ih (x + 1) b1 (by omega)).mono fun y hy => ?_
    obtain ⟨b', rfl, h3⟩ := hy
    refine ⟨b', rfl, fun h4 => ?_⟩
    obtain ⟨h5, h6⟩ := h3 h4
    obtain ⟨h7, h8⟩ := h2 h5
    refine ⟨h7, fun z h9 h10 j hj => ?_⟩
    rcases Nat.eq_or_lt_of_le h9 with h11 | h11
    · rw [← h11] at hj ⊢; exact h8 j (by omega) hj
    · exact h6 z h11 h10 j hj

theorem part_loop (a c : List Bool) (n : Nat) (hn : n ≤ 200) (ha : a.length = n) (hc : c.length = n) (h : ∀ j, j < n → a.getD j false = true → c.getD j false = true) :
    ∀ d i, i + d = n → Wp (fun K k => law21_FairnessIsWeaker_2042 K k a c (i : Int)) (fun y => y = .inl ((), ())) := by
  intro d
  induction d with
  | zero =>
    intro i h1
    refine Wp.step ?_
    simp only [law21_FairnessIsWeaker_2042]
    exact Wp.negd (by omega) (Wp.ret rfl)
  | succ d ih =>
    intro i h1
    have h2 := h i (by omega)
    refine Wp.step ?_
    simp only [law21_FairnessIsWeaker_2042, wrapS i (by omega), Int.toNat_natCast]
    refine Wp.posd (by omega) (Wp.posd (by omega) ?_)
    refine Wp.iteb (fun hb => Wp.posd (by omega) ?_) (fun _ => ih (i + 1) (by omega))
    rw [h2 hb]
    exact Wp.itebn (fun h => by simp at h) (fun _ => ih (i + 1) (by omega))

theorem isWeaker (s : SpaceV) (l : List Bool) (hs : okD spaceG s) : Wp (fun K _ => law21_FairnessIsWeaker K s l) (fun y => y = ((true, ()), ())) := by
  simp only [law21_FairnessIsWeaker]
  refine (fair_ok hs l).call fun y hy => ?_
  obtain ⟨b, rfl, hb⟩ := hy
  refine Wp.itebn (fun _ => asleep rfl) (fun h1 => ?_)
  obtain ⟨hL, hP, hl⟩ := hb h1
  have hfew := hL.few
  have hS := sys_of hP
  refine (core21 hL.inn l hP hl).call fun y hy => ?_
  obtain ⟨a, rfl, hA⟩ := hy
  refine (ref19_Core_ok hL.inn l).call fun y hy => ?_
  obtain ⟨f, c, rfl, rc⟩ := hy
  obtain ⟨h0, hC⟩ := rc.fair hP hl
  subst h0
  have hla := hA.1
  have hlc := hC.1
  refine Wp.negn rfl (Wp.negn (by simp only; omega) ?_)
  refine (Wp.diag (sync_out hS s.1.length 0 true (by omega))).call fun y hy => ?_
  obtain ⟨b', rfl, hsy⟩ := hy
  refine Wp.callE (Wp.diag (part_loop a c s.1.length (by omega) hla hlc (fun j hj h2 => (hC.2 j hj).2 (weaker ((hA.2 j hj).1 h2))) s.1.length 0 (by omega))) ?_
  refine Wp.callE awake21 (Wp.iteb (fun _ => ?_) (fun h => by simp at h))
  refine Wp.itebn (fun _ => Wp.ret rfl) (fun hb => ?_)
  obtain ⟨_, h3⟩ := hsy hb
  have hac : a = c := hA.unique ⟨hC.1, fun j hj => (hC.2 j hj).trans ⟨fun h4 => sync_core hS (fun x hx j hj => h3 x (Nat.zero_le _) hx j hj) hj h4, weaker⟩⟩
  subst hac
  exact Wp.callE (same_refl a (by omega)) (Wp.ret rfl)

theorem pure_law21_FairnessIsWeaker : ∀ x, okS [spaceG, .slice .bool] 0 x → ∃ K, law21_FairnessIsWeaker K x.1 x.2.1 = some ((true, ()), ()) := by
  rintro ⟨s, l, _⟩ ⟨hs, _, _⟩
  exact (isWeaker s l hs).outE
end Go.Proofs.Yteadlocehjfpoaa.G
