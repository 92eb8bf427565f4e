/- The laws of layer 21: what they share; FairnessFindsComponents, FairnessFindsTheCore and FairnessNumbersComponents. -/
import Derived.Test.YteadlocehjfpoaaFairCore
namespace Go.Proofs.Yteadlocehjfpoaa.G
open Go Go.Fw

theorem awake_n (n : Nat) : law21_awake (n + 80) = some ((true, ()), ()) := by kernel_rfl
theorem awake21 : Wp (fun K _ => law21_awake K) (fun y => y = ((true, ()), ())) := Wp.of_add 80 awake_n rfl

theorem light_loop (s : SpaceV) (hl : s.2.1.length ≤ 120) : ∀ d i, i + d = s.2.1.length →
    Wp (fun K k => law21_light_58 K k (i : Int) s) (fun y => Look y (∀ j, i ≤ j → j < s.2.1.length → (arcs s j).length ≤ 40)) := by
  intro d
  induction d with
  | zero =>
    intro i h1
    refine Wp.step ?_
    simp only [law21_light_58]
    refine Wp.negd (by omega) (Wp.ret ?_)
    exact .inl ⟨rfl, by rw [show i = s.2.1.length by omega]; exact all_end⟩
  | succ d ih =>
    intro i h1
    have hil : i < s.2.1.length := by omega
    rw [all_step hil]
    refine Wp.step ?_
    simp only [law21_light_58, wrapS i (by omega), Int.toNat_natCast, arcs_def]
    refine Wp.posd (by omega) (Wp.posd (by omega) ?_)
    refine Wp.ited (fun hA => Wp.ret (.inr ⟨⟨_, rfl⟩, fun hc => by have := hc.1; omega⟩)) (fun hA => ?_)
    refine (ih (i + 1) (by omega)).mono fun y hy => ?_
    rcases hy with ⟨h4, h5⟩ | ⟨h4, h5⟩
    · exact .inl ⟨h4, by omega, h5⟩
    · exact .inr ⟨h4, fun hc => h5 hc.2⟩

/-- small enough to be looked at -/
structure Light (s : SpaceV) (l : List Bool) : Prop where
  inn : SpaceIn s
  len : l.length ≤ 130
  few : s.1.length ≤ 120

theorem light_ok {s : SpaceV} (hs : okD spaceG s) (l : List Bool) : Wp (fun K _ => law21_light K s l) (fun y => ∃ b, y = ((b, ()), ()) ∧ (b = true → Light s l)) := by
  simp only [law21_light]
  refine Wp.ited (fun _ => Wp.ret ⟨_, rfl, by simp⟩) (fun h1 => ?_)
  refine Wp.ited (fun _ => Wp.ret ⟨_, rfl, by simp⟩) (fun h2 => ?_)
  refine Wp.ited (fun _ => Wp.ret ⟨_, rfl, by simp⟩) (fun h3 => ?_)
  refine (Wp.diag (light_loop s (by omega) s.2.1.length 0 (by omega))).call fun y hy => ?_
  rcases hy with ⟨rfl, h4⟩ | ⟨⟨a, rfl⟩, h4⟩
  · exact Wp.ret ⟨_, rfl, fun _ => ⟨⟨hs.1, hs.2.1, fun k hk => by have := h4 k (by omega) hk; omega⟩, by omega, by omega⟩⟩
  · exact Wp.ret ⟨_, rfl, by simp⟩

theorem fair_ok {s : SpaceV} (hs : okD spaceG s) (l : List Bool) : Wp (fun K _ => law21_fair K s l) (fun y => ∃ b, y = ((b, ()), ()) ∧ (b = true → Light s l ∧ SpaceP s ∧ l.length = s.1.length)) := by
  simp only [law21_fair]
  refine (light_ok hs l).call fun y hy => ?_
  obtain ⟨b, rfl, hb⟩ := hy
  refine Wp.iteb (fun h1 => ?_) (fun _ => Wp.ret ⟨_, rfl, by simp⟩)
  have hL := hb h1
  refine (ref18_Valid_ok hL.inn).call fun y hy => ?_
  obtain ⟨v, rfl, hv⟩ := hy
  refine Wp.iteb (fun h2 => Wp.ret ⟨_, rfl, fun h3 => ⟨hL, hv.1 h2, by have := of_decide_eq_true h3; omega⟩⟩) (fun _ => Wp.ret ⟨_, rfl, by simp⟩)

theorem same_loop (l : List Bool) (hl : l.length ≤ 1000000) : ∀ d i, i + d = l.length → Wp (fun K k => ref19_Same_58 K k l l (i : Int)) (fun y => y = .inl ((), ())) := by
  intro d
  induction d with
  | zero =>
    intro i h1
    refine Wp.step ?_
    simp only [ref19_Same_58]
    exact Wp.negd (by omega) (Wp.ret rfl)
  | succ d ih =>
    intro i h1
    refine Wp.step ?_
    simp only [ref19_Same_58, wrapS i (by omega), Int.toNat_natCast, beq_bool]
    refine Wp.posd (by omega) (Wp.posd (by omega) (Wp.posd (by omega) ?_))
    exact Wp.itebn (fun h => by simp at h) (fun _ => ih (i + 1) (by omega))
theorem same_refl (l : List Bool) (hl : l.length ≤ 1000000) : Wp (fun K _ => ref19_Same K l l) (fun y => y = ((true, ()), ())) := by
  simp only [ref19_Same]
  refine Wp.negn trivial ?_
  refine Wp.callE (Wp.diag (same_loop l hl l.length 0 (by omega))) ?_
  exact Wp.ret rfl

/-- a law that is asleep: it says what the sanity check says -/
theorem asleep {K' : Nat → Nat → Option ((Bool × Unit) × Unit)} (h : K' = fun K _ => (law21_awake K).bind fun y => some ((y.1.1, ()), ())) : Wp K' (fun y => y = ((true, ()), ())) := by
  subst h
  exact Wp.callE awake21 (Wp.ret rfl)

theorem sameInts_loop (l : List Int) (hl : l.length ≤ 1000000) : ∀ d i, i + d = l.length → Wp (fun K k => ref01_SameInts_58 K k l l (i : Int)) (fun y => y = .inl ((), ())) := by
  intro d
  induction d with
  | zero =>
    intro i h1
    refine Wp.step ?_
    simp only [ref01_SameInts_58]
    exact Wp.negd (by omega) (Wp.ret rfl)
  | succ d ih =>
    intro i h1
    refine Wp.step ?_
    simp only [ref01_SameInts_58, wrapS i (by omega), Int.toNat_natCast]
    exact Wp.posd (by omega) (Wp.posd (by omega) (Wp.posd (by omega) (Wp.negn trivial (ih (i + 1) (by omega)))))
theorem sameInts_refl (l : List Int) (hl : l.length ≤ 1000000) : Wp (fun K _ => ref01_SameInts K l l) (fun y => y = ((true, ()), ())) := by
  simp only [ref01_SameInts]
  refine Wp.negn trivial ?_
  exact Wp.callE (Wp.diag (sameInts_loop l hl l.length 0 (by omega))) (Wp.ret rfl)

theorem nat_of_u8 {x : Int} (h : IntKind.u8.has x) : ∃ n : Nat, x = (n : Int) ∧ n < 256 := by
  have h1 : IntKind.u8.min ≤ x ∧ x ≤ IntKind.u8.max := h
  have h2 : IntKind.u8.min = 0 := rfl
  have h3 : IntKind.u8.max = 255 := rfl
  exact ⟨x.toNat, by omega, by omega⟩


theorem NumRes.small {s : SpaceV} {l : List Bool} {e : Int} {a : List Int} (h : NumRes s l e a) (hs : s.1.length ≤ 120) : a.length ≤ 1000000 := by
  rcases h.2 with ⟨_, h1⟩ | ⟨_, rfl⟩
  · rw [h1.len]; omega
  · simp
theorem NRes.small {s : SpaceV} {l : List Bool} {m : Nat} {P : List Int → Nat → Prop} {e : Int} {a : List Bool} (h : NRes s l m P e a) (hm : m ≤ 120) : a.length ≤ 1000000 := by
  rcases h.2 with ⟨_, _, _, h1⟩ | ⟨_, rfl⟩
  · rw [h1.1]; omega
  · simp
theorem NumRes.fair {s : SpaceV} {l : List Bool} {e : Int} {a : List Int} (h : NumRes s l e a) (h1 : SpaceP s) (h2 : l.length = s.1.length) : e = 0 ∧ Num s.1.length (SetOf l) (Eq' s l) a := by
  have h3 := h.1.fair h1 h2
  rcases h.2 with h4 | h4
  · exact h4
  · exact absurd h3 h4.1
theorem NRes.fair {s : SpaceV} {l : List Bool} {m : Nat} {P : List Int → Nat → Prop} {e : Int} {a : List Bool} (h : NRes s l m P e a) (h1 : SpaceP s) (h2 : l.length = s.1.length) : e = 0 ∧ ∃ of, Num s.1.length (SetOf l) (Eq' s l) of ∧ Tells m a (P of) := by
  have h3 := h.1.fair h1 h2
  rcases h.2 with h4 | h4
  · exact h4
  · exact absurd h3 h4.1

theorem findsComponents (s : SpaceV) (l : List Bool) (hs : okD spaceG s) : Wp (fun K _ => law21_FairnessFindsComponents K s l) (fun y => y = ((true, ()), ())) := by
  simp only [law21_FairnessFindsComponents]
  refine (light_ok hs l).call fun y hy => ?_
  obtain ⟨b, rfl, hb⟩ := hy
  refine Wp.itebn (fun _ => asleep rfl) (fun h1 => ?_)
  have hL := hb h1
  have hcl := cntC_le (SetOf l) (Eq' s l) s.1.length
  have hfew := hL.few
  refine (fairness_Components_ok hL.inn l).call fun y hy => ?_
  obtain ⟨e1, a1, rfl, r1⟩ := hy
  refine (ref21_Components_ok hL.inn l).call fun y hy => ?_
  obtain ⟨e2, a2, rfl, r2⟩ := hy
  obtain ⟨rfl, rfl⟩ := r1.unique r2
  refine (fairness_Kept_ok hL.inn l).call fun y hy => ?_
  obtain ⟨e3, a3, rfl, r3⟩ := hy
  refine (ref21_Kept_ok hL.inn l).call fun y hy => ?_
  obtain ⟨e4, a4, rfl, r4⟩ := hy
  obtain ⟨rfl, rfl⟩ := r3.unique r4
  refine Wp.callE awake21 (Wp.iteb (fun _ => ?_) (fun h => by simp at h))
  refine Wp.callE (sameInts_refl a1 (r1.small hfew)) (Wp.iteb (fun _ => ?_) (fun h => by simp at h))
  refine Wp.posd rfl ?_
  refine Wp.callE (same_refl a3 (r3.small (by omega))) (Wp.iteb (fun _ => ?_) (fun h => by simp at h))
  exact Wp.ret (by simp)

theorem pure_law21_FairnessFindsComponents : ∀ x, okS [spaceG, .slice .bool] 0 x → ∃ K, law21_FairnessFindsComponents K x.1 x.2.1 = some ((true, ()), ()) := by
  rintro ⟨s, l, _⟩ ⟨hs, _, _⟩
  exact (findsComponents s l hs).outE

theorem findsCore (s : SpaceV) (l : List Bool) (hs : okD spaceG s) : Wp (fun K _ => law21_FairnessFindsTheCore K s l) (fun y => y = ((true, ()), ())) := by
  simp only [law21_FairnessFindsTheCore]
  refine (light_ok hs l).call fun y hy => ?_
  obtain ⟨b, rfl, hb⟩ := hy
  refine Wp.itebn (fun _ => asleep rfl) (fun h1 => ?_)
  have hL := hb h1
  have hfew := hL.few
  refine (fairness_Core_ok hL.inn l).call fun y hy => ?_
  obtain ⟨e3, a3, rfl, r3⟩ := hy
  refine (ref21_Core_ok hL.inn l).call fun y hy => ?_
  obtain ⟨e4, a4, rfl, r4⟩ := hy
  obtain ⟨rfl, rfl⟩ := r3.unique r4
  refine Wp.callE awake21 (Wp.iteb (fun _ => ?_) (fun h => by simp at h))
  refine Wp.callE (same_refl a3 (r3.small (by omega))) (Wp.iteb (fun _ => ?_) (fun h => by simp at h))
  exact Wp.ret (by simp)

theorem pure_law21_FairnessFindsTheCore : ∀ x, okS [spaceG, .slice .bool] 0 x → ∃ K, law21_FairnessFindsTheCore K x.1 x.2.1 = some ((true, ()), ()) := by
  rintro ⟨s, l, _⟩ ⟨hs, _, _⟩
  exact (findsCore s l hs).outE

theorem numbers_loop {s : SpaceV} {n : Nat} {l : List Bool} (hn : n ≤ 32768) (hl : l.length = n) {of : List Int} (h : Num n (SetOf l) (Eq' s l) of) : ∀ d i, i + d = n →
    Wp (fun K k => law21_FairnessNumbersComponents_1018 K k l of (cntC (SetOf l) (Eq' s l) i : Int) (i : Int)) (fun y => y = .inl (((cntC (SetOf l) (Eq' s l) n : Int), ()), ())) := by
  have hlen := h.len
  intro d
  induction d with
  | zero =>
    intro i h1
    refine Wp.step ?_
    simp only [law21_FairnessNumbersComponents_1018]
    exact Wp.negd (by omega) (Wp.ret (by rw [show i = n by omega]))
  | succ d ih =>
    intro i h1
    have hi : i < n := by omega
    have hcl := cntC_le (SetOf l) (Eq' s l) i
    have hnext := ih (i + 1) (by omega)
    refine Wp.step ?_
    simp only [law21_FairnessNumbersComponents_1018, wrapS i (by omega), Int.toNat_natCast, beq_bool, wrapS _ (show cntC (SetOf l) (Eq' s l) i < 9223372036854775807 by omega)]
    refine Wp.posd (by omega) (Wp.posd (by omega) ?_)
    cases hb : l.getD i false with
    | true =>
      have hL : SetOf l i := hb
      have hc : cntC (SetOf l) (Eq' s l) (i + 1) = cntC (SetOf l) (Eq' s l) i := by simp only [cntC]; rw [if_neg (fun hh => hh.1 hL)]; rfl
      rw [hc] at hnext
      simp only [h.leg i hi hL]
      refine Wp.negd (by omega) (Wp.posd (by omega) (Wp.negd (by omega) (Wp.posd (by omega) (Wp.posd (by omega) ?_))))
      exact Wp.itebn (fun h => by simp at h) (fun _ => Wp.posd (by omega) (Wp.negd (by omega) hnext))
    | false =>
      have hL : ¬ SetOf l i := notL.2 hb
      obtain ⟨j, h2, h3, h4, h5⟩ := least_ex (eq_refl s l) (eq_trans s l) i hL
      have hj : of.getD i 0 = (cntC (SetOf l) (Eq' s l) j : Int) := by rw [← h.old j i (by omega) hi h3 hL h4, h.new j (by omega) h3 h5]
      have hcj := cntC_le (SetOf l) (Eq' s l) j
      have hmono := cntC_mono (SetOf l) (Eq' s l) h2
      simp only [hj]
      refine Wp.negd (by omega) (Wp.posd (by omega) (Wp.negd (by omega) (Wp.posd (by omega) (Wp.posd (by omega) ?_))))
      have hz : ((cntC (SetOf l) (Eq' s l) j : Int) < 0) = False := eq_false (by omega)
      simp only [hz]
      refine Wp.itebn (fun h => by simp at h) (fun _ => Wp.posd (by omega) ?_)
      rcases Nat.eq_or_lt_of_le h2 with h6 | h6
      · have hc : cntC (SetOf l) (Eq' s l) (i + 1) = cntC (SetOf l) (Eq' s l) i + 1 := by simp only [cntC]; rw [if_pos ⟨hL, by rw [← h6]; exact h5⟩]
        rw [hc] at hnext
        exact Wp.posd (by rw [h6]) hnext
      · have hc : cntC (SetOf l) (Eq' s l) (i + 1) = cntC (SetOf l) (Eq' s l) i := by simp only [cntC]; rw [if_neg (fun hh => hh.2 j h6 h3 h4)]; rfl
        have h7 := cntC_mono (SetOf l) (Eq' s l) (show j + 1 ≤ i from h6)
        have h8 : cntC (SetOf l) (Eq' s l) (j + 1) = cntC (SetOf l) (Eq' s l) j + 1 := by simp only [cntC]; rw [if_pos ⟨h3, h5⟩]
        rw [hc] at hnext
        exact Wp.negd (by omega) hnext

theorem numbersComponents (s : SpaceV) (l : List Bool) (hs : okD spaceG s) : Wp (fun K _ => law21_FairnessNumbersComponents K s l) (fun y => y = ((true, ()), ())) := by
  simp only [law21_FairnessNumbersComponents]
  refine (fair_ok hs l).call fun y hy => ?_
  obtain ⟨b, rfl, hb⟩ := hy
  refine Wp.itebn (fun _ => asleep rfl) (fun h1 => ?_)
  obtain ⟨hL, hP, hl⟩ := hb h1
  have hfew := hL.few
  refine (fairness_Components_ok hL.inn l).call fun y hy => ?_
  obtain ⟨e1, a1, rfl, r1⟩ := hy
  obtain ⟨h0, hN⟩ := r1.fair hP hl
  subst h0
  refine (fairness_Kept_ok hL.inn l).call fun y hy => ?_
  obtain ⟨e2, kp, rfl, r2⟩ := hy
  obtain ⟨h0, of, hN', hT⟩ := r2.fair hP hl
  subst h0
  have hlen := hN.len
  have hkl := hT.1
  refine Wp.negn rfl (Wp.negn rfl (Wp.negn (by simp only; omega) ?_))
  refine Wp.callE (Wp.diag (numbers_loop (by omega) hl hN s.1.length 0 (by omega))) ?_
  refine Wp.callE awake21 (Wp.iteb (fun _ => ?_) (fun h => by simp at h))
  refine Wp.ret ?_
  simp only [hkl, decide_true]

theorem pure_law21_FairnessNumbersComponents : ∀ x, okS [spaceG, .slice .bool] 0 x → ∃ K, law21_FairnessNumbersComponents K x.1 x.2.1 = some ((true, ()), ()) := by
  rintro ⟨s, l, _⟩ ⟨hs, _, _⟩
  exact (numbersComponents s l hs).outE
end Go.Proofs.Yteadlocehjfpoaa.G
