/- The laws of layer 19: what they share; ConvergeSplitsStates. -/
import Derived.Test.YteemomggcpaakaaAttract2
namespace Go.Proofs.Yteemomggcpaakaa.G
open Go Go.Fw

theorem awake_n (n : Nat) : law19_awake (n + 60) = some ((true, ()), ()) := by kernel_rfl
theorem awake19 : Wp (fun K _ => law19_awake K) (fun y => y = ((true, ()), ())) := Wp.of_add 60 awake_n rfl

theorem light_loop (s : SpaceV) (hl : s.2.1.length ≤ 200) : ∀ d i, i + d = s.2.1.length →
    Wp (fun K k => law19_light_58 K k (i : Int) s) (fun y => Look y (∀ j, i ≤ j → j < s.2.1.length → (arcs s j).length ≤ 70)) := by
  intro d
  induction d with
  | zero =>
    intro i h1
    refine Wp.step ?_
    simp only [law19_light_58]
    refine Wp.negd (by omega) (Wp.ret ?_)
    exact .inl ⟨rfl, by rw [show i = s.2.1.length by omega]; exact all_end⟩
  | succ d ih =>
    intro i h1
    have hil : i < s.2.1.length := by omega
    rw [all_step hil]
    refine Wp.step ?_
    simp only [law19_light_58, wrapS i (by omega), Int.toNat_natCast, arcs_def]
    refine Wp.posd (by omega) (Wp.posd (by omega) ?_)
    refine Wp.ited (fun hA => Wp.ret (.inr ⟨⟨_, rfl⟩, fun hc => by have := hc.1; omega⟩)) (fun hA => ?_)
    refine (ih (i + 1) (by omega)).mono fun y hy => ?_
    rcases hy with ⟨h4, h5⟩ | ⟨h4, h5⟩
    · exact .inl ⟨h4, by omega, h5⟩
    · exact .inr ⟨h4, fun hc => h5 hc.2⟩

/-- small enough to be looked at -/
structure Light (s : SpaceV) (l : List Bool) : Prop where
  inn : SpaceIn s
  len : l.length ≤ 210
  few : s.1.length ≤ 200

theorem light_ok {s : SpaceV} (hs : okD spaceG s) (l : List Bool) : Wp (fun K _ => law19_light K s l) (fun y => ∃ b, y = ((b, ()), ()) ∧ (b = true → Light s l)) := by
  simp only [law19_light]
  refine Wp.ited (fun _ => Wp.ret ⟨_, rfl, by simp⟩) (fun h1 => ?_)
  refine Wp.ited (fun _ => Wp.ret ⟨_, rfl, by simp⟩) (fun h2 => ?_)
  refine Wp.ited (fun _ => Wp.ret ⟨_, rfl, by simp⟩) (fun h3 => ?_)
  refine (Wp.diag (light_loop s (by omega) s.2.1.length 0 (by omega))).call fun y hy => ?_
  rcases hy with ⟨rfl, h4⟩ | ⟨⟨a, rfl⟩, h4⟩
  · exact Wp.ret ⟨_, rfl, fun _ => ⟨⟨hs.1, hs.2.1, fun k hk => by have := h4 k (by omega) hk; omega⟩, by omega, by omega⟩⟩
  · exact Wp.ret ⟨_, rfl, by simp⟩

theorem fair_ok {s : SpaceV} (hs : okD spaceG s) (l : List Bool) : Wp (fun K _ => law19_fair K s l) (fun y => ∃ b, y = ((b, ()), ()) ∧ (b = true → Light s l ∧ SpaceP s ∧ l.length = s.1.length)) := by
  simp only [law19_fair]
  refine (light_ok hs l).call fun y hy => ?_
  obtain ⟨b, rfl, hb⟩ := hy
  refine Wp.iteb (fun h1 => ?_) (fun _ => Wp.ret ⟨_, rfl, by simp⟩)
  have hL := hb h1
  refine (ref18_Valid_ok hL.inn).call fun y hy => ?_
  obtain ⟨v, rfl, hv⟩ := hy
  refine Wp.iteb (fun h2 => Wp.ret ⟨_, rfl, fun h3 => ⟨hL, hv.1 h2, by have := of_decide_eq_true h3; omega⟩⟩) (fun _ => Wp.ret ⟨_, rfl, by simp⟩)

theorem same_loop (l : List Bool) (hl : l.length ≤ 1000000) : ∀ d i, i + d = l.length → Wp (fun K k => ref19_Same_58 K k l l (i : Int)) (fun y => y = .inl ((), ())) := by
  intro d
  induction d with
  | zero =>
    intro i h1
    refine Wp.step ?_
    simp only [ref19_Same_58]
    exact Wp.negd (by omega) (Wp.ret rfl)
  | succ d ih =>
    intro i h1
    refine Wp.step ?_
    simp only [ref19_Same_58, wrapS i (by omega), Int.toNat_natCast, beq_bool]
    refine Wp.posd (by omega) (Wp.posd (by omega) (Wp.posd (by omega) ?_))
    exact Wp.itebn (fun h => by simp at h) (fun _ => ih (i + 1) (by omega))
theorem same_refl (l : List Bool) (hl : l.length ≤ 1000000) : Wp (fun K _ => ref19_Same K l l) (fun y => y = ((true, ()), ())) := by
  simp only [ref19_Same]
  refine Wp.negn trivial ?_
  refine Wp.callE (Wp.diag (same_loop l hl l.length 0 (by omega))) ?_
  exact Wp.ret rfl

/-- a law that is asleep: it says what the sanity check says -/
theorem asleep {K' : Nat → Nat → Option ((Bool × Unit) × Unit)} (h : K' = fun K _ => (law19_awake K).bind fun y => some ((y.1.1, ()), ())) : Wp K' (fun y => y = ((true, ()), ())) := by
  subst h
  exact Wp.callE awake19 (Wp.ret rfl)

theorem splits_loop (a c l : List Bool) (n : Nat) (hn : n ≤ 200) (hl : l.length = n) (ha : a.length = n) (hc : c.length = n) (h : ∀ j, j < n → (a.getD j false == c.getD j false) = false ∧ (l.getD j false = true → c.getD j false = false)) :
    ∀ d i, i + d = n → Wp (fun K k => law19_ConvergeSplitsStates_506 K k l a c (i : Int)) (fun y => y = .inl ((), ())) := by
  intro d
  induction d with
  | zero =>
    intro i h1
    refine Wp.step ?_
    simp only [law19_ConvergeSplitsStates_506]
    exact Wp.negd (by omega) (Wp.ret rfl)
  | succ d ih =>
    intro i h1
    obtain ⟨h2, h3⟩ := h i (by omega)
    refine Wp.step ?_
    simp only [law19_ConvergeSplitsStates_506, wrapS i (by omega), Int.toNat_natCast, beq_bool, h2]
    refine Wp.posd (by omega) (Wp.posd (by omega) (Wp.posd (by omega) (Wp.iteb (fun h => by simp at h) (fun _ => ?_))))
    refine Wp.posd (by omega) (Wp.iteb (fun hb => Wp.posd (by omega) ?_) (fun _ => ih (i + 1) (by omega)))
    rw [h3 hb]
    exact Wp.iteb (fun h => by simp at h) (fun _ => ih (i + 1) (by omega))

theorem splits (s : SpaceV) (l : List Bool) (hs : okD spaceG s) : Wp (fun K _ => law19_ConvergeSplitsStates K s l) (fun y => y = ((true, ()), ())) := by
  simp only [law19_ConvergeSplitsStates]
  refine (fair_ok hs l).call fun y hy => ?_
  obtain ⟨b, rfl, hb⟩ := hy
  refine Wp.itebn (fun _ => asleep rfl) (fun h1 => ?_)
  obtain ⟨hL, hP, hl⟩ := hb h1
  refine (converge_Attractor_ok hL.inn l).call fun y hy => ?_
  obtain ⟨e, a, rfl, ha⟩ := hy
  obtain ⟨rfl, ha1, ha2⟩ := ha.fair hP hl
  refine (converge_Core_ok hL.inn l).call fun y hy => ?_
  obtain ⟨f, c, rfl, hc⟩ := hy
  obtain ⟨rfl, hc1, hc2⟩ := hc.fair hP hl
  have hfew := hL.few
  refine Wp.negn rfl (Wp.negn rfl (Wp.negn (by simp only; omega) (Wp.negn (by simp only; omega) ?_)))
  refine Wp.callE (Wp.diag (splits_loop a c l s.1.length hfew hl ha1 hc1 (fun j hj => ?_) s.1.length 0 (by omega))) ?_
  · have h2 := ha2 j hj
    have h3 := hc2 j hj
    by_cases hA : Attr (goals s) (SetOf l) j
    · have h4 := h2.2 hA
      have h5 : c.getD j false = false := by
        cases hcj : c.getD j false with
        | false => rfl
        | true => exact absurd hA (h3.1 hcj)
      rw [h4, h5]; exact ⟨rfl, fun _ => rfl⟩
    · have h4 := h3.2 hA
      have h5 : a.getD j false = false := by
        cases haj : a.getD j false with
        | false => rfl
        | true => exact absurd (h2.1 haj) hA
      rw [h4, h5]
      exact ⟨rfl, fun h6 => absurd (.base h6) hA⟩
  · exact asleep rfl

theorem pure_law19_ConvergeSplitsStates : ∀ x, okS [spaceG, .slice .bool] 0 x → ∃ K, law19_ConvergeSplitsStates K x.1 x.2.1 = some ((true, ()), ()) := by
  rintro ⟨s, l, _⟩ ⟨hs, _, _⟩
  exact (splits s l hs).outE
end Go.Proofs.Yteemomggcpaakaa.G
