/- The law FairnessComponentsAreLoops. -/
import Derived.Test.YteadlocehjfpoaaL21b
namespace Go.Proofs.Yteadlocehjfpoaa.G
open Go Go.Fw

theorem two_mod {x : Int} {n : Nat} (h0 : 0 < n) (hn : n ≤ 1000000) : ∃ m : Nat, m < n ∧ Int.tmod (IntKind.i64.wrap (Int.tmod x (n : Int) + (n : Int))) (n : Int) = (m : Int) := by
  have h1 := Int.tmod_lt_of_pos x (show (0 : Int) < (n : Int) by omega)
  have h2 := Int.lt_tmod_of_pos x (show (0 : Int) < (n : Int) by omega)
  rw [wrapI (by omega) (by omega)]
  obtain ⟨k, hk⟩ : ∃ k : Nat, Int.tmod x (n : Int) + (n : Int) = (k : Int) := ⟨(Int.tmod x (n : Int) + (n : Int)).toNat, by omega⟩
  rw [hk]
  exact ⟨k % n, Nat.mod_lt _ h0, (Int.ofNat_tmod _ _).symm⟩

section
variable {s : SpaceV} {n : Nat} {l : List Bool}

def RSound (s : SpaceV) (n : Nat) (l : List Bool) (x0 : Nat) (out : List Bool) : Prop := out.length = n ∧ ∀ y, out.getD y false = true → y < n ∧ l.getD y false = false ∧ Rch (outer s l) x0 y

theorem reach_in (hs : Sys s n) (hl : l.length = n) {x0 : Nat} (o0 : List Bool) {x : Nat} (hx : x < n) : ∀ d i (b : Bool) (out : List Bool), i + d = (arcs s x).length → RSound s n l x0 out → (∀ y, o0.getD y false = true → out.getD y false = true) →
      ((b = true ∧ holes out < holes o0) ∨ (b = false ∧ out = o0 ∧ (o0.getD x false = true → ∀ j, j < i → l.getD ((goals s x).getD j 0) false = false → o0.getD ((goals s x).getD j 0) false = true))) →
    Wp (fun K k => law21_reach_501138 K k l b (x : Int) (i : Int) s out) (fun y => ∃ (b' : Bool) (out' : List Bool), y = ((b', ()), (s, (out', ()))) ∧ RSound s n l x0 out' ∧ (∀ y, o0.getD y false = true → out'.getD y false = true) ∧
      ((b' = true ∧ holes out' < holes o0) ∨ (b' = false ∧ b = false ∧ out' = o0 ∧ (o0.getD x false = true → ∀ z ∈ outer s l x, o0.getD z false = true)))) := by
  have har := hs.ar
  have htot := total_ge (s := s) hx
  have htt := hs.tot
  intro d
  induction d with
  | zero =>
    intro i b out h1 h2 h4 h5
    refine Wp.step ?_
    simp only [law21_reach_501138, Int.toNat_natCast, arcs_def]
    refine Wp.posd (by omega) (Wp.negd (by omega) (Wp.ret ⟨b, out, rfl, h2, h4, ?_⟩))
    rcases h5 with h5 | ⟨h5, h6, h7⟩
    · exact .inl h5
    · refine .inr ⟨h5, h5, h6, fun h8 z hz => ?_⟩
      obtain ⟨_, h9, h10⟩ := mem_outer.1 hz
      obtain ⟨j, h11, h12⟩ := mem_getD 0 h9
      rw [goals_len] at h11
      have := h7 h8 j (by omega) (by rw [h12]; exact h10)
      rwa [h12] at this
  | succ d ih =>
    intro i b out h1 h2 h4 h5
    have hil : i < (arcs s x).length := by omega
    have hg := goals_at hs hil
    have hol := h2.1
    refine Wp.step ?_
    simp only [law21_reach_501138, Int.toNat_natCast, arcs_def]
    refine Wp.posd (by omega) (Wp.posd (by omega) (Wp.posd (by omega) ?_))
    refine Wp.iteb (fun hb => ?_) (fun hb => ?_)
    · have hlx := (h2.2 x hb).2.1
      simp only [wrapS i (by omega), ato_def, hs.at' x i hil, Int.toNat_natCast]
      refine Wp.posd (by omega) (Wp.posd (by omega) (Wp.posd (by omega) ?_))
      obtain ⟨t, ht⟩ : ∃ t, t = (goals s x).getD i 0 := ⟨_, rfl⟩
      rw [← ht] at hg ⊢
      have next : (l.getD t false = false → out.getD t false = true) → Wp (fun K k => law21_reach_501138 K k l b (x : Int) ((i + 1 : Nat) : Int) s out) (fun y => ∃ (b' : Bool) (out' : List Bool), y = ((b', ()), (s, (out', ()))) ∧ RSound s n l x0 out' ∧ (∀ y, o0.getD y false = true → out'.getD y false = true) ∧
          ((b' = true ∧ holes out' < holes o0) ∨ (b' = false ∧ b = false ∧ out' = o0 ∧ (o0.getD x false = true → ∀ z ∈ outer s l x, o0.getD z false = true)))) := by
        intro ht'
        refine ih (i + 1) b out (by omega) h2 h4 (h5.imp (fun h => h) ?_)
        rintro ⟨h6, h7, h8⟩
        refine ⟨h6, h7, fun h9 j hj hlj => ?_⟩
        rcases Nat.lt_or_ge j i with h10 | h10
        · exact h8 h9 j h10 hlj
        · have h11 : j = i := by omega
          rw [h11, ← ht] at hlj ⊢
          rw [← h7]; exact ht' hlj
      refine Wp.itebn (fun hc => ?_) (fun hc => next (fun h => by rw [hc] at h; simp at h))
      refine Wp.posd (by omega) ?_
      refine Wp.itebn (fun hf => ?_) (fun hf => next (fun _ => hf))
      have hset : ∀ y, (out.set t true).getD y false = true ↔ y = t ∨ out.getD y false = true := fun y => by
        rw [gset]
        by_cases hy : t = y
        · rw [if_pos ⟨hy, by omega⟩]; simp [hy]
        · rw [if_neg (fun hh => hy hh.1)]; simp [Ne.symm hy]
      have hto : t ∈ outer s l x := mem_outer.2 ⟨hlx, by rw [ht]; exact getD_mem 0 (by rw [goals_len]; exact hil), hc⟩
      have hh := holes_set (l := out) (i := t) (by omega) hf
      have hlt : holes (out.set t true) < holes o0 := by
        rcases h5 with h5 | ⟨_, h6, _⟩
        · omega
        · rw [h6] at hh ⊢; omega
      refine Wp.posd (by omega) ((ih (i + 1) true _ (by omega) ⟨by simpa using hol, fun y hy => ?_⟩ (fun y hy => (hset y).2 (.inr (h4 y hy))) (.inl ⟨rfl, hlt⟩)).mono fun y hy => ?_)
      · rcases (hset y).1 hy with h7 | h7
        · rw [h7]; exact ⟨hg, hc, .tail (h2.2 x hb).2.2 hto⟩
        · exact h2.2 y h7
      · obtain ⟨b', out', rfl, h6, h7, h8⟩ := hy
        exact ⟨b', out', rfl, h6, h7, h8.imp (fun h => h) (fun h => by have := h.2.1; simp at this)⟩
    · refine Wp.ret ⟨b, out, rfl, h2, h4, ?_⟩
      rcases h5 with h5 | ⟨h5, h6, h7⟩
      · exact .inl h5
      · exact .inr ⟨h5, h5, h6, fun h8 => by rw [← h6, hb] at h8; simp at h8⟩

theorem reach_pass (hs : Sys s n) (hl : l.length = n) {x0 : Nat} (o0 : List Bool) : ∀ d x (b : Bool) (out : List Bool), x + d = n → RSound s n l x0 out → (∀ y, o0.getD y false = true → out.getD y false = true) →
      ((b = true ∧ holes out < holes o0) ∨ (b = false ∧ out = o0 ∧ (∀ z, z < x → o0.getD z false = true → ∀ w ∈ outer s l z, o0.getD w false = true))) →
    Wp (fun K k => law21_reach_7830 K k l b (x : Int) s out) (fun y => ∃ (b' : Bool) (out' : List Bool), y = ((b', ()), (s, (out', ()))) ∧ RSound s n l x0 out' ∧ (∀ y, o0.getD y false = true → out'.getD y false = true) ∧
      ((b' = true ∧ holes out' < holes o0) ∨ (b' = false ∧ out' = o0 ∧ (∀ z, z < n → o0.getD z false = true → ∀ w ∈ outer s l z, o0.getD w false = true)))) := by
  have hle := hs.le
  intro d
  induction d with
  | zero =>
    intro x b out h1 h2 h4 h5
    have hol := h2.1
    refine Wp.step ?_
    simp only [law21_reach_7830]
    exact Wp.negd (by omega) (Wp.ret ⟨b, out, rfl, h2, h4, h5.imp (fun h => h) (fun h => ⟨h.1, h.2.1, fun z hz => h.2.2 z (by omega)⟩)⟩)
  | succ d ih =>
    intro x b out h1 h2 h4 h5
    have hx : x < n := by omega
    have hol := h2.1
    refine Wp.step ?_
    simp only [law21_reach_7830, wrapS x (by omega)]
    refine Wp.posd (by omega) ?_
    refine (Wp.diag (reach_in hs hl (x0 := x0) o0 hx (arcs s x).length 0 b out (by omega) h2 h4 (h5.imp (fun h => h) (fun h => ⟨h.1, h.2.1, fun _ j hj => absurd hj (Nat.not_lt_zero _)⟩)))).call fun y hy => ?_
    obtain ⟨b', out', rfl, h7, h8, h9⟩ := hy
    refine ih (x + 1) b' out' (by omega) h7 h8 (h9.imp (fun h => h) ?_)
    rintro ⟨h10, h11, h12, h13⟩
    rcases h5 with h5 | ⟨_, h14, h15⟩
    · rw [h11] at h5; simp at h5
    · refine ⟨h10, h12, fun z hz hoz => ?_⟩
      rcases Nat.lt_or_ge z x with h16 | h16
      · exact h15 z h16 hoz
      · have h17 : z = x := by omega
        rw [h17] at hoz ⊢; exact h13 hoz

theorem reach_rounds (hs : Sys s n) (hl : l.length = n) {x0 : Nat} : ∀ m (out : List Bool), holes out = m → RSound s n l x0 out → out.getD x0 false = true →
    Wp (fun K k => law21_reach_122 K k l true s out) (fun y => ∃ out', y = ((), (out', ())) ∧ Tells n out' (Rch (outer s l) x0)) := by
  intro m
  induction m using Nat.strongRecOn with
  | ind m ih =>
    intro out hm h1 h2
    refine Wp.step ?_
    simp only [law21_reach_122, if_true]
    refine (Wp.diag (reach_pass hs hl (x0 := x0) out n 0 false out (by omega) h1 (fun _ h => h) (.inr ⟨rfl, rfl, fun z hz => absurd hz (Nat.not_lt_zero _)⟩))).call fun y hy => ?_
    obtain ⟨b, out', rfl, h3, h4, h5⟩ := hy
    rcases h5 with ⟨rfl, h5⟩ | ⟨rfl, h5, h6⟩
    · exact ih (holes out') (by omega) out' rfl h3 (h4 x0 h2)
    · refine Wp.step ?_
      simp only [law21_reach_122, Bool.false_eq_true, if_false]
      subst h5
      refine Wp.ret ⟨out', rfl, h3.1, fun j hj => ⟨fun h => (h3.2 j h).2.2, fun h => ?_⟩⟩
      clear hj
      induction h with
      | refl => exact h2
      | tail h7 h8 ih' => exact h6 _ (outer_lt hs h8).1 ih' _ h8

theorem reach_ok (hs : Sys s n) (hl : l.length = n) {x0 : Nat} (hx : x0 < n) (hlx : l.getD x0 false = false) : Wp (fun K _ => law21_reach K s l (x0 : Int)) (fun y => ∃ out, y = (((), ()), (out, ())) ∧ Tells n out (Rch (outer s l) x0)) := by
  have hle := hs.le
  simp only [law21_reach, Int.toNat_natCast, List.length_replicate]
  refine Wp.posd (by omega) (Wp.posd (by omega) ?_)
  have hset : ∀ y, ((List.replicate l.length false).set x0 true).getD y false = true ↔ y = x0 := fun y => by
    rw [gset, getD_rep]
    by_cases hy : x0 = y
    · rw [if_pos ⟨hy, by rw [List.length_replicate]; omega⟩]; simp [hy]
    · rw [if_neg (fun hh => hy hh.1)]
      have : ¬ y = x0 := fun h => hy h.symm
      simp only [this, iff_false]
      split <;> simp
  refine (Wp.diag (reach_rounds hs hl (x0 := x0) _ _ rfl ⟨by simpa using hl, fun y hy => ?_⟩ ((hset x0).2 rfl))).call fun y hy => ?_
  · rw [(hset y).1 hy]; exact ⟨hx, hlx, .refl⟩
  · obtain ⟨out, rfl, h⟩ := hy
    exact Wp.ret ⟨out, rfl, h⟩
end

theorem areLoops (s : SpaceV) (l : List Bool) (a b : Int) (hs : okD spaceG s) : Wp (fun K _ => law21_FairnessComponentsAreLoops K s l a b) (fun y => y = ((true, ()), ())) := by
  simp only [law21_FairnessComponentsAreLoops]
  refine (fair_ok hs l).call fun y hy => ?_
  obtain ⟨b0, rfl, hb⟩ := hy
  refine Wp.itebn (fun _ => asleep rfl) (fun h1 => ?_)
  obtain ⟨hL, hP, hl⟩ := hb h1
  have hfew := hL.few
  have hS := sys_of hP
  have hpos := hS.pos
  refine (fairness_Components_ok hL.inn l).call fun y hy => ?_
  obtain ⟨e1, of, rfl, r1⟩ := hy
  obtain ⟨h0, hN⟩ := r1.fair hP hl
  subst h0
  have hlen := hN.len
  obtain ⟨p, hp, ep⟩ := two_mod (x := a) (n := l.length) (by omega) (by omega)
  obtain ⟨q, hq, eq⟩ := two_mod (x := b) (n := l.length) (by omega) (by omega)
  simp only [ep, eq, Int.toNat_natCast]
  refine Wp.negn trivial (Wp.negn (by omega) (Wp.negd (by omega) (Wp.negd (by omega) (Wp.negd (by omega) (Wp.negd (by omega) (Wp.posd (by omega) ?_))))))
  refine Wp.iteb (fun _ => asleep rfl) (fun hlp => Wp.posd (by omega) ?_)
  refine Wp.iteb (fun _ => asleep rfl) (fun hlq => ?_)
  refine (reach_ok hS hl (show p < s.1.length by omega) hlp).call fun y hy => ?_
  obtain ⟨there, rfl, hT⟩ := hy
  refine (reach_ok hS hl (show q < s.1.length by omega) hlq).call fun y hy => ?_
  obtain ⟨back, rfl, hB⟩ := hy
  have htl := hT.1
  have hbl := hB.1
  have hpq : of.getD p 0 = of.getD q 0 ↔ Eq' s l p q := ⟨hN.inj (eq_refl s l) (eq_symm s l) (eq_trans s l) (by omega) (by omega) (notL.2 hlp) (notL.2 hlq), hN.old p q (by omega) (by omega) (notL.2 hlp) (notL.2 hlq)⟩
  have h2 := hT.2 q (by omega)
  have h3 := hB.2 p (by omega)
  refine Wp.callE awake21 (Wp.iteb (fun _ => ?_) (fun h => by simp at h))
  refine Wp.posd (by omega) (Wp.posd (by omega) (Wp.posd (by show _ ∧ _ < (there.length : Int); omega) ?_))
  refine Wp.iteb (fun h4 => Wp.posd (by show _ ∧ _ < (back.length : Int); omega) (Wp.ret ?_)) (fun h4 => Wp.ret ?_)
  · cases h5 : back.getD p false with
    | true => simp only [h5, eq_true (hpq.2 ⟨h2.1 h4, h3.1 h5⟩), decide_true, beq_bool]; rfl
    | false =>
      have : ¬ of.getD p 0 = of.getD q 0 := fun h => by
        have := h3.2 (hpq.1 h).2
        rw [h5] at this; simp at this
      simp only [h5, eq_false this, decide_false, beq_bool]; rfl
  · have : ¬ of.getD p 0 = of.getD q 0 := fun h => by
      have := h2.2 (hpq.1 h).1
      simp only at h4
      rw [h4] at this; simp at this
    simp only [eq_false this, decide_false, beq_bool]; rfl

theorem pure_law21_FairnessComponentsAreLoops : ∀ x, okS [spaceG, .slice .bool, .int .i64, .int .i64] 0 x → ∃ K, law21_FairnessComponentsAreLoops K x.1 x.2.1 x.2.2.1 x.2.2.2.1 = some ((true, ()), ()) := by
  rintro ⟨s, l, a, b, _⟩ ⟨hs, _⟩
  exact (areLoops s l a b hs).outE
end Go.Proofs.Yteadlocehjfpoaa.G
