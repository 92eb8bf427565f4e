/- The reference's worklist finds all pairs. -/
import Derived.Test.YtafndpkfoajpnaaWorstE
namespace Go.Proofs.Ytafndpkfoajpnaa.G
open Go Go.Fw

def InT (T : List (List (Nat × Nat))) (x p : Nat) : Prop := ∃ i, i < (T.getD x []).length ∧ ((T.getD x []).getD i (0, 0)).1 = p
def pairsOf (T : List (List (Nat × Nat))) : Nat → List (Nat × Nat)
  | 0 => []
  | k + 1 => pairsOf T k ++ (T.getD k []).map (fun q => (k, q.1))
theorem mem_pairsOf {T : List (List (Nat × Nat))} {x p : Nat} : ∀ m, (x, p) ∈ pairsOf T m ↔ x < m ∧ InT T x p := by
  intro m
  induction m with
  | zero => simp [pairsOf]
  | succ m ih =>
    simp only [pairsOf, List.mem_append, ih, List.mem_map]
    constructor
    · rintro (⟨h1, h2⟩ | ⟨q, h1, h2⟩)
      · exact ⟨by omega, h2⟩
      · simp only [Prod.mk.injEq] at h2
        obtain ⟨h3, h4⟩ := h2
        subst h3
        obtain ⟨i, h5, h6⟩ := mem_getD (0, 0) h1
        exact ⟨by omega, i, h5, by rw [h6]; exact h4⟩
    · rintro ⟨h1, h2⟩
      rcases Nat.lt_or_ge x m with h3 | h3
      · exact .inl ⟨h3, h2⟩
      · have h4 : x = m := by omega
        subst h4
        obtain ⟨i, h5, h6⟩ := h2
        exact .inr ⟨_, getD_mem (0, 0) h5, by rw [h6]⟩
theorem nodup_tag (k : Nat) : ∀ {L : List Nat}, L.Nodup → (L.map (fun p => (k, p))).Nodup := by
  intro L
  induction L with
  | nil => intro _; exact List.nodup_nil
  | cons a L ih =>
    intro h
    obtain ⟨h1, h2⟩ := List.nodup_cons.1 h
    rw [List.map_cons]
    refine List.nodup_cons.2 ⟨fun hm => ?_, ih h2⟩
    obtain ⟨b, hb, he⟩ := List.mem_map.1 hm
    simp only [Prod.mk.injEq, true_and] at he
    rw [he] at hb; exact h1 hb
theorem row_le {T : List (List (Nat × Nat))} {x : Nat} : ∀ m, x < m → (T.getD x []).length ≤ (pairsOf T m).length := by
  intro m
  induction m with
  | zero => intro h; omega
  | succ m ih =>
    intro h
    simp only [pairsOf, List.length_append, List.length_map]
    rcases Nat.lt_or_ge x m with h1 | h1
    · have := ih h1; omega
    · have h2 : x = m := by omega
      subst h2; omega
theorem nodup_pairsOf {T : List (List (Nat × Nat))} (h : ∀ x, ((T.getD x []).map (·.1)).Nodup) : ∀ m, (pairsOf T m).Nodup := by
  intro m
  induction m with
  | zero => exact List.nodup_nil
  | succ m ih =>
    simp only [pairsOf]
    refine List.nodup_append.2 ⟨ih, ?_, fun a ha b hb => ?_⟩
    · have h1 := h m
      have h2 : (T.getD m []).map (fun q => (m, q.1)) = ((T.getD m []).map (·.1)).map (fun p => (m, p)) := by rw [List.map_map]; rfl
      rw [h2]
      exact nodup_tag m h1
    · rintro rfl
      obtain ⟨y, q⟩ := a
      have h3 := ((mem_pairsOf m).1 ha).1
      obtain ⟨z, _, h4⟩ := List.mem_map.1 hb
      simp only [Prod.mk.injEq] at h4
      omega
theorem length_pairsOf_set {T : List (List (Nat × Nat))} {x : Nat} {q : Nat × Nat} (hx : x < T.length) : ∀ m, (pairsOf (T.set x (T.getD x [] ++ [q])) m).length = (pairsOf T m).length + if x < m then 1 else 0 := by
  intro m
  induction m with
  | zero => simp [pairsOf]
  | succ m ih =>
    have hg : ((T.set x (T.getD x [] ++ [q])).getD m []).length = (T.getD m []).length + if x = m then 1 else 0 := by
      rw [gset]
      by_cases hm : x = m
      · rw [if_pos ⟨hm, hx⟩, if_pos hm, List.length_append, List.length_singleton, hm]
      · rw [if_neg (fun hh => hm hh.1), if_neg hm]; rfl
    simp only [pairsOf, List.length_append, List.length_map]
    rw [ih, hg]
    by_cases hm : x = m
    · rw [if_neg (by omega), if_pos hm, if_pos (by omega)]; omega
    · by_cases h2 : x < m
      · rw [if_pos h2, if_neg hm, if_pos (by omega)]; omega
      · rw [if_neg h2, if_neg hm, if_neg (by omega)]; omega

section
variable (s : SpaceV) (l : List Bool) (n : Nat)
structure TabOk (T : List (List (Nat × Nat))) : Prop where
  len : T.length = n
  ok : ∀ x p, InT T x p → PairOk s n x p ∧ l.getD x false = false
  nd : ∀ x, ((T.getD x []).map (·.1)).Nodup
structure RI (T : List (List (Nat × Nat))) (D : List (Nat × Nat)) : Prop where
  tab : TabOk s l n T
  zero : ∀ x i, ((T.getD x []).getD i (0, 0)).2 = 0
  dok : ∀ q ∈ D, PairOk s n q.2 q.1 ∧ l.getD q.2 false = false
  seed : ∀ x, x < n → l.getD x false = false → InT T x (enN s x) ∨ (enN s x, x) ∈ D
  clo : ∀ x p, InT T x p → ∀ j, j < (arcs s x).length → l.getD (goN s x j) false = false → InT T (goN s x j) (afterN s p x j) ∨ (afterN s p x j, goN s x j) ∈ D
end

section
variable {s : SpaceV} {n : Nat} {l : List Bool}
theorem TabOk.few {T : List (List (Nat × Nat))} (h : TabOk s l n T) (hfew : ∀ x, x < n → pops 32 (enN s x) ≤ 8) (hn : n ≤ 120) : (pairsOf T n).length ≤ 30720 := by
  have h1 := nodup_sub _ (pairsTo 32 (enN s) n) (nodup_pairsOf h.nd n) fun q hq => by
    obtain ⟨x, p⟩ := q
    obtain ⟨hx, hi⟩ := (mem_pairsOf n).1 hq
    have := (h.ok x p hi).1
    exact mem_pairsTo n this.1 this.2.1 this.2.2
  have h6 := pairsTo_length (k := 32) (e := enN s) (m := 8) n hfew
  omega

theorem push_loop (hs : Sys s n) (hl : l.length = n) (hS : Sets s n) {x p : Nat} (hp : PairOk s n x p) (hdeg : (arcs s x).length ≤ 40) : ∀ d i (D : List (Nat × Nat)), i + d = (arcs s x).length → D.length + d ≤ 4000000 →
    Wp (fun K k => ref20_reach_516862 K k l (i : Int) s (encP D) ((p : Int), ((x : Int), ()))) (fun y => ∃ E : List (Nat × Nat), y = (((), ()), (encP (D ++ E), (s, ()))) ∧ E.length ≤ d ∧ (∀ q ∈ E, PairOk s n q.2 q.1 ∧ l.getD q.2 false = false) ∧ ∀ j, i ≤ j → j < (arcs s x).length → l.getD (goN s x j) false = false → (afterN s p x j, goN s x j) ∈ E) := by
  have har := hs.ar
  have hx := hp.1
  intro d
  induction d with
  | zero =>
    intro i D h1 h2
    refine Wp.step ?_
    simp only [ref20_reach_516862, Int.toNat_natCast, arcs_def]
    exact Wp.posd (by omega) (Wp.negd (by omega) (Wp.ret ⟨[], by rw [List.append_nil], Nat.le_refl _, fun q hq => by simp at hq, fun j h3 h4 => by omega⟩))
  | succ d ih =>
    intro i D h1 h2
    have hil : i < (arcs s x).length := by omega
    have hg : goN s x i < n := goals_at hs hil
    have hgo : (goals s x).getD i 0 = goN s x i := rfl
    have hel := encP_length D
    refine Wp.step ?_
    simp only [ref20_reach_516862, Int.toNat_natCast, arcs_def, ato_def, hs.at' x i hil, hgo, wrapS i (by omega), List.length_singleton]
    refine Wp.posd (by omega) (Wp.posd (by omega) (Wp.posd (by omega) (Wp.posd (by omega) (Wp.posd (by omega) ?_))))
    refine Wp.itebn (fun hlg => ?_) (fun hlg => ?_)
    · refine Wp.callE (after_ok hs hS hp.2.1 hil) (Wp.posd (by omega) ?_)
      simp only [encP_snoc]
      refine (ih (i + 1) (D ++ [(afterN s p x i, goN s x i)]) (by omega) (by rw [List.length_append, List.length_singleton]; omega)).mono fun y hy => ?_
      obtain ⟨E, rfl, h3, h4, h5⟩ := hy
      refine ⟨(afterN s p x i, goN s x i) :: E, by rw [List.append_assoc]; rfl, by rw [List.length_cons]; omega, fun q hq => ?_, fun j h6 h7 h8 => ?_⟩
      · rcases List.mem_cons.1 hq with rfl | hq
        · exact ⟨pair_after hs hS hp hil, hlg⟩
        · exact h4 q hq
      · rcases Nat.eq_or_lt_of_le h6 with h9 | h9
        · rw [← h9]; exact List.mem_cons_self ..
        · exact List.mem_cons_of_mem _ (h5 j h9 h7 h8)
    · refine (ih (i + 1) D (by omega) (by omega)).mono fun y hy => ?_
      obtain ⟨E, rfl, h3, h4, h5⟩ := hy
      refine ⟨E, rfl, by omega, h4, fun j h6 h7 h8 => ?_⟩
      rcases Nat.eq_or_lt_of_le h6 with h9 | h9
      · rw [← h9, hlg] at h8; simp at h8
      · exact h5 j h9 h7 h8

theorem inT_set {T : List (List (Nat × Nat))} {x p y r : Nat} (hx : x < T.length) : InT (T.set x (T.getD x [] ++ [(p, 0)])) y r ↔ InT T y r ∨ (y = x ∧ r = p) := by
  unfold InT
  by_cases hy : x = y
  · subst hy
    rw [gset, if_pos ⟨rfl, hx⟩, List.length_append, List.length_singleton]
    constructor
    · rintro ⟨i, h1, h2⟩
      rcases Nat.lt_or_ge i (T.getD x []).length with h3 | h3
      · rw [getD_app1 h3] at h2; exact .inl ⟨i, h3, h2⟩
      · have h4 : i = (T.getD x []).length := by omega
        rw [h4, getD_app2 (Nat.le_refl _), Nat.sub_self] at h2
        exact .inr ⟨rfl, h2.symm⟩
    · rintro (⟨i, h1, h2⟩ | ⟨_, h2⟩)
      · exact ⟨i, by omega, by rw [getD_app1 h1]; exact h2⟩
      · refine ⟨(T.getD x []).length, by omega, ?_⟩
        rw [getD_app2 (Nat.le_refl _), Nat.sub_self, h2]; rfl
  · rw [gset, if_neg (fun hh => hy hh.1)]
    exact ⟨.inl, fun h => h.resolve_right fun hh => hy hh.1.symm⟩

theorem RI.skip {T : List (List (Nat × Nat))} {D : List (Nat × Nat)} {p x : Nat} (h : RI s l n T (D ++ [(p, x)])) (hin : InT T x p) : RI s l n T D where
  tab := h.tab
  zero := h.zero
  dok := fun q hq => h.dok q (List.mem_append_left _ hq)
  seed := fun y hy hl => (h.seed y hy hl).elim .inl fun hm => by
    rcases List.mem_append.1 hm with hm | hm
    · exact .inr hm
    · simp only [List.mem_singleton, Prod.mk.injEq] at hm
      obtain ⟨h1, h2⟩ := hm
      left; rw [h1, h2]; exact hin
  clo := fun y r hy j hj hl => (h.clo y r hy j hj hl).elim .inl fun hm => by
    rcases List.mem_append.1 hm with hm | hm
    · exact .inr hm
    · simp only [List.mem_singleton, Prod.mk.injEq] at hm
      obtain ⟨h1, h2⟩ := hm
      left; rw [h1, h2]; exact hin

theorem RI.add {T : List (List (Nat × Nat))} {D E : List (Nat × Nat)} {p x : Nat} (h : RI s l n T (D ++ [(p, x)])) (hnot : ∀ i, i < (T.getD x []).length → ((T.getD x []).getD i (0, 0)).1 ≠ p) (hE : ∀ q ∈ E, PairOk s n q.2 q.1 ∧ l.getD q.2 false = false) (hE2 : ∀ j, j < (arcs s x).length → l.getD (goN s x j) false = false → (afterN s p x j, goN s x j) ∈ E) : RI s l n (T.set x (T.getD x [] ++ [(p, 0)])) (D ++ E) := by
  obtain ⟨hp, hlx⟩ := h.dok (p, x) (List.mem_append_right _ (List.mem_singleton.2 rfl))
  have hx : x < T.length := by rw [h.tab.len]; exact hp.1
  have step : ∀ y r, InT T y r ∨ (r, y) ∈ D ++ [(p, x)] → InT (T.set x (T.getD x [] ++ [(p, 0)])) y r ∨ (r, y) ∈ D ++ E := fun y r hyr => by
    rcases hyr with hm | hm
    · exact .inl ((inT_set hx).2 (.inl hm))
    · rcases List.mem_append.1 hm with hm | hm
      · exact .inr (List.mem_append_left _ hm)
      · simp only [List.mem_singleton, Prod.mk.injEq] at hm
        exact .inl ((inT_set hx).2 (.inr ⟨hm.2, hm.1⟩))
  refine ⟨⟨by simpa using h.tab.len, fun y r hy => ?_, fun y => ?_⟩, fun y i => ?_, fun q hq => ?_, fun y hy hl => step _ _ (h.seed y hy hl), fun y r hy j hj hl => ?_⟩
  · rcases (inT_set hx).1 hy with hy | ⟨rfl, rfl⟩
    · exact h.tab.ok y r hy
    · exact ⟨hp, hlx⟩
  · by_cases hy : x = y
    · subst hy
      rw [gset, if_pos ⟨rfl, hx⟩, List.map_append]
      refine List.nodup_append.2 ⟨h.tab.nd x, by simp, fun a ha b hb => ?_⟩
      rintro rfl
      simp only [List.map_cons, List.map_nil, List.mem_singleton] at hb
      obtain ⟨q, hq, he⟩ := List.mem_map.1 ha
      obtain ⟨i, hi, hi2⟩ := mem_getD (0, 0) hq
      exact hnot i hi (by rw [hi2, he, hb])
    · rw [gset, if_neg (fun hh => hy hh.1)]; exact h.tab.nd y
  · by_cases hy : x = y
    · subst hy
      rw [gset, if_pos ⟨rfl, hx⟩, getD_append]
      split
      · exact h.zero x i
      · cases i - (T.getD x []).length <;> rfl
    · rw [gset, if_neg (fun hh => hy hh.1)]; exact h.zero y i
  · rcases List.mem_append.1 hq with hq | hq
    · exact h.dok q (List.mem_append_left _ hq)
    · exact hE q hq
  · rcases (inT_set hx).1 hy with hy | ⟨rfl, rfl⟩
    · exact step _ _ (h.clo y r hy j hj hl)
    · exact .inr (List.mem_append_right _ (hE2 j hj hl))

theorem reach_loop (hs : Sys s n) (hl : l.length = n) (hS : Sets s n) (hfew : ∀ x, x < n → pops 32 (enN s x) ≤ 8) (hn : n ≤ 120) (hdeg : ∀ x, x < n → (arcs s x).length ≤ 40) : ∀ c m (T : List (List (Nat × Nat))) (D : List (Nat × Nat)), 30720 - (pairsOf T n).length = c → D.length = m → RI s l n T D → D.length ≤ 120 + (pairsOf T n).length * 40 →
    Wp (fun K k => ref20_reach_252 K k l ((pairsOf T n).length : Int) s (encT T) (encP D)) (fun y => ∃ T', y = .inl ((), (encT T', ())) ∧ RI s l n T' []) := by
  intro c
  induction c using Nat.strongRecOn with
  | ind c ihc =>
    intro m
    induction m using Nat.strongRecOn with
    | ind m ihm =>
      intro T D hc hm h hlen
      refine Wp.step ?_
      rcases List.eq_nil_or_concat D with rfl | ⟨D', q, hD⟩
      · simp only [ref20_reach_252, encP_length, List.length_nil]
        exact Wp.negd (by omega) (Wp.ret ⟨T, rfl, h⟩)
      · obtain ⟨p, x⟩ := q
        have hD : D = D' ++ [(p, x)] := by simpa using hD
        subst hD
        have hp : PairOk s n x p := (h.dok (p, x) (List.mem_append_right _ (List.mem_singleton.2 rfl))).1
        have hx : x < n := hp.1
        have hd40 : (arcs s x).length ≤ 40 := hdeg x hx
        have htl := h.tab.len
        have hfw := h.tab.few hfew hn
        have hrow := row_le (T := T) (x := x) n hx
        have hL : (encP (D' ++ [(p, x)])).length = D'.length + 1 := by rw [encP_length, List.length_append, List.length_singleton]
        rw [List.length_append, List.length_singleton] at hlen hm
        have hw : IntKind.i64.wrap (((D'.length + 1 : Nat) : Int) - 1) = ((D'.length : Nat) : Int) := by rw [wrapI (by omega) (by omega)]; omega
        have hget : (encP (D' ++ [(p, x)])).getD D'.length (0, (0, ())) = ((p : Int), ((x : Int), ())) := by rw [encP_getD, getD_app2 (Nat.le_refl _), Nat.sub_self]; rfl
        have htake : (encP (D' ++ [(p, x)])).take D'.length = encP D' := by rw [encP_take, List.take_left']; rfl
        simp only [ref20_reach_252, hL, hw, Int.toNat_natCast, hget, htake, encT_length, encT_getD]
        refine Wp.posd (by omega) (Wp.posd (by omega) (Wp.posd (by omega) (Wp.posd (by omega) ?_)))
        refine (place_ok (T.getD x []) (by omega) p).call fun y hy => ?_
        rcases hy with ⟨j, rfl, h1, h2, _⟩ | ⟨rfl, h1⟩
        · refine Wp.posd (by simp only; omega) ?_
          exact ihm D'.length (by omega) T D' hc rfl (h.skip ⟨j, h1, h2⟩) (by omega)
        · refine Wp.negd (by decide) (Wp.posd (by omega) ?_)
          have hel := encP_length (T.getD x [])
          refine Wp.posd (by simp only [List.length_singleton]; omega) (Wp.posd (by omega) (Wp.posd trivial ?_))
          have hset := length_pairsOf_set (T := T) (x := x) (q := (p, 0)) (by omega) n
          rw [if_pos hx] at hset
          refine Wp.negd (by rw [wrapS _ (by omega)]; omega) ?_
          refine (Wp.diag (push_loop hs hl hS hp (hd40) (arcs s x).length 0 D' (by omega) (by omega))).call fun y hy => ?_
          obtain ⟨E, rfl, e1, e2, e3⟩ := hy
          have hRI := h.add h1 e2 (fun j hj hlj => e3 j (Nat.zero_le _) hj hlj)
          have hfw2 := hRI.tab.few hfew hn
          have hsnoc : encP (T.getD x []) ++ [((p : Int), ((0 : Int), ()))] = encP (T.getD x [] ++ [(p, 0)]) := encP_snoc _ p 0
          simp only [hsnoc, encT_set]
          rw [wrapS _ (by omega), ← hset]
          exact ihc _ (by omega) _ _ _ rfl rfl hRI (by rw [List.length_append]; omega)
end
end Go.Proofs.Ytafndpkfoajpnaa.G
