/- The reference's components are the components, numbered by least states. -/
import Derived.Test.YteadlocehjfpoaaKosa
namespace Go.Fw
theorem Rch.byHead {G : Nat → List Nat} {u : Nat} {P : Nat → Prop} (h0 : P u) (h1 : ∀ a b, b ∈ G a → Rch G b u → P b → P a) {w : Nat} (h : Rch G w u) : P w := by
  have key : ∀ y, Rch G w y → Rch G y u → P y → P w := by
    intro y hy
    induction hy with
    | refl => exact fun _ hp => hp
    | tail hy1 hy2 ih => exact fun hr hp => ih (.head hy2 hr) (h1 _ _ hy2 hr hp)
  exact key u h .refl h0
/-- how many are not numbered yet -/
def blanks (l : List Int) : Nat := l.countP (fun x => decide (x < 0))
theorem blanks_set {l : List Int} {i : Nat} {v : Int} (hi : i < l.length) (h : l.getD i 0 < 0) (hv : 0 ≤ v) : blanks (l.set i v) + 1 = blanks l := by
  unfold blanks
  induction l generalizing i with
  | nil => simp at hi
  | cons a l ih =>
    cases i with
    | zero =>
      simp only [List.getD_cons_zero] at h
      have e1 : decide (a < 0) = true := decide_eq_true h
      have e2 : decide (v < 0) = false := decide_eq_false (by omega)
      simp only [List.set_cons_zero, List.countP_cons, e1, e2, if_true, Bool.false_eq_true, if_false]
    | succ i =>
      simp only [List.length_cons, Nat.add_lt_add_iff_right] at hi
      simp only [List.getD_cons_succ] at h
      have := ih hi h
      simp only [List.set_cons_succ, List.countP_cons]
      omega
end Go.Fw
namespace Go.Proofs.Yteadlocehjfpoaa.G
open Go Go.Fw

section
variable {s : SpaceV} {n : Nat} {l : List Bool}

theorem init_loop (hn : n ≤ 32768) (hl : l.length = n) : ∀ d i (o : List Int), i + d = n → o.length = n → (∀ j, j < i → o.getD j 0 = -1) →
    Wp (fun K k => ref21_components_58 K k l (i : Int) o) (fun y => ∃ o' : List Int, y = ((), (o', ())) ∧ o'.length = n ∧ ∀ j, j < n → o'.getD j 0 = -1) := by
  intro d
  induction d with
  | zero =>
    intro i o h1 h2 h3
    refine Wp.step ?_
    simp only [ref21_components_58]
    exact Wp.negd (by omega) (Wp.ret ⟨o, rfl, h2, fun j hj => h3 j (by omega)⟩)
  | succ d ih =>
    intro i o h1 h2 h3
    refine Wp.step ?_
    simp only [ref21_components_58, wrapS i (by omega), Int.toNat_natCast]
    refine Wp.posd (by omega) (Wp.posd (by omega) (ih (i + 1) _ (by omega) (by simpa using h2) fun j hj => ?_))
    rw [gset]
    by_cases hij : i = j
    · rw [if_pos ⟨hij, by omega⟩]
    · rw [if_neg (fun hh => hij hh.1)]; exact h3 j (by omega)

/-- marking backwards: k is being looked at, its first j arcs are done -/
structure BI (s : SpaceV) (n : Nat) (l : List Bool) (F : List (List Nat)) (u i : Nat) (r0 : List Int) (now : Nat → Nat → Prop) (r : List Int) (todo : List Nat) : Prop where
  lr : r.length = n
  ch : ∀ x, x < n → r.getD x 0 = r0.getD x 0 ∨ (r.getD x 0 = (i : Int) ∧ r0.getD x 0 < 0 ∧ Rch (outer s l) x u)
  td : ∀ x ∈ todo, x < n ∧ r.getD x 0 = (i : Int) ∧ r0.getD x 0 < 0
  cl : ∀ v, v < n → r.getD v 0 = (i : Int) → v ∈ todo ∨ ∀ t ∈ F.getD v [], 0 ≤ r.getD t 0 ∨ now v t
  bd : blanks r + todo.length ≤ n
  um : r.getD u 0 = (i : Int)

theorem mark_in (hs : Sys s n) {F : List (List Nat)} (hF : F.length = n) (hFm : ∀ t j, j ∈ F.getD t [] ↔ t ∈ outer s l j) (hFl : ∀ t, (F.getD t []).length ≤ 262144) {u i : Nat} (hi : i ≤ 32768) {r0 : List Int} {k : Nat} (hk : k < n) (hku : Rch (outer s l) k u) :
    ∀ d j (r : List Int) (todo : List Nat), j + d = (F.getD k []).length → BI s n l F u i r0 (fun v t => v = k ∧ ∃ j', j ≤ j' ∧ j' < (F.getD k []).length ∧ (F.getD k []).getD j' 0 = t) r todo →
    Wp (fun K k' => ref21_components_8202030 K k' (numll F) (i : Int) (k : Int) (j : Int) r (numl todo)) (fun y => ∃ r' todo', y = (((), ()), (numl todo', (r', ()))) ∧ BI s n l F u i r0 (fun _ _ => False) r' todo' ∧ blanks r' + todo'.length = blanks r + todo.length) := by
  have hle := hs.le
  intro d
  induction d with
  | zero =>
    intro j r todo h1 h
    refine Wp.step ?_
    simp only [ref21_components_8202030, numll_length, numll_getD, numl_length, Int.toNat_natCast]
    refine Wp.posd (by omega) (Wp.negd (by omega) (Wp.ret ⟨r, todo, rfl, ⟨h.lr, h.ch, h.td, fun v hv hr => ?_, h.bd, h.um⟩, rfl⟩))
    rcases h.cl v hv hr with h2 | h2
    · exact .inl h2
    · refine .inr fun t ht => .inl ?_
      rcases h2 t ht with h3 | ⟨_, j', h4, h5, _⟩
      · exact h3
      · omega
  | succ d ih =>
    intro j r todo h1 h
    have hjl : j < (F.getD k []).length := by omega
    have hFk := hFl k
    obtain ⟨t, ht⟩ : ∃ t, t = (F.getD k []).getD j 0 := ⟨_, rfl⟩
    have htm : t ∈ F.getD k [] := by rw [ht]; exact getD_mem 0 hjl
    have hto := (hFm k t).1 htm
    have htn := (outer_lt hs hto).1
    have hlr := h.lr
    have hbd := h.bd
    refine Wp.step ?_
    simp only [ref21_components_8202030, numll_length, numll_getD, numl_length, numl_getD, Int.toNat_natCast, ← ht, wrapS j (by omega), numl_snoc, List.length_singleton]
    refine Wp.posd (by omega) (Wp.posd (by omega) (Wp.posd (by omega) (Wp.posd (by omega) (Wp.posd (by omega) ?_))))
    refine Wp.ited (fun hneg => ?_) (fun hneg => ?_)
    · have hset : ∀ y, (r.set t (i : Int)).getD y 0 = if t = y then (i : Int) else r.getD y 0 := fun y => by
        rw [gset]
        by_cases hy : t = y
        · rw [if_pos ⟨hy, by omega⟩, if_pos hy]
        · rw [if_neg (fun hh => hy hh.1), if_neg hy]
      have hb := blanks_set (l := r) (i := t) (v := (i : Int)) (by omega) hneg (by omega)
      have hr0 : r0.getD t 0 < 0 := by
        rcases h.ch t htn with h2 | ⟨h2, _, _⟩
        · rw [← h2]; exact hneg
        · omega
      refine Wp.posd (by omega) (Wp.posd (by omega) ?_)
      refine (ih (j + 1) _ _ (by omega) ⟨by simpa using hlr, fun x hx => ?_, fun x hx => ?_, fun v hv hr => ?_, by rw [List.length_append, List.length_singleton]; omega, by rw [hset]; split; exact rfl; exact h.um⟩).mono fun y hy => ?_
      · rw [hset]
        by_cases hx2 : t = x
        · rw [if_pos hx2]
          exact .inr ⟨rfl, by rw [← hx2]; exact hr0, by rw [← hx2]; exact .head hto hku⟩
        · rw [if_neg hx2]; exact h.ch x hx
      · rcases List.mem_append.1 hx with hx | hx
        · obtain ⟨h3, h4, h5⟩ := h.td x hx
          refine ⟨h3, ?_, h5⟩
          rw [hset]; split
          · rfl
          · exact h4
        · rw [List.mem_singleton] at hx
          rw [hx, hset, if_pos rfl]; exact ⟨htn, rfl, hr0⟩
      · by_cases hv2 : t = v
        · exact .inl (by rw [← hv2]; simp)
        · rw [hset, if_neg hv2] at hr
          rcases h.cl v hv hr with h3 | h3
          · exact .inl (List.mem_append_left _ h3)
          · refine .inr fun z hz => ?_
            rcases h3 z hz with h4 | ⟨h4, j', h5, h6, h7⟩
            · left; rw [hset]; split <;> omega
            · rcases Nat.eq_or_lt_of_le h5 with h8 | h8
              · left; rw [← h7, ← h8, ← ht, hset, if_pos rfl]; omega
              · exact .inr ⟨h4, j', h8, h6, h7⟩
      · obtain ⟨r', todo', h3, h4, h5⟩ := hy
        exact ⟨r', todo', h3, h4, by rw [h5, List.length_append, List.length_singleton]; omega⟩
    · refine ih (j + 1) r todo (by omega) ⟨h.lr, h.ch, h.td, fun v hv hr => ?_, h.bd, h.um⟩
      rcases h.cl v hv hr with h3 | h3
      · exact .inl h3
      · refine .inr fun z hz => ?_
        rcases h3 z hz with h4 | ⟨h4, j', h5, h6, h7⟩
        · exact .inl h4
        · rcases Nat.eq_or_lt_of_le h5 with h8 | h8
          · left; rw [← h7, ← h8, ← ht]; omega
          · exact .inr ⟨h4, j', h8, h6, h7⟩

theorem mark_loop (hs : Sys s n) {F : List (List Nat)} (hF : F.length = n) (hFm : ∀ t j, j ∈ F.getD t [] ↔ t ∈ outer s l j) (hFl : ∀ t, (F.getD t []).length ≤ 262144) {u i : Nat} (hi : i ≤ 32768) {r0 : List Int} :
    ∀ m (r : List Int) (todo : List Nat), blanks r + todo.length = m → BI s n l F u i r0 (fun _ _ => False) r todo →
    Wp (fun K k => ref21_components_64078 K k (numll F) (i : Int) r (numl todo)) (fun y => ∃ r', y = ((), (r', ())) ∧ BI s n l F u i r0 (fun _ _ => False) r' []) := by
  have hle := hs.le
  intro m
  induction m with
  | zero =>
    intro r todo hm h
    have ht : todo = [] := List.eq_nil_of_length_eq_zero (by omega)
    subst ht
    refine Wp.step ?_
    simp only [ref21_components_64078, numl_length]
    exact Wp.negd (by simp) (Wp.ret ⟨r, rfl, h⟩)
  | succ m ih =>
    intro r todo hm h
    have hbd := h.bd
    refine Wp.step ?_
    simp only [ref21_components_64078, numl_length]
    refine Wp.ited (fun hp => ?_) (fun hp => ?_)
    · obtain ⟨w', k, hw1, hw2, hw3⟩ := way_last (way := todo) (by omega)
      have hw := wrapP todo.length (by omega) (by omega)
      have hkt : k ∈ todo := by rw [hw1]; simp
      obtain ⟨hkn, hkr, hk0⟩ := h.td k hkt
      have hlw : todo.length = w'.length + 1 := by rw [hw1]; simp
      have hku : Rch (outer s l) k u := by
        rcases h.ch k hkn with h2 | h2
        · omega
        · exact h2.2.2
      simp only [hw, Int.toNat_natCast, numl_getD, hw2, numl_take, hw3]
      refine Wp.posd (by omega) (Wp.posd (by omega) ?_)
      have hin := mark_in hs hF hFm hFl hi (r0 := r0) hkn hku (F.getD k []).length 0 r w' (by omega) ⟨h.lr, h.ch, fun x hx => h.td x (by rw [hw1]; exact List.mem_append_left _ hx), fun v hv hr => ?_, by omega, h.um⟩
      · refine (Wp.diag hin).call fun y hy => ?_
        obtain ⟨r', todo', rfl, h2, h3⟩ := hy
        exact ih r' todo' (by omega) h2
      · rcases h.cl v hv hr with h2 | h2
        · rw [hw1, List.mem_append, List.mem_singleton] at h2
          rcases h2 with h2 | h2
          · exact .inl h2
          · refine .inr fun t ht => .inr ⟨h2, ?_⟩
            rw [h2] at ht
            obtain ⟨j', h3, h4⟩ := mem_getD 0 ht
            exact ⟨j', Nat.zero_le _, h3, h4⟩
        · exact .inr fun t ht => (h2 t ht).imp (fun h => h) (fun h => h.elim)
    · have ht : todo = [] := List.eq_nil_of_length_eq_zero (by omega)
      subst ht
      exact Wp.ret ⟨r, rfl, h⟩

/-- the components behind some places of the order are numbered -/
structure KI (s : SpaceV) (n : Nat) (l : List Bool) (order : List Nat) (b : Nat) (r : List Int) : Prop where
  lr : r.length = n
  rg : ∀ x, x < n → r.getD x 0 = -1 ∨ ∃ p, b ≤ p ∧ p < order.length ∧ r.getD x 0 = (p : Int)
  leg : ∀ x, x < n → 0 ≤ r.getD x 0 → l.getD x false = false
  k1 : ∀ a c, a < n → c < n → 0 ≤ r.getD a 0 → Eq' s l a c → r.getD c 0 = r.getD a 0
  k2 : ∀ a c, a < n → c < n → 0 ≤ r.getD a 0 → r.getD a 0 = r.getD c 0 → Eq' s l a c
  k3 : ∀ p, b ≤ p → p < order.length → 0 ≤ r.getD (order.getD p 0) 0

theorem KI.skip {order : List Nat} {b : Nat} {r : List Int} (h : KI s n l order (b + 1) r) (hb : 0 ≤ r.getD (order.getD b 0) 0) : KI s n l order b r :=
  ⟨h.lr, fun x hx => (h.rg x hx).imp (fun h => h) (fun ⟨p, h1, h2, h3⟩ => ⟨p, by omega, h2, h3⟩), h.leg, h.k1, h.k2, fun p hp hp2 => by
    rcases Nat.eq_or_lt_of_le hp with h1 | h1
    · rw [← h1]; exact hb
    · exact h.k3 p h1 hp2⟩

theorem KI.next (hs : Sys s n) {order : List Nat} (hd : order.Nodup) (hf : Fin' (outer s l) order) (hm : ∀ x, x ∈ order ↔ x < n ∧ l.getD x false = false) {F : List (List Nat)} (hFm : ∀ t j, j ∈ F.getD t [] ↔ t ∈ outer s l j) {b : Nat} (hb : b < order.length) {r r' : List Int} (h : KI s n l order (b + 1) r)
    (hneg : r.getD (order.getD b 0) 0 < 0) (hB : BI s n l F (order.getD b 0) b r (fun _ _ => False) r' []) (hu' : r'.getD (order.getD b 0) 0 = (b : Int)) : KI s n l order b r' := by
  obtain ⟨u, hu⟩ : ∃ u, u = order.getD b 0 := ⟨_, rfl⟩
  rw [← hu] at hneg hB hu'
  have huo : u ∈ order := by rw [hu]; exact getD_mem 0 hb
  obtain ⟨hun, hul⟩ := (hm u).1 huo
  have holdv : ∀ x, x < n → 0 ≤ r.getD x 0 → r'.getD x 0 = r.getD x 0 := fun x hx h0 => by
    rcases hB.ch x hx with h1 | ⟨_, h1, _⟩
    · exact h1
    · omega
  have hnewv : ∀ x, x < n → r'.getD x 0 = (b : Int) → r.getD x 0 < 0 ∧ Rch (outer s l) x u := fun x hx h0 => by
    rcases hB.ch x hx with h1 | h1
    · rw [h1] at h0
      rcases h.rg x hx with h2 | ⟨p, h2, h3, h4⟩
      · omega
      · omega
    · exact h1.2
  have hA : ∀ a c, (a < n ∧ 0 ≤ r.getD a 0) → Both (outer s l) a c → (c < n ∧ 0 ≤ r.getD c 0) := fun a c ha hac => by
    have hc : c < n := by
      rcases hac.2.cases' with h1 | ⟨y, h1, _⟩
      · rw [h1]; exact ha.1
      · exact (outer_lt hs h1).1
    exact ⟨hc, by rw [h.k1 a c ha.1 hc ha.2 hac]; exact ha.2⟩
  have hboth : ∀ x, x < n → r'.getD x 0 = (b : Int) → Eq' s l x u := fun x hx h0 => by
    obtain ⟨h1, h2⟩ := hnewv x hx h0
    by_cases hxu : x = u
    · rw [hxu]; exact .refl
    · have hxl : l.getD x false = false := by
        rcases h2.cases' with h3 | ⟨y, h3, _⟩
        · exact absurd h3 hxu
        · exact (mem_outer.1 h3).1
      have := kosaraju hd hf (fun a c hac => (hm c).2 ⟨(outer_lt hs hac).2, (mem_outer.1 hac).2.2⟩) (A := fun a => a < n ∧ 0 ≤ r.getD a 0) hA hb (fun p hp hp2 => ⟨((hm _).1 (getD_mem 0 hp2)).1, h.k3 p hp hp2⟩) ((hm x).2 ⟨hx, hxl⟩) (fun hh => by omega) (by rw [← hu]; exact h2)
      rw [← hu] at this
      exact this
  have hscc : ∀ w, Rch (outer s l) w u → Rch (outer s l) u w → r'.getD w 0 = (b : Int) := by
    intro w hw
    refine Rch.byHead (G := outer s l) (u := u) (P := fun w => Rch (outer s l) u w → r'.getD w 0 = (b : Int)) (fun _ => hu') (fun a c hac hcu hP hua => ?_) hw
    obtain ⟨han, hcn⟩ := outer_lt hs hac
    have hrc := hP (.tail hua hac)
    have hra : 0 ≤ r'.getD a 0 := by
      rcases hB.cl c hcn hrc with h1 | h1
      · simp at h1
      · rcases h1 a ((hFm c a).2 hac) with h2 | h2
        · exact h2
        · exact h2.elim
    rcases hB.ch a han with h1 | h1
    · exfalso
      rw [h1] at hra
      have := h.k1 a u han hun hra ⟨.head hac hcu, hua⟩
      omega
    · exact h1.1
  refine ⟨hB.lr, fun x hx => ?_, fun x hx h0 => ?_, fun a c ha hc h0 hac => ?_, fun a c ha hc h0 hac => ?_, fun p hp hp2 => ?_⟩
  · rcases hB.ch x hx with h1 | h1
    · rw [h1]
      exact (h.rg x hx).imp (fun h => h) (fun ⟨p, h1, h2, h3⟩ => ⟨p, by omega, h2, h3⟩)
    · exact .inr ⟨b, Nat.le_refl _, hb, h1.1⟩
  · rcases hB.ch x hx with h1 | h1
    · rw [h1] at h0; exact h.leg x hx h0
    · rcases h1.2.2.cases' with h3 | ⟨y, h3, _⟩
      · rw [h3]; exact hul
      · exact (mem_outer.1 h3).1
  · rcases hB.ch a ha with h1 | h1
    · rw [h1] at h0
      have h2 := h.k1 a c ha hc h0 hac
      rw [holdv c hc (by omega), h1, h2]
    · have h2 := hboth a ha h1.1
      rw [h1.1]
      exact hscc c (hac.2.trans h2.1) (h2.2.trans hac.1)
  · rcases hB.ch a ha with h1 | h1
    · rw [h1] at h0 hac
      rcases hB.ch c hc with h2 | h2
      · rw [h2] at hac; exact h.k2 a c ha hc h0 hac
      · exfalso
        rcases h.rg a ha with h3 | ⟨p, h3, h4, h5⟩
        · omega
        · have := h2.1; omega
    · have h2 := hboth a ha h1.1
      have h3 := hboth c hc (by rw [← hac]; exact h1.1)
      exact h2.trans h3.symm
  · rcases Nat.eq_or_lt_of_le hp with h1 | h1
    · rw [← h1, ← hu, hu']; omega
    · have h2 := h.k3 p h1 hp2
      rw [holdv _ ((hm _).1 (getD_mem 0 hp2)).1 h2]; exact h2

theorem rough_loop (hs : Sys s n) {order : List Nat} (hd : order.Nodup) (hf : Fin' (outer s l) order) (hm : ∀ x, x ∈ order ↔ x < n ∧ l.getD x false = false) {F : List (List Nat)} (hF : F.length = n) (hFm : ∀ t j, j ∈ F.getD t [] ↔ t ∈ outer s l j) (hFl : ∀ t, (F.getD t []).length ≤ 262144) :
    ∀ b (r : List Int), b ≤ order.length → KI s n l order b r →
    Wp (fun K k => ref21_components_250 K k (numll F) (numl order) ((b : Int) - 1) r) (fun y => ∃ r', y = ((), (r', ())) ∧ KI s n l order 0 r') := by
  have hle := hs.le
  have hol : order.length ≤ n := nodup_le n order hd fun x hx => ((hm x).1 hx).1
  intro b
  induction b with
  | zero =>
    intro r _ h
    refine Wp.step ?_
    simp only [ref21_components_250]
    exact Wp.negd (by omega) (Wp.ret ⟨r, rfl, h⟩)
  | succ b ih =>
    intro r hb h
    obtain ⟨u, hu⟩ : ∃ u, u = order.getD b 0 := ⟨_, rfl⟩
    have huo : u ∈ order := by rw [hu]; exact getD_mem 0 (by omega)
    obtain ⟨hun, hul⟩ := (hm u).1 huo
    have hlr := h.lr
    have e1 : ((b + 1 : Nat) : Int) - 1 = (b : Int) := by omega
    have e2 : IntKind.i64.wrap ((b : Int) - 1) = (b : Int) - 1 := wrapI (by omega) (by omega)
    refine Wp.step ?_
    simp only [ref21_components_250, e1, e2, numl_length, numl_getD, Int.toNat_natCast, ← hu]
    refine Wp.posd (by omega) (Wp.posd (by omega) (Wp.posd (by omega) ?_))
    refine Wp.ited (fun h0 => ih r (by omega) (h.skip (by rw [← hu]; exact h0))) (fun h0 => ?_)
    refine Wp.posd (by omega) (Wp.posd (by omega) (Wp.posd (by omega) ?_))
    have hneg : r.getD u 0 < 0 := by omega
    have hset : ∀ y, (r.set u (b : Int)).getD y 0 = if u = y then (b : Int) else r.getD y 0 := fun y => by
      rw [gset]
      by_cases hy : u = y
      · rw [if_pos ⟨hy, by omega⟩, if_pos hy]
      · rw [if_neg (fun hh => hy hh.1), if_neg hy]
    have hbl := blanks_set (l := r) (i := u) (v := (b : Int)) (by omega) hneg (by omega)
    have hbn : blanks r ≤ n := by rw [← hlr]; exact List.countP_le_length
    have hstart : BI s n l F u b r (fun _ _ => False) (r.set u (b : Int)) [u] := by
      refine ⟨by simpa using hlr, fun x hx => ?_, fun x hx => ?_, fun v hv hr => ?_, by rw [List.length_singleton]; omega, by rw [hset, if_pos rfl]⟩
      · rw [hset]
        by_cases hx2 : u = x
        · rw [if_pos hx2]; exact .inr ⟨rfl, by rw [← hx2]; exact hneg, by rw [← hx2]; exact .refl⟩
        · rw [if_neg hx2]; exact .inl rfl
      · rw [List.mem_singleton] at hx
        rw [hx, hset, if_pos rfl]; exact ⟨hun, rfl, hneg⟩
      · by_cases hv2 : u = v
        · exact .inl (by rw [← hv2]; simp)
        · exfalso
          rw [hset, if_neg hv2] at hr
          rcases h.rg v hv with h2 | ⟨p, h2, h3, h4⟩
          · omega
          · omega
    have hmark := mark_loop hs hF hFm hFl (show b ≤ 32768 by omega) _ (r.set u (b : Int)) [u] rfl hstart
    have hone : [(u : Int)] = numl [u] := rfl
    rw [hone]
    refine (Wp.diag hmark).call fun y hy => ?_
    obtain ⟨r', rfl, hB⟩ := hy
    refine ih r' (by omega) (KI.next hs hd hf hm hFm (by omega) h (by rw [← hu]; exact hneg) (by rw [← hu]; exact hB) ?_)
    rw [← hu]
    exact hB.um
end
end Go.Proofs.Yteadlocehjfpoaa.G
