/- The reference's search: the order in which states are finished. -/
import Derived.Test.YteadlocehjfpoaaCompP
namespace Go.Fw
def sumTo (f : Nat → Nat) : Nat → Nat
  | 0 => 0
  | n + 1 => sumTo f n + f n
theorem sumTo_same {f g : Nat → Nat} : ∀ n, (∀ y, y < n → g y = f y) → sumTo g n = sumTo f n
  | 0, _ => rfl
  | n + 1, h => by simp only [sumTo]; rw [sumTo_same n (fun y hy => h y (by omega)), h n (by omega)]
theorem sumTo_dec {f g : Nat → Nat} {x : Nat} : ∀ n, x < n → g x + 1 = f x → (∀ y, y ≠ x → g y = f y) → sumTo g n + 1 = sumTo f n
  | 0, h, _, _ => absurd h (Nat.not_lt_zero _)
  | n + 1, h, h1, h2 => by
    simp only [sumTo]
    by_cases hx : x = n
    · subst hx
      rw [sumTo_same x (fun y hy => h2 y (by omega))]; omega
    · have := sumTo_dec n (by omega) h1 h2
      rw [h2 n (Ne.symm hx)]; omega

/-- each successor of what is finished up to a place is finished up to there, or reaches it -/
def Fin' (G : Nat → List Nat) (order : List Nat) : Prop := ∀ p, p < order.length → ∀ i, i ≤ p → ∀ z ∈ G (order.getD i 0), (∃ q, q ≤ p ∧ order.getD q 0 = z) ∨ Rch G z (order.getD p 0)

theorem nodup_getD {l : List Nat} (h : l.Nodup) {i j : Nat} (hi : i < l.length) (hj : j < l.length) (he : l.getD i 0 = l.getD j 0) : i = j := by
  rw [getD_at 0 hi, getD_at 0 hj] at he
  exact (List.getElem_inj h).1 he

theorem max_place {P : Nat → Prop} : ∀ n, (∃ i, i < n ∧ P i) → ∃ i, i < n ∧ P i ∧ ∀ j, j < n → P j → j ≤ i
  | 0, ⟨i, h, _⟩ => absurd h (Nat.not_lt_zero _)
  | n + 1, ⟨i, h, hp⟩ => by
    by_cases hn : P n
    · exact ⟨n, Nat.lt_succ_self _, hn, fun j hj _ => by omega⟩
    · have hi : i < n := by
        rcases Nat.lt_or_ge i n with h1 | h1
        · exact h1
        · exact absurd (show P n by rw [show n = i by omega]; exact hp) hn
      obtain ⟨k, h1, h2, h3⟩ := max_place n ⟨i, hi, hp⟩
      exact ⟨k, by omega, h2, fun j hj hpj => by
        rcases Nat.lt_or_ge j n with h4 | h4
        · exact h3 j h4 hpj
        · exact absurd (show P n by rw [show n = j by omega]; exact hpj) hn⟩

/-- what reaches the last one that is left is of its component -/
theorem kosaraju {G : Nat → List Nat} {order : List Nat} (hd : order.Nodup) (hf : Fin' G order) (hall : ∀ a b, b ∈ G a → b ∈ order) {A : Nat → Prop} (hA : ∀ a b, A a → Both G a b → A b) {i : Nat} (hi : i < order.length) (hup : ∀ p, i < p → p < order.length → A (order.getD p 0)) {v : Nat} (hv : v ∈ order) (hvA : ¬ A v) (hr : Rch G v (order.getD i 0)) : Both G v (order.getD i 0) := by
  obtain ⟨p0, h0, h1⟩ := mem_getD 0 hv
  obtain ⟨p, hp, hB, hmax⟩ := max_place (P := fun q => Both G (order.getD q 0) v) order.length ⟨p0, h0, by rw [h1]; exact .refl⟩
  have hpi : p ≤ i := by
    rcases Nat.lt_or_ge i p with h2 | h2
    · exact absurd (hA _ _ (hup p h2 hp) hB) hvA
    · exact h2
  rcases Nat.eq_or_lt_of_le hpi with h2 | h2
  · rw [h2] at hB; exact hB.symm
  · exfalso
    have hw : Rch G (order.getD p 0) (order.getD i 0) := hB.1.trans hr
    have hcl := Rch.closed (G := G) (X := fun y => (∃ q, q ≤ p ∧ order.getD q 0 = y) ∧ Rch G (order.getD p 0) y) (fun a ha b hb => by
      obtain ⟨⟨q, hq, rfl⟩, hra⟩ := ha
      refine ⟨?_, .tail hra hb⟩
      rcases hf p hp q hq b hb with h3 | h3
      · exact h3
      · have hbb : Both G b v := Both.trans ⟨h3, .tail hra hb⟩ hB
        obtain ⟨r, hr1, hr2⟩ := mem_getD 0 (hall _ b hb)
        exact ⟨r, hmax r hr1 (by rw [hr2]; exact hbb), hr2⟩) ⟨⟨p, Nat.le_refl _, rfl⟩, .refl⟩ hw
    obtain ⟨⟨q, hq, he⟩, _⟩ := hcl
    have := nodup_getD hd (by omega) hi he
    omega
end Go.Fw
namespace Go.Proofs.Yteadlocehjfpoaa.G
open Go Go.Fw

section
variable {s : SpaceV} {n : Nat} {l : List Bool}

theorem notL {x : Nat} : ¬ SetOf l x ↔ l.getD x false = false := by
  unfold SetOf
  cases l.getD x false <;> simp
theorem outer_lt (hs : Sys s n) {x y : Nat} (h : y ∈ outer s l x) : x < n ∧ y < n := by
  obtain ⟨_, h2, _⟩ := mem_outer.1 h
  exact ⟨goals_lt hs (fun he => by rw [he] at h2; simp at h2), hs.lt x y h2⟩

/-! ### From where arcs come -/
theorem back_in (hs : Sys s n) (hl : l.length = n) (x : Nat) (hx : x < n) : ∀ d i (F : List (List Nat)), i + d = (arcs s x).length → F.length = n → (∀ t j, j ∈ F.getD t [] ↔ (j < x ∧ t ∈ outer s l j) ∨ (j = x ∧ l.getD x false = false ∧ l.getD t false = false ∧ ∃ i', i' < i ∧ (goals s x).getD i' 0 = t)) → (∀ t, (F.getD t []).length ≤ total s x + i) →
    Wp (fun K k => ref21_back_3730 K k l (x : Int) (i : Int) s (numll F)) (fun y => ∃ F' : List (List Nat), y = ((), (s, (numll F', ()))) ∧ F'.length = n ∧ (∀ t j, j ∈ F'.getD t [] ↔ (j < x + 1 ∧ t ∈ outer s l j)) ∧ ∀ t, (F'.getD t []).length ≤ total s (x + 1)) := by
  have har := hs.ar
  have htot := total_ge (s := s) hx
  have htt := hs.tot
  have fin : ∀ (F : List (List Nat)) i, F.length = n → i ≤ (arcs s x).length → (i = (arcs s x).length ∨ l.getD x false = true) → (∀ t j, j ∈ F.getD t [] ↔ (j < x ∧ t ∈ outer s l j) ∨ (j = x ∧ l.getD x false = false ∧ l.getD t false = false ∧ ∃ i', i' < i ∧ (goals s x).getD i' 0 = t)) → (∀ t, (F.getD t []).length ≤ total s x + i) →
      ∃ F' : List (List Nat), ((), (s, (numll F, ()))) = ((), (s, (numll F', ()))) ∧ F'.length = n ∧ (∀ t j, j ∈ F'.getD t [] ↔ (j < x + 1 ∧ t ∈ outer s l j)) ∧ ∀ t, (F'.getD t []).length ≤ total s (x + 1) := by
    intro F i h2 hil hi h3 h4
    refine ⟨F, rfl, h2, fun t j => ?_, fun t => by have := h4 t; show _ ≤ total s x + (arcs s x).length; omega⟩
    rw [h3]
    constructor
    · rintro (⟨h5, h6⟩ | ⟨rfl, h6, h7, i', h8, h9⟩)
      · exact ⟨by omega, h6⟩
      · exact ⟨by omega, mem_outer.2 ⟨h6, by rw [← h9]; exact getD_mem 0 (by rw [goals_len]; omega), h7⟩⟩
    · rintro ⟨h5, h6⟩
      rcases Nat.lt_or_ge j x with h7 | h7
      · exact .inl ⟨h7, h6⟩
      · have hjx : j = x := by omega
        rw [hjx] at h6 ⊢
        obtain ⟨h8, h9, h10⟩ := mem_outer.1 h6
        obtain ⟨i', h11, h12⟩ := mem_getD 0 h9
        rw [goals_len] at h11
        rcases hi with hi | hi
        · exact .inr ⟨rfl, h8, h10, i', by omega, h12⟩
        · rw [h8] at hi; simp at hi
  intro d
  induction d with
  | zero =>
    intro i F h1 h2 h3 h4
    refine Wp.step ?_
    simp only [ref21_back_3730, Int.toNat_natCast, arcs_def]
    exact Wp.posd (by omega) (Wp.negd (by omega) (Wp.ret (fin F i h2 (by omega) (.inl (by omega)) h3 h4)))
  | succ d ih =>
    intro i F h1 h2 h3 h4
    have hil : i < (arcs s x).length := by omega
    have hg := goals_at hs hil
    have hF := h4 ((goals s x).getD i 0)
    refine Wp.step ?_
    simp only [ref21_back_3730, Int.toNat_natCast, arcs_def]
    refine Wp.posd (by omega) (Wp.posd (by omega) (Wp.posd (by omega) ?_))
    refine Wp.itebn (fun hb => ?_) (fun hb => Wp.ret (fin F i h2 (by omega) (.inr hb) h3 h4))
    simp only [wrapS i (by omega), Int.toNat_natCast, ato_def, hs.at' x i hil, numll_getD, numll_length, numl_length, numl_snoc, numll_set, List.length_singleton]
    refine Wp.posd (by omega) (Wp.posd (by omega) (Wp.posd (by omega) ?_))
    refine Wp.itebn (fun hc => ?_) (fun hc => ?_)
    · refine Wp.posd (by omega) (Wp.posd (by omega) (Wp.posd (by omega) (Wp.posd trivial ?_)))
      refine ih (i + 1) _ (by omega) (by simpa using h2) (fun t j => ?_) (fun t => ?_)
      · rw [gset]
        by_cases ht : (goals s x).getD i 0 = t
        · rw [if_pos ⟨ht, by omega⟩, ht, List.mem_append, List.mem_singleton, h3]
          constructor
          · rintro ((h5 | ⟨h5, h6, h7, i', h8, h9⟩) | h5)
            · exact .inl h5
            · exact .inr ⟨h5, h6, h7, i', by omega, h9⟩
            · exact .inr ⟨h5, hb, by rw [← ht]; exact hc, i, by omega, ht⟩
          · rintro (h5 | ⟨h5, h6, h7, i', h8, h9⟩)
            · exact .inl (.inl h5)
            · exact .inr h5
        · rw [if_neg (fun hh => ht hh.1), h3]
          constructor
          · rintro (h5 | ⟨h5, h6, h7, i', h8, h9⟩)
            · exact .inl h5
            · exact .inr ⟨h5, h6, h7, i', by omega, h9⟩
          · rintro (h5 | ⟨h5, h6, h7, i', h8, h9⟩)
            · exact .inl h5
            · refine .inr ⟨h5, h6, h7, i', ?_, h9⟩
              rcases Nat.lt_or_ge i' i with h10 | h10
              · exact h10
              · exact absurd h9 (by rw [show i' = i by omega]; exact ht)
      · rw [gset]
        split
        · rw [List.length_append, List.length_singleton]; omega
        · have := h4 t; omega
    · refine ih (i + 1) F (by omega) h2 (fun t j => ?_) (fun t => by have := h4 t; omega)
      rw [h3]
      constructor
      · rintro (h5 | ⟨h5, h6, h7, i', h8, h9⟩)
        · exact .inl h5
        · exact .inr ⟨h5, h6, h7, i', by omega, h9⟩
      · rintro (h5 | ⟨h5, h6, h7, i', h8, h9⟩)
        · exact .inl h5
        · refine .inr ⟨h5, h6, h7, i', ?_, h9⟩
          rcases Nat.lt_or_ge i' i with h10 | h10
          · exact h10
          · exfalso
            rw [show i' = i by omega] at h9
            rw [h9, h7] at hc; simp at hc

theorem back_out (hs : Sys s n) (hl : l.length = n) : ∀ d x (F : List (List Nat)), x + d = n → F.length = n → (∀ t j, j ∈ F.getD t [] ↔ (j < x ∧ t ∈ outer s l j)) → (∀ t, (F.getD t []).length ≤ total s x) →
    Wp (fun K k => ref21_back_58 K k l (x : Int) s (numll F)) (fun y => ∃ F' : List (List Nat), y = ((), (numll F', ())) ∧ F'.length = n ∧ (∀ t j, j ∈ F'.getD t [] ↔ t ∈ outer s l j) ∧ ∀ t, (F'.getD t []).length ≤ 262144) := by
  have hle := hs.le
  intro d
  induction d with
  | zero =>
    intro x F h1 h2 h3 h4
    refine Wp.step ?_
    simp only [ref21_back_58]
    refine Wp.negd (by omega) (Wp.ret ⟨F, rfl, h2, fun t j => ?_, fun t => ?_⟩)
    · rw [h3]
      exact ⟨fun h => h.2, fun h => ⟨by have := (outer_lt hs h).1; omega, h⟩⟩
    · have := h4 t
      rw [show x = n by omega] at this
      have := hs.tot; omega
  | succ d ih =>
    intro x F h1 h2 h3 h4
    have hx : x < n := by omega
    refine Wp.step ?_
    simp only [ref21_back_58, wrapS x (by omega)]
    refine Wp.posd (by omega) ?_
    refine (Wp.diag (back_in hs hl x hx (arcs s x).length 0 F (by omega) h2 (fun t j => ?_) (fun t => by have := h4 t; omega))).call fun y hy => ?_
    · rw [h3]
      constructor
      · exact .inl
      · rintro (h5 | ⟨_, _, _, i', h8, _⟩)
        · exact h5
        · exact absurd h8 (Nat.not_lt_zero _)
    · obtain ⟨F', rfl, h5, h6, h7⟩ := hy
      exact ih (x + 1) F' (by omega) h5 h6 h7

theorem ref21_back_ok (hs : Sys s n) (hl : l.length = n) : Wp (fun K _ => ref21_back K s l) (fun y => ∃ F : List (List Nat), y = (((), ()), (numll F, ())) ∧ F.length = n ∧ (∀ t j, j ∈ F.getD t [] ↔ t ∈ outer s l j) ∧ ∀ t, (F.getD t []).length ≤ 262144) := by
  have hle := hs.le
  simp only [ref21_back, hl, Int.toNat_natCast, numll_rep]
  refine Wp.posd (by omega) ?_
  refine (Wp.diag (back_out hs hl n 0 (List.replicate n []) (by omega) (by simp) (fun t j => ?_) (fun t => ?_))).call fun y hy => ?_
  · rw [getD_rep]; simp
  · rw [getD_rep]; simp
  · obtain ⟨F, rfl, h1, h2, h3⟩ := hy
    exact Wp.ret ⟨F, rfl, h1, h2, h3⟩

/-! ### The order of finishing -/
structure FI (s : SpaceV) (n : Nat) (l : List Bool) (order way : List Nat) (found : List Bool) (next : List Nat) : Prop where
  lf : found.length = n
  ln : next.length = n
  nd : (order ++ way).Nodup
  fd : ∀ x, found.getD x false = true ↔ x ∈ order ∨ x ∈ way
  leg : ∀ x, x ∈ order ∨ x ∈ way → x < n ∧ l.getD x false = false
  nxt : ∀ x, next.getD x 0 ≤ (goals s x).length
  seen : ∀ x i, i < next.getD x 0 → l.getD ((goals s x).getD i 0) false = false → found.getD ((goals s x).getD i 0) false = true
  full : ∀ x ∈ order, ∀ z ∈ outer s l x, found.getD z false = true
  way : way.Pairwise (Rch (outer s l))
  fin : Fin' (outer s l) order

theorem FI.len {order way : List Nat} {found : List Bool} {next : List Nat} (h : FI s n l order way found next) : order.length + way.length ≤ n := by
  rw [← List.length_append]
  exact nodup_le n _ h.nd fun x hx => (h.leg x (List.mem_append.1 hx)).1

theorem way_last {way : List Nat} (h : 0 < way.length) : ∃ w' x, way = w' ++ [x] ∧ way.getD (way.length - 1) 0 = x ∧ way.take (way.length - 1) = w' := by
  rcases List.eq_nil_or_concat way with h1 | ⟨w', x, h1⟩
  · rw [h1] at h; simp at h
  · rw [List.concat_eq_append] at h1
    refine ⟨w', x, h1, ?_, ?_⟩
    · rw [h1, List.length_append, List.length_singleton, Nat.add_sub_cancel, getD_app2 (Nat.le_refl _), Nat.sub_self]; rfl
    · rw [h1, List.length_append, List.length_singleton, Nat.add_sub_cancel, List.take_left]

/-- what is left to do -/
def work (s : SpaceV) (n : Nat) (way : List Nat) (found : List Bool) (next : List Nat) : Nat := sumTo (fun x => (goals s x).length - next.getD x 0) n + way.length + holes found

theorem dfs_loop (hs : Sys s n) (hl : l.length = n) : ∀ m (order way : List Nat) (found : List Bool) (next : List Nat), work s n way found next = m → FI s n l order way found next →
    Wp (fun K k => ref21_finished_31310 K k l s (numl order) found (numl next) (numl way)) (fun y => ∃ order' found' next', y = (((), ()), (numl order', (s, (found', (numl next', ()))))) ∧ FI s n l order' [] found' next' ∧ (∀ x, found.getD x false = true → found'.getD x false = true)) := by
  have hle := hs.le
  have har := hs.ar
  intro m
  induction m using Nat.strongRecOn with
  | ind m ih =>
    intro order way found next hm h
    have hlen := h.len
    have hln := h.ln
    have hlf := h.lf
    refine Wp.step ?_
    simp only [ref21_finished_31310, numl_length]
    refine Wp.ited (fun hp => ?_) (fun hp => ?_)
    · obtain ⟨w', x, hw1, hw2, hw3⟩ := way_last (way := way) (by omega)
      have hw := wrapP way.length (by omega) (by omega)
      have hxw : x ∈ way := by rw [hw1]; simp
      obtain ⟨hxn, hxl⟩ := h.leg x (.inr hxw)
      have hnx := h.nxt x
      have hgl := goals_len s x
      have htot := total_ge (s := s) hxn
      have htt := hs.tot
      simp only [hw, Int.toNat_natCast, numl_getD, numl_length, hw2, arcs_def, numl_take, hw3, numl_snoc, List.length_singleton]
      have hlw : way.length = w'.length + 1 := by rw [hw1]; simp
      refine Wp.posd (by omega) (Wp.posd (by omega) (Wp.posd (by omega) ?_))
      refine Wp.ited (fun he => ?_) (fun he => ?_)
      · -- x is finished
        have hall : ∀ z ∈ outer s l x, found.getD z false = true := fun z hz => by
          obtain ⟨_, h2, h3⟩ := mem_outer.1 hz
          obtain ⟨i, h4, h5⟩ := mem_getD 0 h2
          rw [← h5] at h3 ⊢
          exact h.seen x i (by omega) h3
        have hmm : ∀ y, (y ∈ order ++ [x] ∨ y ∈ w') ↔ (y ∈ order ∨ y ∈ way) := fun y => by
          rw [hw1]; simp only [List.mem_append, List.mem_singleton]
          constructor
          · rintro ((h1 | h1) | h1)
            · exact .inl h1
            · exact .inr (.inr h1)
            · exact .inr (.inl h1)
          · rintro (h1 | h1 | h1)
            · exact .inl (.inl h1)
            · exact .inr h1
            · exact .inl (.inr h1)
        have hpw := h.way
        rw [hw1, List.pairwise_append] at hpw
        refine Wp.posd (by omega) (Wp.posd (by omega) ?_)
        refine (ih (work s n w' found next) (by unfold work at hm ⊢; omega) (order ++ [x]) w' found next rfl ⟨h.lf, h.ln, ?_, fun y => by rw [h.fd, hmm], fun y hy => h.leg y ((hmm y).1 hy), h.nxt, h.seen, fun y hy z hz => ?_, hpw.1, fun p hp2 i hip z hz => ?_⟩)
        · have := h.nd
          rw [hw1] at this
          have hperm : (order ++ (w' ++ [x])).Perm (order ++ [x] ++ w') := by
            rw [List.append_assoc]
            exact List.Perm.append_left _ List.perm_append_comm
          exact hperm.nodup_iff.1 this
        · rcases List.mem_append.1 hy with hy | hy
          · exact h.full y hy z hz
          · rw [List.mem_singleton] at hy; rw [hy] at hz; exact hall z hz
        · rw [List.length_append, List.length_singleton] at hp2
          rcases Nat.lt_or_ge p order.length with h5 | h5
          · rw [getD_app1 (by omega)] at hz
            rw [getD_app1 h5]
            rcases h.fin p h5 i hip z hz with ⟨q, h6, h7⟩ | h6
            · exact .inl ⟨q, h6, by rw [getD_app1 (by omega)]; exact h7⟩
            · exact .inr h6
          · have h6 : p = order.length := by omega
            have hpx : (order ++ [x]).getD p 0 = x := by rw [h6, getD_app2 (Nat.le_refl _), Nat.sub_self]; rfl
            have hzf : found.getD z false = true := by
              rcases Nat.lt_or_ge i order.length with h7 | h7
              · rw [getD_app1 h7] at hz
                exact h.full _ (getD_mem 0 h7) z hz
              · have h8 : i = p := by omega
                rw [h8, hpx] at hz
                exact hall z hz
            rw [hpx]
            rcases (h.fd z).1 hzf with h7 | h7
            · obtain ⟨q, h8, h9⟩ := mem_getD 0 h7
              exact .inl ⟨q, by omega, by rw [getD_app1 h8]; exact h9⟩
            · rw [hw1, List.mem_append, List.mem_singleton] at h7
              rcases h7 with h7 | h7
              · exact .inr (hpw.2.2 z h7 x (by simp))
              · exact .inl ⟨p, Nat.le_refl _, by rw [hpx, h7]⟩
      · -- one arc more
        have hnl : next.getD x 0 < (goals s x).length := by omega
        have hgn := hs.lt x _ (getD_mem 0 hnl)
        obtain ⟨t, ht⟩ : ∃ t, t = (goals s x).getD (next.getD x 0) 0 := ⟨_, rfl⟩
        rw [← ht] at hgn
        have hset : ∀ y, (next.set x (next.getD x 0 + 1)).getD y 0 = if x = y then next.getD x 0 + 1 else next.getD y 0 := fun y => by
          rw [gset]
          by_cases hy : x = y
          · rw [if_pos ⟨hy, by omega⟩, if_pos hy]
          · rw [if_neg (fun hh => hy hh.1), if_neg hy]
        have hsum : sumTo (fun y => (goals s y).length - (next.set x (next.getD x 0 + 1)).getD y 0) n + 1 = sumTo (fun y => (goals s y).length - next.getD y 0) n :=
          sumTo_dec n hxn (by rw [hset, if_pos rfl]; omega) (fun y hy => by rw [hset, if_neg (Ne.symm hy)])
        have hnxt : ∀ y, (next.set x (next.getD x 0 + 1)).getD y 0 ≤ (goals s y).length := fun y => by
          rw [hset]
          split
          · rename_i hy; rw [← hy]; omega
          · exact h.nxt y
        have hseen : ∀ found' : List Bool, (∀ y, found.getD y false = true → found'.getD y false = true) → (l.getD t false = false → found'.getD t false = true) → ∀ y i, i < (next.set x (next.getD x 0 + 1)).getD y 0 → l.getD ((goals s y).getD i 0) false = false → found'.getD ((goals s y).getD i 0) false = true := by
          intro found' hf1 hf2 y i hi hli
          rw [hset] at hi
          by_cases hy : x = y
          · rw [if_pos hy] at hi
            rcases Nat.lt_or_ge i (next.getD x 0) with h5 | h5
            · exact hf1 _ (h.seen y i (by rw [← hy]; exact h5) hli)
            · have h6 : i = next.getD x 0 := by omega
              rw [← hy, h6, ← ht] at hli ⊢
              exact hf2 hli
          · rw [if_neg hy] at hi
            exact hf1 _ (h.seen y i hi hli)
        have hwp1 := wrapS (next.getD x 0) (by omega)
        have hat := hs.at' x (next.getD x 0) (by omega)
        rw [← ht] at hat
        simp only [ato_def, hat, hwp1, numl_set, Int.toNat_natCast]
        refine Wp.posd (by omega) (Wp.posd (by omega) (Wp.posd (by omega) (Wp.posd (by omega) (Wp.posd (by omega) (Wp.posd (by omega) ?_)))))
        have stay : (l.getD t false = false → found.getD t false = true) → Wp (fun K k => ref21_finished_31310 K k l s (numl order) found (numl (next.set x (next.getD x 0 + 1))) (numl way)) (fun y => ∃ order' found' next', y = (((), ()), (numl order', (s, (found', (numl next', ()))))) ∧ FI s n l order' [] found' next' ∧ (∀ x, found.getD x false = true → found'.getD x false = true)) := fun hft =>
          ih (work s n way found (next.set x (next.getD x 0 + 1))) (by unfold work at hm ⊢; omega) order way found _ rfl ⟨h.lf, by simpa using h.ln, h.nd, h.fd, h.leg, hnxt, hseen found (fun _ hy => hy) hft, h.full, h.way, h.fin⟩
        refine Wp.itebn (fun hb => ?_) (fun hb => ?_)
        · refine Wp.posd (by omega) ?_
          cases hft : found.getD t false with
          | true =>
            simp only [ref21_finished_8015455, Bool.not_true, Bool.false_eq_true, if_false, Option.bind_some]
            exact stay fun _ => hft
          | false =>
            have g1 : (0 ≤ (t : Int) ∧ (t : Int) < (found.length : Int)) = True := eq_true (by omega)
            have g2 : (way.length + 1 ≤ 4294967296) = True := eq_true (by omega)
            simp only [ref21_finished_8015455, Bool.not_false, if_true, Option.bind_some, g1, numl_length, List.length_singleton, g2, decide_true, numl_snoc, Int.toNat_natCast]
            have hfs : ∀ y, (found.set t true).getD y false = true ↔ y = t ∨ found.getD y false = true := fun y => by
              rw [gset]
              by_cases hy : t = y
              · rw [if_pos ⟨hy, by omega⟩]; simp [hy]
              · rw [if_neg (fun hh => hy hh.1)]; simp [Ne.symm hy]
            have htn : ¬ (t ∈ order ∨ t ∈ way) := fun hh => by
              rw [(h.fd t).2 hh] at hft; simp at hft
            have htx : t ∈ outer s l x := mem_outer.2 ⟨hxl, by rw [ht]; exact getD_mem 0 hnl, hb⟩
            have hholes := holes_set (l := found) (i := t) (by omega) hft
            have hpw := h.way
            refine (ih (work s n (way ++ [t]) (found.set t true) (next.set x (next.getD x 0 + 1))) (by unfold work at hm ⊢; rw [List.length_append, List.length_singleton]; omega) order (way ++ [t]) (found.set t true) _ rfl ⟨by simpa using h.lf, by simpa using h.ln, ?_, fun y => ?_, fun y hy => ?_, hnxt, hseen _ (fun y hy => (hfs y).2 (.inr hy)) (fun _ => (hfs t).2 (.inl rfl)), fun y hy z hz => (hfs z).2 (.inr (h.full y hy z hz)), ?_, h.fin⟩).mono fun y hy => ?_
            · rw [← List.append_assoc, List.nodup_append]
              refine ⟨h.nd, by simp, fun a ha b hb2 hab => ?_⟩
              rw [List.mem_singleton] at hb2
              exact htn (by rw [← hb2, ← hab]; exact List.mem_append.1 ha)
            · rw [hfs, h.fd, List.mem_append, List.mem_singleton]
              constructor
              · rintro (h5 | h5 | h5)
                · exact .inr (.inr h5)
                · exact .inl h5
                · exact .inr (.inl h5)
              · rintro (h5 | h5 | h5)
                · exact .inr (.inl h5)
                · exact .inr (.inr h5)
                · exact .inl h5
            · rw [List.mem_append, List.mem_singleton] at hy
              rcases hy with h5 | h5 | h5
              · exact h.leg y (.inl h5)
              · exact h.leg y (.inr h5)
              · rw [h5]; exact ⟨hgn, hb⟩
            · rw [List.pairwise_append]
              refine ⟨hpw, by simp, fun a ha b hb2 => ?_⟩
              rw [List.mem_singleton] at hb2
              rw [hb2]
              rw [hw1, List.pairwise_append] at hpw
              rw [hw1, List.mem_append, List.mem_singleton] at ha
              rcases ha with ha | ha
              · exact .tail (hpw.2.2 a ha x (by simp)) htx
              · rw [ha]; exact .one htx
            · obtain ⟨o', f', n', h5, h6, h7⟩ := hy
              exact ⟨o', f', n', h5, h6, fun x hx => h7 x ((hfs x).2 (.inr hx))⟩
        · simp only [ref21_finished_8015455, Bool.false_eq_true, if_false, Option.bind_some]
          exact stay fun hc => by rw [hb] at hc; simp at hc
    · have hw0 : way = [] := List.eq_nil_of_length_eq_zero (by omega)
      subst hw0
      exact Wp.ret ⟨order, found, next, rfl, h, fun x hx => hx⟩

theorem roots21 (hs : Sys s n) (hl : l.length = n) : ∀ d i (order : List Nat) (found : List Bool) (next : List Nat), i + d = n → FI s n l order [] found next → (∀ j, j < i → l.getD j false = false → found.getD j false = true) →
    Wp (fun K k => ref21_finished_122 K k l (i : Int) s (numl order) found (numl next)) (fun y => ∃ order' : List Nat, y = (((), ()), (numl order', ())) ∧ order'.Nodup ∧ Fin' (outer s l) order' ∧ ∀ x, x ∈ order' ↔ x < n ∧ l.getD x false = false) := by
  have hle := hs.le
  intro d
  induction d with
  | zero =>
    intro i order found next h1 h h2
    refine Wp.step ?_
    simp only [ref21_finished_122]
    have hnd := h.nd
    rw [List.append_nil] at hnd
    refine Wp.negd (by omega) (Wp.ret ⟨order, rfl, hnd, h.fin, fun x => ⟨fun hx => h.leg x (.inl hx), fun ⟨hx, hxl⟩ => ?_⟩⟩)
    rcases (h.fd x).1 (h2 x (by omega) hxl) with h3 | h3
    · exact h3
    · simp at h3
  | succ d ih =>
    intro i order found next h1 h h2
    have hi : i < n := by omega
    have hlf := h.lf
    have hln := h.ln
    refine Wp.step ?_
    simp only [ref21_finished_122, wrapS i (by omega), Int.toNat_natCast]
    refine Wp.posd (by omega) (Wp.posd (by omega) ?_)
    refine Wp.iteb (fun hb => ih (i + 1) order found next (by omega) h fun j hj hlj => ?_) (fun hb => ?_)
    · rcases Nat.lt_or_ge j i with h3 | h3
      · exact h2 j h3 hlj
      · rw [show j = i by omega, hb] at hlj; simp at hlj
    refine Wp.posd (by omega) ?_
    refine Wp.iteb (fun hf => ih (i + 1) order found next (by omega) h fun j hj hlj => ?_) (fun hf => ?_)
    · rcases Nat.lt_or_ge j i with h3 | h3
      · exact h2 j h3 hlj
      · rw [show j = i by omega]; exact hf
    refine Wp.posd (by omega) ?_
    have hfs : ∀ y, (found.set i true).getD y false = true ↔ y = i ∨ found.getD y false = true := fun y => by
      rw [gset]
      by_cases hy : i = y
      · rw [if_pos ⟨hy, by omega⟩]; simp [hy]
      · rw [if_neg (fun hh => hy hh.1)]; simp [Ne.symm hy]
    have hio : i ∉ order := fun hm => by rw [(h.fd i).2 (.inl hm)] at hf; simp at hf
    have hnd := h.nd
    rw [List.append_nil] at hnd
    have hstart : FI s n l order [i] (found.set i true) next := by
      refine ⟨by simpa using h.lf, h.ln, ?_, fun y => ?_, fun y hy => ?_, h.nxt, fun y j hj hlj => (hfs _).2 (.inr (h.seen y j hj hlj)), fun y hy z hz => (hfs z).2 (.inr (h.full y hy z hz)), by simp, h.fin⟩
      · rw [List.nodup_append]
        exact ⟨hnd, by simp, fun a ha b hb hab => hio (by rw [List.mem_singleton] at hb; rw [← hb, ← hab]; exact ha)⟩
      · rw [hfs, h.fd, List.mem_singleton]
        constructor
        · rintro (h5 | h5 | h5)
          · exact .inr h5
          · exact .inl h5
          · simp at h5
        · rintro (h5 | h5)
          · exact .inr (.inl h5)
          · exact .inl h5
      · rw [List.mem_singleton] at hy
        rcases hy with h5 | h5
        · exact h.leg y (.inl h5)
        · rw [h5]; exact ⟨hi, hb⟩
    have hdfs := dfs_loop hs hl _ order [i] (found.set i true) next rfl hstart
    refine (Wp.diag hdfs).call fun y hy => ?_
    obtain ⟨order', found', next', rfl, h3, h4⟩ := hy
    refine ih (i + 1) order' found' next' (by omega) h3 fun j hj hlj => ?_
    rcases Nat.lt_or_ge j i with h5 | h5
    · exact h4 j ((hfs j).2 (.inr (h2 j h5 hlj)))
    · exact h4 j ((hfs j).2 (.inl (by omega)))

theorem ref21_finished_ok (hs : Sys s n) (hl : l.length = n) : Wp (fun K _ => ref21_finished K s l) (fun y => ∃ order : List Nat, y = (((), ()), (numl order, ())) ∧ order.Nodup ∧ Fin' (outer s l) order ∧ ∀ x, x ∈ order ↔ x < n ∧ l.getD x false = false) := by
  have hle := hs.le
  have hrep : List.replicate n (0 : Int) = numl (List.replicate n 0) := by simp [numl]
  have hz : ∀ x, (List.replicate n 0).getD x 0 = 0 := fun x => by rw [getD_rep]; split <;> rfl
  have hf : ∀ x, (List.replicate n false).getD x false = false := fun x => by rw [getD_rep]; split <;> rfl
  simp only [ref21_finished, hl, Int.toNat_natCast, hrep]
  refine Wp.posd (by omega) (Wp.posd (by omega) ?_)
  have h := roots21 hs hl n 0 [] (List.replicate n false) (List.replicate n 0) (by omega) ⟨by simp, by simp, by simp, fun x => by rw [hf]; simp, fun x hx => by simp at hx, fun x => by rw [hz]; exact Nat.zero_le _, fun x i hi => by rw [hz] at hi; exact absurd hi (Nat.not_lt_zero _), fun x hx => by simp at hx, by simp, fun p hp => by simp at hp⟩ (fun j hj => absurd hj (Nat.not_lt_zero _))
  refine (Wp.diag h).call fun y hy => ?_
  obtain ⟨order, rfl, h1, h2, h3⟩ := hy
  exact Wp.ret ⟨order, rfl, h1, h2, h3⟩
end
end Go.Proofs.Yteadlocehjfpoaa.G
