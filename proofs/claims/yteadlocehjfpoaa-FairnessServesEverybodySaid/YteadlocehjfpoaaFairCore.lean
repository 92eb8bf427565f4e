/- The states from which a fair execution can stay outside: both texts. -/
import Derived.Test.YteadlocehjfpoaaKept
namespace Go.Proofs.Yteadlocehjfpoaa.G
open Go Go.Fw

section
variable {s : SpaceV} {n : Nat} {l : List Bool} {of : List Int}

/-- where staying begins -/
def Begins (s : SpaceV) (n : Nat) (l : List Bool) (of : List Int) (y : Nat) : Prop := y < n ∧ l.getD y false = false ∧ (goals s y = [] ∨ ∃ c : Nat, of.getD y 0 = (c : Int) ∧ KeptP s n of c)
/-- from where it can be reached -/
def CoreP (s : SpaceV) (n : Nat) (l : List Bool) (of : List Int) (x : Nat) : Prop := ∃ y, Rch (outer s l) x y ∧ Begins s n l of y
theorem CoreP.leg {x : Nat} (h : CoreP s n l of x) : l.getD x false = false := by
  obtain ⟨y, h1, h2⟩ := h
  rcases h1.cases' with h3 | ⟨z, h3, _⟩
  · rw [h3]; exact h2.2.1
  · exact (mem_outer.1 h3).1
theorem CoreP.lt (hs : Sys s n) {x : Nat} (h : CoreP s n l of x) : x < n := by
  obtain ⟨y, h1, h2⟩ := h
  rcases h1.cases' with h3 | ⟨z, h3, _⟩
  · rw [h3]; exact h2.1
  · exact (outer_lt hs h3).1

/-- where it begins is marked -/
structure Started (s : SpaceV) (n : Nat) (l : List Bool) (of : List Int) (x : Nat) (out : List Bool) (todo : List Nat) : Prop where
  lo : out.length = n
  out : ∀ y, out.getD y false = true ↔ y < x ∧ Begins s n l of y
  nd : todo.Nodup
  mem : ∀ y, y ∈ todo ↔ y < x ∧ Begins s n l of y
theorem Started.len {x : Nat} {out : List Bool} {todo : List Nat} (h : Started s n l of x out todo) : todo.length ≤ x := nodup_le x todo h.nd fun y hy => ((h.mem y).1 hy).1

theorem Started.add {x : Nat} {out : List Bool} {todo : List Nat} (h : Started s n l of x out todo) (hx : x < n) (hb : Begins s n l of x) : Started s n l of (x + 1) (out.set x true) (todo ++ [x]) := by
  refine ⟨by simpa using h.lo, fun y => ?_, ?_, fun y => ?_⟩
  · rw [gset]
    by_cases hxy : x = y
    · rw [if_pos ⟨hxy, by rw [h.lo]; exact hx⟩]
      exact ⟨fun _ => ⟨by omega, by rw [← hxy]; exact hb⟩, fun _ => rfl⟩
    · rw [if_neg (fun hh => hxy hh.1), h.out]
      exact ⟨fun ⟨h1, h2⟩ => ⟨by omega, h2⟩, fun ⟨h1, h2⟩ => ⟨by omega, h2⟩⟩
  · rw [List.nodup_append]
    refine ⟨h.nd, by simp, fun a ha b hb2 hab => ?_⟩
    rw [List.mem_singleton] at hb2
    have := ((h.mem a).1 ha).1
    omega
  · rw [List.mem_append, List.mem_singleton, h.mem]
    constructor
    · rintro (⟨h1, h2⟩ | h1)
      · exact ⟨by omega, h2⟩
      · exact ⟨by omega, by rw [h1]; exact hb⟩
    · rintro ⟨h1, h2⟩
      rcases Nat.lt_or_ge y x with h3 | h3
      · exact .inl ⟨h3, h2⟩
      · exact .inr (by omega)
theorem Started.skip {x : Nat} {out : List Bool} {todo : List Nat} (h : Started s n l of x out todo) (hb : ¬ Begins s n l of x) : Started s n l of (x + 1) out todo := by
  have : ∀ y, (y < x ∧ Begins s n l of y) ↔ (y < x + 1 ∧ Begins s n l of y) := fun y => by
    constructor
    · rintro ⟨h1, h2⟩; exact ⟨by omega, h2⟩
    · rintro ⟨h1, h2⟩
      refine ⟨?_, h2⟩
      rcases Nat.lt_or_ge y x with h3 | h3
      · exact h3
      · exact absurd (by rw [show x = y by omega]; exact h2) hb
  exact ⟨h.lo, fun y => (h.out y).trans (this y), h.nd, fun y => (h.mem y).trans (this y)⟩
theorem started0 (s : SpaceV) (n : Nat) (l : List Bool) (of : List Int) : Started s n l of 0 (List.replicate n false) [] :=
  ⟨by simp, fun y => by rw [getD_rep]; constructor
                        · intro h; split at h <;> simp at h
                        · rintro ⟨h, _⟩; exact absurd h (Nat.not_lt_zero _), List.nodup_nil, fun y => by simp⟩

/-- marking backwards -/
structure CI (s : SpaceV) (n : Nat) (l : List Bool) (of : List Int) (F : List (List Nat)) (now : Nat → Nat → Prop) (out : List Bool) (todo : List Nat) : Prop where
  lo : out.length = n
  ch : ∀ x, out.getD x false = true → CoreP s n l of x
  td : ∀ x ∈ todo, out.getD x false = true
  cl : ∀ v, out.getD v false = true → v ∈ todo ∨ ∀ t ∈ F.getD v [], out.getD t false = true ∨ now v t
  bd : holes out + todo.length ≤ n
  st : ∀ y, Begins s n l of y → out.getD y false = true

theorem Started.ci {out : List Bool} {todo : List Nat} {F : List (List Nat)} (h : Started s n l of n out todo) : CI s n l of F (fun _ _ => False) out todo := by
  refine ⟨h.lo, fun x hx => ⟨x, .refl, ((h.out x).1 hx).2⟩, fun x hx => (h.out x).2 ((h.mem x).1 hx), fun v hv => .inl ((h.mem v).2 ((h.out v).1 hv)), ?_, fun y hy => (h.out y).2 ⟨hy.1, hy⟩⟩
  -- what is marked waits
  have key : ∀ (o : List Bool) (t : List Nat), t.Nodup → (∀ y ∈ t, o.getD y false = true) → holes o + t.length ≤ o.length := by
    intro o
    induction o with
    | nil =>
      intro t _ ht
      cases t with
      | nil => simp [holes]
      | cons a r => have := ht a (by simp); simp at this
    | cons b o ih =>
      intro t hnd ht
      have hsub : ((t.filter (· ≠ 0)).map (· - 1)).Nodup := by
        rw [List.Nodup, List.pairwise_map]
        refine (hnd.filter _).imp_of_mem fun ha hb hne he => ?_
        have h1 := (List.mem_filter.1 ha).2
        have h2 := (List.mem_filter.1 hb).2
        simp only [ne_eq, decide_not, Bool.not_eq_true', decide_eq_false_iff_not] at h1 h2
        exact hne (by omega)
      have h1 := ih ((t.filter (· ≠ 0)).map (· - 1)) hsub (fun y hy => by
        obtain ⟨z, hz, rfl⟩ := List.mem_map.1 hy
        obtain ⟨hz1, hz2⟩ := List.mem_filter.1 hz
        simp only [ne_eq, decide_not, Bool.not_eq_true', decide_eq_false_iff_not] at hz2
        have := ht z hz1
        obtain ⟨w, rfl⟩ : ∃ w, z = w + 1 := ⟨z - 1, by omega⟩
        simpa only [List.getD_cons_succ, Nat.add_sub_cancel] using this)
      rw [List.length_map] at h1
      have h2 : t.length = (t.filter (· ≠ 0)).length + t.count 0 := by
        have := List.length_eq_countP_add_countP (p := fun x => decide (x ≠ 0)) (l := t)
        rw [this, List.countP_eq_length_filter]
        congr 1
        rw [List.count_eq_countP]
        congr 1
        funext x
        by_cases hx : x = 0 <;> simp [hx]
      have h3 : t.count 0 ≤ 1 := List.nodup_iff_count.1 hnd 0
      have h4 : holes (b :: o) = holes o + if b = true then 0 else 1 := by
        unfold holes
        rw [List.countP_cons]
        cases b <;> simp
      have h5 : t.count 0 ≠ 0 → b = true := fun hc => by
        have := ht 0 (List.count_pos_iff.1 (Nat.pos_of_ne_zero hc))
        simpa only [List.getD_cons_zero] using this
      rw [h4, List.length_cons, h2]
      by_cases hc : t.count 0 = 0
      · split <;> omega
      · rw [if_pos (h5 hc)]; omega
  have := key out todo h.nd (fun y hy => (h.out y).2 ((h.mem y).1 hy))
  rw [h.lo] at this
  exact this

theorem CI.fin (hs : Sys s n) {out : List Bool} {F : List (List Nat)} (hFm : ∀ t j, l.getD t false = false → (j ∈ F.getD t [] ↔ t ∈ outer s l j)) (h : CI s n l of F (fun _ _ => False) out []) : Tells n out (CoreP s n l of) := by
  refine ⟨h.lo, fun x hx => ⟨h.ch x, fun ⟨y, h1, h2⟩ => ?_⟩⟩
  refine Rch.byHead (G := outer s l) (u := y) (P := fun w => out.getD w false = true) (h.st y h2) (fun a b hab _ hb => ?_) h1
  rcases h.cl b hb with h3 | h3
  · simp at h3
  · rcases h3 a ((hFm b a (mem_outer.1 hab).2.2).2 hab) with h4 | h4
    · exact h4
    · exact h4.elim

/-- the step of a marking -/
theorem CI.mark (hs : Sys s n) {F : List (List Nat)} {out : List Bool} {todo : List Nat} {k j t : Nat} (hkC : CoreP s n l of k) (hto : k ∈ outer s l t) (hj : (F.getD k []).getD j 0 = t) (h : CI s n l of F (fun v t => v = k ∧ ∃ j', j ≤ j' ∧ j' < (F.getD k []).length ∧ (F.getD k []).getD j' 0 = t) out todo) (hf : out.getD t false = false) :
    CI s n l of F (fun v t => v = k ∧ ∃ j', j + 1 ≤ j' ∧ j' < (F.getD k []).length ∧ (F.getD k []).getD j' 0 = t) (out.set t true) (todo ++ [t]) ∧ holes (out.set t true) + (todo ++ [t]).length = holes out + todo.length := by
  have htn := (outer_lt hs hto).1
  have hlo := h.lo
  have hset : ∀ y, (out.set t true).getD y false = true ↔ y = t ∨ out.getD y false = true := fun y => by
    rw [gset]
    by_cases hy : t = y
    · rw [if_pos ⟨hy, by omega⟩]; simp [hy]
    · rw [if_neg (fun hh => hy hh.1)]; simp [Ne.symm hy]
  have hh := holes_set (l := out) (i := t) (by omega) hf
  have hbd := h.bd
  refine ⟨⟨by simpa using hlo, fun x hx => ?_, fun x hx => ?_, fun v hv => ?_, by rw [List.length_append, List.length_singleton]; omega, fun y hy => (hset y).2 (.inr (h.st y hy))⟩, by rw [List.length_append, List.length_singleton]; omega⟩
  · rcases (hset x).1 hx with h1 | h1
    · rw [h1]
      obtain ⟨y, h2, h3⟩ := hkC
      exact ⟨y, .head hto h2, h3⟩
    · exact h.ch x h1
  · rcases List.mem_append.1 hx with h1 | h1
    · exact (hset x).2 (.inr (h.td x h1))
    · rw [List.mem_singleton] at h1; exact (hset x).2 (.inl h1)
  · rcases (hset v).1 hv with h1 | h1
    · exact .inl (by rw [h1]; simp)
    · rcases h.cl v h1 with h2 | h2
      · exact .inl (List.mem_append_left _ h2)
      · refine .inr fun z hz => ?_
        rcases h2 z hz with h4 | ⟨h4, j', h5, h6, h7⟩
        · exact .inl ((hset z).2 (.inr h4))
        · rcases Nat.eq_or_lt_of_le h5 with h8 | h8
          · exact .inl ((hset z).2 (.inl (by rw [← h7, ← h8, hj])))
          · exact .inr ⟨h4, j', h8, h6, h7⟩
theorem CI.pass {F : List (List Nat)} {out : List Bool} {todo : List Nat} {k j t : Nat} (hj : (F.getD k []).getD j 0 = t) (h : CI s n l of F (fun v t => v = k ∧ ∃ j', j ≤ j' ∧ j' < (F.getD k []).length ∧ (F.getD k []).getD j' 0 = t) out todo) (hf : out.getD t false = true) :
    CI s n l of F (fun v t => v = k ∧ ∃ j', j + 1 ≤ j' ∧ j' < (F.getD k []).length ∧ (F.getD k []).getD j' 0 = t) out todo := by
  refine ⟨h.lo, h.ch, h.td, fun v hv => ?_, h.bd, h.st⟩
  rcases h.cl v hv with h2 | h2
  · exact .inl h2
  · refine .inr fun z hz => ?_
    rcases h2 z hz with h4 | ⟨h4, j', h5, h6, h7⟩
    · exact .inl h4
    · rcases Nat.eq_or_lt_of_le h5 with h8 | h8
      · exact .inl (by rw [← h7, ← h8, hj]; exact hf)
      · exact .inr ⟨h4, j', h8, h6, h7⟩
theorem CI.last {F : List (List Nat)} {out : List Bool} {todo : List Nat} {k j : Nat} (hj : (F.getD k []).length ≤ j) (h : CI s n l of F (fun v t => v = k ∧ ∃ j', j ≤ j' ∧ j' < (F.getD k []).length ∧ (F.getD k []).getD j' 0 = t) out todo) : CI s n l of F (fun _ _ => False) out todo := by
  refine ⟨h.lo, h.ch, h.td, fun v hv => ?_, h.bd, h.st⟩
  rcases h.cl v hv with h2 | h2
  · exact .inl h2
  · refine .inr fun z hz => ?_
    rcases h2 z hz with h4 | ⟨_, j', h5, h6, _⟩
    · exact .inl h4
    · omega
theorem CI.first {F : List (List Nat)} {out : List Bool} {w' : List Nat} {k : Nat} (h : CI s n l of F (fun _ _ => False) out (w' ++ [k])) : CI s n l of F (fun v t => v = k ∧ ∃ j', 0 ≤ j' ∧ j' < (F.getD k []).length ∧ (F.getD k []).getD j' 0 = t) out w' := by
  have hbd := h.bd
  rw [List.length_append, List.length_singleton] at hbd
  refine ⟨h.lo, h.ch, fun x hx => h.td x (List.mem_append_left _ hx), fun v hv => ?_, by omega, h.st⟩
  rcases h.cl v hv with h2 | h2
  · rw [List.mem_append, List.mem_singleton] at h2
    rcases h2 with h2 | h2
    · exact .inl h2
    · refine .inr fun t ht => .inr ⟨h2, ?_⟩
      rw [h2] at ht
      obtain ⟨j', h3, h4⟩ := mem_getD 0 ht
      exact ⟨j', Nat.zero_le _, h3, h4⟩
  · exact .inr fun t ht => (h2 t ht).imp (fun h => h) (fun h => h.elim)

/-! ### The program -/
theorem fback_in (hs : Sys s n) (x : Nat) (hx : x < n) : ∀ d i (F : List (List Nat)), i + d = (arcs s x).length → F.length = n → (∀ t j, j ∈ F.getD t [] ↔ (j < x ∧ l.getD j false = false ∧ t ∈ goals s j) ∨ (j = x ∧ ∃ i', i' < i ∧ (goals s x).getD i' 0 = t)) → (∀ t, (F.getD t []).length ≤ total s x + i) →
    Wp (fun K k => fairness_Core_2091418 K k (x : Int) (arcs s x) ((arcs s x).length : Int) (i : Int) (numll F)) (fun y => ∃ F' : List (List Nat), y = ((), (numll F', ())) ∧ F'.length = n ∧ (∀ t j, j ∈ F'.getD t [] ↔ (j < x ∧ l.getD j false = false ∧ t ∈ goals s j) ∨ (j = x ∧ t ∈ goals s x)) ∧ ∀ t, (F'.getD t []).length ≤ total s (x + 1)) := by
  have htot := total_ge (s := s) hx
  have htt := hs.tot
  intro d
  induction d with
  | zero =>
    intro i F h1 h2 h3 h4
    refine Wp.step ?_
    simp only [fairness_Core_2091418]
    refine Wp.negd (by omega) (Wp.ret ⟨F, rfl, h2, fun t j => ?_, fun t => by have := h4 t; show _ ≤ total s x + (arcs s x).length; omega⟩)
    rw [h3]
    constructor
    · rintro (h5 | ⟨h5, i', h6, h7⟩)
      · exact .inl h5
      · exact .inr ⟨h5, by rw [← h7]; exact getD_mem 0 (by rw [goals_len]; omega)⟩
    · rintro (h5 | ⟨h5, h6⟩)
      · exact .inl h5
      · obtain ⟨i', h7, h8⟩ := mem_getD 0 h6
        rw [goals_len] at h7
        exact .inr ⟨h5, i', by omega, h8⟩
  | succ d ih =>
    intro i F h1 h2 h3 h4
    have hil : i < (arcs s x).length := by omega
    have hg := goals_at hs hil
    have hF := h4 ((goals s x).getD i 0)
    refine Wp.step ?_
    simp only [fairness_Core_2091418, wrapS i (by omega), Int.toNat_natCast, ato_def, hs.at' x i hil, numll_getD, numll_length, numl_length, numl_snoc, numll_set, List.length_singleton]
    refine Wp.posd (by omega) (Wp.posd (by omega) (Wp.posd (by omega) (Wp.posd (by omega) (Wp.posd (by omega) (Wp.posd trivial ?_)))))
    refine ih (i + 1) _ (by omega) (by simpa using h2) (fun t j => ?_) (fun t => ?_)
    · rw [gset]
      by_cases ht : (goals s x).getD i 0 = t
      · rw [if_pos ⟨ht, by omega⟩, ht, List.mem_append, List.mem_singleton, h3]
        constructor
        · rintro ((h5 | ⟨h5, i', h8, h9⟩) | h5)
          · exact .inl h5
          · exact .inr ⟨h5, i', by omega, h9⟩
          · exact .inr ⟨h5, i, by omega, ht⟩
        · rintro (h5 | ⟨h5, i', h8, h9⟩)
          · exact .inl (.inl h5)
          · exact .inr h5
      · rw [if_neg (fun hh => ht hh.1), h3]
        constructor
        · rintro (h5 | ⟨h5, i', h8, h9⟩)
          · exact .inl h5
          · exact .inr ⟨h5, i', by omega, h9⟩
        · rintro (h5 | ⟨h5, i', h8, h9⟩)
          · exact .inl h5
          · refine .inr ⟨h5, i', ?_, h9⟩
            rcases Nat.lt_or_ge i' i with h10 | h10
            · exact h10
            · exact absurd h9 (by rw [show i' = i by omega]; exact ht)
    · rw [gset]
      split
      · rw [List.length_append, List.length_singleton]; omega
      · have := h4 t; omega

theorem start_loop (hs : Sys s n) (hl : l.length = n) {m : Nat} (hof : OfOk n m of) (hofl : ∀ y, y < n → (of.getD y 0 < 0 ↔ l.getD y false = true)) {kp : List Bool} (hk : Tells m kp (KeptP s n of)) : ∀ d x (out : List Bool) (F : List (List Nat)) (todo : List Nat), x + d = n → Started s n l of x out todo → F.length = n → (∀ t j, j ∈ F.getD t [] ↔ (j < x ∧ l.getD j false = false ∧ t ∈ goals s j)) → (∀ t, (F.getD t []).length ≤ total s x) →
    Wp (fun K k => fairness_Core_2042 K k l of kp s.2.1 (n : Int) (x : Int) out (numll F) (numl todo)) (fun y => ∃ (out' : List Bool) (F' : List (List Nat)) (todo' : List Nat), y = (((), ()), (numl todo', (out', (numll F', ())))) ∧ Started s n l of n out' todo' ∧ F'.length = n ∧ (∀ t j, j ∈ F'.getD t [] ↔ (j < n ∧ l.getD j false = false ∧ t ∈ goals s j)) ∧ ∀ t, (F'.getD t []).length ≤ 262144) := by
  have hle := hs.le
  have har := hs.ar
  have htt := hs.tot
  have hkl := hk.1
  obtain ⟨hofn, hofr⟩ := hof
  intro d
  induction d with
  | zero =>
    intro x out F todo h1 h2 h3 h4 h5
    refine Wp.step ?_
    simp only [fairness_Core_2042]
    have h6 : x = n := by omega
    rw [h6] at h2 h4 h5
    exact Wp.negd (by omega) (Wp.ret ⟨out, F, todo, rfl, h2, h3, h4, fun t => Nat.le_trans (h5 t) htt⟩)
  | succ d ih =>
    intro x out F todo h1 h2 h3 h4 h5
    have hx : x < n := by omega
    have hlo := h2.lo
    have hlt := h2.len
    refine Wp.step ?_
    simp only [fairness_Core_2042, wrapS x (by omega), Int.toNat_natCast, arcs_def]
    refine Wp.posd (by omega) (Wp.posd (by omega) (Wp.posd (by omega) ?_))
    refine Wp.iteb (fun hb => ?_) (fun hb => ?_)
    · refine ih (x + 1) out F todo (by omega) (h2.skip fun h => by rw [h.2.1] at hb; simp at hb) h3 (fun t j => ?_) (fun t => Nat.le_trans (h5 t) (total_mono s (Nat.le_succ x)))
      rw [h4]
      constructor
      · rintro ⟨h6, h7⟩; exact ⟨by omega, h7⟩
      · rintro ⟨h6, h7, h8⟩
        refine ⟨?_, h7, h8⟩
        rcases Nat.lt_or_ge j x with h9 | h9
        · exact h9
        · rw [show j = x by omega, hb] at h7; simp at h7
    · have hin := fback_in (l := l) hs x hx (arcs s x).length 0 F (by omega) h3 (fun t j => by
        rw [h4]
        constructor
        · exact .inl
        · rintro (h6 | ⟨_, i', h6, _⟩)
          · exact h6
          · exact absurd h6 (Nat.not_lt_zero _)) (fun t => by have := h5 t; omega)
      refine (Wp.diag hin).call fun y hy => ?_
      obtain ⟨F', rfl, h6, h7, h8⟩ := hy
      have h7' : ∀ t j, j ∈ F'.getD t [] ↔ (j < x + 1 ∧ l.getD j false = false ∧ t ∈ goals s j) := fun t j => by
        rw [h7]
        constructor
        · rintro (⟨h9, h10, h11⟩ | ⟨h9, h10⟩)
          · exact ⟨by omega, h10, h11⟩
          · exact ⟨by omega, by rw [h9]; exact hb, by rw [h9]; exact h10⟩
        · rintro ⟨h9, h10, h11⟩
          rcases Nat.lt_or_ge j x with h12 | h12
          · exact .inl ⟨h12, h10, h11⟩
          · have h13 : j = x := by omega
            exact .inr ⟨h13, by rw [← h13]; exact h11⟩
      have mk : ∀ v : Bool, (v = true ↔ Begins s n l of x) → Wp (fun K k => (fairness_Core_1045711 K (x : Int) v out (numl todo)).bind fun y => fairness_Core_2042 K k l of kp s.2.1 (n : Int) ((x + 1 : Nat) : Int) y.2.2.1 (numll F') y.2.1) (fun y => ∃ (out' : List Bool) (F' : List (List Nat)) (todo' : List Nat), y = (((), ()), (numl todo', (out', (numll F', ())))) ∧ Started s n l of n out' todo' ∧ F'.length = n ∧ (∀ t j, j ∈ F'.getD t [] ↔ (j < n ∧ l.getD j false = false ∧ t ∈ goals s j)) ∧ ∀ t, (F'.getD t []).length ≤ 262144) := by
        intro v hv
        cases v with
        | true =>
          have g1 : (todo.length + 1 ≤ 4294967296) = True := eq_true (by omega)
          have g2 : (0 ≤ (x : Int) ∧ (x : Int) < (out.length : Int)) = True := eq_true (by omega)
          simp only [fairness_Core_1045711, if_true, numl_length, List.length_singleton, g1, g2, decide_true, Option.bind_some, Int.toNat_natCast, numl_snoc]
          exact ih (x + 1) _ F' _ (by omega) (h2.add hx (hv.1 rfl)) h6 h7' h8
        | false =>
          simp only [fairness_Core_1045711, Bool.false_eq_true, if_false, Option.bind_some]
          exact ih (x + 1) out F' todo (by omega) (h2.skip fun h => by have := hv.2 h; simp at this) h6 h7' h8
      have hgl := goals_len s x
      refine Wp.ited (fun he => ?_) (fun he => ?_)
      · refine mk true ?_
        simp only [true_iff]
        exact ⟨hx, hb, .inl (List.eq_nil_of_length_eq_zero (by omega))⟩
      · rcases hofr x hx with hneg | ⟨c, hc, hcm⟩
        · rw [hofl x hx, hb] at hneg; simp at hneg
        · simp only [hc, Int.toNat_natCast]
          refine Wp.posd (by omega) (Wp.posd (by omega) (mk _ ?_))
          rw [hk.2 c hcm]
          constructor
          · intro h; exact ⟨hx, hb, .inr ⟨c, hc, h⟩⟩
          · rintro ⟨_, _, h | ⟨c', h, h'⟩⟩
            · rw [h] at hgl; simp at hgl; omega
            · have : c = c' := by omega
              rw [this]; exact h'

theorem cmark_in (hs : Sys s n) {F : List (List Nat)} (hF : F.length = n) (hFm : ∀ t j, l.getD t false = false → (j ∈ F.getD t [] ↔ t ∈ outer s l j)) (hFl : ∀ t, (F.getD t []).length ≤ 262144) {k : Nat} (hkC : CoreP s n l of k) :
    ∀ d j (out : List Bool) (todo : List Nat), j + d = (F.getD k []).length → CI s n l of F (fun v t => v = k ∧ ∃ j', j ≤ j' ∧ j' < (F.getD k []).length ∧ (F.getD k []).getD j' 0 = t) out todo →
    Wp (fun K k' => fairness_Core_261678 K k' (numl (F.getD k [])) ((F.getD k []).length : Int) (j : Int) out (numl todo)) (fun y => ∃ out' todo', y = (((), ()), (numl todo', (out', ()))) ∧ CI s n l of F (fun _ _ => False) out' todo' ∧ holes out' + todo'.length = holes out + todo.length) := by
  have hle := hs.le
  intro d
  induction d with
  | zero =>
    intro j out todo h1 h
    refine Wp.step ?_
    simp only [fairness_Core_261678]
    exact Wp.negd (by omega) (Wp.ret ⟨out, todo, rfl, h.last (by omega), rfl⟩)
  | succ d ih =>
    intro j out todo h1 h
    have hjl : j < (F.getD k []).length := by omega
    have hFk := hFl k
    obtain ⟨t, ht⟩ : ∃ t, t = (F.getD k []).getD j 0 := ⟨_, rfl⟩
    have hto := (hFm k t hkC.leg).1 (by rw [ht]; exact getD_mem 0 hjl)
    have htn := (outer_lt hs hto).1
    have hlo := h.lo
    have hbd := h.bd
    refine Wp.step ?_
    simp only [fairness_Core_261678, numl_length, numl_getD, Int.toNat_natCast, ← ht, wrapS j (by omega), numl_snoc, List.length_singleton]
    refine Wp.posd (by omega) (Wp.posd (by omega) (Wp.posd (by omega) ?_))
    refine Wp.itebn (fun hf => ?_) (fun hf => ih (j + 1) out todo (by omega) (h.pass ht.symm hf))
    obtain ⟨h2, h3⟩ := h.mark hs hkC hto ht.symm hf
    refine Wp.posd (by omega) (Wp.posd (by omega) ((ih (j + 1) _ _ (by omega) h2).mono fun y hy => ?_))
    obtain ⟨o', t', h4, h5, h6⟩ := hy
    exact ⟨o', t', h4, h5, h6.trans h3⟩

theorem cmark_loop (hs : Sys s n) {F : List (List Nat)} (hF : F.length = n) (hFm : ∀ t j, l.getD t false = false → (j ∈ F.getD t [] ↔ t ∈ outer s l j)) (hFl : ∀ t, (F.getD t []).length ≤ 262144) :
    ∀ m (out : List Bool) (todo : List Nat), holes out + todo.length = m → CI s n l of F (fun _ _ => False) out todo →
    Wp (fun K k => fairness_Core_2044 K k (numll F) out (numl todo)) (fun y => ∃ out', y = ((), (out', ())) ∧ Tells n out' (CoreP s n l of)) := by
  have hle := hs.le
  intro m
  induction m with
  | zero =>
    intro out todo hm h
    have ht : todo = [] := List.eq_nil_of_length_eq_zero (by omega)
    subst ht
    refine Wp.step ?_
    simp only [fairness_Core_2044, numl_length]
    exact Wp.negd (by simp) (Wp.ret ⟨out, rfl, h.fin hs hFm⟩)
  | succ m ih =>
    intro out todo hm h
    have hbd := h.bd
    refine Wp.step ?_
    simp only [fairness_Core_2044, numl_length]
    refine Wp.ited (fun hp => ?_) (fun hp => ?_)
    · obtain ⟨w', k, hw1, hw2, hw3⟩ := way_last (way := todo) (by omega)
      have hw := wrapP todo.length (by omega) (by omega)
      have hkC := h.ch k (h.td k (by rw [hw1]; simp))
      have hkn := hkC.lt hs
      have hlw : todo.length = w'.length + 1 := by rw [hw1]; simp
      simp only [hw, Int.toNat_natCast, numl_getD, hw2, numl_take, hw3, numll_length, numll_getD, numl_length]
      refine Wp.posd (by omega) (Wp.posd (by omega) (Wp.posd (by omega) ?_))
      rw [hw1] at h
      refine (Wp.diag (cmark_in hs hF hFm hFl hkC (F.getD k []).length 0 out w' (by omega) h.first)).call fun y hy => ?_
      obtain ⟨o', t', rfl, h2, h3⟩ := hy
      exact ih o' t' (by omega) h2
    · have ht : todo = [] := List.eq_nil_of_length_eq_zero (by omega)
      subst ht
      exact Wp.ret ⟨out, rfl, h.fin hs hFm⟩

/-! ### The reference -/
theorem rstart_loop (hs : Sys s n) (hl : l.length = n) {m : Nat} (hof : OfOk n m of) (hofl : ∀ y, y < n → (of.getD y 0 < 0 ↔ l.getD y false = true)) {kp : List Bool} (hk : Tells m kp (KeptP s n of)) : ∀ d x (out : List Bool) (todo : List Nat), x + d = n → Started s n l of x out todo →
    Wp (fun K k => ref21_Core_1018 K k l of kp (x : Int) s out (numl todo)) (fun y => ∃ (out' : List Bool) (todo' : List Nat), y = (((), ()), (numl todo', (out', ()))) ∧ Started s n l of n out' todo') := by
  have hle := hs.le
  have har := hs.ar
  have hkl := hk.1
  obtain ⟨hofn, hofr⟩ := hof
  intro d
  induction d with
  | zero =>
    intro x out todo h1 h2
    refine Wp.step ?_
    simp only [ref21_Core_1018]
    have h6 : x = n := by omega
    rw [h6] at h2
    exact Wp.negd (by omega) (Wp.ret ⟨out, todo, rfl, h2⟩)
  | succ d ih =>
    intro x out todo h1 h2
    have hx : x < n := by omega
    have hlo := h2.lo
    have hlt := h2.len
    have mk : ∀ v : Bool, (v = true ↔ Begins s n l of x) → Wp (fun K k => (ref21_Core_32585 K (x : Int) v out (numl todo)).bind fun y => ref21_Core_1018 K k l of kp ((x + 1 : Nat) : Int) s y.2.2.1 y.2.1) (fun y => ∃ (out' : List Bool) (todo' : List Nat), y = (((), ()), (numl todo', (out', ()))) ∧ Started s n l of n out' todo') := by
      intro v hv
      cases v with
      | true =>
        have g1 : (todo.length + 1 ≤ 4294967296) = True := eq_true (by omega)
        have g2 : (0 ≤ (x : Int) ∧ (x : Int) < (out.length : Int)) = True := eq_true (by omega)
        simp only [ref21_Core_32585, if_true, numl_length, List.length_singleton, g1, g2, decide_true, Option.bind_some, Int.toNat_natCast, numl_snoc]
        exact ih (x + 1) _ _ (by omega) (h2.add hx (hv.1 rfl))
      | false =>
        simp only [ref21_Core_32585, Bool.false_eq_true, if_false, Option.bind_some]
        exact ih (x + 1) out todo (by omega) (h2.skip fun h => by have := hv.2 h; simp at this)
    refine Wp.step ?_
    simp only [ref21_Core_1018, wrapS x (by omega), Int.toNat_natCast, arcs_def]
    refine Wp.posd (by omega) (Wp.posd (by omega) ?_)
    refine Wp.itebn (fun hb => ?_) (fun hb => mk false ?_)
    · have hgl := goals_len s x
      refine Wp.posd (by omega) ?_
      refine Wp.ited (fun he => mk true ?_) (fun he => ?_)
      · simp only [true_iff]
        exact ⟨hx, hb, .inl (List.eq_nil_of_length_eq_zero (by omega))⟩
      · rcases hofr x hx with hneg | ⟨c, hc, hcm⟩
        · rw [hofl x hx, hb] at hneg; simp at hneg
        · simp only [hc, Int.toNat_natCast]
          refine Wp.posd (by omega) (Wp.posd (by omega) (mk _ ?_))
          rw [hk.2 c hcm]
          constructor
          · intro h; exact ⟨hx, hb, .inr ⟨c, hc, h⟩⟩
          · rintro ⟨_, _, h | ⟨c', h, h'⟩⟩
            · rw [h] at hgl; simp at hgl; omega
            · have : c = c' := by omega
              rw [this]; exact h'
    · simp only [Bool.false_eq_true, false_iff]
      exact fun h => by rw [h.2.1] at hb; simp at hb

theorem rcmark_in (hs : Sys s n) {F : List (List Nat)} (hF : F.length = n) (hFm : ∀ t j, l.getD t false = false → (j ∈ F.getD t [] ↔ t ∈ outer s l j)) (hFl : ∀ t, (F.getD t []).length ≤ 262144) {k : Nat} (hkC : CoreP s n l of k) :
    ∀ d j (out : List Bool) (todo : List Nat), j + d = (F.getD k []).length → CI s n l of F (fun v t => v = k ∧ ∃ j', j ≤ j' ∧ j' < (F.getD k []).length ∧ (F.getD k []).getD j' 0 = t) out todo →
    Wp (fun K k' => ref21_Core_130606 K k' (numll F) (k : Int) (j : Int) out (numl todo)) (fun y => ∃ out' todo', y = (((), ()), (numl todo', (out', ()))) ∧ CI s n l of F (fun _ _ => False) out' todo' ∧ holes out' + todo'.length = holes out + todo.length) := by
  have hle := hs.le
  have hkn := hkC.lt hs
  intro d
  induction d with
  | zero =>
    intro j out todo h1 h
    refine Wp.step ?_
    simp only [ref21_Core_130606, numll_length, numll_getD, numl_length, Int.toNat_natCast]
    exact Wp.posd (by omega) (Wp.negd (by omega) (Wp.ret ⟨out, todo, rfl, h.last (by omega), rfl⟩))
  | succ d ih =>
    intro j out todo h1 h
    have hjl : j < (F.getD k []).length := by omega
    have hFk := hFl k
    obtain ⟨t, ht⟩ : ∃ t, t = (F.getD k []).getD j 0 := ⟨_, rfl⟩
    have hto := (hFm k t hkC.leg).1 (by rw [ht]; exact getD_mem 0 hjl)
    have htn := (outer_lt hs hto).1
    have hlo := h.lo
    have hbd := h.bd
    refine Wp.step ?_
    simp only [ref21_Core_130606, numll_length, numll_getD, numl_length, numl_getD, Int.toNat_natCast, ← ht, wrapS j (by omega), numl_snoc, List.length_singleton]
    refine Wp.posd (by omega) (Wp.posd (by omega) (Wp.posd (by omega) (Wp.posd (by omega) (Wp.posd (by omega) ?_))))
    refine Wp.itebn (fun hf => ?_) (fun hf => ih (j + 1) out todo (by omega) (h.pass ht.symm hf))
    obtain ⟨h2, h3⟩ := h.mark hs hkC hto ht.symm hf
    refine Wp.posd (by omega) (Wp.posd (by omega) ((ih (j + 1) _ _ (by omega) h2).mono fun y hy => ?_))
    obtain ⟨o', t', h4, h5, h6⟩ := hy
    exact ⟨o', t', h4, h5, h6.trans h3⟩

theorem rcmark_loop (hs : Sys s n) {F : List (List Nat)} (hF : F.length = n) (hFm : ∀ t j, l.getD t false = false → (j ∈ F.getD t [] ↔ t ∈ outer s l j)) (hFl : ∀ t, (F.getD t []).length ≤ 262144) :
    ∀ m (out : List Bool) (todo : List Nat), holes out + todo.length = m → CI s n l of F (fun _ _ => False) out todo →
    Wp (fun K k => ref21_Core_1020 K k (numll F) out (numl todo)) (fun y => ∃ out', y = ((), (out', ())) ∧ Tells n out' (CoreP s n l of)) := by
  have hle := hs.le
  intro m
  induction m with
  | zero =>
    intro out todo hm h
    have ht : todo = [] := List.eq_nil_of_length_eq_zero (by omega)
    subst ht
    refine Wp.step ?_
    simp only [ref21_Core_1020, numl_length]
    exact Wp.negd (by simp) (Wp.ret ⟨out, rfl, h.fin hs hFm⟩)
  | succ m ih =>
    intro out todo hm h
    have hbd := h.bd
    refine Wp.step ?_
    simp only [ref21_Core_1020, numl_length]
    refine Wp.ited (fun hp => ?_) (fun hp => ?_)
    · obtain ⟨w', k, hw1, hw2, hw3⟩ := way_last (way := todo) (by omega)
      have hw := wrapP todo.length (by omega) (by omega)
      have hkC := h.ch k (h.td k (by rw [hw1]; simp))
      have hlw : todo.length = w'.length + 1 := by rw [hw1]; simp
      simp only [hw, Int.toNat_natCast, numl_getD, hw2, numl_take, hw3]
      refine Wp.posd (by omega) (Wp.posd (by omega) ?_)
      rw [hw1] at h
      refine (Wp.diag (rcmark_in hs hF hFm hFl hkC (F.getD k []).length 0 out w' (by omega) h.first)).call fun y hy => ?_
      obtain ⟨o', t', rfl, h2, h3⟩ := hy
      exact ih o' t' (by omega) h2
    · have ht : todo = [] := List.eq_nil_of_length_eq_zero (by omega)
      subst ht
      exact Wp.ret ⟨out, rfl, h.fin hs hFm⟩
end

/-! ### The functions -/
theorem fairness_check_ok {s : SpaceV} (hs : SpaceIn s) (l : List Bool) : Wp (fun K _ => fairness_check K s l) (fun y => ∃ e, y = ((e, ()), ()) ∧ Chk s l e) := by
  simp only [fairness_check]
  refine (space_Valid_ok hs).call fun y hy => ?_
  obtain ⟨b, rfl, hb⟩ := hy
  refine Wp.itebn (fun h0 => Wp.ret ⟨_, rfl, .inr (.inl ⟨rfl, fun hp => ?_⟩)⟩) (fun h1 => ?_)
  · rw [← hb] at hp
    simp only at h0
    rw [h0] at hp; simp at hp
  · have hp := hb.1 h1
    exact Wp.iten (fun hn => Wp.ret ⟨_, rfl, .inr (.inr ⟨rfl, hp, fun he => hn (by rw [hp.2.2.1, he])⟩)⟩) (fun he => Wp.ret ⟨_, rfl, .inl ⟨rfl, hp, by rw [hp.2.2.1] at he; omega⟩⟩)

theorem ofLeg {s : SpaceV} {n : Nat} {l : List Bool} {of : List Int} (h : Num n (SetOf l) (Eq' s l) of) : ∀ y, y < n → (of.getD y 0 < 0 ↔ l.getD y false = true) := fun y hy => by
  constructor
  · intro hneg
    cases hb : l.getD y false with
    | true => rfl
    | false =>
      obtain ⟨c, h1, _⟩ := num_range h hy (notL.2 hb)
      omega
  · intro hb
    rw [h.leg y hy hb]; decide

/-- an error, or the numbers -/
def NumRes (s : SpaceV) (l : List Bool) (e : Int) (out : List Int) : Prop := Chk s l e ∧ ((e = 0 ∧ Num s.1.length (SetOf l) (Eq' s l) out) ∨ (e ≠ 0 ∧ out = []))
theorem NumRes.unique {s : SpaceV} {l : List Bool} {e f : Int} {a b : List Int} (ha : NumRes s l e a) (hb : NumRes s l f b) : e = f ∧ a = b := by
  obtain ⟨h1, h2⟩ := ha
  obtain ⟨h3, h4⟩ := hb
  have h5 := h1.unique h3
  subst h5
  refine ⟨rfl, ?_⟩
  rcases h2 with ⟨h6, h7⟩ | ⟨h6, rfl⟩ <;> rcases h4 with ⟨h8, h9⟩ | ⟨h8, rfl⟩
  · exact h7.unique (eq_refl s l) (eq_trans s l) h9
  · exact absurd h6 h8
  · exact absurd h8 h6
  · rfl
/-- an error, or a list that speaks of the numbers -/
def NRes (s : SpaceV) (l : List Bool) (m : Nat) (P : List Int → Nat → Prop) (e : Int) (out : List Bool) : Prop := Chk s l e ∧ ((e = 0 ∧ ∃ of, Num s.1.length (SetOf l) (Eq' s l) of ∧ Tells m out (P of)) ∨ (e ≠ 0 ∧ out = []))
theorem NRes.unique {s : SpaceV} {l : List Bool} {m : Nat} {P : List Int → Nat → Prop} {e f : Int} {a b : List Bool} (ha : NRes s l m P e a) (hb : NRes s l m P f b) : e = f ∧ a = b := by
  obtain ⟨h1, h2⟩ := ha
  obtain ⟨h3, h4⟩ := hb
  have h5 := h1.unique h3
  subst h5
  refine ⟨rfl, ?_⟩
  rcases h2 with ⟨h6, of, hn, h7⟩ | ⟨h6, rfl⟩ <;> rcases h4 with ⟨h8, of', hn', h9⟩ | ⟨h8, rfl⟩
  · have := hn.unique (eq_refl s l) (eq_trans s l) hn'
    subst this
    exact h7.unique h9
  · exact absurd h6 h8
  · exact absurd h8 h6
  · rfl

theorem fairness_Components_ok {s : SpaceV} (hs : SpaceIn s) (l : List Bool) : Wp (fun K _ => fairness_Components K s l) (fun y => ∃ e out, y = ((((), (e, ())), ()), (out, ())) ∧ NumRes s l e out) := by
  simp only [fairness_Components]
  refine (fairness_check_ok hs l).call fun y hy => ?_
  obtain ⟨e, rfl, he⟩ := hy
  refine Wp.iten (fun h0 => Wp.ret ⟨_, _, rfl, he, .inr ⟨h0, rfl⟩⟩) (fun h0 => ?_)
  simp only at h0
  subst h0
  obtain ⟨h1, h2⟩ := he.zero
  refine (fairness_components_ok (sys_of h1) h2).call fun y hy => ?_
  obtain ⟨out, rfl, h3⟩ := hy
  exact Wp.ret ⟨_, _, rfl, he, .inl ⟨rfl, h3⟩⟩
theorem ref21_Components_ok {s : SpaceV} (hs : SpaceIn s) (l : List Bool) : Wp (fun K _ => ref21_Components K s l) (fun y => ∃ e out, y = ((((), (e, ())), ()), (out, ())) ∧ NumRes s l e out) := by
  simp only [ref21_Components]
  refine (ref19_Begin_ok hs l).call fun y hy => ?_
  obtain ⟨e, rfl, he⟩ := hy
  refine Wp.iten (fun h0 => Wp.ret ⟨_, _, rfl, he, .inr ⟨h0, rfl⟩⟩) (fun h0 => ?_)
  simp only at h0
  subst h0
  obtain ⟨h1, h2⟩ := he.zero
  refine (ref21_components_ok (sys_of h1) h2).call fun y hy => ?_
  obtain ⟨out, rfl, h3⟩ := hy
  exact Wp.ret ⟨_, _, rfl, he, .inl ⟨rfl, h3⟩⟩
theorem fairness_Kept_ok {s : SpaceV} (hs : SpaceIn s) (l : List Bool) : Wp (fun K _ => fairness_Kept K s l) (fun y => ∃ e out, y = ((((), (e, ())), ()), (out, ())) ∧ NRes s l (cntC (SetOf l) (Eq' s l) s.1.length) (KeptP s s.1.length) e out) := by
  simp only [fairness_Kept]
  refine (fairness_check_ok hs l).call fun y hy => ?_
  obtain ⟨e, rfl, he⟩ := hy
  refine Wp.iten (fun h0 => Wp.ret ⟨_, _, rfl, he, .inr ⟨h0, rfl⟩⟩) (fun h0 => ?_)
  simp only at h0
  subst h0
  obtain ⟨h1, h2⟩ := he.zero
  have hS := sys_of h1
  refine (fairness_components_ok hS h2).call fun y hy => ?_
  obtain ⟨of, rfl, h3⟩ := hy
  have hcl := cntC_le (SetOf l) (Eq' s l) s.1.length
  have hle := hS.le
  refine (fairness_kept_ok hS (plain_of hs hS) (by omega) (ofOk_of h3)).call fun y hy => ?_
  obtain ⟨out, rfl, h4⟩ := hy
  exact Wp.ret ⟨_, _, rfl, he, .inl ⟨rfl, of, h3, h4⟩⟩
theorem ref21_Kept_ok {s : SpaceV} (hs : SpaceIn s) (l : List Bool) : Wp (fun K _ => ref21_Kept K s l) (fun y => ∃ e out, y = ((((), (e, ())), ()), (out, ())) ∧ NRes s l (cntC (SetOf l) (Eq' s l) s.1.length) (KeptP s s.1.length) e out) := by
  simp only [ref21_Kept]
  refine (ref19_Begin_ok hs l).call fun y hy => ?_
  obtain ⟨e, rfl, he⟩ := hy
  refine Wp.iten (fun h0 => Wp.ret ⟨_, _, rfl, he, .inr ⟨h0, rfl⟩⟩) (fun h0 => ?_)
  simp only at h0
  subst h0
  obtain ⟨h1, h2⟩ := he.zero
  have hS := sys_of h1
  refine (ref21_components_ok hS h2).call fun y hy => ?_
  obtain ⟨of, rfl, h3⟩ := hy
  refine (ref21_all_ok hS (plain_of hs hS) h3).call fun y hy => ?_
  obtain ⟨out, rfl, h4⟩ := hy
  exact Wp.ret ⟨_, _, rfl, he, .inl ⟨rfl, of, h3, h4⟩⟩

theorem fairness_Core_ok {s : SpaceV} (hs : SpaceIn s) (l : List Bool) : Wp (fun K _ => fairness_Core K s l) (fun y => ∃ e out, y = ((((), (e, ())), ()), (out, ())) ∧ NRes s l s.1.length (CoreP s s.1.length l) e out) := by
  simp only [fairness_Core]
  refine (fairness_check_ok hs l).call fun y hy => ?_
  obtain ⟨e, rfl, he⟩ := hy
  refine Wp.iten (fun h0 => Wp.ret ⟨_, _, rfl, he, .inr ⟨h0, rfl⟩⟩) (fun h0 => ?_)
  simp only at h0
  subst h0
  obtain ⟨h1, h2⟩ := he.zero
  have hS := sys_of h1
  refine (fairness_components_ok hS h2).call fun y hy => ?_
  obtain ⟨of, rfl, h3⟩ := hy
  have hcl := cntC_le (SetOf l) (Eq' s l) s.1.length
  have hle := hS.le
  refine (fairness_kept_ok hS (plain_of hs hS) (by omega) (ofOk_of h3)).call fun y hy => ?_
  obtain ⟨kp, rfl, h4⟩ := hy
  simp only [h2, hS.ar, Int.toNat_natCast, numll_rep]
  refine Wp.posd (by omega) (Wp.posd (by omega) ?_)
  have hst := start_loop hS h2 (ofOk_of h3) (ofLeg h3) h4 s.1.length 0 (List.replicate s.1.length false) (List.replicate s.1.length []) [] (by omega) (started0 s _ l of) (by simp) (fun t j => by rw [getD_rep]; simp) (fun t => by rw [getD_rep]; simp)
  refine (Wp.diag hst).call fun y hy => ?_
  obtain ⟨out, F, todo, rfl, h5, h6, h7, h8⟩ := hy
  have hFm : ∀ t j, l.getD t false = false → (j ∈ F.getD t [] ↔ t ∈ outer s l j) := fun t j ht => by
    rw [h7, mem_outer]
    constructor
    · rintro ⟨_, h9, h10⟩; exact ⟨h9, h10, ht⟩
    · rintro ⟨h9, h10, _⟩; exact ⟨goals_lt hS (fun he => by rw [he] at h10; simp at h10), h9, h10⟩
  refine (Wp.diag (cmark_loop hS h6 hFm h8 _ out todo rfl h5.ci)).call fun y hy => ?_
  obtain ⟨out', rfl, h9⟩ := hy
  exact Wp.ret ⟨_, _, rfl, he, .inl ⟨rfl, of, h3, h9⟩⟩
theorem ref21_Core_ok {s : SpaceV} (hs : SpaceIn s) (l : List Bool) : Wp (fun K _ => ref21_Core K s l) (fun y => ∃ e out, y = ((((), (e, ())), ()), (out, ())) ∧ NRes s l s.1.length (CoreP s s.1.length l) e out) := by
  simp only [ref21_Core]
  refine (ref19_Begin_ok hs l).call fun y hy => ?_
  obtain ⟨e, rfl, he⟩ := hy
  refine Wp.iten (fun h0 => Wp.ret ⟨_, _, rfl, he, .inr ⟨h0, rfl⟩⟩) (fun h0 => ?_)
  simp only at h0
  subst h0
  obtain ⟨h1, h2⟩ := he.zero
  have hS := sys_of h1
  have hle := hS.le
  refine (ref21_components_ok hS h2).call fun y hy => ?_
  obtain ⟨of, rfl, h3⟩ := hy
  refine (ref21_back_ok hS h2).call fun y hy => ?_
  obtain ⟨F, rfl, h6, h7, h8⟩ := hy
  refine (ref21_all_ok hS (plain_of hs hS) h3).call fun y hy => ?_
  obtain ⟨kp, rfl, h4⟩ := hy
  simp only [h2, Int.toNat_natCast]
  refine Wp.posd (by omega) ?_
  have hst := rstart_loop hS h2 (ofOk_of h3) (ofLeg h3) h4 s.1.length 0 (List.replicate s.1.length false) [] (by omega) (started0 s _ l of)
  refine (Wp.diag hst).call fun y hy => ?_
  obtain ⟨out, todo, rfl, h5⟩ := hy
  refine (Wp.diag (rcmark_loop hS h6 (fun t j _ => h7 t j) h8 _ out todo rfl h5.ci)).call fun y hy => ?_
  obtain ⟨out', rfl, h9⟩ := hy
  exact Wp.ret ⟨_, _, rfl, he, .inl ⟨rfl, of, h3, h9⟩⟩
end Go.Proofs.Yteadlocehjfpoaa.G
