/- The program's attractor, by a worklist, is the attractor; its core is the complement. -/
import Derived.Test.YtafndpkfoajpnaaRefA
namespace Go.Proofs.Ytafndpkfoajpnaa.G
open Go Go.Fw

/-! The lists of where arcs come from. -/
theorem from_loop {s : SpaceV} {n : Nat} (hs : Sys s n) (x : Nat) (hx : x < n) : ∀ d i (F : List (List Nat)), i + d = (arcs s x).length → F.length = n → (∀ t j, (F.getD t []).count j = if j < x then (goals s j).count t else if j = x then ((goals s x).take i).count t else 0) → (∀ t, (F.getD t []).length ≤ total s x + i) →
    Wp (fun K k => converge_attractor_518554 K k (x : Int) (arcs s x) ((arcs s x).length : Int) (i : Int) (numll F)) (fun y => ∃ F' : List (List Nat), y = ((), (numll F', ())) ∧ F'.length = n ∧ (∀ t j, (F'.getD t []).count j = if j < x + 1 then (goals s j).count t else 0) ∧ ∀ t, (F'.getD t []).length ≤ total s (x + 1)) := by
  intro d
  induction d with
  | zero =>
    intro i F h1 h2 h3 h4
    refine Wp.step ?_
    simp only [converge_attractor_518554]
    refine Wp.negd (by omega) (Wp.ret ⟨F, rfl, h2, fun t j => ?_, fun t => by have := h4 t; show _ ≤ total s x + (arcs s x).length; omega⟩)
    rw [h3]
    by_cases ha : j < x
    · simp [ha, show j < x + 1 by omega]
    · by_cases hb : j = x
      · subst hb
        rw [if_neg ha, if_pos rfl, if_pos (by omega), List.take_of_length_le (by rw [goals_len]; omega)]
      · rw [if_neg ha, if_neg hb, if_neg (by omega)]
  | succ d ih =>
    intro i F h1 h2 h3 h4
    have hil : i < (arcs s x).length := by omega
    have hg := goals_at hs hil
    have htot := total_ge (s := s) hx
    have htt := hs.tot
    have hF := h4 ((goals s x).getD i 0)
    have hw := wrapS i (by omega)
    refine Wp.step ?_
    simp only [converge_attractor_518554, hw, Int.toNat_natCast, ato_def, hs.at' x i hil, numll_getD, numll_length, numl_length, numl_snoc, numll_set, List.length_singleton]
    refine Wp.posd (by omega) (Wp.posd (by omega) (Wp.posd (by omega) (Wp.posd (by omega) (Wp.posd (by omega) (Wp.posd trivial ?_)))))
    refine ih (i + 1) _ (by omega) (by simpa using h2) (fun t j => ?_) (fun t => ?_)
    · rw [gset, count_take_succ (by rw [goals_len]; exact hil)]
      by_cases hc : (goals s x).getD i 0 = t ∧ (goals s x).getD i 0 < F.length
      · rw [if_pos hc, List.count_append, hc.1, h3]
        by_cases ha : j < x
        · rw [if_pos ha, if_pos ha, List.count_singleton]
          have : (x == j) = false := by simp; omega
          simp [this]
        · by_cases hb : j = x
          · subst hb; simp
          · rw [if_neg ha, if_neg hb, if_neg ha, if_neg hb, List.count_singleton]
            have : (x == j) = false := by simp; omega
            simp [this]
      · have hc' : ¬ (goals s x).getD i 0 = t := fun hh => hc ⟨hh, by omega⟩
        rw [if_neg hc, h3, if_neg hc', Nat.add_zero]
    · rw [gset]
      split
      · rw [List.length_append, List.length_singleton]; omega
      · have := h4 t; omega

/-- the system is laid: what is left of each state's arcs, where they come from, and the states of the set -/
structure Laid (s : SpaceV) (n : Nat) (set : Nat → Bool) (x : Nat) (out : List Bool) (left : List Int) (F : List (List Nat)) (A : List Nat) : Prop where
  lo : out.length = n
  ll : left.length = n
  lF : F.length = n
  out : ∀ j, out.getD j false = (decide (j < x) && set j)
  left : ∀ j, left.getD j 0 = if j < x then ((goals s j).length : Int) else 0
  cnt : ∀ t j, (F.getD t []).count j = if j < x then (goals s j).count t else 0
  len : ∀ t, (F.getD t []).length ≤ total s x
  nd : A.Nodup
  mem : ∀ j, j ∈ A ↔ j < x ∧ set j = true
  lA : A.length ≤ x

theorem lay_loop {s : SpaceV} {n : Nat} (hs : Sys s n) (l : List Bool) (hl : l.length = n) : ∀ d x (out : List Bool) (left : List Int) (F : List (List Nat)) (A : List Nat), x + d = n → Laid s n (fun j => l.getD j false) x out left F A →
    Wp (fun K k => converge_attractor_506 K k l s.2.1 (n : Int) (x : Int) out left (numll F) (numl A)) (fun y => ∃ out' left' F' A', y = (((), ()), (numl A', (out', (left', (numll F', ()))))) ∧ Laid s n (fun j => l.getD j false) n out' left' F' A') := by
  intro d
  induction d with
  | zero =>
    intro x out left F A h1 h
    refine Wp.step ?_
    simp only [converge_attractor_506]
    refine Wp.negd (by omega) (Wp.ret ⟨out, left, F, A, rfl, ?_⟩)
    rw [show n = x by omega] at h ⊢
    exact h
  | succ d ih =>
    intro x out left F A h1 h
    have hx : x < n := by omega
    have hle := hs.le
    have hlA := h.lA
    have hfrom := from_loop hs x hx (arcs s x).length 0 F (by omega) h.lF (fun t j => by
      rw [h.cnt]
      by_cases ha : j < x
      · simp [ha]
      · simp [ha]) (fun t => by have := h.len t; omega)
    have har := hs.ar
    have hlo := h.lo
    have hll := h.ll
    have hF := h.lF
    refine Wp.step ?_
    simp only [converge_attractor_506, wrapS x (by omega), Int.toNat_natCast, arcs_def, numl_length, List.length_singleton]
    refine Wp.posd (by omega) (Wp.posd (by omega) (Wp.posd (by omega) ?_))
    refine (Wp.diag hfrom).call fun y hy => ?_
    obtain ⟨F', rfl, hF1, hF2, hF3⟩ := hy
    refine Wp.posd (by omega) ?_
    have hleft : ∀ j, (left.set x ((arcs s x).length : Int)).getD j 0 = if j < x + 1 then ((goals s j).length : Int) else 0 := fun j => by
      rw [gset]
      by_cases hj : x = j
      · subst hj; rw [if_pos ⟨rfl, by omega⟩, if_pos (by omega), goals_len]
      · rw [if_neg (fun hh => hj hh.1), h.left]
        by_cases hj2 : j < x
        · rw [if_pos hj2, if_pos (by omega)]
        · rw [if_neg hj2, if_neg (by omega)]
    refine Wp.iteb (fun hb => ?_) (fun hb => ?_)
    · refine Wp.posd (by omega) (Wp.posd (by omega) ?_)
      rw [numl_snoc]
      refine ih (x + 1) _ _ _ _ (by omega) ⟨by simpa using hlo, by simpa using hll, hF1, fun j => ?_, hleft, hF2, hF3, ?_, fun j => ?_, by simp; omega⟩
      · rw [gset]
        by_cases hj : x = j
        · subst hj; rw [if_pos ⟨rfl, by omega⟩]; simp only [hb]; simp
        · rw [if_neg (fun hh => hj hh.1), h.out]
          have : decide (j < x + 1) = decide (j < x) := by simp; omega
          rw [this]
      · rw [List.nodup_append]
        refine ⟨h.nd, by simp, fun a ha b hb2 => ?_⟩
        simp only [List.mem_singleton] at hb2
        have := ((h.mem a).1 ha).1
        omega
      · rw [List.mem_append, h.mem, List.mem_singleton]
        constructor
        · rintro (⟨h5, h6⟩ | rfl)
          · exact ⟨by omega, h6⟩
          · exact ⟨by omega, hb⟩
        · rintro ⟨h5, h6⟩
          rcases Nat.lt_or_ge j x with h7 | h7
          · exact .inl ⟨h7, h6⟩
          · exact .inr (by omega)
    · refine ih (x + 1) _ _ _ _ (by omega) ⟨hlo, by simpa using hll, hF1, fun j => ?_, hleft, hF2, hF3, h.nd, fun j => ?_, by omega⟩
      · rw [h.out]
        by_cases hj : x = j
        · subst hj; simp only [hb]; simp
        · have : decide (j < x + 1) = decide (j < x) := by simp; omega
          rw [this]
      · rw [h.mem]
        constructor
        · rintro ⟨h5, h6⟩; exact ⟨by omega, h6⟩
        · rintro ⟨h5, h6⟩
          refine ⟨?_, h6⟩
          rcases Nat.lt_or_ge j x with h7 | h7
          · exact h7
          · rw [show j = x by omega, hb] at h6; simp at h6

/-- the states that are done, those that wait, and what is left -/
structure Work (s : SpaceV) (n : Nat) (S : Nat → Prop) (F : List (List Nat)) (pr : Nat → Bool) (now : Nat → Prop) (sub : Nat → Nat) (out : List Bool) (left : List Int) (A : List Nat) : Prop where
  lo : out.length = n
  ll : left.length = n
  lft : ∀ j, j < n → left.getD j 0 = ((goals s j).countP (fun t => !pr t) : Int) - (sub j : Int)
  nd : A.Nodup
  mem : ∀ j ∈ A, j < n ∧ pr j = false ∧ ¬ now j
  ot : ∀ j, out.getD j false = true ↔ j < n ∧ (pr j = true ∨ j ∈ A ∨ now j)
  attr : ∀ j, out.getD j false = true → Attr (goals s) S j
  sup : ∀ j, S j → j < n → out.getD j false = true
  zero : ∀ j, j < n → left.getD j 0 = 0 → out.getD j false = true ∨ goals s j = []

theorem work_loop {s : SpaceV} {n : Nat} (hs : Sys s n) {S : Nat → Prop} {F : List (List Nat)} (hlen : ∀ t, (F.getD t []).length ≤ 262144) (hcnt : ∀ t j, (F.getD t []).count j = if j < n then (goals s j).count t else 0) {pr : Nat → Bool} {x : Nat} (hpr : pr x = false) :
    ∀ d i (out : List Bool) (left : List Int) (A : List Nat), i + d = (F.getD x []).length → Work s n S F pr (· = x) (fun j => ((F.getD x []).take i).count j) out left A →
    Wp (fun K k => converge_attractor_65070 K k (numl (F.getD x [])) ((F.getD x []).length : Int) (i : Int) out left (numl A)) (fun y => ∃ out' left' A', y = (((), ()), (numl A', (out', (left', ())))) ∧ holes out' + A'.length = holes out + A.length ∧ Work s n S F pr (· = x) (fun j => (F.getD x []).count j) out' left' A') := by
  intro d
  induction d with
  | zero =>
    intro i out left A h1 h
    refine Wp.step ?_
    simp only [converge_attractor_65070]
    refine Wp.negd (by omega) (Wp.ret ⟨out, left, A, rfl, rfl, ?_⟩)
    rw [List.take_of_length_le (by omega)] at h
    exact h
  | succ d ih =>
    intro i out left A h1 h
    have hil : i < (F.getD x []).length := by omega
    have hl := hlen x
    obtain ⟨j, hj⟩ : ∃ j, j = (F.getD x []).getD i 0 := ⟨_, rfl⟩
    have hmem : j ∈ F.getD x [] := by rw [hj]; exact getD_mem 0 hil
    have hjn : j < n := by
      have h2 := List.count_pos_iff.2 hmem
      rw [hcnt] at h2
      split at h2
      · assumption
      · omega
    have hle := hs.le
    have htot := hs.tot
    have hcount : (goals s j).count x = (F.getD x []).count j := by rw [hcnt, if_pos hjn]
    have hts := fun j' => count_take_succ hil (j := j')
    have hlj := h.lft j hjn
    have hc1 := count_le_countP pr x hpr (goals s j)
    have hc2 := count_take_le (F.getD x []) (i + 1) j
    have hc3 := hts j
    rw [← hj, if_pos rfl] at hc3
    have hc4 : (goals s j).countP (fun t => !pr t) ≤ 262144 := by
      have h2 : (goals s j).countP (fun t => !pr t) ≤ (goals s j).length := List.countP_le_length
      have h3 := total_ge (s := s) hjn
      rw [goals_len] at h2
      omega
    have hAn : A.length ≤ n := nodup_le n A h.nd fun y hy => (h.mem y hy).1
    have hlo := h.lo
    have hll := h.ll
    have hw : IntKind.i64.wrap (left.getD j 0 - 1) = ((goals s j).countP (fun t => !pr t) : Int) - ((((F.getD x []).take (i + 1)).count j : Nat) : Int) := by
      rw [hlj, hc3, wrapI (by omega) (by omega)]
      omega
    -- behind the step
    have hleft : ∀ j', j' < n → (left.set j (((goals s j).countP (fun t => !pr t) : Int) - ((((F.getD x []).take (i + 1)).count j : Nat) : Int))).getD j' 0 = ((goals s j').countP (fun t => !pr t) : Int) - ((((F.getD x []).take (i + 1)).count j' : Nat) : Int) := fun j' hj' => by
      rw [gset]
      by_cases hjj : j = j'
      · subst hjj; rw [if_pos ⟨rfl, by omega⟩]
      · rw [if_neg (fun hh => hjj hh.1), h.lft j' hj', hts, ← hj, if_neg hjj, Nat.add_zero]
    refine Wp.step ?_
    simp only [converge_attractor_65070, wrapS i (by omega), Int.toNat_natCast, numl_getD, numl_length, ← hj, hw, List.length_set]
    refine Wp.posd (by omega) (Wp.posd (by omega) (Wp.posd (by omega) (Wp.posd (by omega) (Wp.posd (by omega) ?_))))
    rw [gset_eq (by omega)]
    refine Wp.ited (fun h0 => ?_) (fun h0 => ?_)
    · refine Wp.posd (by omega) ?_
      cases ho : out.getD j false with
      | false =>
        simp only [converge_attractor_16658023, Bool.not_false, if_true, numl_length, List.length_singleton, Int.toNat_natCast]
        have g1 : decide (A.length + 1 ≤ 4294967296) = true := decide_eq_true (by omega)
        have g2 : decide (0 ≤ (j : Int) ∧ (j : Int) < (out.length : Int)) = true := decide_eq_true (by omega)
        simp only [g1, g2, if_true, Option.bind_some, numl_snoc]
        have hall : ∀ t ∈ goals s j, pr t = true ∨ t = x := only_of_count hpr (by omega)
        have hne : goals s j ≠ [] := fun he => by rw [he, List.count_nil] at hcount; omega
        have hxo : out.getD x false = true := by
          refine (h.ot x).2 ⟨?_, .inr (.inr rfl)⟩
          have hx1 : x ∈ goals s j := List.count_pos_iff.1 (by omega)
          exact hs.lt j x hx1
        have hattr : Attr (goals s) S j := .step hne fun t ht => by
          rcases hall t ht with h5 | rfl
          · exact h.attr t ((h.ot t).2 ⟨hs.lt j t ht, .inl h5⟩)
          · exact h.attr _ hxo
        have hjA : j ∉ A := fun hm => by
          have := (h.ot j).2 ⟨hjn, .inr (.inl hm)⟩
          rw [ho] at this; simp at this
        have hjp : pr j = false := by
          cases hp : pr j with
          | false => rfl
          | true =>
            have := (h.ot j).2 ⟨hjn, .inl hp⟩
            rw [ho] at this; simp at this
        have hjx : j ≠ x := fun he => by rw [he, hxo] at ho; simp at ho
        have hset : ∀ j', (out.set j true).getD j' false = true ↔ j' = j ∨ out.getD j' false = true := fun j' => by
          rw [gset]
          by_cases hjj : j = j'
          · subst hjj; rw [if_pos ⟨rfl, by omega⟩]; simp
          · rw [if_neg (fun hh => hjj hh.1)]; simp [Ne.symm hjj]
        refine (ih (i + 1) _ _ _ (by omega) ⟨by simpa using hlo, by simpa using hll, hleft, ?_, fun j' hj' => ?_, fun j' => ?_, fun j' hj' => ?_, fun j' h5 h6 => (hset j').2 (.inr (h.sup j' h5 h6)), fun j' h5 h6 => ?_⟩).mono fun y hy => ?_
        · rw [List.nodup_append]
          refine ⟨h.nd, by simp, fun a ha b hb2 => ?_⟩
          simp only [List.mem_singleton] at hb2
          exact fun he => hjA (by rw [← hb2, ← he]; exact ha)
        · rw [List.mem_append, List.mem_singleton] at hj'
          rcases hj' with hj' | rfl
          · exact h.mem j' hj'
          · exact ⟨hjn, hjp, hjx⟩
        · rw [hset, h.ot, List.mem_append, List.mem_singleton]
          constructor
          · rintro (rfl | ⟨h5, h6 | h6 | h6⟩)
            · exact ⟨hjn, .inr (.inl (.inr rfl))⟩
            · exact ⟨h5, .inl h6⟩
            · exact ⟨h5, .inr (.inl (.inl h6))⟩
            · exact ⟨h5, .inr (.inr h6)⟩
          · rintro ⟨h5, h6 | (h6 | h6) | h6⟩
            · exact .inr ⟨h5, .inl h6⟩
            · exact .inr ⟨h5, .inr (.inl h6)⟩
            · exact .inl h6
            · exact .inr ⟨h5, .inr (.inr h6)⟩
        · rcases (hset j').1 hj' with rfl | h5
          · exact hattr
          · exact h.attr j' h5
        · by_cases hjj : j' = j
          · subst hjj; exact .inl ((hset _).2 (.inl rfl))
          · rw [gset_ne (Ne.symm hjj)] at h6
            exact (h.zero j' h5 h6).imp (fun h7 => (hset j').2 (.inr h7)) (fun h7 => h7)
        · obtain ⟨o', l', A', h5, h6, h7⟩ := hy
          have := holes_set (l := out) (i := j) (by omega) ho
          exact ⟨o', l', A', h5, by rw [h6]; simp; omega, h7⟩
      | true =>
        simp only [converge_attractor_16658023, Bool.not_true, Bool.false_eq_true, if_false, Option.bind_some]
        refine ih (i + 1) _ _ _ (by omega) ⟨hlo, by simpa using hll, hleft, h.nd, h.mem, h.ot, h.attr, h.sup, fun j' h5 h6 => ?_⟩
        by_cases hjj : j' = j
        · subst hjj; exact .inl ho
        · rw [gset_ne (Ne.symm hjj)] at h6
          exact h.zero j' h5 h6
    · simp only [converge_attractor_16658023, Bool.false_eq_true, if_false, Option.bind_some]
      refine ih (i + 1) _ _ _ (by omega) ⟨hlo, by simpa using hll, hleft, h.nd, h.mem, h.ot, h.attr, h.sup, fun j' h5 h6 => ?_⟩
      by_cases hjj : j' = j
      · subst hjj
        rw [gset_eq (by omega)] at h6
        exact absurd h6 h0
      · rw [gset_ne (Ne.symm hjj)] at h6
        exact h.zero j' h5 h6

theorem done_loop {s : SpaceV} {n : Nat} (hs : Sys s n) {S : Nat → Prop} {F : List (List Nat)} (hF : F.length = n) (hlen : ∀ t, (F.getD t []).length ≤ 262144) (hcnt : ∀ t j, (F.getD t []).count j = if j < n then (goals s j).count t else 0) :
    ∀ m (pr : Nat → Bool) (out : List Bool) (left : List Int) (A : List Nat), holes out + A.length = m → Work s n S F pr (fun _ => False) (fun _ => 0) out left A →
    Wp (fun K k => converge_attractor_508 K k (numll F) out left (numl A)) (fun y => ∃ out' : List Bool, y = ((), (out', ())) ∧ out'.length = n ∧ ∀ j, j < n → (out'.getD j false = true ↔ Attr (goals s) S j)) := by
  intro m
  induction m with
  | zero =>
    intro pr out left A hm h
    refine Wp.step ?_
    simp only [converge_attractor_508, numl_length]
    have hA : A = [] := List.eq_nil_of_length_eq_zero (by omega)
    subst hA
    refine Wp.negd (by simp) (Wp.ret ⟨out, rfl, h.lo, fun j hj => ⟨h.attr j, fun ha => ?_⟩⟩)
    refine Classical.byContradiction fun hn => ?_
    have hne : out.getD j false = true := by
      have h2 : holes out = 0 := by omega
      unfold holes at h2
      rw [List.countP_eq_zero] at h2
      have := h2 _ (getD_mem false (by rw [h.lo]; exact hj))
      simpa using this
    exact hn hne
  | succ m ih =>
    intro pr out left A hm h
    have hAn : A.length ≤ n := nodup_le n A h.nd fun y hy => (h.mem y hy).1
    have hle := hs.le
    refine Wp.step ?_
    simp only [converge_attractor_508, numl_length]
    refine Wp.ited (fun hp => ?_) (fun hp => ?_)
    · have hw := wrapP A.length (by omega) (by omega)
      obtain ⟨x, hx⟩ : ∃ x, x = A.getD (A.length - 1) 0 := ⟨_, rfl⟩
      have hlast : A = A.take (A.length - 1) ++ [x] := by
        have h1 := List.take_succ_eq_append_getElem (l := A) (i := A.length - 1) (by omega)
        rw [show A.length - 1 + 1 = A.length by omega, List.take_length] at h1
        rw [hx, getD_at 0 (by omega)]
        exact h1
      have hxm : x ∈ A := by rw [hlast]; simp
      obtain ⟨hxn, hxp, _⟩ := h.mem x hxm
      have hnd := h.nd
      rw [hlast, List.nodup_append] at hnd
      simp only [hw, Int.toNat_natCast, numl_getD, ← hx, numl_take, numll_length, numll_getD, numl_length]
      refine Wp.posd (by omega) (Wp.posd (by omega) (Wp.posd (by omega) ?_))
      have hwork := work_loop hs hlen hcnt hxp (F.getD x []).length 0 out left (A.take (A.length - 1)) (by omega) ⟨h.lo, h.ll, fun j hj => by rw [h.lft j hj]; simp, hnd.1, fun j hj => ?_, fun j => ?_, h.attr, h.sup, h.zero⟩
      · refine (Wp.diag hwork).call fun y hy => ?_
        obtain ⟨out', left', A', rfl, h1, h2⟩ := hy
        have hpr : ∀ j, (pr j || j == x) = true ↔ pr j = true ∨ j = x := fun j => by simp
        refine ih (fun j => pr j || j == x) _ _ _ ?_ ⟨h2.lo, h2.ll, fun j hj => ?_, h2.nd, fun j hj => ?_, fun j => ?_, h2.attr, h2.sup, h2.zero⟩
        · rw [h1, List.length_take]; omega
        · rw [h2.lft j hj, hcnt, if_pos hj]
          have := countP_split pr x hxp (goals s j)
          simp only [Int.ofNat_zero]
          omega
        · obtain ⟨h5, h6, h7⟩ := h2.mem j hj
          refine ⟨h5, ?_, fun hh => hh⟩
          simp only [h6, Bool.false_or]
          simpa using h7
        · rw [h2.ot, hpr]
          constructor
          · rintro ⟨h5, h6 | h6 | h6⟩
            · exact ⟨h5, .inl (.inl h6)⟩
            · exact ⟨h5, .inr (.inl h6)⟩
            · exact ⟨h5, .inl (.inr h6)⟩
          · rintro ⟨h5, (h6 | h6) | h6 | h6⟩
            · exact ⟨h5, .inl h6⟩
            · exact ⟨h5, .inr (.inr h6)⟩
            · exact ⟨h5, .inr (.inl h6)⟩
            · exact h6.elim
      · obtain ⟨h5, h6, _⟩ := h.mem j (by rw [hlast]; exact List.mem_append_left _ hj)
        refine ⟨h5, h6, fun he => ?_⟩
        exact hnd.2.2 j hj x (by simp) he
      · rw [h.ot]
        constructor
        · rintro ⟨h5, h6 | h6 | h6⟩
          · exact ⟨h5, .inl h6⟩
          · rw [hlast, List.mem_append, List.mem_singleton] at h6
            exact ⟨h5, .inr h6⟩
          · exact h6.elim
        · rintro ⟨h5, h6 | h6 | h6⟩
          · exact ⟨h5, .inl h6⟩
          · exact ⟨h5, .inr (.inl (by rw [hlast]; exact List.mem_append_left _ h6))⟩
          · exact ⟨h5, .inr (.inl (h6 ▸ hxm))⟩
    · have hA : A = [] := List.eq_nil_of_length_eq_zero (by omega)
      subst hA
      refine Wp.ret ⟨out, rfl, h.lo, fun j hj => ⟨h.attr j, fun ha => ?_⟩⟩
      refine Classical.byContradiction fun hn => ?_
      refine Attr.coind (C := fun j => j < n ∧ ¬ out.getD j false = true) (fun i hi => ⟨fun hS => hi.2 (h.sup i hS hi.1), ?_⟩) ⟨hj, hn⟩ ha
      rcases Classical.em (left.getD i 0 = 0) with h0 | h0
      · rcases h.zero i hi.1 h0 with h1 | h1
        · exact absurd h1 hi.2
        · exact .inl h1
      · have hl := h.lft i hi.1
        have hpos : 0 < (goals s i).countP (fun t => !pr t) := by
          rcases Nat.eq_zero_or_pos ((goals s i).countP (fun t => !pr t)) with h5 | h5
          · rw [h5] at hl; exact absurd (by simpa using hl) h0
          · exact h5
        rw [List.countP_pos_iff] at hpos
        obtain ⟨t, ht, hpt⟩ := hpos
        refine .inr ⟨t, ht, hs.lt i t ht, fun hot => ?_⟩
        obtain ⟨_, h6 | h6 | h6⟩ := (h.ot t).1 hot
        · simp [h6] at hpt
        · simp at h6
        · exact h6

theorem converge_attractor_ok {s : SpaceV} {n : Nat} (hs : Sys s n) (l : List Bool) (hl : l.length = n) :
    Wp (fun K _ => converge_attractor K s l) (fun y => ∃ out, y = (((), ()), (out, ())) ∧ Tells n out (Attr (goals s) (SetOf l))) := by
  have hle := hs.le
  have h0 : Laid s n (fun j => l.getD j false) 0 (List.replicate n false) (List.replicate n 0) (List.replicate n []) [] := by
    refine ⟨by simp, by simp, by simp, fun j => ?_, fun j => ?_, fun t j => ?_, fun t => ?_, List.nodup_nil, fun j => ?_, Nat.le_refl _⟩
    · rw [getD_rep]; simp
    · rw [getD_rep]; simp
    · rw [getD_rep]; simp
    · rw [getD_rep]; simp
    · simp
  have hlay := lay_loop hs l hl n 0 _ _ _ _ (by omega) h0
  simp only [converge_attractor, hl, hs.ar, Int.toNat_natCast, numll_rep]
  refine Wp.posd (by omega) (Wp.posd (by omega) (Wp.posd (by omega) ?_))
  refine (Wp.diag hlay).call fun y hy => ?_
  obtain ⟨out, left, F, A, rfl, h⟩ := hy
  have htot := hs.tot
  have hout : ∀ j, out.getD j false = true ↔ j < n ∧ l.getD j false = true := fun j => by rw [h.out]; simp
  have hw : Work s n (SetOf l) F (fun _ => false) (fun _ => False) (fun _ => 0) out left A := by
    refine ⟨h.lo, h.ll, fun j hj => ?_, h.nd, fun j hj => ⟨((h.mem j).1 hj).1, rfl, fun hh => hh⟩, fun j => ?_, fun j hj => .base ((hout j).1 hj).2, fun j h1 h2 => (hout j).2 ⟨h2, h1⟩, fun j hj h1 => ?_⟩
    · rw [h.left, if_pos hj]
      have : (goals s j).countP (fun t => !false) = (goals s j).length := by simp
      rw [this]; simp
    · rw [hout]
      constructor
      · rintro ⟨h1, h2⟩; exact ⟨h1, .inr (.inl ((h.mem j).2 ⟨h1, h2⟩))⟩
      · rintro ⟨h1, h2 | h2 | h2⟩
        · simp at h2
        · exact (h.mem j).1 h2
        · exact h2.elim
    · rw [h.left, if_pos hj] at h1
      exact .inr (List.eq_nil_of_length_eq_zero (by omega))
  refine (Wp.diag (done_loop hs h.lF (fun t => Nat.le_trans (h.len t) htot) h.cnt _ _ out left A rfl hw)).call fun y hy => ?_
  obtain ⟨out', rfl, h1, h2⟩ := hy
  exact Wp.ret ⟨out', rfl, h1, h2⟩
theorem converge_check_ok {s : SpaceV} (hs : SpaceIn s) (l : List Bool) : Wp (fun K _ => converge_check K s l) (fun y => ∃ e, y = ((e, ()), ()) ∧ Chk s l e) := by
  simp only [converge_check]
  refine (space_Valid_ok hs).call fun y hy => ?_
  obtain ⟨b, rfl, hb⟩ := hy
  refine Wp.itebn (fun h0 => Wp.ret ⟨_, rfl, .inr (.inl ⟨rfl, fun hp => ?_⟩)⟩) (fun h1 => ?_)
  · rw [← hb] at hp
    simp only at h0
    rw [h0] at hp; simp at hp
  · have hp := hb.1 h1
    refine Wp.iten (fun hn => Wp.ret ⟨_, rfl, .inr (.inr ⟨rfl, hp, fun he => hn (by rw [hp.2.2.1, he])⟩)⟩) (fun he => Wp.ret ⟨_, rfl, .inl ⟨rfl, hp, by rw [hp.2.2.1] at he; omega⟩⟩)

theorem not_loop (l : List Bool) (hl : l.length ≤ 32768) : ∀ d x (o : List Bool), x + d = l.length → o.length = l.length → (∀ j, o.getD j false = if j < x then !(l.getD j false) else l.getD j false) →
    Wp (fun K k => converge_Core_122 K k (l.length : Int) (x : Int) o) (fun y => ∃ o' : List Bool, y = ((), (o', ())) ∧ o'.length = l.length ∧ ∀ j, j < l.length → o'.getD j false = !(l.getD j false)) := by
  intro d
  induction d with
  | zero =>
    intro x o h1 h2 h3
    refine Wp.step ?_
    simp only [converge_Core_122]
    refine Wp.negd (by omega) (Wp.ret ⟨o, rfl, h2, fun j hj => ?_⟩)
    rw [h3, if_pos (by omega)]
  | succ d ih =>
    intro x o h1 h2 h3
    refine Wp.step ?_
    simp only [converge_Core_122, wrapS x (by omega), Int.toNat_natCast]
    refine Wp.posd (by omega) (Wp.posd (by omega) (Wp.posd (by omega) ?_))
    refine ih (x + 1) _ (by omega) (by simpa using h2) fun j => ?_
    rw [gset]
    by_cases hj : x = j
    · subst hj; rw [if_pos ⟨rfl, by omega⟩, h3, if_neg (by omega), if_pos (by omega)]
    · rw [if_neg (fun hh => hj hh.1), h3]
      by_cases hj2 : j < x
      · rw [if_pos hj2, if_pos (by omega)]
      · rw [if_neg hj2, if_neg (by omega)]

theorem converge_Core_ok {s : SpaceV} (hs : SpaceIn s) (l : List Bool) : Wp (fun K _ => converge_Core K s l) (fun y => ∃ e out, y = ((((), (e, ())), ()), (out, ())) ∧ Res s l (fun j => ¬ Attr (goals s) (SetOf l) j) e out) := by
  simp only [converge_Core]
  refine (converge_check_ok hs l).call fun y hy => ?_
  obtain ⟨e, rfl, he⟩ := hy
  refine Wp.iten (fun h0 => Wp.ret ⟨_, _, rfl, he, .inr ⟨h0, rfl⟩⟩) (fun h0 => ?_)
  simp only at h0
  subst h0
  obtain ⟨h1, h2⟩ := he.zero
  have hle := h1.2.1
  refine (converge_attractor_ok (sys_of h1) l h2).call fun y hy => ?_
  obtain ⟨out, rfl, h3⟩ := hy
  have hlo := h3.1
  refine (Wp.diag (not_loop out (by omega) out.length 0 out (by omega) rfl (fun j => by rw [if_neg (by omega)]))).call fun y hy => ?_
  obtain ⟨o', rfl, h4, h5⟩ := hy
  refine Wp.ret ⟨_, _, rfl, he, .inl ⟨rfl, h4.trans hlo, fun j hj => ?_⟩⟩
  rw [h5 j (by omega)]
  show _ ↔ ¬ Attr (goals s) (SetOf l) j
  rw [← h3.2 j hj]
  cases out.getD j false <;> simp

end Go.Proofs.Ytafndpkfoajpnaa.G
