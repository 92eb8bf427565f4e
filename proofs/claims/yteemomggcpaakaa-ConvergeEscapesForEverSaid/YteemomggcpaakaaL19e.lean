/- The laws ConvergeEscapes and ConvergeEscapesForEver. -/
import Derived.Test.YteemomggcpaakaaL19d
namespace Go.Fw
open Go
theorem mget_mput (κ : IntKind) {v : Type} : ∀ (m : List (Int × v)) (x y : Int) (z : v), mget (.int κ) (mput (.int κ) m x z) y = if y = x then some z else mget (.int κ) m y
  | [], x, y, z => by
    simp only [mput, mget, GTy.beq]
    by_cases h : y = x <;> simp [h]
  | p :: r, x, y, z => by
    simp only [mput]
    by_cases h : x = p.1
    · rw [if_pos (by simp [GTy.beq, h])]
      simp only [mget, GTy.beq, decide_eq_true_eq]
      by_cases h2 : y = x
      · simp [h2]
      · rw [if_neg h2, if_neg h2, if_neg (by rw [← h]; exact h2)]
    · rw [if_neg (by simp [GTy.beq, h])]
      simp only [mget, GTy.beq, decide_eq_true_eq]
      by_cases h2 : y = p.1
      · rw [if_pos h2, if_pos h2, if_neg (by rw [h2]; exact fun he => h he.symm)]
      · rw [if_neg h2, if_neg h2]
        exact mget_mput κ r x y z
theorem view_drop {α : Type} (l : List α) (p : Nat) : view l (some (p, l.length - p)) = l.drop p := by
  cases p with
  | zero => simp only [view, Nat.sub_zero, List.take_length, List.drop_zero]
  | succ p =>
    simp only [view]
    exact List.take_of_length_le (by rw [List.length_drop]; exact Nat.le_refl _)
end Go.Fw
namespace Go.Proofs.Yteemomggcpaakaa.G
open Go Go.Fw

/-- the first goal in a set -/
def nx (c : List Bool) (l : List Nat) : Option Nat := l.find? fun t => c.getD t false

/-- an execution by first arcs into a set, behind some states: its way and its loop -/
inductive Esc (s : SpaceV) (c : List Bool) : List Nat → Nat → List Nat → List Nat → Prop
  | back {seen : List Nat} {x : Nat} : x ∈ seen → Esc s c seen x (seen.take (seen.idxOf x)) (seen.drop (seen.idxOf x))
  | stop {seen : List Nat} {x : Nat} : x ∉ seen → nx c (goals s x) = none → Esc s c seen x (seen ++ [x]) []
  | go {seen : List Nat} {x t : Nat} {p q : List Nat} : x ∉ seen → nx c (goals s x) = some t → Esc s c (seen ++ [x]) t p q → Esc s c seen x p q

theorem nx_some {c : List Bool} {l : List Nat} {t : Nat} (h : nx c l = some t) : t ∈ l ∧ c.getD t false = true := ⟨List.mem_of_find?_eq_some h, List.find?_some (p := fun t => c.getD t false) h⟩
theorem nx_none {c : List Bool} {l : List Nat} (h : nx c l = none) : ∀ t ∈ l, c.getD t false = false := fun t ht => by
  have := List.find?_eq_none.1 h t ht
  simpa only [Bool.not_eq_true] using this

theorem esc_ex {s : SpaceV} {n : Nat} (hs : Sys s n) (c : List Bool) : ∀ m (seen : List Nat) (x : Nat), n - seen.length = m → seen.Nodup → (∀ y ∈ seen, y < n) → x < n → ∃ p q, Esc s c seen x p q := by
  intro m
  induction m with
  | zero =>
    intro seen x hm hd hy hx
    by_cases h : x ∈ seen
    · exact ⟨_, _, .back h⟩
    · have h2 := nodup_le n (x :: seen) (List.nodup_cons.2 ⟨h, hd⟩) (fun y hm => by
        rcases List.mem_cons.1 hm with rfl | hm
        · exact hx
        · exact hy y hm)
      rw [List.length_cons] at h2
      omega
  | succ m ih =>
    intro seen x hm hd hy hx
    by_cases h : x ∈ seen
    · exact ⟨_, _, .back h⟩
    · cases hn : nx c (goals s x) with
      | none => exact ⟨_, _, .stop h hn⟩
      | some t =>
        have hd' : (seen ++ [x]).Nodup := by
          rw [List.nodup_append]
          exact ⟨hd, by simp, fun a ha b hb hab => h (by rw [List.mem_singleton] at hb; rw [← hb, ← hab]; exact ha)⟩
        obtain ⟨p, q, h3⟩ := ih (seen ++ [x]) t (by rw [List.length_append, List.length_singleton]; omega) hd' (fun y hm => by
          rcases List.mem_append.1 hm with hm | hm
          · exact hy y hm
          · rw [List.mem_singleton] at hm; omega) (hs.lt x t (nx_some hn).1)
        exact ⟨p, q, .go h hn h3⟩

/-- where the execution has been -/
structure Seen (s : SpaceV) (n : Nat) (c : List Bool) (seen : List Nat) (x : Nat) : Prop where
  nd : seen.Nodup
  lt : ∀ y ∈ seen, y < n
  xn : x < n
theorem Seen.len {s : SpaceV} {n : Nat} {c : List Bool} {seen : List Nat} {x : Nat} (h : Seen s n c seen x) : seen.length ≤ n := nodup_le n seen h.nd h.lt
theorem Seen.go {s : SpaceV} {n : Nat} (hs : Sys s n) {c : List Bool} {seen : List Nat} {x t : Nat} (h : Seen s n c seen x) (hx : x ∉ seen) (ht : t ∈ goals s x) : Seen s n c (seen ++ [x]) t where
  nd := by
    rw [List.nodup_append]
    exact ⟨h.nd, by simp, fun a ha b hb hab => hx (by rw [List.mem_singleton] at hb; rw [← hb, ← hab]; exact ha)⟩
  lt := fun y hm => by
    rcases List.mem_append.1 hm with hm | hm
    · exact h.lt y hm
    · rw [List.mem_singleton] at hm; have := h.xn; omega
  xn := hs.lt x t ht

theorem first_loop {s : SpaceV} {n : Nat} (hs : Sys s n) (c : List Bool) (hc : c.length = n) (x : Nat) (hx : x < n) : ∀ d i, i + d = (arcs s x).length →
    Wp (fun K k => converge_Escape_458298 K k c (arcs s x) ((arcs s x).length : Int) (i : Int)) (fun y => match nx c ((goals s x).drop i) with
      | some t => y = .inl (((t : Int), ()), ())
      | none => y = .inr ((), ())) := by
  have htot := total_ge (s := s) hx
  have htt := hs.tot
  intro d
  induction d with
  | zero =>
    intro i h1
    refine Wp.step ?_
    simp only [converge_Escape_458298]
    refine Wp.negd (by omega) (Wp.ret ?_)
    rw [List.drop_eq_nil_of_le (by rw [goals_len]; omega)]
    rfl
  | succ d ih =>
    intro i h1
    have hil : i < (arcs s x).length := by omega
    have hg := goals_at hs hil
    have hd : (goals s x).drop i = (goals s x).getD i 0 :: (goals s x).drop (i + 1) := by
      rw [getD_at 0 (by rw [goals_len]; exact hil)]
      exact List.drop_eq_getElem_cons (by rw [goals_len]; exact hil)
    refine Wp.step ?_
    simp only [converge_Escape_458298, wrapS i (by omega), Int.toNat_natCast, ato_def, hs.at' x i hil, hd, nx, List.find?_cons]
    refine Wp.posd (by omega) (Wp.posd (by omega) (Wp.posd (by omega) ?_))
    cases hb : c.getD ((goals s x).getD i 0) false with
    | true => exact Wp.iteb (fun _ => Wp.ret rfl) (fun h => by simp at h)
    | false => exact Wp.iteb (fun h => by simp at h) (fun _ => ih (i + 1) (by omega))

theorem esc_loop {s : SpaceV} {n : Nat} (hs : Sys s n) (c : List Bool) (hc : c.length = n) {seen : List Nat} {x : Nat} {p q : List Nat} (h : Esc s c seen x p q) : ∀ (m : List (Int × Int)), Seen s n c seen x → (∀ y : Nat, mget (.int .i64) m (y : Int) = if y ∈ seen then some ((seen.idxOf y : Nat) : Int) else none) →
    Wp (fun K k => converge_Escape_1790 K k c (x : Int) s m (numl seen)) (fun y => y = (((), ((), (0, ()))), (numl p, (numl q, ())))) := by
  have hle := hs.le
  have har := hs.ar
  induction h with
  | @back seen x hx =>
    intro m hS hm
    have hl := hS.len
    have hi := List.idxOf_lt_length_of_mem hx
    refine Wp.step ?_
    simp only [converge_Escape_1790, hm, if_pos hx, Option.isSome_some, Option.getD_some, Int.toNat_natCast, numl_length, List.length_nil, List.nil_append, numl_take, if_true]
    have hv : view (numl seen) (some (seen.idxOf x, seen.length - seen.idxOf x)) = numl (seen.drop (seen.idxOf x)) := by
      rw [← numl_length seen, view_drop, numl_drop]
    simp only [hv, numl_length, List.length_take, List.length_drop]
    exact Wp.posd (by omega) (Wp.posd (by omega) (Wp.posd (by omega) (Wp.posd (by omega) (Wp.ret rfl))))
  | @stop seen x hx hn =>
    intro m hS hm
    have hl := hS.len
    have hxn := hS.xn
    refine Wp.step ?_
    simp only [converge_Escape_1790, hm, if_neg hx, Option.isSome_none, Bool.false_eq_true, if_false, numl_length, List.length_singleton, Int.toNat_natCast, arcs_def]
    refine Wp.posd (by omega) (Wp.posd (by omega) ?_)
    refine (Wp.diag (first_loop hs c hc x hxn (arcs s x).length 0 (by omega))).call fun y hy => ?_
    rw [List.drop_zero, hn] at hy
    simp only at hy
    subst hy
    exact Wp.ret (by rw [numl_snoc]; rfl)
  | @go seen x t p q hx hn _ ih =>
    intro m hS hm
    have hl := hS.len
    have hxn := hS.xn
    refine Wp.step ?_
    simp only [converge_Escape_1790, hm, if_neg hx, Option.isSome_none, Bool.false_eq_true, if_false, numl_length, List.length_singleton, Int.toNat_natCast, arcs_def]
    refine Wp.posd (by omega) (Wp.posd (by omega) ?_)
    refine (Wp.diag (first_loop hs c hc x hxn (arcs s x).length 0 (by omega))).call fun y hy => ?_
    rw [List.drop_zero, hn] at hy
    simp only at hy
    subst hy
    rw [numl_snoc]
    refine ih _ (hS.go hs hx (nx_some hn).1) fun y => ?_
    rw [mget_mput, hm]
    by_cases hy : y = x
    · subst hy
      rw [if_pos rfl, if_pos (by simp), List.idxOf_append, if_neg hx]
      simp
    · rw [if_neg (by omega)]
      by_cases hys : y ∈ seen
      · rw [if_pos hys, if_pos (List.mem_append_left _ hys), List.idxOf_append, if_pos hys]
      · rw [if_neg hys, if_neg (by simp [hys, hy])]

theorem find_loop (l : List Nat) (x : Nat) (hl : l.length ≤ 1000000) : ∀ d i, i + d = l.length → (∀ j, j < i → l.getD j 0 ≠ x) →
    Wp (fun K k => ref19_find_26 K k (numl l) (x : Int) (i : Int)) (fun y => if x ∈ l then y = .inr ((((l.idxOf x : Nat) : Int), ()), ()) else y = .inl ((), ())) := by
  intro d
  induction d with
  | zero =>
    intro i h1 h2
    refine Wp.step ?_
    simp only [ref19_find_26, numl_length]
    refine Wp.negd (by omega) (Wp.ret ?_)
    rw [if_neg]
    intro hm
    obtain ⟨j, h3, h4⟩ := mem_getD 0 hm
    exact h2 j (by omega) h4
  | succ d ih =>
    intro i h1 h2
    refine Wp.step ?_
    simp only [ref19_find_26, numl_length, numl_getD, wrapS i (by omega), Int.toNat_natCast]
    refine Wp.posd (by omega) (Wp.posd (by omega) ?_)
    refine Wp.ited (fun hx => Wp.ret ?_) (fun hx => ih (i + 1) (by omega) fun j hj => ?_)
    · have hx : l.getD i 0 = x := by omega
      have hm : x ∈ l := by rw [← hx]; exact getD_mem 0 (by omega)
      rw [if_pos hm]
      have h3 := List.idxOf_lt_length_of_mem hm
      have h4 : l.getD (l.idxOf x) 0 = x := by rw [getD_at 0 h3]; exact List.getElem_idxOf h3
      have h5 : l.idxOf x = i := by
        rcases Nat.lt_trichotomy (l.idxOf x) i with h6 | h6 | h6
        · exact absurd h4 (h2 _ h6)
        · exact h6
        · exfalso
          have h7 := List.not_of_lt_findIdx (p := fun y => y == x) (xs := l) (i := i) h6
          rw [getD_at 0 (by omega)] at hx
          simp [hx] at h7
      rw [h5]
    · rcases Nat.lt_or_ge j i with h3 | h3
      · exact h2 j h3
      · rw [show j = i by omega]; omega
theorem find_ok (l : List Nat) (x : Nat) (hl : l.length ≤ 1000000) : Wp (fun K _ => ref19_find K (numl l) (x : Int)) (fun y => if x ∈ l then y = ((((l.idxOf x : Nat) : Int), ()), ()) else y = (((-1), ()), ())) := by
  simp only [ref19_find]
  refine (Wp.diag (find_loop l x hl l.length 0 (by omega) (fun j hj => absurd hj (Nat.not_lt_zero _)))).call fun y hy => ?_
  by_cases h : x ∈ l
  · rw [if_pos h] at hy; subst hy; exact Wp.ret (by rw [if_pos h])
  · rw [if_neg h] at hy; subst hy; exact Wp.ret (by rw [if_neg h])

theorem follow_loop {s : SpaceV} {n : Nat} (hs : Sys s n) (c : List Bool) (hc : c.length = n) (x : Nat) (hx : x < n) : ∀ d i, i + d = (arcs s x).length →
    Wp (fun K k => ref19_follow_26 K k (arcs s x) c (i : Int)) (fun y => match nx c ((goals s x).drop i) with
      | some t => y = .inr (((t : Int), ()), ())
      | none => y = .inl ((), ())) := by
  have htot := total_ge (s := s) hx
  have htt := hs.tot
  intro d
  induction d with
  | zero =>
    intro i h1
    refine Wp.step ?_
    simp only [ref19_follow_26]
    refine Wp.negd (by omega) (Wp.ret ?_)
    rw [List.drop_eq_nil_of_le (by rw [goals_len]; omega)]
    rfl
  | succ d ih =>
    intro i h1
    have hil : i < (arcs s x).length := by omega
    have hg := goals_at hs hil
    have hd : (goals s x).drop i = (goals s x).getD i 0 :: (goals s x).drop (i + 1) := by
      rw [getD_at 0 (by rw [goals_len]; exact hil)]
      exact List.drop_eq_getElem_cons (by rw [goals_len]; exact hil)
    refine Wp.step ?_
    simp only [ref19_follow_26, wrapS i (by omega), Int.toNat_natCast, ato_def, hs.at' x i hil, hd, nx, List.find?_cons]
    refine Wp.posd (by omega) (Wp.posd (by omega) (Wp.posd (by omega) ?_))
    cases hb : c.getD ((goals s x).getD i 0) false with
    | true => exact Wp.iteb (fun _ => Wp.posd (by omega) (Wp.ret rfl)) (fun h => by simp at h)
    | false => exact Wp.iteb (fun h => by simp at h) (fun _ => ih (i + 1) (by omega))
theorem follow_ok {s : SpaceV} {n : Nat} (hs : Sys s n) (c : List Bool) (hc : c.length = n) (x : Nat) (hx : x < n) : Wp (fun K _ => ref19_follow K (arcs s x) c) (fun y => match nx c (goals s x) with
      | some t => y = (((t : Int), ()), ())
      | none => y = (((-1), ()), ())) := by
  simp only [ref19_follow]
  refine (Wp.diag (follow_loop hs c hc x hx (arcs s x).length 0 (by omega))).call fun y hy => ?_
  rw [List.drop_zero] at hy
  cases h : nx c (goals s x) with
  | some t => rw [h] at hy; simp only at hy; subst hy; exact Wp.ret rfl
  | none => rw [h] at hy; simp only at hy; subst hy; exact Wp.ret rfl

/-- how the reference's loop ends -/
def EscEnd (p q : List Nat) (y : ((Unit × Unit) × ((List Int) × Unit)) ⊕ ((Unit × (Unit × (Int × Unit))) × ((List Int) × ((List Int) × Unit)))) : Prop :=
  (q = [] ∧ y = .inl (((), ()), (numl p, ()))) ∨ y = .inr (((), ((), (0, ()))), (numl p, (numl q, ())))

theorem resc_loop {s : SpaceV} {n : Nat} (hs : Sys s n) (c : List Bool) (hc : c.length = n) {seen : List Nat} {x : Nat} {p q : List Nat} (h : Esc s c seen x p q) : Seen s n c seen x →
    Wp (fun K k => ref19_Escape_506 K k c (x : Int) s (numl seen)) (fun y => EscEnd p q y) := by
  have hle := hs.le
  have har := hs.ar
  induction h with
  | @back seen x hx =>
    intro hS
    have hl := hS.len
    have hi := List.idxOf_lt_length_of_mem hx
    refine Wp.step ?_
    simp only [ref19_Escape_506]
    refine Wp.posd (by omega) ?_
    refine (find_ok seen x (by omega)).call fun y hy => ?_
    rw [if_pos hx] at hy
    subst hy
    have hv : view (numl seen) (some (seen.idxOf x, seen.length - seen.idxOf x)) = numl (seen.drop (seen.idxOf x)) := by
      rw [← numl_length seen, view_drop, numl_drop]
    simp only [Int.toNat_natCast, numl_length, List.length_nil, List.nil_append, numl_take, hv, List.length_take, List.length_drop]
    exact Wp.posd (by omega) (Wp.posd (by omega) (Wp.posd (by omega) (Wp.posd (by omega) (Wp.posd (by omega) (Wp.ret (.inr rfl))))))
  | @stop seen x hx hn =>
    intro hS
    have hl := hS.len
    have hxn := hS.xn
    refine Wp.step ?_
    simp only [ref19_Escape_506]
    refine Wp.posd (by omega) ?_
    refine (find_ok seen x (by omega)).call fun y hy => ?_
    rw [if_neg hx] at hy
    subst hy
    simp only [numl_length, List.length_singleton, Int.toNat_natCast, arcs_def]
    refine Wp.negd (by omega) (Wp.posd (by omega) (Wp.posd (by omega) ?_))
    refine (follow_ok hs c hc x hxn).call fun y hy => ?_
    rw [hn] at hy
    simp only at hy
    subst hy
    refine Wp.step ?_
    simp only [ref19_Escape_506]
    exact Wp.negd (by omega) (Wp.ret (.inl ⟨rfl, by rw [numl_snoc]⟩))
  | @go seen x t p q hx hn _ ih =>
    intro hS
    have hl := hS.len
    have hxn := hS.xn
    refine Wp.step ?_
    simp only [ref19_Escape_506]
    refine Wp.posd (by omega) ?_
    refine (find_ok seen x (by omega)).call fun y hy => ?_
    rw [if_neg hx] at hy
    subst hy
    simp only [numl_length, List.length_singleton, Int.toNat_natCast, arcs_def]
    refine Wp.negd (by omega) (Wp.posd (by omega) (Wp.posd (by omega) ?_))
    refine (follow_ok hs c hc x hxn).call fun y hy => ?_
    rw [hn] at hy
    simp only at hy
    subst hy
    rw [numl_snoc]
    exact ih (hS.go hs hx (nx_some hn).1)

/-- what an escape is: an error, or an execution -/
def EscRes (s : SpaceV) (l : List Bool) (x : Int) (e : Int) (a b : List Int) : Prop :=
  (∃ f, Chk s l f ∧ f ≠ 0 ∧ e = f ∧ a = [] ∧ b = []) ∨ (Chk s l 0 ∧ ∃ c, Tells s.1.length c (fun j => ¬ Attr (goals s) (SetOf l) j) ∧
    ((¬ (0 ≤ x ∧ x < (s.1.length : Int) ∧ c.getD x.toNat false = true) ∧ e = 2 ∧ a = [] ∧ b = []) ∨ (∃ y : Nat, x = (y : Int) ∧ y < s.1.length ∧ c.getD y false = true ∧ ∃ p q, Esc s c [] y p q ∧ e = 0 ∧ a = numl p ∧ b = numl q)))

theorem Esc.unique {s : SpaceV} {c : List Bool} {seen : List Nat} {x : Nat} {p q p' q' : List Nat} (h : Esc s c seen x p q) (h' : Esc s c seen x p' q') : p = p' ∧ q = q' := by
  induction h generalizing p' q' with
  | back hx =>
    cases h' with
    | back _ => exact ⟨rfl, rfl⟩
    | stop h1 _ => exact absurd hx h1
    | go h1 _ _ => exact absurd hx h1
  | stop hx hn =>
    cases h' with
    | back h1 => exact absurd h1 hx
    | stop _ _ => exact ⟨rfl, rfl⟩
    | go _ h2 _ => rw [hn] at h2; simp at h2
  | go hx hn _ ih =>
    cases h' with
    | back h1 => exact absurd h1 hx
    | stop _ h2 => rw [hn] at h2; simp at h2
    | go _ h2 h3 =>
      rw [hn] at h2
      simp only [Option.some.injEq] at h2
      subst h2
      exact ih h3

theorem EscRes.unique {s : SpaceV} {l : List Bool} {x e f : Int} {a b a' b' : List Int} (h : EscRes s l x e a b) (h' : EscRes s l x f a' b') : e = f ∧ a = a' ∧ b = b' := by
  rcases h with ⟨f1, h1, h2, rfl, rfl, rfl⟩ | ⟨h1, c, h2, h3⟩ <;> rcases h' with ⟨f2, h4, h5, rfl, rfl, rfl⟩ | ⟨h4, c', h5, h6⟩
  · exact ⟨h1.unique h4, rfl, rfl⟩
  · exact absurd (h1.unique h4) h2
  · exact absurd (h4.unique h1) h5
  · have hc := h2.unique h5
    subst hc
    rcases h3 with ⟨h7, rfl, rfl, rfl⟩ | ⟨y, rfl, h7, h8, p, q, h9, rfl, rfl, rfl⟩ <;> rcases h6 with ⟨h10, rfl, rfl, rfl⟩ | ⟨z, h10, h11, h12, p', q', h13, rfl, rfl, rfl⟩
    · exact ⟨rfl, rfl, rfl⟩
    · subst h10
      exact absurd ⟨by omega, by omega, by simpa only [Int.toNat_natCast] using h12⟩ h7
    · exact absurd ⟨by omega, by omega, by simpa only [Int.toNat_natCast] using h8⟩ h10
    · have : y = z := by omega
      subst this
      obtain ⟨rfl, rfl⟩ := h9.unique h13
      exact ⟨rfl, rfl, rfl⟩

theorem seen0 {s : SpaceV} {n : Nat} {c : List Bool} {x : Nat} (hx : x < n) : Seen s n c [] x := ⟨List.nodup_nil, fun y hy => by simp at hy, hx⟩

theorem converge_Escape_ok {s : SpaceV} (hs : SpaceIn s) (l : List Bool) (x : Int) : Wp (fun K _ => converge_Escape K s l x) (fun y => ∃ e a b, y = ((((), ((), (e, ()))), ()), (a, (b, ()))) ∧ EscRes s l x e a b) := by
  simp only [converge_Escape]
  refine (converge_Core_ok hs l).call fun y hy => ?_
  obtain ⟨e, c, rfl, he⟩ := hy
  refine Wp.iten (fun h0 => Wp.ret ⟨_, _, _, rfl, .inl ⟨e, he.1, h0, rfl, rfl, rfl⟩⟩) (fun h0 => ?_)
  simp only at h0
  subst h0
  obtain ⟨h1, h2⟩ := he.1.zero
  have hT := (he.fair h1 h2).2
  have hS := sys_of h1
  have hc := hT.1
  have bad : ¬ (0 ≤ x ∧ x < (s.1.length : Int) ∧ c.getD x.toNat false = true) → Wp (fun K (_ : Nat) => (converge_Escape_109 K true).bind fun y => match y with
      | .inl _ => (converge_Escape_55 K x c s).bind fun z => some ((((), ((), (z.1.2.2.1, ()))), ()), (z.2.1, (z.2.2.1, ())))
      | .inr z => some ((((), ((), (z.1.2.2.1, ()))), ()), (z.2.1, (z.2.2.1, ())))) (fun y => ∃ e a b, y = ((((), ((), (e, ()))), ()), (a, (b, ()))) ∧ EscRes s l x e a b) := fun h => by
    simp only [converge_Escape_109, if_true, Option.bind_some]
    exact Wp.ret ⟨_, _, _, rfl, .inr ⟨he.1, c, hT, .inl ⟨h, rfl, rfl, rfl⟩⟩⟩
  dsimp only
  refine Wp.ited (fun hA => bad (fun h => by omega)) (fun hA => ?_)
  refine Wp.ited (fun hB => bad (fun h => by omega)) (fun hB => ?_)
  refine Wp.posd (by omega) ?_
  cases hb : c.getD x.toNat false with
  | false => exact bad (fun h => by rw [hb] at h; simp at h)
  | true =>
    obtain ⟨y, rfl⟩ : ∃ y : Nat, x = (y : Int) := ⟨x.toNat, by omega⟩
    rw [Int.toNat_natCast] at hb
    have hy : y < s.1.length := by omega
    obtain ⟨p, q, hE⟩ := esc_ex hS c _ [] y rfl List.nodup_nil (fun y hy => by simp at hy) hy
    simp only [converge_Escape_109, Bool.not_true, Bool.false_eq_true, if_false, Option.bind_some, converge_Escape_55]
    refine Wp.bind (Wp.bind ?_)
    refine (Wp.diag (esc_loop hS c hc hE [] (seen0 hy) (fun z => by simp [mget]))).mono fun z hz => ?_
    subst hz
    exact Wp.ret (Wp.ret ⟨_, _, _, rfl, .inr ⟨he.1, c, hT, .inr ⟨y, rfl, hy, hb, p, q, hE, rfl, rfl, rfl⟩⟩⟩)

theorem ref19_Escape_ok {s : SpaceV} (hs : SpaceIn s) (l : List Bool) (x : Int) : Wp (fun K _ => ref19_Escape K s l x) (fun y => ∃ e a b, y = ((((), ((), (e, ()))), ()), (a, (b, ()))) ∧ EscRes s l x e a b) := by
  simp only [ref19_Escape]
  refine (ref19_Core_ok hs l).call fun y hy => ?_
  obtain ⟨e, c, rfl, he⟩ := hy
  refine Wp.iten (fun h0 => Wp.ret ⟨_, _, _, rfl, .inl ⟨e, he.1, h0, rfl, rfl, rfl⟩⟩) (fun h0 => ?_)
  simp only at h0
  subst h0
  obtain ⟨h1, h2⟩ := he.1.zero
  have hT := (he.fair h1 h2).2
  have hS := sys_of h1
  have hc := hT.1
  have hle := hS.le
  have hpos := hS.pos
  simp only [ref01_In_eq, Option.bind_some, wrapI (show (-9223372036854775808 : Int) ≤ (c.length : Int) - 1 by omega) (show (c.length : Int) - 1 ≤ 9223372036854775807 by omega)]
  refine Wp.iten (fun hA => Wp.ret ⟨_, _, _, rfl, .inr ⟨he.1, c, hT, .inl ⟨fun h => hA (by omega), rfl, rfl, rfl⟩⟩⟩) (fun hA => ?_)
  refine Wp.posd (by omega) ?_
  obtain ⟨y, rfl⟩ : ∃ y : Nat, x = (y : Int) := ⟨x.toNat, by omega⟩
  simp only [Int.toNat_natCast]
  have hy : y < s.1.length := by omega
  refine Wp.itebn (fun hb => Wp.ret ⟨_, _, _, rfl, .inr ⟨he.1, c, hT, .inl ⟨fun h => by rw [Int.toNat_natCast, hb] at h; simp at h, rfl, rfl, rfl⟩⟩⟩) (fun hb => ?_)
  obtain ⟨p, q, hE⟩ := esc_ex hS c _ [] y rfl List.nodup_nil (fun y hy => by simp at hy) hy
  refine (Wp.diag (resc_loop hS c hc hE (seen0 hy))).call fun z hz => ?_
  rcases hz with ⟨rfl, rfl⟩ | rfl
  · exact Wp.ret ⟨_, _, _, rfl, .inr ⟨he.1, c, hT, .inr ⟨y, rfl, hy, hb, p, [], hE, rfl, rfl, rfl⟩⟩⟩
  · exact Wp.ret ⟨_, _, _, rfl, .inr ⟨he.1, c, hT, .inr ⟨y, rfl, hy, hb, p, q, hE, rfl, rfl, rfl⟩⟩⟩

theorem sameInts_loop (l : List Int) (hl : l.length ≤ 1000000) : ∀ d i, i + d = l.length → Wp (fun K k => ref01_SameInts_58 K k l l (i : Int)) (fun y => y = .inl ((), ())) := by
  intro d
  induction d with
  | zero =>
    intro i h1
    refine Wp.step ?_
    simp only [ref01_SameInts_58]
    exact Wp.negd (by omega) (Wp.ret rfl)
  | succ d ih =>
    intro i h1
    refine Wp.step ?_
    simp only [ref01_SameInts_58, wrapS i (by omega), Int.toNat_natCast]
    exact Wp.posd (by omega) (Wp.posd (by omega) (Wp.posd (by omega) (Wp.negn trivial (ih (i + 1) (by omega)))))
theorem sameInts_refl (l : List Int) (hl : l.length ≤ 1000000) : Wp (fun K _ => ref01_SameInts K l l) (fun y => y = ((true, ()), ())) := by
  simp only [ref01_SameInts]
  refine Wp.negn trivial ?_
  exact Wp.callE (Wp.diag (sameInts_loop l hl l.length 0 (by omega))) (Wp.ret rfl)

/-! ### What an execution is -/
def Path (s : SpaceV) (l : List Nat) : Prop := ∀ i, i + 1 < l.length → l.getD (i + 1) 0 ∈ goals s (l.getD i 0)
structure Way (s : SpaceV) (n : Nat) (c : List Bool) (x : Nat) (p q : List Nat) : Prop where
  ne : p ++ q ≠ []
  le : (p ++ q).length ≤ n
  hd : (p ++ q).getD 0 0 = x
  inC : ∀ y ∈ p ++ q, y < n ∧ c.getD y false = true
  path : Path s (p ++ q)
  stop : q = [] → goals s ((p ++ q).getD ((p ++ q).length - 1) 0) = []
  loop : q ≠ [] → q.getD 0 0 ∈ goals s ((p ++ q).getD ((p ++ q).length - 1) 0)

theorem esc_way {s : SpaceV} {n : Nat} (hs : Sys s n) {c : List Bool} (hcore : ∀ x, x < n → c.getD x false = true → goals s x = [] ∨ ∃ t ∈ goals s x, c.getD t false = true) {seen : List Nat} {x : Nat} {p q : List Nat} (h : Esc s c seen x p q) :
    ∀ x0, Seen s n c seen x → (∀ y ∈ seen ++ [x], c.getD y false = true) → Path s (seen ++ [x]) → (seen ++ [x]).getD 0 0 = x0 → Way s n c x0 p q := by
  induction h with
  | @back seen x hx =>
    intro x0 hS hC hP h0
    have hi := List.idxOf_lt_length_of_mem hx
    have hpos : 0 < seen.length := by omega
    have hx0 : seen.getD 0 0 = x0 := by rw [← h0, getD_append, if_pos hpos]
    have hdrop : (seen.drop (seen.idxOf x)).getD 0 0 = x := by
      rw [getD_at 0 (by rw [List.length_drop]; omega), List.getElem_drop]
      simp only [Nat.add_zero]
      exact List.getElem_idxOf hi
    refine ⟨?_, ?_, ?_, ?_, ?_, ?_, ?_⟩ <;> rw [List.take_append_drop]
    · intro h; rw [h] at hpos; simp at hpos
    · exact hS.len
    · exact hx0
    · exact fun y hy => ⟨hS.lt y hy, hC y (List.mem_append_left _ hy)⟩
    · intro i hi2
      have := hP i (by rw [List.length_append]; omega)
      rw [getD_append, getD_append, if_pos hi2, if_pos (by omega)] at this
      exact this
    · intro h
      have := congrArg List.length h
      rw [List.length_drop, List.length_nil] at this
      omega
    · intro _
      have := hP (seen.length - 1) (by rw [List.length_append, List.length_singleton]; omega)
      rw [getD_append, getD_append, if_neg (show ¬ seen.length - 1 + 1 < seen.length by omega), if_pos (show seen.length - 1 < seen.length by omega), show seen.length - 1 + 1 - seen.length = 0 by omega] at this
      rw [hdrop]
      exact this
  | @stop seen x hx hn =>
    intro x0 hS hC hP h0
    have hxc : c.getD x false = true := hC x (by simp)
    have hlt : ∀ y ∈ seen ++ [x], y < n := fun y hy => by
      rcases List.mem_append.1 hy with h | h
      · exact hS.lt y h
      · rw [List.mem_singleton] at h; rw [h]; exact hS.xn
    have hnd : (seen ++ [x]).Nodup := by
      rw [List.nodup_append]
      exact ⟨hS.nd, by simp, fun a ha b hb hab => hx (by rw [List.mem_singleton] at hb; rw [← hb, ← hab]; exact ha)⟩
    refine ⟨?_, ?_, ?_, ?_, ?_, ?_, fun h => absurd rfl h⟩ <;> rw [List.append_nil]
    · simp
    · exact nodup_le n _ hnd hlt
    · exact h0
    · exact fun y hy => ⟨hlt y hy, hC y hy⟩
    · exact hP
    · intro _
      rw [List.length_append, List.length_singleton, Nat.add_sub_cancel, getD_append, if_neg (Nat.lt_irrefl _), Nat.sub_self]
      show goals s x = []
      rcases hcore x hS.xn hxc with h1 | ⟨t, h1, h2⟩
      · exact h1
      · rw [nx_none hn t h1] at h2; simp at h2
  | @go seen x t p q hx hn _ ih =>
    intro x0 hS hC hP h0
    obtain ⟨h1, h2⟩ := nx_some hn
    refine ih x0 (hS.go hs hx h1) (fun y hy => ?_) (fun i hi => ?_) ?_
    · rcases List.mem_append.1 hy with h | h
      · exact hC y h
      · rw [List.mem_singleton] at h; rw [h]; exact h2
    · rw [List.length_append, List.length_singleton] at hi
      rcases Nat.lt_or_ge (i + 1) (seen ++ [x]).length with h3 | h3
      · have e1 : (seen ++ [x] ++ [t]).getD (i + 1) 0 = (seen ++ [x]).getD (i + 1) 0 := getD_app1 h3
        have e2 : (seen ++ [x] ++ [t]).getD i 0 = (seen ++ [x]).getD i 0 := getD_app1 (by omega)
        rw [e1, e2]
        exact hP i h3
      · have h4 : i = seen.length := by rw [List.length_append, List.length_singleton] at hi h3; omega
        have h5 : (seen ++ [x]).length = seen.length + 1 := by rw [List.length_append, List.length_singleton]
        have e1 : (seen ++ [x] ++ [t]).getD (i + 1) 0 = t := by
          rw [getD_app2 h3, h5, h4, Nat.sub_self]; rfl
        have e2 : (seen ++ [x] ++ [t]).getD i 0 = x := by
          rw [getD_app1 (by omega), h4, getD_app2 (Nat.le_refl _), Nat.sub_self]; rfl
        rw [e1, e2]
        exact h1
    · rw [getD_append, if_pos (by simp)]
      exact h0

theorem leads_loop {s : SpaceV} {n : Nat} (hs : Sys s n) (x t : Nat) (hx : x < n) (ht : t ∈ goals s x) : ∀ d i, i + d = (arcs s x).length → (∀ j, j < i → (goals s x).getD j 0 ≠ t) →
    Wp (fun K k => law19_leads_26 K k (x : Int) (t : Int) (i : Int) s) (fun y => y = .inr ((true, ()), ())) := by
  have htot := total_ge (s := s) hx
  have htt := hs.tot
  have har := hs.ar
  intro d
  induction d with
  | zero =>
    intro i h1 h2
    exfalso
    obtain ⟨j, h3, h4⟩ := mem_getD 0 ht
    rw [goals_len] at h3
    exact h2 j (by omega) h4
  | succ d ih =>
    intro i h1 h2
    have hil : i < (arcs s x).length := by omega
    refine Wp.step ?_
    simp only [law19_leads_26, wrapS i (by omega), Int.toNat_natCast, arcs_def, ato_def, hs.at' x i hil]
    refine Wp.posd (by omega) (Wp.posd (by omega) (Wp.posd (by omega) (Wp.posd (by omega) ?_)))
    refine Wp.ited (fun _ => Wp.ret rfl) (fun hne => ih (i + 1) (by omega) fun j hj => ?_)
    rcases Nat.lt_or_ge j i with h3 | h3
    · exact h2 j h3
    · rw [show j = i by omega]; omega
theorem leads_ok {s : SpaceV} {n : Nat} (hs : Sys s n) (x t : Nat) (hx : x < n) (ht : t ∈ goals s x) : Wp (fun K _ => law19_leads K s (x : Int) (t : Int)) (fun y => y = ((true, ()), ())) := by
  simp only [law19_leads]
  exact Wp.callE (Wp.diag (leads_loop hs x t hx ht (arcs s x).length 0 (by omega) (fun j hj => absurd hj (Nat.not_lt_zero _)))) (Wp.ret rfl)

theorem ever_loop {s : SpaceV} {n : Nat} (hs : Sys s n) (l : List Bool) (hl : l.length = n) (al : List Nat) (hal : al.length ≤ n) (hin : ∀ y ∈ al, y < n ∧ l.getD y false = false) (hp : Path s al) : ∀ d i, i + d = al.length →
    Wp (fun K k => law19_ConvergeEscapesForEver_4090 K k l (i : Int) s (numl al)) (fun y => y = .inl ((), (s, (numl al, ())))) := by
  have hle := hs.le
  intro d
  induction d with
  | zero =>
    intro i h1
    refine Wp.step ?_
    simp only [law19_ConvergeEscapesForEver_4090, numl_length]
    exact Wp.negd (by omega) (Wp.ret rfl)
  | succ d ih =>
    intro i h1
    have hi : i < al.length := by omega
    obtain ⟨h2, h3⟩ := hin _ (getD_mem 0 hi)
    refine Wp.step ?_
    simp only [law19_ConvergeEscapesForEver_4090, numl_length, numl_getD, wrapS i (by omega), Int.toNat_natCast, h3]
    refine Wp.posd (by omega) (Wp.posd (by omega) (Wp.negd (by omega) (Wp.posd (by omega) (Wp.negd (by omega) (Wp.posd (by omega) (Wp.posd (by omega) ?_))))))
    refine Wp.iteb (fun h => by simp at h) (fun _ => ?_)
    refine Wp.ited (fun hpos => ?_) (fun _ => ih (i + 1) (by omega))
    have hw := wrapP i (by omega) (by omega)
    have hprev : (al.getD (i - 1) 0) < n := (hin _ (getD_mem 0 (by omega))).1
    have hg := hp (i - 1) (by omega)
    rw [show i - 1 + 1 = i by omega] at hg
    simp only [hw, Int.toNat_natCast]
    refine Wp.posd (by omega) (Wp.posd (by omega) ?_)
    refine Wp.callE (leads_ok hs _ _ hprev hg) (Wp.itebn (fun h => by simp at h) (fun _ => ih (i + 1) (by omega)))

theorem EscRes.len {s : SpaceV} {l : List Bool} {x e : Int} {a b : List Int} (h : EscRes s l x e a b) (hs : s.1.length ≤ 200) : a.length ≤ 1000000 ∧ b.length ≤ 1000000 := by
  rcases h with ⟨f1, h1, h2, rfl, rfl, rfl⟩ | ⟨h1, c, h2, h3⟩
  · simp
  · rcases h3 with ⟨h7, rfl, rfl, rfl⟩ | ⟨y, rfl, h7, h8, p, q, h9, rfl, rfl, rfl⟩
    · simp
    · have hS := sys_of h1.zero.1
      have hW : (p ++ q).length ≤ s.1.length := by
        have := esc_way hS (c := c) (fun x hx hc => by
          rcases (Attr.not_of ((h2.2 x hx).1 hc)).2 with h3 | ⟨t, h3, h4⟩
          · exact .inl h3
          · exact .inr ⟨t, h3, (h2.2 t (hS.lt x t h3)).2 h4⟩) h9 y (seen0 h7) (fun z hz => by
            rw [List.nil_append, List.mem_singleton] at hz; rw [hz]; exact h8) (fun i hi => by simp at hi) rfl
        exact this.le
      rw [List.length_append] at hW
      rw [numl_length, numl_length]
      omega

theorem escapes (s : SpaceV) (l : List Bool) (x : Int) (hs : okD spaceG s) : Wp (fun K _ => law19_ConvergeEscapes K s l x) (fun y => y = ((true, ()), ())) := by
  simp only [law19_ConvergeEscapes]
  refine (light_ok hs l).call fun y hy => ?_
  obtain ⟨b, rfl, hb⟩ := hy
  refine Wp.itebn (fun _ => asleep rfl) (fun h1 => ?_)
  have hL := hb h1
  refine (converge_Escape_ok hL.inn l x).call fun y hy => ?_
  obtain ⟨e1, a1, b1, rfl, r1⟩ := hy
  refine (ref19_Escape_ok hL.inn l x).call fun y hy => ?_
  obtain ⟨e2, a2, b2, rfl, r2⟩ := hy
  obtain ⟨rfl, rfl, rfl⟩ := r1.unique r2
  obtain ⟨l1, l2⟩ := r1.len hL.few
  refine Wp.callE awake19 (Wp.iteb (fun _ => ?_) (fun h => by simp at h))
  refine Wp.callE (sameInts_refl a1 l1) (Wp.iteb (fun _ => ?_) (fun h => by simp at h))
  refine Wp.callE (sameInts_refl b1 l2) (Wp.iteb (fun _ => ?_) (fun h => by simp at h))
  exact Wp.ret (by simp)

theorem pure_law19_ConvergeEscapes : ∀ x, okS [spaceG, .slice .bool, .int .i64] 0 x → ∃ K, law19_ConvergeEscapes K x.1 x.2.1 x.2.2.1 = some ((true, ()), ()) := by
  rintro ⟨s, l, x, _⟩ ⟨hs, _, _⟩
  exact (escapes s l x hs).outE

theorem numl_append' (p q : List Nat) : numl p ++ numl q = numl (p ++ q) := by simp [numl]

theorem forEver (s : SpaceV) (l : List Bool) (x : Int) (hs : okD spaceG s) : Wp (fun K _ => law19_ConvergeEscapesForEver K s l x) (fun y => y = ((true, ()), ())) := by
  simp only [law19_ConvergeEscapesForEver]
  refine (fair_ok hs l).call fun y hy => ?_
  obtain ⟨b, rfl, hb⟩ := hy
  refine Wp.itebn (fun _ => asleep rfl) (fun h1 => ?_)
  obtain ⟨hL, hP, hl⟩ := hb h1
  have hfew := hL.few
  have hS := sys_of hP
  have hpos := hS.pos
  refine (made_Mod_ok (x := x) (n := l.length) (by omega) (by omega)).call fun y hy => ?_
  obtain ⟨m, rfl, hm⟩ := hy
  refine (converge_Escape_ok hL.inn l (m : Int)).call fun y hy => ?_
  obtain ⟨e, a, b, rfl, r⟩ := hy
  refine (ref19_Core_ok hL.inn l).call fun y hy => ?_
  obtain ⟨f, c, rfl, rc⟩ := hy
  obtain ⟨h0, hT⟩ := rc.fair hP hl
  subst h0
  have hc := hT.1
  simp only [Int.toNat_natCast]
  refine Wp.posd (by omega) ?_
  -- the execution
  rcases r with ⟨f1, h2, h3, _⟩ | ⟨h2, c', h3, h4⟩
  · exact absurd (h2.fair hP hl) h3
  have hcc := h3.unique hT
  subst hcc
  rcases h4 with ⟨h5, rfl, rfl, rfl⟩ | ⟨y, h5, h6, h7, p, q, h8, rfl, rfl, rfl⟩
  · have hb : c'.getD m false = false := by
      cases hcm : c'.getD m false with
      | false => rfl
      | true => exact absurd ⟨by omega, by omega, by rw [Int.toNat_natCast]; exact hcm⟩ h5
    rw [hb]
    refine Wp.itebn (fun _ => ?_) (fun h => by simp at h)
    refine Wp.callE awake19 (Wp.iteb (fun _ => ?_) (fun h => by simp at h))
    exact Wp.posd rfl (Wp.posd (by simp) (Wp.ret (by simp)))
  · have : y = m := by omega
    subst this
    have hcore : ∀ x, x < s.1.length → c'.getD x false = true → goals s x = [] ∨ ∃ t ∈ goals s x, c'.getD t false = true := fun x hx hcx => by
      rcases (Attr.not_of ((hT.2 x hx).1 hcx)).2 with h3 | ⟨t, h3, h4⟩
      · exact .inl h3
      · exact .inr ⟨t, h3, (hT.2 t (hS.lt x t h3)).2 h4⟩
    have hW := esc_way hS hcore h8 y (seen0 h6) (fun z hz => by
      rw [List.nil_append, List.mem_singleton] at hz; rw [hz]; exact h7) (fun i hi => by simp at hi) rfl
    have hle := hW.le
    have hne : 0 < (p ++ q).length := Nat.pos_of_ne_zero fun h => hW.ne (List.eq_nil_of_length_eq_zero h)
    have hpq : (p ++ q).length = p.length + q.length := List.length_append
    rw [h7]
    refine Wp.itebn (fun h => by simp at h) (fun _ => ?_)
    have hnl : ∀ z ∈ p ++ q, z < s.1.length ∧ l.getD z false = false := fun z hz => by
      obtain ⟨h9, h10⟩ := hW.inC z hz
      refine ⟨h9, ?_⟩
      cases hlz : l.getD z false with
      | false => rfl
      | true => exact absurd (.base hlz) ((hT.2 z h9).1 h10)
    have hlast := hnl _ (getD_mem 0 (show (p ++ q).length - 1 < (p ++ q).length by omega))
    have hw := wrapP (p ++ q).length (by omega) (by omega)
    have har := hS.ar
    simp only [List.nil_append, numl_append', numl_length, List.length_nil, numl_getD, show ((0 : Int).toNat) = 0 from rfl, hW.hd]
    refine Wp.posd (by omega) (Wp.posd (by omega) (Wp.negn trivial (Wp.negd (by omega) (Wp.negd (by omega) (Wp.posd (by omega) (Wp.negn trivial ?_))))))
    refine Wp.callE (Wp.diag (ever_loop hS l hl (p ++ q) hle hnl hW.path (p ++ q).length 0 (by omega))) ?_
    simp only [numl_length, hw, Int.toNat_natCast, numl_getD, arcs_def]
    refine Wp.posd (by omega) ?_
    refine Wp.ited (fun hq => ?_) (fun hq => ?_)
    · have hq : q = [] := List.eq_nil_of_length_eq_zero (by omega)
      have hst := hW.stop hq
      refine Wp.callE awake19 (Wp.iteb (fun _ => ?_) (fun h => by simp at h))
      refine Wp.posd (by omega) (Wp.ret ?_)
      have h9 : (arcs s ((p ++ q).getD ((p ++ q).length - 1) 0)).length = 0 := by rw [← goals_len, hst]; rfl
      have h10 : (((arcs s ((p ++ q).getD ((p ++ q).length - 1) 0)).length : Int) = 0) = True := eq_true (by omega)
      simp only [h10, decide_true]
    · have hlo := hW.loop (fun h => hq (by rw [h]; rfl))
      refine Wp.callE awake19 (Wp.iteb (fun _ => ?_) (fun h => by simp at h))
      refine Wp.posd (by omega) ?_
      exact Wp.callE (leads_ok hS _ _ hlast.1 hlo) (Wp.ret rfl)

theorem pure_law19_ConvergeEscapesForEver : ∀ x, okS [spaceG, .slice .bool, .int .i64] 0 x → ∃ K, law19_ConvergeEscapesForEver K x.1 x.2.1 x.2.2.1 = some ((true, ()), ()) := by
  rintro ⟨s, l, x, _⟩ ⟨hs, _, _⟩
  exact (forEver s l x hs).outE
end Go.Proofs.Yteemomggcpaakaa.G
