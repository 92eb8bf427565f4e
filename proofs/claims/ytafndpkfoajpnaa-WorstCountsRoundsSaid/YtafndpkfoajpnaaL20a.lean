/- The laws of layer 20: what they share; WorstMeasures. -/
import Derived.Test.YtafndpkfoajpnaaConvP
import Derived.Test.YtafndpkfoajpnaaWorstV1
import Derived.Test.YtafndpkfoajpnaaWorstV2
import Derived.Test.YtafndpkfoajpnaaWorstR
namespace Go.Proofs.Ytafndpkfoajpnaa.G
open Go Go.Fw

theorem awake_n (n : Nat) : law20_awake (n + 100) = some ((true, ()), ()) := by kernel_rfl
theorem awake20 : Wp (fun K _ => law20_awake K) (fun y => y = ((true, ()), ())) := Wp.of_add 100 awake_n rfl
/-- a law that is asleep: it says what the sanity check says -/
theorem asleep {K' : Nat → Nat → Option ((Bool × Unit) × Unit)} (h : K' = fun K _ => (law20_awake K).bind fun y => some ((y.1.1, ()), ())) : Wp K' (fun y => y = ((true, ()), ())) := by
  subst h
  exact Wp.callE awake20 (Wp.ret rfl)

theorem light_loop (s : SpaceV) (hl : s.2.1.length ≤ 120) : ∀ d i, i + d = s.2.1.length →
    Wp (fun K k => law20_light_58 K k (i : Int) s) (fun y => Look y (∀ j, i ≤ j → j < s.2.1.length → (arcs s j).length ≤ 40)) := by
  intro d
  induction d with
  | zero =>
    intro i h1
    refine Wp.step ?_
    simp only [law20_light_58]
    refine Wp.negd (by omega) (Wp.ret ?_)
    exact .inl ⟨rfl, by rw [show i = s.2.1.length by omega]; exact all_end⟩
  | succ d ih =>
    intro i h1
    have hil : i < s.2.1.length := by omega
    rw [all_step hil]
    refine Wp.step ?_
    simp only [law20_light_58, wrapS i (by omega), Int.toNat_natCast, arcs_def]
    refine Wp.posd (by omega) (Wp.posd (by omega) ?_)
    refine Wp.ited (fun hA => Wp.ret (.inr ⟨⟨_, rfl⟩, fun hc => by have := hc.1; omega⟩)) (fun hA => ?_)
    refine (ih (i + 1) (by omega)).mono fun y hy => ?_
    rcases hy with ⟨h4, h5⟩ | ⟨h4, h5⟩
    · exact .inl ⟨h4, by omega, h5⟩
    · exact .inr ⟨h4, fun hc => h5 hc.2⟩

/-- small enough to be looked at -/
structure Light (s : SpaceV) (l : List Bool) : Prop where
  inn : SpaceIn s
  len : l.length ≤ 130
  few : s.1.length ≤ 120

theorem light_ok {s : SpaceV} (hs : okD spaceG s) (l : List Bool) : Wp (fun K _ => law20_light K s l) (fun y => ∃ b, y = ((b, ()), ()) ∧ (b = true → Light s l)) := by
  simp only [law20_light]
  refine Wp.ited (fun _ => Wp.ret ⟨_, rfl, by simp⟩) (fun h1 => ?_)
  refine Wp.ited (fun _ => Wp.ret ⟨_, rfl, by simp⟩) (fun h2 => ?_)
  refine Wp.ited (fun _ => Wp.ret ⟨_, rfl, by simp⟩) (fun h3 => ?_)
  refine (Wp.diag (light_loop s (by omega) s.2.1.length 0 (by omega))).call fun y hy => ?_
  rcases hy with ⟨rfl, h4⟩ | ⟨⟨a, rfl⟩, h4⟩
  · exact Wp.ret ⟨_, rfl, fun _ => ⟨⟨hs.1, hs.2.1, fun k hk => by have := h4 k (by omega) hk; omega⟩, by omega, by omega⟩⟩
  · exact Wp.ret ⟨_, rfl, by simp⟩

theorem sameInts_loop (l : List Int) (hl : l.length ≤ 1000000) : ∀ d i, i + d = l.length → Wp (fun K k => ref01_SameInts_58 K k l l (i : Int)) (fun y => y = .inl ((), ())) := by
  intro d
  induction d with
  | zero =>
    intro i h1
    refine Wp.step ?_
    simp only [ref01_SameInts_58]
    exact Wp.negd (by omega) (Wp.ret rfl)
  | succ d ih =>
    intro i h1
    refine Wp.step ?_
    simp only [ref01_SameInts_58, wrapS i (by omega), Int.toNat_natCast]
    exact Wp.posd (by omega) (Wp.posd (by omega) (Wp.posd (by omega) (Wp.negn trivial (ih (i + 1) (by omega)))))
theorem sameInts_refl (l : List Int) (hl : l.length ≤ 1000000) : Wp (fun K _ => ref01_SameInts K l l) (fun y => y = ((true, ()), ())) := by
  simp only [ref01_SameInts]
  refine Wp.negn trivial ?_
  exact Wp.callE (Wp.diag (sameInts_loop l hl l.length 0 (by omega))) (Wp.ret rfl)

theorem nat_of_u8 {x : Int} (h : IntKind.u8.has x) : ∃ n : Nat, x = (n : Int) ∧ n < 256 := by
  have h1 : IntKind.u8.min ≤ x ∧ x ≤ IntKind.u8.max := h
  have h2 : IntKind.u8.min = 0 := rfl
  have h3 : IntKind.u8.max = 255 := rfl
  exact ⟨x.toNat, by omega, by omega⟩

/-! ### Does the system converge? -/
/-- a truth value in a list -/
def Has1 (l : List Bool) : Prop := ∃ j, j < l.length ∧ l.getD j false = true
theorem index_loop (l : List Bool) (hl : l.length ≤ 1000000) : ∀ d i, i + d = l.length →
    Wp (fun K k => slices_Index_bool_bool_26 K k l true (l.length : Int) (i : Int)) (fun y => (y = .inl ((), ()) ∧ ∀ j, i ≤ j → j < l.length → l.getD j false = false) ∨ (∃ j : Nat, y = .inr (((j : Int), ()), ()) ∧ j < l.length ∧ l.getD j false = true)) := by
  intro d
  induction d with
  | zero =>
    intro i h1
    refine Wp.step ?_
    simp only [slices_Index_bool_bool_26]
    exact Wp.negd (by omega) (Wp.ret (.inl ⟨rfl, fun j h2 h3 => by omega⟩))
  | succ d ih =>
    intro i h1
    refine Wp.step ?_
    simp only [slices_Index_bool_bool_26, wrapS i (by omega), Int.toNat_natCast, beq_bool]
    refine Wp.posd (by omega) (Wp.posd (by omega) ?_)
    refine Wp.iteb (fun hb => Wp.ret (.inr ⟨i, rfl, by omega, by simpa using hb⟩)) (fun hb => ?_)
    refine (ih (i + 1) (by omega)).mono fun y hy => ?_
    rcases hy with ⟨h2, h3⟩ | h2
    · refine .inl ⟨h2, fun j h4 h5 => ?_⟩
      rcases Nat.eq_or_lt_of_le h4 with h6 | h6
      · rw [← h6]; simpa using hb
      · exact h3 j h6 h5
    · exact .inr h2
theorem contains_ok (l : List Bool) (hl : l.length ≤ 1000000) : Wp (fun K _ => slices_Contains_bool_bool K l true) (fun y => ∃ b, y = ((b, ()), ()) ∧ (b = true ↔ Has1 l)) := by
  simp only [slices_Contains_bool_bool, slices_Index_bool_bool]
  have h : Wp (fun K _ => (slices_Index_bool_bool_26 K K l true (l.length : Int) 0).bind fun y4 => match y4 with
      | .inl _ => some (((-1 : Int), ()), ())
      | .inr y6 => some ((y6.1.1, ()), ())) (fun y => ∃ z : Int, y = ((z, ()), ()) ∧ (0 ≤ z ↔ Has1 l)) := by
    refine (Wp.diag (index_loop l hl l.length 0 (by omega))).call fun y hy => ?_
    rcases hy with ⟨rfl, h1⟩ | ⟨j, rfl, h1, h2⟩
    · refine Wp.ret ⟨-1, rfl, by simp, ?_⟩
      rintro ⟨j, h3, h4⟩
      rw [h1 j (Nat.zero_le _) h3] at h4; simp at h4
    · exact Wp.ret ⟨(j : Int), rfl, fun _ => ⟨j, h1, h2⟩, fun _ => by omega⟩
  refine h.call fun y hy => ?_
  obtain ⟨z, rfl, hz⟩ := hy
  exact Wp.ret ⟨_, rfl, by rw [decide_eq_true_eq]; exact hz⟩
theorem any_loop (l : List Bool) (hl : l.length ≤ 1000000) : ∀ d i, i + d = l.length →
    Wp (fun K k => ref19_Any_26 K k l (i : Int)) (fun y => (y = .inl ((), ()) ∧ ∀ j, i ≤ j → j < l.length → l.getD j false = false) ∨ (y = .inr ((true, ()), ()) ∧ Has1 l)) := by
  intro d
  induction d with
  | zero =>
    intro i h1
    refine Wp.step ?_
    simp only [ref19_Any_26]
    exact Wp.negd (by omega) (Wp.ret (.inl ⟨rfl, fun j h2 h3 => by omega⟩))
  | succ d ih =>
    intro i h1
    refine Wp.step ?_
    simp only [ref19_Any_26, wrapS i (by omega), Int.toNat_natCast]
    refine Wp.posd (by omega) (Wp.posd (by omega) ?_)
    refine Wp.iteb (fun hb => Wp.ret (.inr ⟨rfl, i, by omega, hb⟩)) (fun hb => ?_)
    refine (ih (i + 1) (by omega)).mono fun y hy => ?_
    rcases hy with ⟨h2, h3⟩ | h2
    · refine .inl ⟨h2, fun j h4 h5 => ?_⟩
      rcases Nat.eq_or_lt_of_le h4 with h6 | h6
      · rw [← h6]; exact hb
      · exact h3 j h6 h5
    · exact .inr h2
theorem any_ok (l : List Bool) (hl : l.length ≤ 1000000) : Wp (fun K _ => ref19_Any K l) (fun y => ∃ b, y = ((b, ()), ()) ∧ (b = true ↔ Has1 l)) := by
  simp only [ref19_Any]
  refine (Wp.diag (any_loop l hl l.length 0 (by omega))).call fun y hy => ?_
  rcases hy with ⟨rfl, h1⟩ | ⟨rfl, h1⟩
  · refine Wp.ret ⟨false, rfl, by simp, ?_⟩
    rintro ⟨j, h3, h4⟩
    rw [h1 j (Nat.zero_le _) h3] at h4; simp at h4
  · exact Wp.ret ⟨true, rfl, fun _ => h1, fun _ => rfl⟩

def Falls (s : SpaceV) (l : List Bool) : Prop := ∀ x, x < s.1.length → Attr (goals s) (SetOf l) x
theorem has_falls {s : SpaceV} {l out : List Bool} (h : Tells s.1.length out (fun j => ¬ Attr (goals s) (SetOf l) j)) : Has1 out ↔ ¬ Falls s l := by
  constructor
  · rintro ⟨j, h1, h2⟩ hf
    have h3 : j < s.1.length := by rw [← h.1]; exact h1
    exact (h.2 j h3).1 h2 (hf j h3)
  · intro hf
    refine Classical.byContradiction fun hn => hf fun x hx => Classical.byContradiction fun hx2 => hn ⟨x, by rw [h.1]; exact hx, (h.2 x hx).2 hx2⟩

/-- the word on a system: it is wrong, or it has a cycle, or it falls -/
def Cyc (s : SpaceV) (l : List Bool) (e : Int) : Prop := (Chk s l e ∧ e ≠ 0) ∨ (SpaceP s ∧ l.length = s.1.length ∧ ((e = 0 ∧ Falls s l) ∨ (e = 14 ∧ ¬ Falls s l)))
theorem Cyc.unique {s : SpaceV} {l : List Bool} {a b : Int} (ha : Cyc s l a) (hb : Cyc s l b) : a = b := by
  rcases ha with ⟨h1, h2⟩ | ⟨h1, h2, h3⟩ <;> rcases hb with ⟨h4, h5⟩ | ⟨h4, h5, h6⟩
  · exact h1.unique h4
  · exact absurd (h1.fair h4 h5) h2
  · exact absurd (h4.fair h1 h2) h5
  · rcases h3 with ⟨rfl, h3⟩ | ⟨rfl, h3⟩ <;> rcases h6 with ⟨rfl, h6⟩ | ⟨rfl, h6⟩ <;> first | rfl | exact absurd h3 h6 | exact absurd h6 h3
theorem Cyc.zero {s : SpaceV} {l : List Bool} (h : Cyc s l 0) : SpaceP s ∧ l.length = s.1.length ∧ Falls s l := by
  rcases h with ⟨_, h⟩ | ⟨h1, h2, ⟨_, h3⟩ | ⟨h3, _⟩⟩
  · exact absurd rfl h
  · exact ⟨h1, h2, h3⟩
  · simp at h3
theorem Cyc.fair {s : SpaceV} {l : List Bool} {e : Int} (h : Cyc s l e) (h1 : SpaceP s) (h2 : l.length = s.1.length) (h3 : Falls s l) : e = 0 := h.unique (.inr ⟨h1, h2, .inl ⟨rfl, h3⟩⟩)

theorem cyc_of {s : SpaceV} {l out : List Bool} {e : Int} (h : Res s l (fun j => ¬ Attr (goals s) (SetOf l) j) e out) (b : Bool) (hb : b = true ↔ Has1 out) (h0 : e = 0) : Cyc s l (if b = true then 14 else 0) := by
  subst h0
  obtain ⟨h1, h2⟩ := h
  obtain ⟨h3, h4⟩ := h1.zero
  have h5 : Tells s.1.length out (fun j => ¬ Attr (goals s) (SetOf l) j) := by
    rcases h2 with h2 | h2
    · exact h2.2
    · exact absurd rfl h2.1
  refine .inr ⟨h3, h4, ?_⟩
  rw [has_falls h5] at hb
  cases b with
  | true => exact .inr ⟨rfl, hb.1 rfl⟩
  | false => exact .inl ⟨rfl, Classical.byContradiction fun h => by have := hb.2 h; simp at this⟩
theorem res_small {s : SpaceV} {l out : List Bool} {P : Nat → Prop} {e : Int} (h : Res s l P e out) : out.length ≤ 1000000 := by
  rcases h.2 with ⟨h0, h1⟩ | ⟨_, h1⟩
  · subst h0
    have := (h.1.zero).1.2.1
    rw [h1.1]; omega
  · rw [h1]; simp

theorem worst_check_ok {s : SpaceV} (hs : SpaceIn s) (l : List Bool) : Wp (fun K _ => worst_check K s l) (fun y => ∃ e, y = ((e, ()), ()) ∧ Cyc s l e) := by
  simp only [worst_check]
  refine (converge_Core_ok hs l).call fun y hy => ?_
  obtain ⟨e, out, rfl, r⟩ := hy
  refine Wp.ited (fun h0 => ?_) (fun h0 => Wp.ret ⟨e, rfl, .inl ⟨r.1, h0⟩⟩)
  refine (contains_ok out (res_small r)).call fun y hy => ?_
  obtain ⟨b, rfl, hb⟩ := hy
  have h1 := cyc_of r b hb h0
  have h0 : e = 0 := h0
  refine Wp.iteb (fun h2 => ?_) (fun h2 => ?_)
  · have h2 : b = true := h2
    rw [h2] at h1; exact Wp.ret ⟨_, rfl, h1⟩
  · have h2 : b = false := h2
    rw [h2] at h1; exact Wp.ret ⟨_, rfl, by rw [h0]; exact h1⟩
theorem ref20_begin_ok {s : SpaceV} (hs : SpaceIn s) (l : List Bool) : Wp (fun K _ => ref20_begin K s l) (fun y => ∃ e, y = ((e, ()), ()) ∧ Cyc s l e) := by
  simp only [ref20_begin]
  refine (ref19_Core_ok hs l).call fun y hy => ?_
  obtain ⟨e, out, rfl, r⟩ := hy
  refine Wp.iten (fun h0 => Wp.ret ⟨e, rfl, .inl ⟨r.1, h0⟩⟩) (fun h0 => ?_)
  refine (any_ok out (res_small r)).call fun y hy => ?_
  obtain ⟨b, rfl, hb⟩ := hy
  have h1 := cyc_of r b hb h0
  refine Wp.iteb (fun h2 => ?_) (fun h2 => ?_)
  · have h2 : b = true := h2
    rw [h2] at h1; exact Wp.ret ⟨_, rfl, h1⟩
  · have h2 : b = false := h2
    rw [h2] at h1; exact Wp.ret ⟨_, rfl, h1⟩

/-! ### Steps and Moves -/
/-- a list of the worst numbers, or an error -/
def Worst (s : SpaceV) (l : List Bool) (w : Nat → Nat → Nat) (e : Int) (out : List Int) : Prop := Cyc s l e ∧ ((e = 0 ∧ ∃ V : List Nat, out = numl V ∧ V.length = s.1.length ∧ ∀ x, x < s.1.length → V.getD x 0 = (baseN s l w).val x) ∨ (e ≠ 0 ∧ out = []))
theorem Worst.unique {s : SpaceV} {l : List Bool} {w : Nat → Nat → Nat} {e f : Int} {a b : List Int} (ha : Worst s l w e a) (hb : Worst s l w f b) : e = f ∧ a = b := by
  obtain ⟨h1, h2⟩ := ha
  obtain ⟨h3, h4⟩ := hb
  have h5 := h1.unique h3
  subst h5
  refine ⟨rfl, ?_⟩
  rcases h2 with ⟨h6, V, rfl, h7, h8⟩ | ⟨h6, rfl⟩ <;> rcases h4 with ⟨h9, W, rfl, h10, h11⟩ | ⟨h9, rfl⟩
  · rw [ext_getD 0 (h7.trans h10.symm) fun i hi => by rw [h8 i (by omega), h11 i (by omega)]]
  · exact absurd h6 h9
  · exact absurd h9 h6
  · rfl
theorem Worst.small {s : SpaceV} {l : List Bool} {w : Nat → Nat → Nat} {e : Int} {a : List Int} (h : Worst s l w e a) (hs : s.1.length ≤ 120) : a.length ≤ 1000000 := by
  rcases h.2 with ⟨_, V, rfl, h1, _⟩ | ⟨_, rfl⟩
  · rw [numl_length]; omega
  · simp

section
variable {s : SpaceV} {n : Nat}
theorem moves_eq (h : Sets s n) {x j : Nat} (hj : j < (arcs s x).length) : movesW s x j = pop (setN s x j) := (pop_pops (h.st x j hj).2.1).symm
theorem moves_le (h : Sets s n) : ∀ x j, j < (arcs s x).length → movesW s x j ≤ 24 := fun x j hj => by rw [moves_eq h hj]; exact (pop_le (h.st x j hj).2.1).1
theorem moves_pos (h : Sets s n) : ∀ x j, j < (arcs s x).length → 1 ≤ movesW s x j := fun x j hj => by rw [moves_eq h hj]; exact (pop_le (h.st x j hj).2.1).2 (h.st x j hj).2.2
theorem moves_f (h : Sets s n) : ∀ K x j, j < (arcs s x).length → worst_moves K ((arcs s x).getD j (0, (0, ()))) = some ((((movesW s x j : Nat) : Int), ()), ()) := fun K x j hj => by
  have h1 : ((arcs s x).getD j (0, (0, ()))).1 = ((setN s x j : Nat) : Int) := (h.st x j hj).1
  simp only [worst_moves, h1, f19_pop K (h.st x j hj).2.1, Option.bind_some, moves_eq h hj]
theorem moves_c (h : Sets s n) : ∀ x j, j < (arcs s x).length → Wp (fun K _ => ref15_Count K (aset (arcs s x) j)) (fun y => y = ((((movesW s x j : Nat) : Int), ()), ())) := fun x j hj => by
  rw [(h.st x j hj).1, moves_eq h hj]
  exact Wp.of_add 33 (fun k => f16_pop k (h.st x j hj).2.1) rfl
theorem steps_f : ∀ K x j, j < (arcs s x).length → worst_one K ((arcs s x).getD j (0, (0, ()))) = some ((((stepsW x j : Nat) : Int), ()), ()) := fun _ _ _ _ => rfl
theorem steps_le : ∀ x j, j < (arcs s x).length → stepsW x j ≤ 24 := fun _ _ _ => by simp only [stepsW]; omega
end

theorem worst_Steps_ok {s : SpaceV} (hs : SpaceIn s) (l : List Bool) : Wp (fun K _ => worst_Steps K s l) (fun y => ∃ e out, y = ((((), (e, ())), ()), (out, ())) ∧ Worst s l stepsW e out) := by
  simp only [worst_Steps]
  refine (worst_check_ok hs l).call fun y hy => ?_
  obtain ⟨e, rfl, he⟩ := hy
  refine Wp.iten (fun h0 => Wp.ret ⟨_, _, rfl, he, .inr ⟨h0, rfl⟩⟩) (fun h0 => ?_)
  simp only at h0
  subst h0
  obtain ⟨h1, h2, h3⟩ := he.zero
  refine (worst_longest_ok (sys_of h1) h2 h3 steps_le steps_f).call fun y hy => ?_
  obtain ⟨V, rfl, h4, h5⟩ := hy
  exact Wp.ret ⟨_, _, rfl, he, .inl ⟨rfl, V, rfl, h4, h5⟩⟩
theorem worst_Moves_ok {s : SpaceV} (hs : SpaceIn s) (l : List Bool) : Wp (fun K _ => worst_Moves K s l) (fun y => ∃ e out, y = ((((), (e, ())), ()), (out, ())) ∧ Worst s l (movesW s) e out) := by
  simp only [worst_Moves]
  refine (worst_check_ok hs l).call fun y hy => ?_
  obtain ⟨e, rfl, he⟩ := hy
  refine Wp.iten (fun h0 => Wp.ret ⟨_, _, rfl, he, .inr ⟨h0, rfl⟩⟩) (fun h0 => ?_)
  simp only at h0
  subst h0
  obtain ⟨h1, h2, h3⟩ := he.zero
  have hS := sets_of hs h1
  refine (worst_longest_v2_ok (sys_of h1) h2 h3 (moves_le hS) (moves_f hS)).call fun y hy => ?_
  obtain ⟨V, rfl, h4, h5⟩ := hy
  exact Wp.ret ⟨_, _, rfl, he, .inl ⟨rfl, V, rfl, h4, h5⟩⟩
theorem ref20_Steps_ok {s : SpaceV} (hs : SpaceIn s) (l : List Bool) : Wp (fun K _ => ref20_Steps K s l) (fun y => ∃ e out, y = ((((), (e, ())), ()), (out, ())) ∧ Worst s l stepsW e out) := by
  simp only [ref20_Steps]
  refine (ref20_begin_ok hs l).call fun y hy => ?_
  obtain ⟨e, rfl, he⟩ := hy
  refine Wp.iten (fun h0 => Wp.ret ⟨_, _, rfl, he, .inr ⟨h0, rfl⟩⟩) (fun h0 => ?_)
  simp only at h0
  subst h0
  obtain ⟨h1, h2, h3⟩ := he.zero
  refine (ref20_longest_ok (sys_of h1) h2 h3 steps_le false (fun _ _ _ _ => rfl) (fun h => by simp at h)).call fun y hy => ?_
  obtain ⟨V, rfl, h4, h5⟩ := hy
  exact Wp.ret ⟨_, _, rfl, he, .inl ⟨rfl, V, rfl, h4, h5⟩⟩
theorem ref20_Moves_ok {s : SpaceV} (hs : SpaceIn s) (l : List Bool) : Wp (fun K _ => ref20_Moves K s l) (fun y => ∃ e out, y = ((((), (e, ())), ()), (out, ())) ∧ Worst s l (movesW s) e out) := by
  simp only [ref20_Moves]
  refine (ref20_begin_ok hs l).call fun y hy => ?_
  obtain ⟨e, rfl, he⟩ := hy
  refine Wp.iten (fun h0 => Wp.ret ⟨_, _, rfl, he, .inr ⟨h0, rfl⟩⟩) (fun h0 => ?_)
  simp only at h0
  subst h0
  obtain ⟨h1, h2, h3⟩ := he.zero
  have hS := sets_of hs h1
  refine (ref20_longest_ok (sys_of h1) h2 h3 (moves_le hS) true (fun h => by simp at h) (fun _ => moves_c hS)).call fun y hy => ?_
  obtain ⟨V, rfl, h4, h5⟩ := hy
  exact Wp.ret ⟨_, _, rfl, he, .inl ⟨rfl, V, rfl, h4, h5⟩⟩

theorem measures (s : SpaceV) (l : List Bool) (hs : okD spaceG s) : Wp (fun K _ => law20_WorstMeasures K s l) (fun y => y = ((true, ()), ())) := by
  simp only [law20_WorstMeasures]
  refine (light_ok hs l).call fun y hy => ?_
  obtain ⟨b, rfl, hb⟩ := hy
  refine Wp.itebn (fun _ => asleep rfl) (fun h1 => ?_)
  have hL := hb h1
  have hfew := hL.few
  refine (worst_Steps_ok hL.inn l).call fun y hy => ?_
  obtain ⟨e1, a1, rfl, r1⟩ := hy
  refine (ref20_Steps_ok hL.inn l).call fun y hy => ?_
  obtain ⟨e2, a2, rfl, r2⟩ := hy
  refine (worst_Moves_ok hL.inn l).call fun y hy => ?_
  obtain ⟨e3, a3, rfl, r3⟩ := hy
  refine (ref20_Moves_ok hL.inn l).call fun y hy => ?_
  obtain ⟨e4, a4, rfl, r4⟩ := hy
  obtain ⟨rfl, rfl⟩ := r1.unique r2
  obtain ⟨rfl, rfl⟩ := r3.unique r4
  refine Wp.callE awake20 (Wp.iteb (fun _ => ?_) (fun h => by simp at h))
  refine Wp.callE (sameInts_refl a1 (r1.small hfew)) (Wp.iteb (fun _ => ?_) (fun h => by simp at h))
  refine Wp.posd rfl ?_
  refine Wp.callE (sameInts_refl a3 (r3.small hfew)) (Wp.iteb (fun _ => ?_) (fun h => by simp at h))
  refine Wp.ret ?_
  simp only [decide_true]

theorem pure_law20_WorstMeasures : ∀ x, okS [spaceG, .slice .bool] 0 x → ∃ K, law20_WorstMeasures K x.1 x.2.1 = some ((true, ()), ()) := by
  rintro ⟨s, l, _⟩ ⟨hs, _, _⟩
  exact (measures s l hs).outE
end Go.Proofs.Ytafndpkfoajpnaa.G
