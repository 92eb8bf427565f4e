/- The laws WorstSchedules and WorstIsAttained. -/
import Derived.Test.YtafndpkfoajpnaaL20b
namespace Go.Proofs.Ytafndpkfoajpnaa.G
open Go Go.Fw

/-- the first arc over which most moves are still to come -/
structure First (s : SpaceV) (l : List Bool) (x j : Nat) : Prop where
  lt : j < (arcs s x).length
  eq : movesW s x j + (baseN s l (movesW s)).val (goN s x j) = (baseN s l (movesW s)).val x
  ne : ∀ j', j' < j → movesW s x j' + (baseN s l (movesW s)).val (goN s x j') ≠ (baseN s l (movesW s)).val x
theorem First.unique {s : SpaceV} {l : List Bool} {x i j : Nat} (h : First s l x i) (k : First s l x j) : i = j := by
  rcases Nat.lt_trichotomy i j with h1 | h1 | h1
  · exact absurd h.eq (k.ne i h1)
  · exact h1
  · exact absurd k.eq (h.ne j h1)
/-- the sets of such arcs, up to the first legitimate state -/
inductive Plan (s : SpaceV) (l : List Bool) : Nat → List Int → Prop
  | done {x : Nat} : l.getD x false = true → Plan s l x []
  | go {x j : Nat} {r : List Int} : l.getD x false = false → First s l x j → Plan s l (goN s x j) r → Plan s l x (aset (arcs s x) j :: r)
theorem Plan.unique {s : SpaceV} {l : List Bool} {x : Nat} {a b : List Int} (h : Plan s l x a) : Plan s l x b → a = b := by
  induction h generalizing b with
  | done h => intro k; cases k with
    | done _ => rfl
    | go k _ _ => rw [h] at k; simp at k
  | go h1 h2 _ ih => intro k; cases k with
    | done k => rw [h1] at k; simp at k
    | go k1 k2 k3 =>
      have := h2.unique k2
      subst this
      rw [ih k3]

section
variable {s : SpaceV} {n : Nat} {l : List Bool} {M : List Nat}

theorem find_loop (hs : Sys s n) (hf : ∀ x, x < n → Attr (goals s) (SetOf l) x) (hS : Sets s n) (hM : M.length = n ∧ ∀ x, x < n → M.getD x 0 = (baseN s l (movesW s)).val x) {x : Nat} (hx : x < n) (hlx : l.getD x false = false) :
    ∀ d i, i + d = (arcs s x).length → (∀ j', j' < i → movesW s x j' + (baseN s l (movesW s)).val (goN s x j') ≠ (baseN s l (movesW s)).val x) →
    Wp (fun K k => slices_IndexFunc_api_Arc_api_Arc_26 K k (arcs s x) ((arcs s x).length : Int) (i : Int) (numl M) (x : Int)) (fun y => ∃ j : Nat, y = .inr (((j : Int), ()), ((), (numl M, ((x : Int), ())))) ∧ First s l x j) := by
  have htot := total_ge (s := s) hx
  have htt := hs.tot
  have hle := hs.le
  have hml := numl_length M
  obtain ⟨hM1, hM2⟩ := hM
  intro d
  induction d with
  | zero =>
    intro i h1 h2
    exfalso
    obtain ⟨j, h3, h4⟩ := val_at (w := movesW s) (hf x hx) hlx
    exact h2 j (by omega) h4.symm
  | succ d ih =>
    intro i h1 h2
    have hil : i < (arcs s x).length := by omega
    have hg : goN s x i < n := goals_at hs hil
    have hgo : (goals s x).getD i 0 = goN s x i := rfl
    have hb2 := val_bound 24 (moves_le hS) (hf _ hg)
    have hb3 := rank_lt hs (hf _ hg) hg
    have hb4 := moves_le hS x i hil
    refine Wp.step ?_
    simp only [slices_IndexFunc_api_Arc_api_Arc_26, worst_Schedule_1, Int.toNat_natCast, moves_f hS _ x i hil, Option.bind_some, ato_def, hs.at' x i hil, hgo, numl_getD, hM2 _ hg, hM2 x hx, wrapA (movesW s x i) ((baseN s l (movesW s)).val (goN s x i)) (by omega), wrapS i (by omega)]
    refine Wp.posd (by omega) (Wp.posd (by omega) ?_)
    have g1 : (0 ≤ ((goN s x i : Nat) : Int) ∧ ((goN s x i : Nat) : Int) < ((numl M).length : Int)) = True := eq_true (by omega)
    have g2 : (0 ≤ (x : Int) ∧ (x : Int) < ((numl M).length : Int)) = True := eq_true (by omega)
    simp only [g1, g2, decide_true, if_true, Option.bind_some]
    refine Wp.ited (fun he => Wp.ret ⟨i, rfl, hil, by omega, h2⟩) (fun he => ih (i + 1) (by omega) fun j' hj' => ?_)
    rcases Nat.lt_or_ge j' i with h3 | h3
    · exact h2 j' h3
    · have h4 : j' = i := by omega
      rw [h4]; omega

theorem find_ok (hs : Sys s n) (hf : ∀ x, x < n → Attr (goals s) (SetOf l) x) (hS : Sets s n) (hM : M.length = n ∧ ∀ x, x < n → M.getD x 0 = (baseN s l (movesW s)).val x) {x : Nat} (hx : x < n) (hlx : l.getD x false = false) :
    Wp (fun K _ => slices_IndexFunc_api_Arc_api_Arc K (arcs s x) (numl M) (x : Int)) (fun y => ∃ j : Nat, y = (((j : Int), ()), ((), (numl M, ((x : Int), ())))) ∧ First s l x j) := by
  simp only [slices_IndexFunc_api_Arc_api_Arc]
  refine (Wp.diag (find_loop hs hf hS hM hx hlx (arcs s x).length 0 (by omega) (fun j hj => absurd hj (Nat.not_lt_zero _)))).call fun y hy => ?_
  obtain ⟨j, rfl, h⟩ := hy
  exact Wp.ret ⟨j, rfl, h⟩

theorem plan_loop (hs : Sys s n) (hl : l.length = n) (hf : ∀ x, x < n → Attr (goals s) (SetOf l) x) (hS : Sets s n) (hM : M.length = n ∧ ∀ x, x < n → M.getD x 0 = (baseN s l (movesW s)).val x) :
    ∀ r x (out : List Int), x < n → (baseN s l stepsW).val x = r → out.length + r ≤ 1000000 →
    Wp (fun K k => worst_Schedule_506 K k l s (numl M) out (x : Int)) (fun y => ∃ p, y = (((), ()), (out ++ p, ())) ∧ Plan s l x p ∧ out.length + p.length ≤ 1000000) := by
  have har := hs.ar
  intro r
  induction r using Nat.strongRecOn with
  | ind r ih =>
    intro x out hx hr hlen
    refine Wp.step ?_
    simp only [worst_Schedule_506, Int.toNat_natCast, arcs_def]
    refine Wp.posd (by omega) ?_
    refine Wp.itebn (fun hlx => Wp.posd (by omega) ?_) (fun hlx => Wp.ret ⟨[], by rw [List.append_nil], .done hlx, by simp only [List.length_nil]; omega⟩)
    refine (find_ok hs hf hS hM hx hlx).call fun y hy => ?_
    obtain ⟨j, rfl, h⟩ := hy
    have hj := h.lt
    have hg : goN s x j < n := goals_at hs hj
    have hgo : (goals s x).getD j 0 = goN s x j := rfl
    have hrk := rank_next (hf x hx) hlx hj
    simp only [Int.toNat_natCast, arcs_def, ato_def, aset_def, hs.at' x j hj, hgo, List.length_singleton]
    refine Wp.posd (by omega) (Wp.posd (by omega) (Wp.posd (by omega) ?_))
    refine (ih _ (by omega) (goN s x j) (out ++ [aset (arcs s x) j]) hg rfl (by rw [List.length_append, List.length_singleton]; omega)).mono fun y hy => ?_
    obtain ⟨p, rfl, h1, h2⟩ := hy
    exact ⟨aset (arcs s x) j :: p, by rw [List.append_assoc]; rfl, .go hlx h h1, by rw [List.length_append, List.length_singleton] at h2; rw [List.length_cons]; omega⟩

/-! ### The reference -/
theorem seek_loop (hs : Sys s n) (hf : ∀ x, x < n → Attr (goals s) (SetOf l) x) (hS : Sets s n) (hM : M.length = n ∧ ∀ x, x < n → M.getD x 0 = (baseN s l (movesW s)).val x) {x : Nat} (hx : x < n) (hlx : l.getD x false = false) :
    ∀ d i, i + d = (arcs s x).length → (∀ j', j' < i → movesW s x j' + (baseN s l (movesW s)).val (goN s x j') ≠ (baseN s l (movesW s)).val x) →
    Wp (fun K k => ref20_Schedule_32404 K k (numl M) (x : Int) (i : Int) s) (fun y => ∃ j : Nat, y = (((j : Int), ()), (s, ())) ∧ First s l x j) := by
  have har := hs.ar
  have htot := total_ge (s := s) hx
  have htt := hs.tot
  have hle := hs.le
  have hml := numl_length M
  obtain ⟨hM1, hM2⟩ := hM
  intro d
  induction d with
  | zero =>
    intro i h1 h2
    exfalso
    obtain ⟨j, h3, h4⟩ := val_at (w := movesW s) (hf x hx) hlx
    exact h2 j (by omega) h4.symm
  | succ d ih =>
    intro i h1 h2
    have hil : i < (arcs s x).length := by omega
    have hg : goN s x i < n := goals_at hs hil
    have hgo : (goals s x).getD i 0 = goN s x i := rfl
    have hb2 := val_bound 24 (moves_le hS) (hf _ hg)
    have hb3 := rank_lt hs (hf _ hg) hg
    have hb4 := moves_le hS x i hil
    refine Wp.step ?_
    simp only [ref20_Schedule_32404, Int.toNat_natCast, arcs_def, ato_def, aset_def, hs.at' x i hil, hgo, numl_getD, hM2 _ hg, hM2 x hx, wrapS i (by omega)]
    refine Wp.posd (by omega) (Wp.posd (by omega) (Wp.posd (by omega) ?_))
    refine Wp.callE (moves_c hS x i hil) ?_
    simp only [wrapA (movesW s x i) ((baseN s l (movesW s)).val (goN s x i)) (by omega)]
    refine Wp.posd (by omega) (Wp.posd (by omega) (Wp.posd (by omega) ?_))
    refine Wp.iten (fun he => ih (i + 1) (by omega) fun j' hj' => ?_) (fun he => Wp.ret ⟨i, rfl, hil, by omega, h2⟩)
    rcases Nat.lt_or_ge j' i with h3 | h3
    · exact h2 j' h3
    · have h4 : j' = i := by omega
      rw [h4]; omega

theorem rplan_loop (hs : Sys s n) (hl : l.length = n) (hf : ∀ x, x < n → Attr (goals s) (SetOf l) x) (hS : Sets s n) (hM : M.length = n ∧ ∀ x, x < n → M.getD x 0 = (baseN s l (movesW s)).val x) :
    ∀ r x (out : List Int), x < n → (baseN s l stepsW).val x = r → out.length + r ≤ 1000000 →
    Wp (fun K k => ref20_Schedule_506 K k l (numl M) (x : Int) s out) (fun y => ∃ p, y = (((), ()), (out ++ p, ())) ∧ Plan s l x p ∧ out.length + p.length ≤ 1000000) := by
  have har := hs.ar
  intro r
  induction r using Nat.strongRecOn with
  | ind r ih =>
    intro x out hx hr hlen
    refine Wp.step ?_
    simp only [ref20_Schedule_506, Int.toNat_natCast, arcs_def]
    refine Wp.posd (by omega) ?_
    refine Wp.itebn (fun hlx => ?_) (fun hlx => Wp.ret ⟨[], by rw [List.append_nil], .done hlx, by simp only [List.length_nil]; omega⟩)
    refine (Wp.diag (seek_loop hs hf hS hM hx hlx (arcs s x).length 0 (by omega) (fun j hj => absurd hj (Nat.not_lt_zero _)))).call fun y hy => ?_
    obtain ⟨j, rfl, h⟩ := hy
    have hj := h.lt
    have hg : goN s x j < n := goals_at hs hj
    have hgo : (goals s x).getD j 0 = goN s x j := rfl
    have hrk := rank_next (hf x hx) hlx hj
    simp only [Int.toNat_natCast, arcs_def, ato_def, aset_def, hs.at' x j hj, hgo, List.length_singleton]
    refine Wp.posd (by omega) (Wp.posd (by omega) (Wp.posd (by omega) (Wp.posd (by omega) (Wp.posd (by omega) ?_))))
    refine (ih _ (by omega) (goN s x j) (out ++ [aset (arcs s x) j]) hg rfl (by rw [List.length_append, List.length_singleton]; omega)).mono fun y hy => ?_
    obtain ⟨p, rfl, h1, h2⟩ := hy
    exact ⟨aset (arcs s x) j :: p, by rw [List.append_assoc]; rfl, .go hlx h h1, by rw [List.length_append, List.length_singleton] at h2; rw [List.length_cons]; omega⟩
end

/-- a schedule, or an error -/
def Sched (s : SpaceV) (l : List Bool) (from' e : Int) (out : List Int) : Prop := (Cyc s l e ∧ e ≠ 0 ∧ out = []) ∨ (Cyc s l 0 ∧ (((from' < 0 ∨ (s.1.length : Int) ≤ from') ∧ e = 2 ∧ out = []) ∨ (e = 0 ∧ out.length ≤ 1000000 ∧ ∃ x : Nat, x < s.1.length ∧ from' = (x : Int) ∧ Plan s l x out)))
theorem Sched.unique {s : SpaceV} {l : List Bool} {g e f : Int} {a b : List Int} (ha : Sched s l g e a) (hb : Sched s l g f b) : e = f ∧ a = b := by
  rcases ha with ⟨h1, h2, h3⟩ | ⟨h1, h2⟩ <;> rcases hb with ⟨h4, h5, h6⟩ | ⟨h4, h5⟩
  · exact ⟨h1.unique h4, by rw [h3, h6]⟩
  · exact absurd (h1.unique h4) h2
  · exact absurd (h4.unique h1) h5
  · rcases h2 with ⟨h2, rfl, rfl⟩ | ⟨rfl, _, x, h2, h3, h6⟩ <;> rcases h5 with ⟨h5, rfl, rfl⟩ | ⟨rfl, _, y, h5, h7, h8⟩
    · exact ⟨rfl, rfl⟩
    · omega
    · omega
    · have : x = y := by omega
      subst this
      exact ⟨rfl, h6.unique h8⟩
theorem Sched.small {s : SpaceV} {l : List Bool} {g e : Int} {a : List Int} (h : Sched s l g e a) : a.length ≤ 1000000 := by
  rcases h with ⟨_, _, rfl⟩ | ⟨_, ⟨_, _, rfl⟩ | ⟨_, h, _⟩⟩
  · simp
  · simp
  · exact h

theorem worst_Schedule_ok {s : SpaceV} (hs : SpaceIn s) (l : List Bool) (g : Int) : Wp (fun K _ => worst_Schedule K s l g) (fun y => ∃ e out, y = ((((), (e, ())), ()), (out, ())) ∧ Sched s l g e out) := by
  simp only [worst_Schedule]
  refine (worst_check_ok hs l).call fun y hy => ?_
  obtain ⟨e, rfl, he⟩ := hy
  refine Wp.iten (fun h0 => Wp.ret ⟨_, _, rfl, .inl ⟨he, h0, rfl⟩⟩) (fun h0 => ?_)
  simp only at h0
  subst h0
  obtain ⟨h1, h2, h3⟩ := he.zero
  have hle := h1.2.1
  have hS := sets_of hs h1
  refine Wp.ited (fun hg => Wp.ret ⟨_, _, rfl, .inr ⟨he, .inl ⟨.inl hg, rfl, rfl⟩⟩⟩) (fun hg => ?_)
  refine Wp.ited (fun hg' => Wp.ret ⟨_, _, rfl, .inr ⟨he, .inl ⟨.inr (by omega), rfl, rfl⟩⟩⟩) (fun hg' => ?_)
  refine (worst_longest_v2_ok (sys_of h1) h2 h3 (moves_le hS) (moves_f hS)).call fun y hy => ?_
  obtain ⟨V, rfl, h4, h5⟩ := hy
  obtain ⟨x, rfl⟩ : ∃ x : Nat, g = (x : Int) := ⟨g.toNat, by omega⟩
  have hx : x < s.1.length := by omega
  have hrk := rank_lt (sys_of h1) (h3 x hx) hx
  refine (Wp.diag (plan_loop (sys_of h1) h2 h3 hS ⟨h4, h5⟩ _ x [] hx rfl (by simp only [List.length_nil]; omega))).call fun y hy => ?_
  obtain ⟨p, rfl, h6, h7⟩ := hy
  exact Wp.ret ⟨0, p, rfl, .inr ⟨he, .inr ⟨rfl, by simp only [List.length_nil] at h7; omega, x, hx, rfl, h6⟩⟩⟩
theorem ref20_Schedule_ok {s : SpaceV} (hs : SpaceIn s) (l : List Bool) (g : Int) : Wp (fun K _ => ref20_Schedule K s l g) (fun y => ∃ e out, y = ((((), (e, ())), ()), (out, ())) ∧ Sched s l g e out) := by
  simp only [ref20_Schedule, ref01_In_eq, Option.bind_some]
  refine (ref20_Moves_ok hs l).call fun y hy => ?_
  obtain ⟨e, a, rfl, hr⟩ := hy
  refine Wp.iten (fun h0 => Wp.ret ⟨_, _, rfl, .inl ⟨hr.1, h0, rfl⟩⟩) (fun h0 => ?_)
  simp only at h0
  subst h0
  obtain ⟨h1, h2, h3⟩ := hr.1.zero
  have hle := h1.2.1
  have hS := sets_of hs h1
  obtain ⟨_, V, rfl, h4, h5⟩ := hr.fair h1 h2 h3
  have hvl := numl_length V
  simp only [numl_length, wrapI (x := (V.length : Int) - 1) (by omega) (by omega)]
  refine Wp.iten (fun hg => Wp.ret ⟨_, _, rfl, .inr ⟨hr.1, .inl ⟨by omega, rfl, rfl⟩⟩⟩) (fun hg => ?_)
  obtain ⟨x, rfl⟩ : ∃ x : Nat, g = (x : Int) := ⟨g.toNat, by omega⟩
  have hx : x < s.1.length := by omega
  have hrk := rank_lt (sys_of h1) (h3 x hx) hx
  refine (Wp.diag (rplan_loop (sys_of h1) h2 h3 hS ⟨h4, h5⟩ _ x [] hx rfl (by simp only [List.length_nil]; omega))).call fun y hy => ?_
  obtain ⟨p, rfl, h6, h7⟩ := hy
  exact Wp.ret ⟨0, p, rfl, .inr ⟨hr.1, .inr ⟨rfl, by simp only [List.length_nil] at h7; omega, x, hx, rfl, h6⟩⟩⟩

theorem same_loop (l : List Int) (hl : l.length ≤ 1000000) : ∀ d i, i + d = l.length → Wp (fun K k => ref15_Same_58 K k l l (i : Int)) (fun y => y = .inl ((), ())) := by
  intro d
  induction d with
  | zero =>
    intro i h1
    refine Wp.step ?_
    simp only [ref15_Same_58]
    exact Wp.negd (by omega) (Wp.ret rfl)
  | succ d ih =>
    intro i h1
    refine Wp.step ?_
    simp only [ref15_Same_58, wrapS i (by omega), Int.toNat_natCast]
    exact Wp.posd (by omega) (Wp.posd (by omega) (Wp.posd (by omega) (Wp.negn trivial (ih (i + 1) (by omega)))))
theorem same_refl (l : List Int) (hl : l.length ≤ 1000000) : Wp (fun K _ => ref15_Same K l l) (fun y => y = ((true, ()), ())) := by
  simp only [ref15_Same]
  refine Wp.negn trivial ?_
  exact Wp.callE (Wp.diag (same_loop l hl l.length 0 (by omega))) (Wp.ret rfl)

theorem schedules (s : SpaceV) (l : List Bool) (g : Int) (hs : okD spaceG s) : Wp (fun K _ => law20_WorstSchedules K s l g) (fun y => y = ((true, ()), ())) := by
  simp only [law20_WorstSchedules]
  refine (light_ok hs l).call fun y hy => ?_
  obtain ⟨b, rfl, hb⟩ := hy
  refine Wp.itebn (fun _ => asleep rfl) (fun h1 => ?_)
  have hL := hb h1
  refine (worst_Schedule_ok hL.inn l g).call fun y hy => ?_
  obtain ⟨e1, a1, rfl, r1⟩ := hy
  refine (ref20_Schedule_ok hL.inn l g).call fun y hy => ?_
  obtain ⟨e2, a2, rfl, r2⟩ := hy
  obtain ⟨rfl, rfl⟩ := r1.unique r2
  refine Wp.callE awake20 (Wp.iteb (fun _ => ?_) (fun h => by simp at h))
  refine Wp.callE (same_refl a1 r1.small) (Wp.iteb (fun _ => ?_) (fun h => by simp at h))
  refine Wp.ret ?_
  simp only [decide_true]

theorem pure_law20_WorstSchedules : ∀ x, okS [spaceG, .slice .bool, .int .i64] 0 x → ∃ K, law20_WorstSchedules K x.1 x.2.1 x.2.2.1 = some ((true, ()), ()) := by
  rintro ⟨s, l, g, _⟩ ⟨hs, _⟩
  exact (schedules s l g hs).outE
end Go.Proofs.Ytafndpkfoajpnaa.G
