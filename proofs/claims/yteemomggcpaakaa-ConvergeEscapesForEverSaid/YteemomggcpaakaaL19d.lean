/- The law ConvergeFinds. -/
import Derived.Test.YteemomggcpaakaaL19c
namespace Go.Proofs.Yteemomggcpaakaa.G
open Go Go.Fw

def Look2 {A : Type} (a : A) (y : A ⊕ ((Bool × (Int × Unit)) × Unit)) (P : Prop) : Prop := (y = .inl a ∧ P) ∨ (y = .inr ((false, (0, ())), ()) ∧ ¬ P)
theorem Look2.step {A : Type} {a : A} {y : A ⊕ ((Bool × (Int × Unit)) × Unit)} {P Q : Prop} (h : Look2 a y Q) (hP : P) : Look2 a y (P ∧ Q) := by
  rcases h with ⟨h1, h2⟩ | ⟨h1, h2⟩
  · exact .inl ⟨h1, hP, h2⟩
  · exact .inr ⟨h1, fun hc => h2 hc.2⟩

/-- an arc does not leave the set -/
def Stays (s : SpaceV) (l : List Bool) (x j : Nat) : Prop := SetOf l x → SetOf l ((goals s x).getD j 0)
def ClosedP (s : SpaceV) (l : List Bool) : Prop := ∀ x, x < s.1.length → ∀ j, j < (arcs s x).length → Stays s l x j

theorem closed_in {s : SpaceV} {n : Nat} (hs : Sys s n) (l : List Bool) (hl : l.length = n) (x : Nat) (hx : x < n) : ∀ d i, i + d = (arcs s x).length →
    Wp (fun K k => converge_Closed_14950 K k l (x : Int) (arcs s x) ((arcs s x).length : Int) (i : Int)) (fun y => Look2 ((), ()) y (∀ j, i ≤ j → j < (arcs s x).length → Stays s l x j)) := by
  intro d
  induction d with
  | zero =>
    intro i h1
    refine Wp.step ?_
    simp only [converge_Closed_14950]
    exact Wp.negd (by omega) (Wp.ret (.inl ⟨rfl, by rw [show i = (arcs s x).length by omega]; exact all_end⟩))
  | succ d ih =>
    intro i h1
    have hil : i < (arcs s x).length := by omega
    have hg := goals_at hs hil
    have htot := total_ge (s := s) hx
    have htt := hs.tot
    rw [all_step hil]
    refine Wp.step ?_
    simp only [converge_Closed_14950, wrapS i (by omega), Int.toNat_natCast, ato_def, hs.at' x i hil]
    refine Wp.posd (by omega) (Wp.posd (by omega) (Wp.posd (by omega) ?_))
    refine Wp.iteb (fun hb => Wp.posd (by omega) ?_) (fun hb => (ih (i + 1) (by omega)).mono fun y hy => hy.step fun hx => by rw [SetOf, hb] at hx; simp at hx)
    refine Wp.itebn (fun hc => Wp.ret (.inr ⟨rfl, fun h => ?_⟩)) (fun hc => (ih (i + 1) (by omega)).mono fun y hy => hy.step fun _ => hc)
    have := h.1 hb
    rw [SetOf, hc] at this; simp at this

theorem closed_out {s : SpaceV} {n : Nat} (hs : Sys s n) (l : List Bool) (hl : l.length = n) : ∀ d x, x + d = n →
    Wp (fun K k => converge_Closed_58 K k l s.2.1 (n : Int) (x : Int)) (fun y => Look2 ((), ()) y (∀ z, x ≤ z → z < n → ∀ j, j < (arcs s z).length → Stays s l z j)) := by
  have hle := hs.le
  have har := hs.ar
  intro d
  induction d with
  | zero =>
    intro x h1
    refine Wp.step ?_
    simp only [converge_Closed_58]
    exact Wp.negd (by omega) (Wp.ret (.inl ⟨rfl, by rw [show x = n by omega]; exact all_end⟩))
  | succ d ih =>
    intro x h1
    have hx : x < n := by omega
    rw [all_step hx]
    refine Wp.step ?_
    simp only [converge_Closed_58, wrapS x (by omega), Int.toNat_natCast, arcs_def]
    refine Wp.posd (by omega) (Wp.posd (by omega) ?_)
    refine (Wp.diag (closed_in hs l hl x hx (arcs s x).length 0 (by omega))).call fun y hy => ?_
    rcases hy with ⟨rfl, h2⟩ | ⟨rfl, h2⟩
    · exact (ih (x + 1) (by omega)).mono fun y hy => hy.step fun j hj => h2 j (by omega) hj
    · exact Wp.ret (.inr ⟨rfl, fun hc => h2 fun j _ hj => hc.1 j hj⟩)

theorem rclosed_in {s : SpaceV} {n : Nat} (hs : Sys s n) (l : List Bool) (hl : l.length = n) (x : Nat) (hx : x < n) : ∀ d i, i + d = (arcs s x).length →
    Wp (fun K k => ref19_Closed_3730 K k l (x : Int) (i : Int) s) (fun y => Look2 ((), (s, ())) y (∀ j, i ≤ j → j < (arcs s x).length → Stays s l x j)) := by
  have har := hs.ar
  intro d
  induction d with
  | zero =>
    intro i h1
    refine Wp.step ?_
    simp only [ref19_Closed_3730, Int.toNat_natCast, arcs_def]
    exact Wp.posd (by omega) (Wp.negd (by omega) (Wp.ret (.inl ⟨rfl, by rw [show i = (arcs s x).length by omega]; exact all_end⟩)))
  | succ d ih =>
    intro i h1
    have hil : i < (arcs s x).length := by omega
    have hg := goals_at hs hil
    have htot := total_ge (s := s) hx
    have htt := hs.tot
    rw [all_step hil]
    refine Wp.step ?_
    simp only [ref19_Closed_3730, wrapS i (by omega), Int.toNat_natCast, arcs_def, ato_def, hs.at' x i hil]
    refine Wp.posd (by omega) (Wp.posd (by omega) (Wp.posd (by omega) ?_))
    refine Wp.iteb (fun hb => Wp.posd (by omega) (Wp.posd (by omega) (Wp.posd (by omega) ?_))) (fun hb => (ih (i + 1) (by omega)).mono fun y hy => hy.step fun hx => by rw [SetOf, hb] at hx; simp at hx)
    refine Wp.itebn (fun hc => Wp.ret (.inr ⟨rfl, fun h => ?_⟩)) (fun hc => (ih (i + 1) (by omega)).mono fun y hy => hy.step fun _ => hc)
    have := h.1 hb
    rw [SetOf, hc] at this; simp at this

theorem rclosed_out {s : SpaceV} {n : Nat} (hs : Sys s n) (l : List Bool) (hl : l.length = n) : ∀ d x, x + d = n →
    Wp (fun K k => ref19_Closed_58 K k l (x : Int) s) (fun y => Look2 ((), ()) y (∀ z, x ≤ z → z < n → ∀ j, j < (arcs s z).length → Stays s l z j)) := by
  have hle := hs.le
  have har := hs.ar
  intro d
  induction d with
  | zero =>
    intro x h1
    refine Wp.step ?_
    simp only [ref19_Closed_58]
    exact Wp.negd (by omega) (Wp.ret (.inl ⟨rfl, by rw [show x = n by omega]; exact all_end⟩))
  | succ d ih =>
    intro x h1
    have hx : x < n := by omega
    rw [all_step hx]
    refine Wp.step ?_
    simp only [ref19_Closed_58, wrapS x (by omega)]
    refine Wp.posd (by omega) ?_
    refine (Wp.diag (rclosed_in hs l hl x hx (arcs s x).length 0 (by omega))).call fun y hy => ?_
    rcases hy with ⟨rfl, h2⟩ | ⟨rfl, h2⟩
    · exact (ih (x + 1) (by omega)).mono fun y hy => hy.step fun j hj => h2 j (by omega) hj
    · exact Wp.ret (.inr ⟨rfl, fun hc => h2 fun j _ hj => hc.1 j hj⟩)

/-- an error, or a word on a system -/
def ResB (s : SpaceV) (l : List Bool) (P : Prop) (e : Int) (b : Bool) : Prop := Chk s l e ∧ ((e = 0 ∧ (b = true ↔ P)) ∨ (e ≠ 0 ∧ b = false))
theorem ResB.unique {s : SpaceV} {l : List Bool} {P : Prop} {e f : Int} {a b : Bool} (ha : ResB s l P e a) (hb : ResB s l P f b) : e = f ∧ a = b := by
  obtain ⟨h1, h2⟩ := ha
  obtain ⟨h3, h4⟩ := hb
  have h5 := h1.unique h3
  subst h5
  refine ⟨rfl, ?_⟩
  rcases h2 with ⟨h6, h7⟩ | ⟨h6, rfl⟩ <;> rcases h4 with ⟨h8, h9⟩ | ⟨h8, rfl⟩
  · rw [Bool.eq_iff_iff, h7, h9]
  · exact absurd h6 h8
  · exact absurd h8 h6
  · rfl

theorem converge_Closed_ok {s : SpaceV} (hs : SpaceIn s) (l : List Bool) : Wp (fun K _ => converge_Closed K s l) (fun y => ∃ e b, y = (((b, (e, ())), ()), ()) ∧ ResB s l (ClosedP s l) e b) := by
  simp only [converge_Closed]
  refine (converge_check_ok hs l).call fun y hy => ?_
  obtain ⟨e, rfl, he⟩ := hy
  refine Wp.iten (fun h0 => Wp.ret ⟨_, _, rfl, he, .inr ⟨h0, rfl⟩⟩) (fun h0 => ?_)
  simp only at h0
  subst h0
  obtain ⟨h1, h2⟩ := he.zero
  have hS := sys_of h1
  simp only [hS.ar]
  refine (Wp.diag (closed_out hS l h2 s.1.length 0 (by omega))).call fun y hy => ?_
  rcases hy with ⟨rfl, h3⟩ | ⟨rfl, h3⟩
  · exact Wp.ret ⟨_, _, rfl, he, .inl ⟨rfl, by simp only [true_iff]; exact fun x hx => h3 x (by omega) hx⟩⟩
  · exact Wp.ret ⟨_, _, rfl, he, .inl ⟨rfl, by simp only [Bool.false_eq_true, false_iff]; exact fun hc => h3 fun x _ hx => hc x hx⟩⟩
theorem ref19_Closed_ok {s : SpaceV} (hs : SpaceIn s) (l : List Bool) : Wp (fun K _ => ref19_Closed K s l) (fun y => ∃ e b, y = (((b, (e, ())), ()), ()) ∧ ResB s l (ClosedP s l) e b) := by
  simp only [ref19_Closed]
  refine (ref19_Begin_ok hs l).call fun y hy => ?_
  obtain ⟨e, rfl, he⟩ := hy
  refine Wp.iten (fun h0 => Wp.ret ⟨_, _, rfl, he, .inr ⟨h0, rfl⟩⟩) (fun h0 => ?_)
  simp only at h0
  subst h0
  obtain ⟨h1, h2⟩ := he.zero
  have hS := sys_of h1
  refine (Wp.diag (rclosed_out hS l h2 s.1.length 0 (by omega))).call fun y hy => ?_
  rcases hy with ⟨rfl, h3⟩ | ⟨rfl, h3⟩
  · exact Wp.ret ⟨_, _, rfl, he, .inl ⟨rfl, by simp only [true_iff]; exact fun x hx => h3 x (by omega) hx⟩⟩
  · exact Wp.ret ⟨_, _, rfl, he, .inl ⟨rfl, by simp only [Bool.false_eq_true, false_iff]; exact fun hc => h3 fun x _ hx => hc x hx⟩⟩

theorem Res.len {s : SpaceV} {l : List Bool} {P : Nat → Prop} {e : Int} {a : List Bool} (h : Res s l P e a) (hs : s.1.length ≤ 200) : a.length ≤ 1000000 := by
  rcases h.2 with ⟨_, h1⟩ | ⟨_, rfl⟩
  · rw [h1.1]; omega
  · simp

theorem finds (s : SpaceV) (l : List Bool) (hs : okD spaceG s) : Wp (fun K _ => law19_ConvergeFinds K s l) (fun y => y = ((true, ()), ())) := by
  simp only [law19_ConvergeFinds]
  refine (light_ok hs l).call fun y hy => ?_
  obtain ⟨b, rfl, hb⟩ := hy
  refine Wp.itebn (fun _ => asleep rfl) (fun h1 => ?_)
  have hL := hb h1
  refine (converge_Closed_ok hL.inn l).call fun y hy => ?_
  obtain ⟨e1, b1, rfl, r1⟩ := hy
  refine (ref19_Closed_ok hL.inn l).call fun y hy => ?_
  obtain ⟨e2, b2, rfl, r2⟩ := hy
  obtain ⟨rfl, rfl⟩ := r1.unique r2
  refine (converge_Attractor_ok hL.inn l).call fun y hy => ?_
  obtain ⟨e3, a3, rfl, r3⟩ := hy
  refine (ref19_Attractor_ok hL.inn l).call fun y hy => ?_
  obtain ⟨e4, a4, rfl, r4⟩ := hy
  obtain ⟨rfl, rfl⟩ := r3.unique r4
  refine (converge_Core_ok hL.inn l).call fun y hy => ?_
  obtain ⟨e5, a5, rfl, r5⟩ := hy
  refine (ref19_Core_ok hL.inn l).call fun y hy => ?_
  obtain ⟨e6, a6, rfl, r6⟩ := hy
  obtain ⟨rfl, rfl⟩ := r5.unique r6
  refine Wp.callE awake19 (Wp.iteb (fun _ => ?_) (fun h => by simp at h))
  simp only [beq_bool]
  refine Wp.iteb (fun _ => ?_) (fun h => by simp at h)
  refine Wp.posd trivial ?_
  refine Wp.callE (same_refl a3 (r3.len hL.few)) (Wp.iteb (fun _ => ?_) (fun h => by simp at h))
  refine Wp.posd trivial ?_
  refine Wp.callE (same_refl a5 (r5.len hL.few)) (Wp.iteb (fun _ => ?_) (fun h => by simp at h))
  exact Wp.ret (by simp)

theorem pure_law19_ConvergeFinds : ∀ x, okS [spaceG, .slice .bool] 0 x → ∃ K, law19_ConvergeFinds K x.1 x.2.1 = some ((true, ()), ()) := by
  rintro ⟨s, l, _⟩ ⟨hs, _, _⟩
  exact (finds s l hs).outE
end Go.Proofs.Yteemomggcpaakaa.G
