/- The program's components, by a depth-first search with low links. -/
import Derived.Test.YteadlocehjfpoaaComp
namespace Go.Proofs.Yteadlocehjfpoaa.G
open Go Go.Fw

/-- the arcs outside of the legitimate states -/
def outer (s : SpaceV) (l : List Bool) (x : Nat) : List Nat := if l.getD x false = true then [] else (goals s x).filter fun t => !(l.getD t false)
theorem mem_outer {s : SpaceV} {l : List Bool} {x y : Nat} : y ∈ outer s l x ↔ l.getD x false = false ∧ y ∈ goals s x ∧ l.getD y false = false := by
  unfold outer
  split
  · rename_i h; rw [h]; simp
  · rename_i h
    have : l.getD x false = false := by simpa only [Bool.not_eq_true] using h
    rw [this, List.mem_filter]
    simp

/-- the search's state -/
structure TS where
  c : Nat
  idx : List Nat
  low : List Nat
  on : List Bool
  st : List Nat
  of : List Nat

def TS.out (q : TS) (s : SpaceV) (l : List Bool) : (SpaceV × ((List Bool) × (Unit × (Unit × (Unit × (Unit × (Unit × (Int × Unit)))))))) × ((List Int) × ((List Int) × ((List Bool) × ((List Int) × ((List Int) × Unit))))) :=
  ((s, (l, ((), ((), ((), ((), ((), ((q.c : Int), ())))))))), (numl q.idx, (numl q.low, (q.on, (numl q.st, (numl q.of, ()))))))

/-- visited, and no more on the stack -/
def TS.done (q : TS) (x : Nat) : Prop := q.idx.getD x 0 ≠ 0 ∧ x ∉ q.st

structure TI (s : SpaceV) (n : Nat) (l : List Bool) (gray : Nat → Prop) (q : TS) : Prop where
  li : q.idx.length = n
  ll : q.low.length = n
  lo : q.on.length = n
  lf : q.of.length = n
  cnt : q.idx.countP (· == 0) + q.c = n
  top : ∀ x, q.idx.getD x 0 ≤ q.c
  on : ∀ x, q.on.getD x false = true ↔ x ∈ q.st
  st : ∀ x ∈ q.st, q.idx.getD x 0 ≠ 0
  srt : q.st.Pairwise (fun x y => q.idx.getD x 0 < q.idx.getD y 0)
  gst : ∀ x, gray x → x ∈ q.st
  togr : ∀ x ∈ q.st, ∃ g, gray g ∧ q.idx.getD g 0 ≤ q.idx.getD x 0 ∧ Rch (outer s l) x g
  frgr : ∀ g, gray g → ∀ y ∈ q.st, q.idx.getD g 0 ≤ q.idx.getD y 0 → Rch (outer s l) g y
  black : ∀ x, q.idx.getD x 0 ≠ 0 → ¬ gray x → ∀ y ∈ outer s l x, q.idx.getD y 0 ≠ 0
  shut : ∀ x, q.done x → ∀ y ∈ outer s l x, q.done y
  leg : ∀ x, q.idx.getD x 0 ≠ 0 → l.getD x false = false
  rep : ∀ x, q.done x → q.done (q.of.getD x 0) ∧ Both (outer s l) x (q.of.getD x 0)
  same : ∀ x y, q.done x → q.done y → Both (outer s l) x y → q.of.getD x 0 = q.of.getD y 0

theorem idx_lt {s : SpaceV} {n : Nat} {l : List Bool} {gray : Nat → Prop} {q : TS} (h : TI s n l gray q) {x : Nat} (hx : q.idx.getD x 0 ≠ 0) : x < n := by
  rcases Nat.lt_or_ge x n with h1 | h1
  · exact h1
  · exact absurd (getD_over (by rw [h.li]; exact h1)) hx
theorem TI.nodup {s : SpaceV} {n : Nat} {l : List Bool} {gray : Nat → Prop} {q : TS} (h : TI s n l gray q) : q.st.Nodup :=
  h.srt.imp fun hlt he => by rw [he] at hlt; exact absurd hlt (Nat.lt_irrefl _)
theorem TI.stn {s : SpaceV} {n : Nat} {l : List Bool} {gray : Nat → Prop} {q : TS} (h : TI s n l gray q) : q.st.length ≤ n := nodup_le n _ h.nodup fun x hx => idx_lt h (h.st x hx)

theorem countP_set0 {l : List Nat} {i v : Nat} (hi : i < l.length) (h : l.getD i 0 = 0) (hv : v ≠ 0) : (l.set i v).countP (· == 0) + 1 = l.countP (· == 0) := by
  induction l generalizing i with
  | nil => simp at hi
  | cons a l ih =>
    cases i with
    | zero =>
      simp only [List.getD_cons_zero] at h
      subst h
      simp [hv]
    | succ i =>
      simp only [List.length_cons, Nat.add_lt_add_iff_right] at hi
      simp only [List.getD_cons_succ] at h
      have := ih hi h
      simp only [List.set_cons_succ, List.countP_cons]
      omega

/-- behind a visit -/
structure Visited (s : SpaceV) (n : Nat) (l : List Bool) (gray : Nat → Prop) (q : TS) (x : Nat) (q' : TS) (t : List Nat) : Prop where
  inv : TI s n l gray q'
  old : ∀ y, q.idx.getD y 0 ≠ 0 → q'.idx.getD y 0 = q.idx.getD y 0 ∧ q'.low.getD y 0 = q.low.getD y 0
  at' : q'.idx.getD x 0 = q.c + 1
  st : q'.st = q.st ++ t
  new : ∀ y ∈ t, q.idx.getD y 0 = 0
  pos : 1 ≤ q'.low.getD x 0
  le : q'.low.getD x 0 ≤ q.c + 1
  lnk : x ∈ q'.st → ∃ z ∈ q'.st, q'.idx.getD z 0 = q'.low.getD x 0 ∧ Rch (outer s l) x z
  pop : x ∉ q'.st → q'.low.getD x 0 = q.c + 1
  edge : ∀ u ∈ t, ∀ y ∈ outer s l u, y ∈ q.st → q'.low.getD x 0 ≤ q.idx.getD y 0
  cle : q.c ≤ q'.c

/-- in a visit, behind some arcs -/
structure Visiting (s : SpaceV) (n : Nat) (l : List Bool) (gray : Nat → Prop) (q : TS) (x : Nat) (i : Nat) (q' : TS) (t : List Nat) : Prop where
  inv : TI s n l (fun y => gray y ∨ y = x) q'
  old : ∀ y, q.idx.getD y 0 ≠ 0 → q'.idx.getD y 0 = q.idx.getD y 0 ∧ q'.low.getD y 0 = q.low.getD y 0
  at' : q'.idx.getD x 0 = q.c + 1
  st : q'.st = q.st ++ (x :: t)
  new : ∀ y ∈ t, q.idx.getD y 0 = 0
  pos : 1 ≤ q'.low.getD x 0
  le : q'.low.getD x 0 ≤ q.c + 1
  lnk : ∃ z ∈ q'.st, q'.idx.getD z 0 = q'.low.getD x 0 ∧ Rch (outer s l) x z
  edge : ∀ u ∈ t, ∀ y ∈ outer s l u, y ∈ q.st → q'.low.getD x 0 ≤ q.idx.getD y 0
  arc : ∀ j, j < i → l.getD ((goals s x).getD j 0) false = false → q'.idx.getD ((goals s x).getD j 0) 0 ≠ 0 ∧ ((goals s x).getD j 0 ∈ q.st → q'.low.getD x 0 ≤ q.idx.getD ((goals s x).getD j 0) 0)
  cle : q.c ≤ q'.c

theorem min_eq (a b : Nat) : (if (a : Int) < (b : Int) then (a : Int) else (b : Int)) = ((min a b : Nat) : Int) := by
  split <;> omega
theorem numl_set (l : List Nat) (i v : Nat) : (numl l).set i (v : Int) = numl (l.set i v) := by simp [numl, List.map_set]

/-- the state at x is greyed -/
theorem Visiting.start {s : SpaceV} {n : Nat} {l : List Bool} {gray : Nat → Prop} {q : TS} (h : TI s n l gray q) {x : Nat} (hx : x < n) (hl : l.getD x false = false) (h0 : q.idx.getD x 0 = 0) (hg : ∀ g, gray g → Rch (outer s l) g x) :
    Visiting s n l gray q x 0 ⟨q.c + 1, q.idx.set x (q.c + 1), q.low.set x (q.c + 1), q.on.set x true, q.st ++ [x], q.of⟩ [] := by
  have hxs : x ∉ q.st := fun hm => h.st x hm h0
  have hi : ∀ y, (q.idx.set x (q.c + 1)).getD y 0 = if x = y then q.c + 1 else q.idx.getD y 0 := fun y => by
    rw [gset]
    by_cases hxy : x = y
    · rw [if_pos ⟨hxy, by rw [h.li]; exact hx⟩, if_pos hxy]
    · rw [if_neg (fun hh => hxy hh.1), if_neg hxy]
  have hne : ∀ y ∈ q.st, x ≠ y := fun y hy he => hxs (he ▸ hy)
  have htop := h.top
  have hdone : ∀ y, (TS.done ⟨q.c + 1, q.idx.set x (q.c + 1), q.low.set x (q.c + 1), q.on.set x true, q.st ++ [x], q.of⟩ y) ↔ q.done y := fun y => by
    simp only [TS.done, hi]
    by_cases hxy : x = y
    · subst hxy
      constructor
      · rintro ⟨_, h2⟩; exact absurd (by simp) h2
      · rintro ⟨h1, _⟩; exact absurd h0 h1
    · rw [if_neg hxy, List.mem_append, List.mem_singleton]
      simp [Ne.symm hxy]
  refine ⟨⟨by simpa using h.li, by simpa using h.ll, by simpa using h.lo, h.lf, ?_, fun y => ?_, fun y => ?_, fun y hy => ?_, ?_, fun y hy => ?_, fun y hy => ?_, fun g hg' y hy hle => ?_, fun y hy hng z hz => ?_, fun y hy z hz => ?_, fun y hy => ?_, fun y hy => ?_, fun y z hy hz hb => ?_⟩, fun y hy => ?_, ?_, rfl, fun y hy => by simp at hy, ?_, ?_, ?_, fun u hu => by simp at hu, fun j hj => absurd hj (Nat.not_lt_zero _), Nat.le_succ _⟩
  · have := countP_set0 (l := q.idx) (i := x) (v := q.c + 1) (by rw [h.li]; exact hx) h0 (by omega)
    have := h.cnt
    show (q.idx.set x (q.c + 1)).countP (· == 0) + (q.c + 1) = n
    omega
  · rw [hi]; have := htop y; show _ ≤ q.c + 1; split <;> omega
  · show (q.on.set x true).getD y false = true ↔ y ∈ q.st ++ [x]
    rw [gset, List.mem_append, List.mem_singleton]
    by_cases hxy : x = y
    · rw [if_pos ⟨hxy, by rw [h.lo]; exact hx⟩]; simp [hxy]
    · rw [if_neg (fun hh => hxy hh.1), h.on]; simp [Ne.symm hxy]
  · rw [hi]
    split
    · omega
    · rename_i hxy
      rcases List.mem_append.1 hy with hy | hy
      · exact h.st y hy
      · rw [List.mem_singleton] at hy; exact absurd hy.symm hxy
  · show (q.st ++ [x]).Pairwise _
    rw [List.pairwise_append]
    refine ⟨h.srt.imp_of_mem fun ha hb hlt => ?_, by simp, fun a ha b hb => ?_⟩
    · rw [hi, hi, if_neg (hne _ ha), if_neg (hne _ hb)]; exact hlt
    · rw [List.mem_singleton] at hb
      subst hb
      rw [hi, hi, if_neg (hne _ ha), if_pos rfl]
      have := htop a; omega
  · rcases hy with hy | rfl
    · exact List.mem_append_left _ (h.gst y hy)
    · simp
  · rcases List.mem_append.1 hy with hy | hy
    · obtain ⟨g, h1, h2, h3⟩ := h.togr y hy
      refine ⟨g, .inl h1, ?_, h3⟩
      rw [hi, hi, if_neg (hne _ (h.gst g h1)), if_neg (hne _ hy)]; exact h2
    · rw [List.mem_singleton] at hy
      subst hy
      exact ⟨y, .inr rfl, Nat.le_refl _, .refl⟩
  · rcases List.mem_append.1 hy with hy1 | hy1
    · rcases hg' with hg' | hg'
      · rw [hi, hi, if_neg (hne _ (h.gst g hg')), if_neg (hne _ hy1)] at hle
        exact h.frgr g hg' y hy1 hle
      · rw [hi, hi, if_pos hg'.symm, if_neg (hne _ hy1)] at hle
        have := htop y; omega
    · rw [List.mem_singleton] at hy1
      rw [hy1]
      rcases hg' with hg' | hg'
      · exact hg g hg'
      · rw [hg']; exact .refl
  · have hyx : x ≠ y := fun he => hng (.inr he.symm)
    rw [hi, if_neg hyx] at hy
    have := h.black y hy (fun hgy => hng (.inl hgy)) z hz
    rw [hi]
    split
    · omega
    · exact this
  · rw [hdone] at hy ⊢
    exact h.shut y hy z hz
  · by_cases hxy : x = y
    · exact hxy ▸ hl
    · rw [hi, if_neg hxy] at hy; exact h.leg y hy
  · rw [hdone] at hy ⊢
    exact h.rep y hy
  · rw [hdone] at hy hz
    exact h.same y z hy hz hb
  · have hxy : x ≠ y := fun he => hy (he ▸ h0)
    exact ⟨by rw [hi, if_neg hxy], by show (q.low.set x (q.c + 1)).getD y 0 = _; rw [gset, if_neg (fun hh => hxy hh.1)]⟩
  · show (q.idx.set x (q.c + 1)).getD x 0 = _
    rw [hi, if_pos rfl]
  · show 1 ≤ (q.low.set x (q.c + 1)).getD x 0
    rw [gset, if_pos ⟨rfl, by rw [h.ll]; exact hx⟩]; omega
  · show (q.low.set x (q.c + 1)).getD x 0 ≤ _
    rw [gset, if_pos ⟨rfl, by rw [h.ll]; exact hx⟩]; omega
  · refine ⟨x, by simp, ?_, .refl⟩
    show (q.idx.set x (q.c + 1)).getD x 0 = (q.low.set x (q.c + 1)).getD x 0
    rw [hi, if_pos rfl, gset, if_pos ⟨rfl, by rw [h.ll]; exact hx⟩]
end Go.Proofs.Yteadlocehjfpoaa.G
