/- Transition systems: what the two texts call valid. -/
import Derived.Test.YtafndpkfoajpnaaConv
import Derived.Test.YtafndpkfoajpnaaG
namespace Go.Proofs.Ytafndpkfoajpnaa.G
open Go Go.Fw

abbrev arcG : GTy := .pair (.int .u32) (.pair (.int .i64) .unit)
abbrev ArcV := Int × (Int × Unit)
abbrev SpaceV := List Int × (List (List ArcV) × Unit)
abbrev spaceG : GTy := .pair (.slice (.int .u32)) (.pair (.slice (.slice arcG)) .unit)

/-- the arcs of a state; an arc's set and its goal -/
def arcs (s : SpaceV) (k : Nat) : List ArcV := s.2.1.getD k []
def aset (l : List ArcV) (j : Nat) : Int := (l.getD j (0, (0, ()))).1
def ato (l : List ArcV) (j : Nat) : Int := (l.getD j (0, (0, ()))).2.1
theorem arcs_def (s : SpaceV) (k : Nat) : s.2.1.getD k [] = arcs s k := rfl
theorem aset_def (l : List ArcV) (j : Nat) : (l.getD j (0, (0, ()))).1 = aset l j := rfl
theorem ato_def (l : List ArcV) (j : Nat) : (l.getD j (0, (0, ()))).2.1 = ato l j := rfl
/-- an arc is allowed -/
def ArcP (e : Int) (l : List ArcV) (n : Nat) (j : Nat) : Prop :=
  aset l j ≠ 0 ∧ (0 < j → aset l (j - 1) < aset l j) ∧ iandNot .u32 (aset l j) e = 0 ∧ 0 ≤ ato l j ∧ ato l j < (n : Int)
def ArcsP (e : Int) (l : List ArcV) (n : Nat) : Prop := ∀ j, j < l.length → ArcP e l n j

theorem all_step {c : Nat → Prop} {i n : Nat} (hi : i < n) : (∀ j, i ≤ j → j < n → c j) ↔ c i ∧ ∀ j, i + 1 ≤ j → j < n → c j := by
  constructor
  · intro h
    exact ⟨h i (Nat.le_refl _) hi, fun j h1 h2 => h j (by omega) h2⟩
  · rintro ⟨h0, h⟩ j h1 h2
    rcases Nat.eq_or_lt_of_le h1 with rfl | h3
    · exact h0
    · exact h j h3 h2
theorem all_end {c : Nat → Prop} {n : Nat} : ∀ j, n ≤ j → j < n → c j := fun j h1 h2 => absurd h2 (by omega)

/-- a loop that looks for a fault -/
def Look {A : Type} (y : (Unit × Unit) ⊕ ((Bool × Unit) × A)) (P : Prop) : Prop := (y = .inl ((), ()) ∧ P) ∨ ((∃ a, y = .inr ((false, ()), a)) ∧ ¬ P)

theorem u32_nonneg {x : Int} (h : IntKind.u32.has x) : 0 ≤ x := by
  obtain ⟨n, rfl, _⟩ := nat_of_u32 h; omega

theorem getD_ok {g : GTy} {l : List g.denote} {i : Nat} (hl : okD (.slice g) l) (d : g.denote) (h : i < l.length) : okD g (l.getD i d) := hl.2 _ (getD_mem d h)

theorem space_state_loop (e : Int) (n : Nat) (l : List ArcV) (hl : l.length ≤ 1000000) (hs : okD (.slice arcG) l) : ∀ d i (last : Int), i + d = l.length → (last = if 0 < i then aset l (i - 1) else 0) → (∀ j, j < i → 0 < aset l j) →
    Wp (fun K k => space_state_58 K k e (n : Int) last l (l.length : Int) (i : Int)) (fun y => Look y (∀ j, i ≤ j → j < l.length → ArcP e l n j)) := by
  intro d
  induction d with
  | zero =>
    intro i last h1 h2 h3
    refine Wp.step ?_
    simp only [space_state_58]
    refine Wp.negd (by omega) (Wp.ret ?_)
    exact .inl ⟨rfl, by rw [show i = l.length by omega]; exact all_end⟩
  | succ d ih =>
    intro i last h1 h2 h3
    have hil : i < l.length := by omega
    have hok := getD_ok hs (0, (0, ())) hil
    have h0 : 0 ≤ aset l i := u32_nonneg hok.1
    have hlast : aset l i ≤ last ↔ ¬ (aset l i ≠ 0 ∧ (0 < i → aset l (i - 1) < aset l i)) := by
      rw [h2]
      by_cases hi : 0 < i
      · have := h3 (i - 1) (by omega)
        simp only [hi, if_true, true_implies]; omega
      · simp only [hi, if_false, false_implies, and_true]; omega
    rw [all_step hil]
    refine Wp.step ?_
    simp only [space_state_58, wrapS i (by omega), Int.toNat_natCast, aset_def, ato_def]
    refine Wp.posd (by omega) ?_
    refine Wp.posd (by omega) ?_
    refine Wp.ited (fun hA => Wp.ret (.inr ⟨⟨_, rfl⟩, fun hc => hlast.1 hA ⟨hc.1.1, hc.1.2.1⟩⟩)) (fun hA => ?_)
    have hA2 := Classical.not_not.1 (fun h => hA (hlast.2 h))
    refine Wp.iten (fun hB => Wp.ret (.inr ⟨⟨_, rfl⟩, fun hc => hB hc.1.2.2.1⟩)) (fun hB => ?_)
    refine Wp.ited (fun hC => Wp.ret (.inr ⟨⟨_, rfl⟩, fun hc => by have := hc.1.2.2.2.1; omega⟩)) (fun hC => ?_)
    refine Wp.ited (fun hD => Wp.ret (.inr ⟨⟨_, rfl⟩, fun hc => by have := hc.1.2.2.2.2; omega⟩)) (fun hD => ?_)
    have hnew : ∀ j, j < i + 1 → 0 < aset l j := fun j hj => by
      rcases Nat.lt_or_ge j i with h | h
      · exact h3 j h
      · rw [show j = i by omega]; omega
    refine (ih (i + 1) _ (by omega) (by simp) hnew).mono fun y hy => ?_
    rcases hy with ⟨h4, h5⟩ | ⟨h4, h5⟩
    · exact .inl ⟨h4, ⟨hA2.1, hA2.2, hB, by omega, by omega⟩, h5⟩
    · exact .inr ⟨h4, fun hc => h5 hc.2⟩

/-- a state is allowed -/
def StateP (e : Int) (l : List ArcV) (n : Nat) : Prop := ArcsP e l n ∧ e < 16777216 ∧ (l ≠ [] ↔ e ≠ 0)

theorem ishr24 {e : Int} (h : IntKind.u32.has e) : ishr .u32 e 24 = 0 ↔ e < 16777216 := by
  obtain ⟨n, rfl, hn⟩ := nat_of_u32 h
  have e1 : ishr .u32 (n : Int) 24 = ((n >>> 24 : Nat) : Int) := ishr_nat n 24 (by omega)
  rw [e1, Nat.shiftRight_eq_div_pow]
  omega

theorem beq_dec {p q : Prop} [Decidable p] [Decidable q] : (decide p == !decide q) = true ↔ (p ↔ ¬ q) := by
  by_cases hp : p <;> by_cases hq : q <;> simp [hp, hq]
theorem len_pos {α : Type} {l : List α} : 0 < (l.length : Int) ↔ l ≠ [] := by
  cases l <;> simp <;> omega

theorem space_state_ok {e : Int} {n : Nat} {l : List ArcV} (hl : l.length ≤ 1000000) (hs : okD (.slice arcG) l) (he : IntKind.u32.has e) :
    Wp (fun K _ => space_state K e l (n : Int)) (fun y => ∃ b, y = ((b, ()), ()) ∧ (b = true ↔ StateP e l n)) := by
  have h := space_state_loop e n l hl hs l.length 0 0 (by omega) (by simp) (by omega)
  simp only [space_state]
  refine (Wp.diag h).call fun y hy => ?_
  rcases hy with ⟨rfl, h1⟩ | ⟨⟨a, rfl⟩, h1⟩
  · refine Wp.ited (fun hb => Wp.ret ⟨_, rfl, ?_⟩) (fun hb => Wp.ret ⟨_, rfl, ?_⟩)
    · rw [ishr24 he] at hb
      rw [beq_bool, beq_dec, len_pos]
      exact ⟨fun hh => ⟨fun j hj => h1 j (by omega) hj, hb, hh⟩, fun hh => hh.2.2⟩
    · rw [ishr24 he] at hb
      simp only [Bool.false_eq_true, false_iff]
      exact fun hh => hb hh.2.1
  · refine Wp.ret ⟨_, rfl, ?_⟩
    simp only [Bool.false_eq_true, false_iff]
    exact fun hh => h1 fun j _ hj => hh.1 j hj

/-! The whole system. -/
def total (s : SpaceV) : Nat → Nat
  | 0 => 0
  | k + 1 => total s k + (arcs s k).length
theorem total_mono (s : SpaceV) {a b : Nat} (h : a ≤ b) : total s a ≤ total s b := by
  induction b with
  | zero => rw [show a = 0 by omega]; exact Nat.le_refl _
  | succ b ih =>
    rcases Nat.eq_or_lt_of_le h with rfl | h1
    · exact Nat.le_refl _
    · exact Nat.le_trans (ih (by omega)) (Nat.le_add_right _ _)
def SpaceP (s : SpaceV) : Prop :=
  1 ≤ s.1.length ∧ s.1.length ≤ 32768 ∧ s.2.1.length = s.1.length ∧ total s s.1.length ≤ 262144 ∧ ∀ k, k < s.1.length → StateP (s.1.getD k 0) (arcs s k) s.1.length

/-- the arcs of each state are few enough to be counted -/
structure SpaceIn (s : SpaceV) : Prop where
  en : okD (.slice (.int .u32)) s.1
  ar : okD (.slice (.slice arcG)) s.2.1
  few : ∀ k, k < s.2.1.length → (arcs s k).length ≤ 1000000

theorem arcs_ok {s : SpaceV} (h : SpaceIn s) {k : Nat} (hk : k < s.2.1.length) : okD (.slice arcG) (arcs s k) := getD_ok h.ar [] hk

theorem space_Valid_loop {s : SpaceV} (hs : SpaceIn s) (he : s.2.1.length = s.1.length) (hn : s.1.length ≤ 32768) : ∀ d i, i + d = s.1.length → total s i ≤ 262144 →
    Wp (fun K k => space_Valid_122 K k (s.1.length : Int) ((total s i : Nat) : Int) s.2.1 (s.2.1.length : Int) (i : Int) s) (fun y => Look y (total s s.1.length ≤ 262144 ∧ ∀ j, i ≤ j → j < s.1.length → StateP (s.1.getD j 0) (arcs s j) s.1.length)) := by
  intro d
  induction d with
  | zero =>
    intro i h1 h2
    refine Wp.step ?_
    simp only [space_Valid_122]
    refine Wp.negd (by omega) (Wp.ret ?_)
    exact .inl ⟨rfl, by rw [show s.1.length = i by omega]; exact ⟨h2, all_end⟩⟩
  | succ d ih =>
    intro i h1 h2
    have hil : i < s.1.length := by omega
    have hfew := hs.few i (by omega)
    have ht : total s (i + 1) = total s i + (arcs s i).length := rfl
    rw [all_step hil]
    refine Wp.step ?_
    simp only [space_Valid_122, wrapS i (by omega), Int.toNat_natCast, arcs_def]
    refine Wp.posd (by omega) (Wp.posd (by omega) ?_)
    have hw : IntKind.i64.wrap (((total s i : Nat) : Int) + ((arcs s i).length : Int)) = ((total s (i + 1) : Nat) : Int) := wrapA _ _ (by show total s i + (arcs s i).length ≤ _; omega)
    simp only [hw]
    refine Wp.ited (fun hA => Wp.ret (.inr ⟨⟨_, rfl⟩, fun hc => ?_⟩)) (fun hA => ?_)
    · have := total_mono s (show i + 1 ≤ s.1.length by omega)
      have := hc.1
      omega
    refine Wp.posd (by omega) ?_
    refine (space_state_ok (l := arcs s i) hfew (arcs_ok hs (by omega)) (getD_ok hs.en (0 : Int) hil)).call fun y hy => ?_
    obtain ⟨b, rfl, hb⟩ := hy
    cases b with
    | false => exact Wp.itebn (fun _ => Wp.ret (.inr ⟨⟨_, rfl⟩, fun hc => by simpa using hb.2 hc.2.1⟩)) (fun h => by simp at h)
    | true =>
      refine Wp.itebn (fun h => by simp at h) (fun _ => ?_)
      refine (ih (i + 1) (by omega) (by omega)).mono fun y hy => ?_
      rcases hy with ⟨h4, h5⟩ | ⟨h4, h5⟩
      · exact .inl ⟨h4, h5.1, hb.1 rfl, h5.2⟩
      · exact .inr ⟨h4, fun hc => h5 ⟨hc.1, hc.2.2⟩⟩

theorem space_Valid_ok {s : SpaceV} (hs : SpaceIn s) : Wp (fun K _ => space_Valid K s) (fun y => ∃ b, y = ((b, ()), ()) ∧ (b = true ↔ SpaceP s)) := by
  simp only [space_Valid]
  refine Wp.ited (fun hA => Wp.ret ⟨_, rfl, by simp only [Bool.false_eq_true, false_iff]; exact fun hc => by have := hc.1; omega⟩) (fun hA => ?_)
  refine Wp.ited (fun hB => Wp.ret ⟨_, rfl, by simp only [Bool.false_eq_true, false_iff]; exact fun hc => by have := hc.2.1; omega⟩) (fun hB => ?_)
  refine Wp.iten (fun hC => Wp.ret ⟨_, rfl, by simp only [Bool.false_eq_true, false_iff]; exact fun hc => by have := hc.2.2.1; omega⟩) (fun hC => ?_)
  refine (Wp.diag (space_Valid_loop hs (by omega) (by omega) s.1.length 0 (by omega) (Nat.zero_le _))).call fun y hy => ?_
  rcases hy with ⟨rfl, h1⟩ | ⟨⟨a, rfl⟩, h1⟩
  · exact Wp.ret ⟨_, rfl, by simp only [true_iff]; exact ⟨by omega, by omega, by omega, h1.1, fun k hk => h1.2 k (by omega) hk⟩⟩
  · exact Wp.ret ⟨_, rfl, by simp only [Bool.false_eq_true, false_iff]; exact fun hc => h1 ⟨hc.2.2.2.1, fun j _ hj => hc.2.2.2.2 j hj⟩⟩
end Go.Proofs.Ytafndpkfoajpnaa.G
