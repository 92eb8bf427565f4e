/- The reference's rounds, by improvement. -/
import Derived.Test.YtafndpkfoajpnaaWorstG
namespace Go.Proofs.Ytafndpkfoajpnaa.G
open Go Go.Fw

/-- the rounds that a table has for a pair, at its first place -/
noncomputable def rd (T : List (List (Nat × Nat))) (x p : Nat) : Nat := by
  classical exact if h : InT T x p then ((T.getD x []).getD (Classical.choose h) (0, 0)).2 else 0
theorem place_one {L : List (Nat × Nat)} (hd : (L.map (·.1)).Nodup) {i j : Nat} (hi : i < L.length) (hj : j < L.length) (h : (L.getD i (0, 0)).1 = (L.getD j (0, 0)).1) : i = j := by
  have hg : ∀ k, k < L.length → (L.map (·.1)).getD k 0 = (L.getD k (0, 0)).1 := fun k hk => by
    simp only [List.getD_eq_getElem?_getD, List.getElem?_map]
    rw [List.getElem?_eq_getElem hk]; rfl
  have h1 := hg i hi
  have h2 := hg j hj
  have hi' : i < (L.map (·.1)).length := by rw [List.length_map]; exact hi
  have hj' : j < (L.map (·.1)).length := by rw [List.length_map]; exact hj
  rw [getD_at 0 hi'] at h1
  rw [getD_at 0 hj'] at h2
  have hne := List.pairwise_iff_getElem.1 hd
  rcases Nat.lt_trichotomy i j with h3 | h3 | h3
  · exact absurd (by rw [h1, h2, h]) (hne i j hi' hj' h3)
  · exact h3
  · exact absurd (by rw [h1, h2, h]) (hne j i hj' hi' h3)
theorem rd_at {T : List (List (Nat × Nat))} {x i : Nat} (hd : ((T.getD x []).map (·.1)).Nodup) (hi : i < (T.getD x []).length) : rd T x ((T.getD x []).getD i (0, 0)).1 = ((T.getD x []).getD i (0, 0)).2 := by
  have h : InT T x ((T.getD x []).getD i (0, 0)).1 := ⟨i, hi, rfl⟩
  unfold rd
  rw [dif_pos h]
  have hs := Classical.choose_spec h
  rw [place_one hd hs.1 hi hs.2]

section
variable {s : SpaceV} {n : Nat} {l : List Bool}
/-- the rounds of an execution that begins with an arc -/
noncomputable def thr (s : SpaceV) (l : List Bool) (T : List (List (Nat × Nat))) (x p j : Nat) : Nat := if l.getD (goN s x j) false = true then 1 else doneN s p x j + rd T (goN s x j) (afterN s p x j)

theorem through_ok (hs : Sys s n) (hl : l.length = n) (hS : Sets s n) {T : List (List (Nat × Nat))} (hT : TabOk s l n T) (hrow : ∀ x, x < n → (T.getD x []).length ≤ 30720) {x p j : Nat} (hp : p < 4294967296) (hj : j < (arcs s x).length) (hclo : l.getD (goN s x j) false = false → InT T (goN s x j) (afterN s p x j)) (hb : rd T (goN s x j) (afterN s p x j) ≤ 1000000) :
    Wp (fun K _ => ref20_through K s l (encT T) (p : Int) ((arcs s x).getD j (0, (0, ())))) (fun y => y = ((((thr s l T x p j : Nat) : Int), ()), ())) := by
  have hg : goN s x j < n := goals_at hs hj
  have hgo : (goals s x).getD j 0 = goN s x j := rfl
  have htl := hT.len
  simp only [ref20_through, ato_def, hs.at' x j hj, hgo, Int.toNat_natCast, encT_length, encT_getD]
  refine Wp.posd (by omega) ?_
  refine Wp.iteb (fun hlg => Wp.ret (by unfold thr; rw [if_pos hlg]; rfl)) (fun hlg => ?_)
  refine Wp.posd (by omega) (Wp.posd (by omega) ?_)
  refine Wp.callE (after_ok hs hS hp hj) ?_
  have hr := hrow _ hg
  refine (place_ok (T.getD (goN s x j) []) (by omega) (afterN s p x j)).call fun y hy => ?_
  have hel := encP_length (T.getD (goN s x j) [])
  rcases hy with ⟨i, rfl, h1, h2, _⟩ | ⟨rfl, h1⟩
  · have hrd := rd_at (hT.nd (goN s x j)) h1
    rw [h2] at hrd
    have hat : ato (encP (T.getD (goN s x j) [])) i = ((((T.getD (goN s x j) []).getD i (0, 0)).2 : Nat) : Int) := by
      show ((encP (T.getD (goN s x j) [])).getD i (0, (0, ()))).2.1 = _
      rw [encP_getD]
    simp only [Int.toNat_natCast, hat]
    refine Wp.posd (by omega) ?_
    refine Wp.callE (left_ok hs hS hp hj) ?_
    have hth : thr s l T x p j = doneN s p x j + rd T (goN s x j) (afterN s p x j) := by unfold thr; rw [if_neg (by rw [hlg]; simp)]
    rw [hth, hrd]
    rw [hrd] at hb
    refine Wp.ited (fun h0 => Wp.ret ?_) (fun h0 => Wp.ret ?_)
    · have h0' : leftN s p x j = 0 := by simp only at h0; omega
      have e1 : doneN s p x j = 1 := by unfold doneN; rw [if_pos h0']
      rw [e1, wrapS _ (by omega), Nat.add_comm]
    · have h0' : ¬ leftN s p x j = 0 := by simp only at h0; omega
      have e1 : doneN s p x j = 0 := by unfold doneN; rw [if_neg h0']
      rw [e1, Nat.zero_add]
  · obtain ⟨i, h2, h3⟩ := hclo hlg
    exact absurd h3 (h1 i h2)
end

/-! ### One number of the table becomes greater -/
def setT (T : List (List (Nat × Nat))) (x i v : Nat) : List (List (Nat × Nat)) := T.set x ((T.getD x []).set i (((T.getD x []).getD i (0, 0)).1, v))
theorem setT_row {T : List (List (Nat × Nat))} {x i v : Nat} (hx : x < T.length) (y : Nat) : (setT T x i v).getD y [] = if x = y then (T.getD x []).set i (((T.getD x []).getD i (0, 0)).1, v) else T.getD y [] := by
  unfold setT
  rw [gset]
  by_cases hy : x = y
  · rw [if_pos ⟨hy, hx⟩, if_pos hy]
  · rw [if_neg (fun hh => hy hh.1), if_neg hy]
theorem setT_len {T : List (List (Nat × Nat))} {x i v : Nat} (hx : x < T.length) (y : Nat) : ((setT T x i v).getD y []).length = (T.getD y []).length := by
  rw [setT_row hx]
  split
  · rename_i h; rw [List.length_set, h]
  · rfl
theorem setT_at {T : List (List (Nat × Nat))} {x i v : Nat} (hx : x < T.length) (hi : i < (T.getD x []).length) (y k : Nat) : ((setT T x i v).getD y []).getD k (0, 0) = if x = y ∧ i = k then (((T.getD x []).getD i (0, 0)).1, v) else (T.getD y []).getD k (0, 0) := by
  rw [setT_row hx]
  by_cases hy : x = y
  · rw [if_pos hy, gset]
    by_cases hk : i = k
    · rw [if_pos ⟨hk, hi⟩, if_pos ⟨hy, hk⟩]
    · rw [if_neg (fun hh => hk hh.1), if_neg (fun hh => hk hh.2), hy]
  · rw [if_neg hy, if_neg (fun hh => hy hh.1)]
theorem setT_fst {T : List (List (Nat × Nat))} {x i v : Nat} (hx : x < T.length) (hi : i < (T.getD x []).length) (y k : Nat) : (((setT T x i v).getD y []).getD k (0, 0)).1 = ((T.getD y []).getD k (0, 0)).1 := by
  rw [setT_at hx hi]
  split
  · rename_i h; rw [← h.1, ← h.2]
  · rfl
theorem setT_in {T : List (List (Nat × Nat))} {x i v : Nat} (hx : x < T.length) (hi : i < (T.getD x []).length) (y p : Nat) : InT (setT T x i v) y p ↔ InT T y p := by
  unfold InT
  constructor
  · rintro ⟨k, h1, h2⟩
    rw [setT_len hx] at h1; rw [setT_fst hx hi] at h2; exact ⟨k, h1, h2⟩
  · rintro ⟨k, h1, h2⟩
    exact ⟨k, by rw [setT_len hx]; exact h1, by rw [setT_fst hx hi]; exact h2⟩
theorem map_getD1 (L : List (Nat × Nat)) (k : Nat) : (L.map (·.1)).getD k 0 = (L.getD k (0, 0)).1 := by
  simp only [List.getD_eq_getElem?_getD, List.getElem?_map]
  cases L[k]? <;> rfl
theorem setT_map {T : List (List (Nat × Nat))} {x i v : Nat} (hx : x < T.length) (hi : i < (T.getD x []).length) (y : Nat) : ((setT T x i v).getD y []).map (·.1) = (T.getD y []).map (·.1) := by
  refine ext_getD 0 (by rw [List.length_map, List.length_map, setT_len hx]) fun k _ => ?_
  rw [map_getD1, map_getD1, setT_fst hx hi]

section
variable {s : SpaceV} {n : Nat} {l : List Bool}
theorem TabOk.setT {T : List (List (Nat × Nat))} (h : TabOk s l n T) {x i v : Nat} (hx : x < T.length) (hi : i < (T.getD x []).length) : TabOk s l n (setT T x i v) where
  len := by unfold G.setT; rw [List.length_set]; exact h.len
  ok := fun y p hy => h.ok y p ((setT_in hx hi y p).1 hy)
  nd := fun y => by rw [setT_map hx hi]; exact h.nd y

/-- no number is too great -/
def UnderT (s : SpaceV) (l : List Bool) (T : List (List (Nat × Nat))) : Prop := ∀ x i, i < (T.getD x []).length → ((T.getD x []).getD i (0, 0)).2 ≤ (roundsN s l).val (x, ((T.getD x []).getD i (0, 0)).1)
noncomputable def lackT (s : SpaceV) (l : List Bool) (n : Nat) (T : List (List (Nat × Nat))) : Nat := sumTo n fun x => sumTo (T.getD x []).length fun i => (roundsN s l).val (x, ((T.getD x []).getD i (0, 0)).1) - ((T.getD x []).getD i (0, 0)).2

theorem betterT {T : List (List (Nat × Nat))} (hu : UnderT s l T) {x i v : Nat} (hx : x < T.length) (hxn : x < n) (hi : i < (T.getD x []).length) (hv : ((T.getD x []).getD i (0, 0)).2 < v) (hv2 : v ≤ (roundsN s l).val (x, ((T.getD x []).getD i (0, 0)).1)) :
    UnderT s l (setT T x i v) ∧ lackT s l n (setT T x i v) < lackT s l n T := by
  have le1 : ∀ y k, (roundsN s l).val (y, (((setT T x i v).getD y []).getD k (0, 0)).1) - (((setT T x i v).getD y []).getD k (0, 0)).2 ≤ (roundsN s l).val (y, ((T.getD y []).getD k (0, 0)).1) - ((T.getD y []).getD k (0, 0)).2 := fun y k => by
    rw [setT_fst hx hi, setT_at hx hi]
    split
    · rename_i h; obtain ⟨h1, h2⟩ := h; subst h1; subst h2; simp only; omega
    · exact Nat.le_refl _
  refine ⟨fun y k hk => ?_, ?_⟩
  · rw [setT_len hx] at hk
    rw [setT_fst hx hi, setT_at hx hi]
    split
    · rename_i h; obtain ⟨h1, h2⟩ := h; subst h1; subst h2; exact hv2
    · exact hu y k hk
  · unfold lackT
    refine sumTo_lt (i := x) (fun y _ => ?_) hxn ?_
    · rw [setT_len hx]; exact sumTo_le fun k _ => le1 y k
    · rw [setT_len hx]
      refine sumTo_lt (i := i) (fun k _ => le1 x k) hi ?_
      rw [setT_fst hx hi, setT_at hx hi, if_pos ⟨rfl, rfl⟩]
      simp only; omega
end
end Go.Proofs.Ytafndpkfoajpnaa.G
