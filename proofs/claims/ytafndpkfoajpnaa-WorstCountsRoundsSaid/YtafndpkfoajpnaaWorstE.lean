/- The reference's pairs: places in lists, and the worklist. -/
import Derived.Test.YtafndpkfoajpnaaL20e
namespace Go.Proofs.Ytafndpkfoajpnaa.G
open Go Go.Fw

def encP (L : List (Nat × Nat)) : List (Int × (Int × Unit)) := L.map fun q => ((q.1 : Int), ((q.2 : Int), ()))
def encT (T : List (List (Nat × Nat))) : List (List (Int × (Int × Unit))) := T.map encP
theorem encP_length (L : List (Nat × Nat)) : (encP L).length = L.length := by simp [encP]
theorem encT_length (T : List (List (Nat × Nat))) : (encT T).length = T.length := by simp [encT]
theorem encP_getD (L : List (Nat × Nat)) (i : Nat) : (encP L).getD i (0, (0, ())) = (((L.getD i (0, 0)).1 : Int), (((L.getD i (0, 0)).2 : Int), ())) := by
  simp only [encP, List.getD_eq_getElem?_getD, List.getElem?_map]
  cases L[i]? <;> rfl
theorem encT_getD (T : List (List (Nat × Nat))) (i : Nat) : (encT T).getD i [] = encP (T.getD i []) := by
  simp only [encT, List.getD_eq_getElem?_getD, List.getElem?_map]
  cases T[i]? <;> rfl
theorem encP_snoc (L : List (Nat × Nat)) (p r : Nat) : encP L ++ [((p : Int), ((r : Int), ()))] = encP (L ++ [(p, r)]) := by simp [encP]
theorem encT_set (T : List (List (Nat × Nat))) (i : Nat) (L : List (Nat × Nat)) : (encT T).set i (encP L) = encT (T.set i L) := by simp [encT, List.map_set]
theorem encP_set (L : List (Nat × Nat)) (i p r : Nat) : (encP L).set i ((p : Int), ((r : Int), ())) = encP (L.set i (p, r)) := by simp [encP, List.map_set]
theorem encP_take (L : List (Nat × Nat)) (i : Nat) : (encP L).take i = encP (L.take i) := by simp [encP, List.map_take]

theorem place_loop (L : List (Nat × Nat)) (hL : L.length ≤ 1000000) (p : Nat) : ∀ d i, i + d = L.length → (∀ j, j < i → (L.getD j (0, 0)).1 ≠ p) →
    Wp (fun K k => ref20_place_26 K k (encP L) (p : Int) (i : Int)) (fun y => (∃ j : Nat, y = .inr (((j : Int), ()), ()) ∧ j < L.length ∧ (L.getD j (0, 0)).1 = p ∧ ∀ j', j' < j → (L.getD j' (0, 0)).1 ≠ p) ∨ (y = .inl ((), ()) ∧ ∀ j, j < L.length → (L.getD j (0, 0)).1 ≠ p)) := by
  have hel := encP_length L
  intro d
  induction d with
  | zero =>
    intro i h1 h2
    refine Wp.step ?_
    simp only [ref20_place_26]
    exact Wp.negd (by omega) (Wp.ret (.inr ⟨rfl, fun j hj => h2 j (by omega)⟩))
  | succ d ih =>
    intro i h1 h2
    refine Wp.step ?_
    simp only [ref20_place_26, wrapS i (by omega), Int.toNat_natCast, encP_getD]
    refine Wp.posd (by omega) (Wp.posd (by omega) ?_)
    refine Wp.ited (fun he => Wp.ret (.inl ⟨i, rfl, by omega, by omega, h2⟩)) (fun he => ih (i + 1) (by omega) fun j hj => ?_)
    rcases Nat.lt_or_ge j i with h3 | h3
    · exact h2 j h3
    · have h4 : j = i := by omega
      rw [h4]; omega
theorem place_ok (L : List (Nat × Nat)) (hL : L.length ≤ 1000000) (p : Nat) : Wp (fun K _ => ref20_place K (encP L) (p : Int)) (fun y => (∃ j : Nat, y = (((j : Int), ()), ()) ∧ j < L.length ∧ (L.getD j (0, 0)).1 = p ∧ ∀ j', j' < j → (L.getD j' (0, 0)).1 ≠ p) ∨ (y = (((-1 : Int), ()), ()) ∧ ∀ j, j < L.length → (L.getD j (0, 0)).1 ≠ p)) := by
  simp only [ref20_place]
  refine (Wp.diag (place_loop L hL p L.length 0 (by omega) (fun j hj => absurd hj (Nat.not_lt_zero _)))).call fun y hy => ?_
  rcases hy with ⟨j, rfl, h⟩ | ⟨rfl, h⟩
  · exact Wp.ret (.inl ⟨j, rfl, h⟩)
  · exact Wp.ret (.inr ⟨rfl, h⟩)

section
variable {s : SpaceV} {n : Nat} {l : List Bool}
theorem left_ok (hs : Sys s n) (hS : Sets s n) {x p j : Nat} (hp : p < 4294967296) (hj : j < (arcs s x).length) : Wp (fun K _ => ref20_left K s (p : Int) ((arcs s x).getD j (0, (0, ())))) (fun y => y = ((((leftN s p x j : Nat) : Int), ()), ())) := by
  have hen := hs.en
  have hg : goN s x j < n := goals_at hs hj
  have hgo : (goals s x).getD j 0 = goN s x j := rfl
  obtain ⟨hs1, hs2, _⟩ := hS.st x j hj
  obtain ⟨he1, he2⟩ := hS.en _ hg
  have hand1 : p &&& (4294967295 - setN s x j) ≤ p := Nat.and_le_left
  have ha1 : iandNot .u32 (p : Int) ((setN s x j : Nat) : Int) = ((p &&& (4294967295 - setN s x j) : Nat) : Int) := iandNot_nat hp (by omega)
  have ha2 : iand .u32 ((p &&& (4294967295 - setN s x j) : Nat) : Int) ((enN s (goN s x j) : Nat) : Int) = ((leftN s p x j : Nat) : Int) := iand_nat (by omega) (by omega)
  simp only [ref20_left, ato_def, aset_def, hs.at' x j hj, hgo, Int.toNat_natCast, hs1, he1, ha1, ha2]
  exact Wp.posd (by omega) (Wp.ret rfl)
theorem after_ok (hs : Sys s n) (hS : Sets s n) {x p j : Nat} (hp : p < 4294967296) (hj : j < (arcs s x).length) : Wp (fun K _ => ref20_after K s (p : Int) ((arcs s x).getD j (0, (0, ())))) (fun y => y = ((((afterN s p x j : Nat) : Int), ()), ())) := by
  have hen := hs.en
  have hg : goN s x j < n := goals_at hs hj
  have hgo : (goals s x).getD j 0 = goN s x j := rfl
  obtain ⟨he1, he2⟩ := hS.en _ hg
  simp only [ref20_after]
  refine Wp.callE (left_ok hs hS hp hj) ?_
  simp only [ato_def, hs.at' x j hj, hgo, Int.toNat_natCast, he1]
  refine Wp.iten (fun h0 => Wp.ret ?_) (fun h0 => Wp.posd (by omega) (Wp.ret ?_))
  · have h0' : ¬ leftN s p x j = 0 := by omega
    unfold afterN; rw [if_neg h0']
  · have h0' : leftN s p x j = 0 := by omega
    unfold afterN; rw [if_pos h0']
end
end Go.Proofs.Ytafndpkfoajpnaa.G
