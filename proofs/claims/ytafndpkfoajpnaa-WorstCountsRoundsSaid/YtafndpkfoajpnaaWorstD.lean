/- What a visit of the program keeps. -/
import Derived.Test.YtafndpkfoajpnaaWorstB
namespace Go.Proofs.Ytafndpkfoajpnaa.G
open Go Go.Fw

@[reducible] def VR (kn : List Bool) (s : SpaceV) (out : List Int) : (Unit × Unit) × (Unit × ((List Bool) × (SpaceV × ((Unit × (Unit × (Unit × (Unit × (Unit × Unit))))) × (Unit × ((List Int) × (Unit × Unit))))))) :=
  (((), ()), ((), (kn, (s, (((), ((), ((), ((), ((), ()))))), ((), (out, ((), ()))))))))

section
variable (s : SpaceV) (l : List Bool) (w : Nat → Nat → Nat) (n : Nat)
/-- what is known below a rank is final, and nothing else has a number -/
structure Vis (r : Nat) (kn : List Bool) (out : List Nat) : Prop where
  lk : kn.length = n
  lo : out.length = n
  leg : ∀ y, l.getD y false = true → kn.getD y false = true
  fin : ∀ y, y < n → kn.getD y false = true → (baseN s l stepsW).val y < r → out.getD y 0 = (baseN s l w).val y
  zero : ∀ y, y < n → kn.getD y false = false → out.getD y 0 = 0
/-- a state has been visited -/
structure Gone (r x : Nat) (kn : List Bool) (out : List Nat) (kn' : List Bool) (out' : List Nat) : Prop where
  vis : Vis s l w n r kn' out'
  mono : ∀ y, kn.getD y false = true → kn'.getD y false = true
  high : ∀ y, y < n → r ≤ (baseN s l stepsW).val y → kn'.getD y false = kn.getD y false ∧ out'.getD y 0 = out.getD y 0
  got : kn'.getD x false = true
/-- a state is being visited, and has gone so far -/
structure Mid (x i : Nat) (kn0 : List Bool) (out0 : List Nat) (kn : List Bool) (out : List Nat) : Prop where
  vis : Vis s l w n ((baseN s l stepsW).val x) kn out
  mono : ∀ y, kn0.getD y false = true → kn.getD y false = true
  got : kn.getD x false = true
  high : ∀ y, y < n → (baseN s l stepsW).val x ≤ (baseN s l stepsW).val y → y ≠ x → kn.getD y false = kn0.getD y false ∧ out.getD y 0 = out0.getD y 0
  cur : out.getD x 0 = maxTo i (fun j => w x j + (baseN s l w).val (goN s x j))
end

theorem numl_put (l : List Nat) (i n : Nat) : (numl l).set i (n : Int) = numl (l.set i n) := by simp [numl, List.map_set]

theorem clone_ok (l : List Bool) (h : l.length ≤ 4294967296) : Wp (fun K _ => slices_Clone_bool_bool K l) (fun y => y = (((), ()), (l, ()))) := by
  simp only [slices_Clone_bool_bool, slices_Clone_bool_bool_3, List.length_nil]
  exact (Wp.posd (by omega) (Wp.ret rfl)).call fun y hy => by subst hy; exact Wp.ret rfl
end Go.Proofs.Ytafndpkfoajpnaa.G
