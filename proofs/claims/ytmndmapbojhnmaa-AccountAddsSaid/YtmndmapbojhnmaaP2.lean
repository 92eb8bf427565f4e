import Derived.Test.YtmndmapbojhnmaaP
namespace Go.Proofs.Ytmndmapbojhnmaa.G
open Go Go.Fw

/-- an account, as plain numbers -/
structure Acc where
  t : Nat
  m : Nat
  r : Nat
  q : Nat
  p : Nat

@[reducible] def Acc.v (s : Acc) : Int × (Int × (Int × (Int × (Int × Unit)))) := ((s.t : Int), ((s.m : Int), ((s.r : Int), ((s.q : Int), ((s.p : Int), ())))))

structure Acc.ok (s : Acc) : Prop where
  rq : s.r ≤ s.q
  qr : s.q ≤ s.r + 1
  qt : s.q ≤ s.t
  t4 : s.t ≤ 4096
  tm : s.t ≤ s.m
  mt : s.m ≤ 24 * s.t
  p : s.p < 16777216

theorem f11_ok (n : Nat) {s : Acc} (h : s.ok) : f11 (n + 3) s.v = some ((true, ()), ()) := by
  obtain ⟨h1, h2, h3, h4, h5, h6, h7⟩ := h
  have w1 := IntWalk.i64_in ((s.q : Int) - (s.r : Int)) ⟨by omega, by omega⟩
  have w2 := IntWalk.i64_in (24 * (s.t : Int)) ⟨by omega, by omega⟩
  simp only [f11, Acc.v, decide_eq_true_eq]
  rw [if_pos (show (0 : Int) ≤ (s.r : Int) by omega), if_pos (show (s.r : Int) ≤ (s.q : Int) by omega),
    if_pos (show IntKind.i64.wrap ((s.q : Int) - (s.r : Int)) ≤ 1 by rw [w1]; omega), if_pos (show (s.q : Int) ≤ (s.t : Int) by omega),
    if_pos (show (s.t : Int) ≤ 4096 by omega), if_pos (show (s.t : Int) ≤ (s.m : Int) by omega),
    if_pos (show (s.m : Int) ≤ IntKind.i64.wrap (24 * (s.t : Int)) by rw [w2]; omega)]
  have h18 := f18_1 n h7
  simp only [h18, Option.bind_some]

/-- the account behind a step -/
def Acc.step (s : Acc) (a b : Nat) : Acc :=
  if s.p &&& (4294967295 - a) &&& b = 0 then { t := s.t + 1, m := s.m + pop a, r := s.r + 1, q := s.r + 1, p := b }
  else { t := s.t + 1, m := s.m + pop a, r := s.r, q := s.r + 1, p := s.p &&& (4294967295 - a) &&& b }

theorem f8_ok (n : Nat) {s : Acc} (h : s.ok) (ht : s.t < 4096) {a b : Nat} (ha : a < 16777216) (h0 : a ≠ 0) (hb : b < 16777216) :
    f8 (n + 3) s.v a b = some ((((s.step a b).v, (0, ())), ()), ()) := by
  have hp := pop_le ha
  obtain ⟨h1, h2, h3, h4, h5, h6, h7⟩ := id h
  have e1 : iandNot .u32 (s.p : Int) (a : Int) = ((s.p &&& (4294967295 - a) : Nat) : Int) := iandNot_nat (by omega) (by omega)
  have l1 : s.p &&& (4294967295 - a) ≤ s.p := Nat.and_le_left
  have e2 : iand .u32 ((s.p &&& (4294967295 - a) : Nat) : Int) (b : Int) = ((s.p &&& (4294967295 - a) &&& b : Nat) : Int) := iand_nat (by omega) (by omega)
  unfold f8
  rw [f11_ok n h]
  simp only [Option.bind_some, Bool.not_true, Bool.false_eq_true, if_false]
  rw [if_neg (show ¬ decide ((a : Int) = 0) = true by simpa using h0), f18_2 n ha hb]
  simp only [Option.bind_some, Bool.not_true]
  simp only [f8_103, Acc.v, Bool.false_eq_true, if_false, decide_eq_true_eq]
  rw [if_neg (show ¬ ((s.t : Int) = 4096) by omega)]
  simp only [Option.bind_some, f8_7]
  rw [f19_pop _ ha]
  simp only [Option.bind_some, e1, e2, decide_eq_true_eq]
  have wt := IntWalk.i64_in ((s.t : Int) + 1) ⟨by omega, by omega⟩
  have wm := IntWalk.i64_in ((s.m : Int) + (pop a : Int)) ⟨by omega, by omega⟩
  have wr := IntWalk.i64_in ((s.r : Int) + 1) ⟨by omega, by omega⟩
  simp only [wt, wm, wr]
  unfold Acc.step
  by_cases hz : s.p &&& (4294967295 - a) &&& b = 0
  · rw [if_pos (by rw [hz]; rfl), if_pos hz]
    simp [Acc.v]
  · rw [if_neg (fun hh => hz (by exact_mod_cast hh)), if_neg hz]
    simp [Acc.v]

theorem f10_ok (n : Nat) : f10 (n + 3) = some ((true, ()), ()) := by
  kernel_rfl

theorem f13_ok (K : Nat) {x : Nat} (hx : x < 4294967296) : f13 K (x : Int) = some (((Acc.v ⟨0, 0, 0, 0, x &&& 16777215⟩), ()), ()) := by
  have : iand .u32 (x : Int) 16777215 = ((x &&& 16777215 : Nat) : Int) := iand_nat (b := 16777215) hx (by omega)
  simp [f13, this, Acc.v]
end Go.Proofs.Ytmndmapbojhnmaa.G
