/- The law WorstBoundsEveryWalk. -/
import Derived.Test.YtafndpkfoajpnaaL20e
namespace Go.Proofs.Ytafndpkfoajpnaa.G
open Go Go.Fw

section
variable {s : SpaceV} {n : Nat} {l : List Bool}
theorem add_ok {k : Acc} (h : k.ok) (ht : k.t < 4096) {a b : Nat} (ha : a < 16777216) (h0 : a ≠ 0) (hb : b < 16777216) : Wp (fun K _ => account_Add K k.v (a : Int) (b : Int)) (fun y => y = ((((k.step a b).v, (0, ())), ()), ())) :=
  Wp.of_add 3 (fun m => f8_ok m h ht ha h0 hb) rfl

theorem bound_loop (hs : Sys s n) (hl : l.length = n) (hS : Sets s n) (cs : List Int) (hcs : okD (.slice (.int .u8)) cs) (hfew : cs.length ≤ 200) {first : Nat} : ∀ d i (x : Nat) (k : Acc), i + d = cs.length → x < n → WB s l first k x i →
    Wp (fun K j => law20_WorstBoundsEveryWalk_8186 K j l cs (x : Int) (i : Int) s k.v) (fun y => ∃ (k' : Acc) (z i' : Nat), y = .inl ((), (k'.v, ())) ∧ WB s l first k' z i') := by
  have hen := hs.en
  have har := hs.ar
  have hle := hs.le
  intro d
  induction d with
  | zero =>
    intro i x k h1 h2 h3
    refine Wp.step ?_
    simp only [law20_WorstBoundsEveryWalk_8186]
    exact Wp.negd (by omega) (Wp.ret ⟨k, x, i, rfl, h3⟩)
  | succ d ih =>
    intro i x k h1 h2 h3
    have hic : i < cs.length := by omega
    obtain ⟨c, hc, hc2⟩ := nat_of_u8 (getD_ok hcs (0 : Int) hic)
    refine Wp.step ?_
    simp only [law20_WorstBoundsEveryWalk_8186, Int.toNat_natCast, arcs_def, hc, wrapN c (by omega), wrapS i (by omega)]
    refine Wp.posd (by omega) (Wp.posd (by omega) ?_)
    refine Wp.itebn (fun hlx => ?_) (fun _ => Wp.ret ⟨k, x, i, rfl, h3⟩)
    have hlen := (attr_next h3.attr hlx).1
    have hmod : c % (arcs s x).length < (arcs s x).length := Nat.mod_lt _ hlen
    obtain ⟨j, hj⟩ : ∃ j, j = c % (arcs s x).length := ⟨_, rfl⟩
    have e1 : Int.tmod (c : Int) ((arcs s x).length : Int) = (j : Int) := by rw [hj]; exact (Int.ofNat_tmod _ _).symm
    rw [← hj] at hmod
    have hg : goN s x j < n := goals_at hs hmod
    have hgo : (goals s x).getD j 0 = goN s x j := rfl
    obtain ⟨q1, q2, q3⟩ := hS.st x j hmod
    obtain ⟨q4, q5⟩ := hS.en _ hg
    have ht := h3.t
    simp only [e1, Int.toNat_natCast, ato_def, aset_def, hs.at' x j hmod, hgo, q1, q4]
    refine Wp.posd (by omega) (Wp.posd (by omega) (Wp.posd (by omega) (Wp.negd (by omega) (Wp.posd (by omega) (Wp.posd (by omega) ?_)))))
    refine Wp.callE (add_ok h3.ok (by omega) q2 q3 q5) (Wp.negn rfl ?_)
    exact ih (i + 1) (goN s x j) _ (by omega) hg (h3.step (by omega) hlx hmod q2 q3 q5)
end

theorem bounds (s : SpaceV) (l : List Bool) (g : Int) (cs : List Int) (hs : okD spaceG s) (hcs : okD (.slice (.int .u8)) cs) : Wp (fun K _ => law20_WorstBoundsEveryWalk K s l g cs) (fun y => y = ((true, ()), ())) := by
  simp only [law20_WorstBoundsEveryWalk]
  refine (fair_ok hs l).call fun y hy => ?_
  obtain ⟨b, rfl, hb⟩ := hy
  refine Wp.itebn (fun _ => asleep rfl) (fun h1 => ?_)
  obtain ⟨hL, hP, hl, hF⟩ := hb h1
  have hn := hL.few
  have hpos := (sys_of hP).pos
  have hS := sets_of hL.inn hP
  refine (few_ok hL.inn hn).call fun y hy => ?_
  obtain ⟨b2, rfl, hb2⟩ := hy
  refine Wp.itebn (fun _ => asleep rfl) (fun h2 => ?_)
  have hfew := hb2 h2
  refine Wp.ited (fun _ => asleep rfl) (fun hcl => ?_)
  refine (made_Mod_ok (x := g) (n := l.length) (by omega) (by omega)).call fun y hy => ?_
  obtain ⟨x, rfl, hx⟩ := hy
  refine (worst_Steps_ok hL.inn l).call fun y hy => ?_
  obtain ⟨e1, a1, rfl, r1⟩ := hy
  refine (worst_Moves_ok hL.inn l).call fun y hy => ?_
  obtain ⟨e3, a3, rfl, r3⟩ := hy
  refine (worst_Rounds_ok hL.inn l hfew hn).call fun y hy => ?_
  obtain ⟨e4, a4, rfl, r4⟩ := hy
  obtain ⟨rfl, A, rfl, hA⟩ := r1.fair hP hl hF
  obtain ⟨rfl, M, rfl, hM⟩ := r3.fair hP hl hF
  obtain ⟨rfl, R, rfl, hR⟩ := r4.fair hP hl hF
  have hal := numl_length A
  have hml := numl_length M
  have hrl := numl_length R
  have hA1 := hA.1
  have hM1 := hM.1
  have hR1 := hR.1
  have hx' : x < s.1.length := by omega
  refine Wp.negn rfl (Wp.negn rfl (Wp.negn rfl (Wp.negn (by simp only; omega) (Wp.negn (by simp only; omega) ?_))))
  have hc : (((numl R).length : Int) = (l.length : Int)) = True := eq_true (by omega)
  simp only [hc, decide_true, Bool.not_true, law20_WorstBoundsEveryWalk_509, Bool.false_eq_true, if_false, Option.bind_some, law20_WorstBoundsEveryWalk_255, Int.toNat_natCast, (hS.en x hx').1]
  refine Wp.callE (y := ((true, ()), ())) ?_ (Wp.ret rfl)
  refine Wp.posd (by omega) ?_
  have he := (hS.en x hx').2
  have hbeg : Wp (fun K _ => account_Begin K ((enN s x : Nat) : Int)) (fun y => y = (((Acc.v ⟨0, 0, 0, 0, enN s x &&& 16777215⟩), ()), ())) := Wp.of_add 0 (fun m => f13_ok (m + 0) (by omega)) rfl
  refine Wp.callE hbeg ?_
  refine (Wp.diag (bound_loop (sys_of hP) hl hS cs hcs (by omega) cs.length 0 x _ (by omega) hx' (WB.zero (hF x hx') he))).call fun y hy => ?_
  obtain ⟨k, z, i, rfl, hw⟩ := hy
  have hst := hw.steps
  have hmv := hw.moves
  have hbg := hw.begun
  refine Wp.callE awake20 (Wp.iteb (fun _ => ?_) (fun h => by simp at h))
  simp only [Acc.v, numl_getD, hA.2 x hx', hM.2 x hx', hR.2 x hx']
  refine Wp.posd (by omega) (Wp.posd (by omega) (Wp.posd (by omega) (Wp.posd (by omega) (Wp.posd (by omega) (Wp.ret ?_)))))
  have : ((k.q : Int) ≤ (((roundsN s l).val (x, enN s x) : Nat) : Int)) = True := eq_true (by omega)
  simp only [this, decide_true]

theorem pure_law20_WorstBoundsEveryWalk : ∀ x, okS [spaceG, .slice .bool, .int .i64, .slice (.int .u8)] 0 x → ∃ K, law20_WorstBoundsEveryWalk K x.1 x.2.1 x.2.2.1 x.2.2.2.1 = some ((true, ()), ()) := by
  rintro ⟨s, l, g, cs, _⟩ ⟨hs, _, _, hcs, _⟩
  exact (bounds s l g cs hs hcs).outE
end Go.Proofs.Ytafndpkfoajpnaa.G
