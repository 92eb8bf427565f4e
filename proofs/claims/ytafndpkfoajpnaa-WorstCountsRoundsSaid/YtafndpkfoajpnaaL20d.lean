/- The law WorstIsAttained. -/
import Derived.Test.YtafndpkfoajpnaaL20c
namespace Go.Proofs.Ytafndpkfoajpnaa.G
open Go Go.Fw

theorem made_Mod_ok {x : Int} {n : Nat} (h0 : 0 < n) (hn : n ≤ 1000000) : Wp (fun K _ => made_Mod K x (n : Int)) (fun y => ∃ m : Nat, y = (((m : Int), ()), ()) ∧ m < n) := by
  have h1 := Int.tmod_lt_of_pos x (show (0 : Int) < (n : Int) by omega)
  have h2 := Int.lt_tmod_of_pos x (show (0 : Int) < (n : Int) by omega)
  simp only [made_Mod]
  refine Wp.negd (by omega) ?_
  refine Wp.ited (fun h3 => ?_) (fun h3 => ?_)
  · rw [wrapI (by omega) (by omega)]
    exact Wp.ret ⟨(Int.tmod x n + n).toNat, by rw [show (((Int.tmod x n + n).toNat : Nat) : Int) = Int.tmod x n + n by omega], by omega⟩
  · exact Wp.ret ⟨(Int.tmod x n).toNat, by rw [show (((Int.tmod x n).toNat : Nat) : Int) = Int.tmod x n by omega], by omega⟩

/-- the sets of a state's arcs are different -/
def Apart (s : SpaceV) : Prop := ∀ x a b, a < (arcs s x).length → b < (arcs s x).length → aset (arcs s x) a = aset (arcs s x) b → a = b
theorem apart_of {s : SpaceV} (hP : SpaceP s) : Apart s := by
  intro x a b ha hb he
  have hx : x < s.1.length := by
    rcases Nat.lt_or_ge x s.2.1.length with h | h
    · have := hP.2.2.1; omega
    · have : arcs s x = [] := getD_over h
      rw [this] at ha; simp at ha
  have hA := (hP.2.2.2.2 x hx).1
  have mono : ∀ d a, a + d + 1 < (arcs s x).length → aset (arcs s x) a < aset (arcs s x) (a + d + 1) := by
    intro d
    induction d with
    | zero =>
      intro a h
      have := (hA (a + 1) h).2.1 (by omega)
      simpa using this
    | succ d ih =>
      intro a h
      have h1 := ih a (by omega)
      have h2 := (hA (a + (d + 1) + 1) h).2.1 (by omega)
      rw [show a + (d + 1) + 1 - 1 = a + d + 1 by omega] at h2
      omega
  rcases Nat.lt_trichotomy a b with h | h | h
  · have := mono (b - a - 1) a (by omega)
    rw [show a + (b - a - 1) + 1 = b by omega] at this; omega
  · exact h
  · have := mono (a - b - 1) b (by omega)
    rw [show b + (a - b - 1) + 1 = a by omega] at this; omega

section
variable {s : SpaceV} {n : Nat} {l : List Bool}

theorem last_loop (hs : Sys s n) (hap : Apart s) {x j : Nat} (hx : x < n) (hj : j < (arcs s x).length) {L : List Int} {i : Nat} (hi : i < L.length) (hL : L.getD i 0 = aset (arcs s x) j) : ∀ d k (acc : Int), k + d = (arcs s x).length → acc = (if j < k then ((goN s x j : Nat) : Int) else -1) →
    Wp (fun K q => law20_WorstIsAttained_522826 K q (x : Int) L (i : Int) acc (k : Int) s) (fun y => y = ((((goN s x j : Nat) : Int), ()), (s, ()))) := by
  have har := hs.ar
  have htot := total_ge (s := s) hx
  have htt := hs.tot
  have hle := hs.le
  intro d
  induction d with
  | zero =>
    intro k acc h1 h2
    refine Wp.step ?_
    simp only [law20_WorstIsAttained_522826, Int.toNat_natCast, arcs_def]
    refine Wp.posd (by omega) (Wp.negd (by omega) (Wp.ret ?_))
    rw [h2, if_pos (by omega)]
  | succ d ih =>
    intro k acc h1 h2
    have hk : k < (arcs s x).length := by omega
    have hgo : (goals s x).getD k 0 = goN s x k := rfl
    refine Wp.step ?_
    simp only [law20_WorstIsAttained_522826, Int.toNat_natCast, arcs_def, ato_def, aset_def, hs.at' x k hk, hgo, hL, wrapS k (by omega)]
    refine Wp.posd (by omega) (Wp.posd (by omega) (Wp.posd (by omega) (Wp.posd (by omega) (Wp.posd (by omega) ?_))))
    refine Wp.ited (fun he => ?_) (fun he => ?_)
    · have hkj := hap x k j hk hj he
      subst hkj
      exact Wp.posd (by omega) (Wp.posd (by omega) (ih (k + 1) _ (by omega) (by rw [if_pos (by omega)])))
    · have hkj : k ≠ j := fun h => he (by rw [h])
      refine ih (k + 1) acc (by omega) ?_
      rw [h2]
      by_cases h3 : j < k
      · rw [if_pos h3, if_pos (by omega)]
      · rw [if_neg h3, if_neg (by omega)]

theorem attain_loop (hs : Sys s n) (hl : l.length = n) (hf : ∀ x, x < n → Attr (goals s) (SetOf l) x) (hS : Sets s n) (hap : Apart s) {c : Nat} (hc : c ≤ 1000000) {x : Nat} {r : List Int} (h : Plan s l x r) : ∀ (pre : List Int) (m : Nat), x < n → m + (baseN s l (movesW s)).val x = c → pre.length + r.length ≤ 1000000 →
    Wp (fun K k => law20_WorstIsAttained_2042 K k l (x : Int) (pre ++ r) (m : Int) (pre.length : Int) s) (fun y => ∃ z : Nat, y = .inl (((z : Int), (((c : Nat) : Int), ())), ()) ∧ z < n ∧ l.getD z false = true) := by
  have har := hs.ar
  have hle := hs.le
  induction h with
  | done hlx =>
    intro pre m hx hm hlen
    refine Wp.step ?_
    simp only [law20_WorstIsAttained_2042, List.append_nil]
    have h0 := val_leg (w := movesW s) (hf _ hx) hlx
    have hmc : m = c := by omega
    rw [hmc]
    exact Wp.negd (by omega) (Wp.ret ⟨_, rfl, hx, hlx⟩)
  | go hlx h1 h2 ih =>
    rename_i x j r
    intro pre m hx hm hlen
    rw [List.length_cons] at hlen
    have hj := h1.lt
    have hg : goN s x j < n := goals_at hs hj
    have he := h1.eq
    have hll : (pre ++ aset (arcs s x) j :: r).length = pre.length + (r.length + 1) := by rw [List.length_append, List.length_cons]
    have hat : (pre ++ aset (arcs s x) j :: r).getD pre.length 0 = aset (arcs s x) j := by rw [getD_app2 (Nat.le_refl _), Nat.sub_self]; rfl
    have ih' := ih (pre ++ [aset (arcs s x) j]) (m + movesW s x j) hg (by omega) (by rw [List.length_append, List.length_singleton]; omega)
    rw [List.append_assoc, List.length_append, List.length_singleton] at ih'
    refine Wp.step ?_
    simp only [law20_WorstIsAttained_2042, Int.toNat_natCast, hat, wrapS pre.length (by omega)]
    refine Wp.posd (by omega) ?_
    refine Wp.callE (Wp.diag (last_loop hs hap hx hj (by omega) hat (arcs s x).length 0 (-1) (by omega) (by rw [if_neg (Nat.not_lt_zero _)]))) ?_
    refine Wp.negd (by simp only; omega) (Wp.posd (by omega) ?_)
    refine Wp.iteb (fun h => by rw [hlx] at h; simp at h) (fun _ => Wp.posd (by omega) ?_)
    refine Wp.callE (moves_c hS x j hj) ?_
    simp only [wrapA m (movesW s x j) (by omega)]
    exact ih'
end

theorem attained (s : SpaceV) (l : List Bool) (g : Int) (hs : okD spaceG s) : Wp (fun K _ => law20_WorstIsAttained K s l g) (fun y => y = ((true, ()), ())) := by
  simp only [law20_WorstIsAttained]
  refine (fair_ok hs l).call fun y hy => ?_
  obtain ⟨b, rfl, hb⟩ := hy
  refine Wp.itebn (fun _ => asleep rfl) (fun h1 => ?_)
  obtain ⟨hL, hP, hl, hF⟩ := hb h1
  have hfew := hL.few
  have hpos := (sys_of hP).pos
  have hS := sets_of hL.inn hP
  refine (made_Mod_ok (x := g) (n := l.length) (by omega) (by omega)).call fun y hy => ?_
  obtain ⟨x, rfl, hx⟩ := hy
  refine (worst_Schedule_ok hL.inn l (x : Int)).call fun y hy => ?_
  obtain ⟨e1, p, rfl, r1⟩ := hy
  refine (worst_Moves_ok hL.inn l).call fun y hy => ?_
  obtain ⟨e3, a3, rfl, r3⟩ := hy
  obtain ⟨rfl, M, rfl, hM1, hM2⟩ := r3.fair hP hl hF
  have hml := numl_length M
  have hx' : x < s.1.length := by omega
  obtain ⟨rfl, hpl, hplan⟩ : e1 = 0 ∧ p.length ≤ 1000000 ∧ Plan s l x p := by
    rcases r1 with ⟨h2, h3, _⟩ | ⟨_, ⟨h2, _⟩ | ⟨h2, h3, z, h4, h5, h6⟩⟩
    · exact absurd (h2.fair hP hl hF) h3
    · omega
    · have : x = z := by omega
      subst this
      exact ⟨h2, h3, h6⟩
  have hb1 := val_bound 24 (moves_le hS) (hF x hx')
  have hb2 := rank_lt (sys_of hP) (hF x hx') hx'
  refine Wp.negn rfl (Wp.negn rfl (Wp.negn (by simp only; omega) (Wp.posd (by simp only; omega) ?_)))
  refine (Wp.diag (attain_loop (sys_of hP) hl hF hS (apart_of hP) (c := (baseN s l (movesW s)).val x) (by omega) hplan [] 0 hx' (by omega) (by simp only [List.length_nil]; omega))).call fun y hy => ?_
  obtain ⟨z, rfl, hz, hlz⟩ := hy
  refine Wp.callE awake20 (Wp.iteb (fun _ => Wp.posd (by simp only; omega) ?_) (fun h => by simp at h))
  simp only [Int.toNat_natCast, hlz, numl_getD, hM2 x hx', if_true, decide_true]
  exact Wp.ret rfl

theorem pure_law20_WorstIsAttained : ∀ x, okS [spaceG, .slice .bool, .int .i64] 0 x → ∃ K, law20_WorstIsAttained K x.1 x.2.1 x.2.2.1 = some ((true, ()), ()) := by
  rintro ⟨s, l, g, _⟩ ⟨hs, _⟩
  exact (attained s l g hs).outE
end Go.Proofs.Ytafndpkfoajpnaa.G
