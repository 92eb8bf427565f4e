/- The law ConvergeByRandomWalks. -/
import Derived.Test.YteemomggcpaakaaL19b
namespace Go.Proofs.Yteemomggcpaakaa.G
open Go Go.Fw

theorem made_Mod_ok {x : Int} {n : Nat} (h0 : 0 < n) (hn : n ≤ 1000000) : Wp (fun K _ => made_Mod K x (n : Int)) (fun y => ∃ m : Nat, y = (((m : Int), ()), ()) ∧ m < n) := by
  have h1 := Int.tmod_lt_of_pos x (show (0 : Int) < (n : Int) by omega)
  have h2 := Int.lt_tmod_of_pos x (show (0 : Int) < (n : Int) by omega)
  simp only [made_Mod]
  refine Wp.negd (by omega) ?_
  refine Wp.ited (fun h3 => ?_) (fun h3 => ?_)
  · rw [wrapI (by omega) (by omega)]
    exact Wp.ret ⟨(Int.tmod x n + n).toNat, by rw [show (((Int.tmod x n + n).toNat : Nat) : Int) = Int.tmod x n + n by omega], by omega⟩
  · exact Wp.ret ⟨(Int.tmod x n).toNat, by rw [show (((Int.tmod x n).toNat : Nat) : Int) = Int.tmod x n by omega], by omega⟩

theorem nat_of_u8 {x : Int} (h : IntKind.u8.has x) : ∃ n : Nat, x = (n : Int) ∧ n < 256 := by
  have h1 : IntKind.u8.min ≤ x ∧ x ≤ IntKind.u8.max := h
  have h2 : IntKind.u8.min = 0 := rfl
  have h3 : IntKind.u8.max = 255 := rfl
  exact ⟨x.toNat, by omega, by omega⟩

theorem walk_loop {s : SpaceV} {n : Nat} (hs : Sys s n) (l a : List Bool) (hl : l.length = n) (ha : Tells n a (Attr (goals s) (SetOf l))) (cs : List Int) (hcs : okD (.slice (.int .u8)) cs) :
    ∀ d i (at' : Nat) (V : List Nat), i + d = cs.length → at' < n → Attr (goals s) (SetOf l) at' → (at' :: V).Nodup → (∀ v ∈ V, v < n ∧ ¬ SetOf l v ∧ ∃ t ∈ goals s v, t = at' ∨ t ∈ V) →
    Wp (fun K k => law19_ConvergeByRandomWalks_1018 K k l cs a (at' : Int) (V.length : Int) (i : Int) s) (fun y => ∃ x m : Nat, y = .inl (((x : Int), ((m : Int), ())), ()) ∧ x < n ∧ (SetOf l x ∨ m < n)) := by
  have hle := hs.le
  have har := hs.ar
  have hmax : cs.length ≤ 9223372036854775807 := hcs.1
  intro d
  induction d with
  | zero =>
    intro i at' V h1 h2 h3 h4 h5
    refine Wp.step ?_
    simp only [law19_ConvergeByRandomWalks_1018]
    refine Wp.negd (by omega) (Wp.ret ⟨at', V.length, rfl, h2, ?_⟩)
    have := nodup_le n (at' :: V) h4 (fun x hx => by
      rcases List.mem_cons.1 hx with rfl | hx
      · exact h2
      · exact (h5 x hx).1)
    rw [List.length_cons] at this
    exact .inr (by omega)
  | succ d ih =>
    intro i at' V h1 h2 h3 h4 h5
    have hV := nodup_le n (at' :: V) h4 (fun x hx => by
      rcases List.mem_cons.1 hx with rfl | hx
      · exact h2
      · exact (h5 x hx).1)
    rw [List.length_cons] at hV
    have hic : i < cs.length := by omega
    obtain ⟨c, hc, hc2⟩ := nat_of_u8 (getD_ok hcs (0 : Int) hic)
    refine Wp.step ?_
    simp only [law19_ConvergeByRandomWalks_1018, Int.toNat_natCast, arcs_def, hc, wrapN c (by omega), wrapS i (by omega), wrapS V.length (by omega)]
    refine Wp.posd (by omega) (Wp.posd (by omega) ?_)
    cases hb : l.getD at' false with
    | true => exact Wp.itebn (fun h => by simp at h) (fun _ => Wp.ret ⟨at', V.length, rfl, h2, .inl hb⟩)
    | false =>
      have hnS : ¬ SetOf l at' := by rw [SetOf, hb]; simp
      obtain ⟨hg1, hg2⟩ := (Attr.cases' h3).resolve_left hnS
      have hlen : 0 < (arcs s at').length := by
        rw [← goals_len]
        exact Nat.pos_of_ne_zero fun h => hg1 (List.eq_nil_of_length_eq_zero h)
      have hmod : c % (arcs s at').length < (arcs s at').length := Nat.mod_lt _ hlen
      obtain ⟨t, ht⟩ : ∃ t, t = (goals s at').getD (c % (arcs s at').length) 0 := ⟨_, rfl⟩
      have htm : t ∈ goals s at' := by rw [ht]; exact getD_mem 0 (by rw [goals_len]; exact hmod)
      have htn := hs.lt at' t htm
      have hta := hg2 t htm
      have hat : a.getD t false = true := (ha.2 t htn).2 hta
      have hla := ha.1
      have e1 : Int.tmod (c : Int) ((arcs s at').length : Int) = ((c % (arcs s at').length : Nat) : Int) := (Int.ofNat_tmod _ _).symm
      simp only [e1, Int.toNat_natCast, ato_def, hs.at' at' _ hmod, ← ht, hat]
      refine Wp.itebn (fun _ => ?_) (fun h => by simp at h)
      refine Wp.posd (by omega) (Wp.negd (by omega) (Wp.posd (by omega) (Wp.posd (by omega) (Wp.posd (by omega) (Wp.negd (by omega) (Wp.posd (by omega) (Wp.posd (by omega) ?_)))))))
      refine Wp.itebn (fun h => by simp at h) (fun _ => ?_)
      -- the state has not been seen
      have hnew : t ∉ at' :: V := fun hm => by
        refine Attr.coind (T := goals s) (S := SetOf l) (C := fun v => v ∈ at' :: V) (fun v hv => ?_) hm hta
        rcases List.mem_cons.1 hv with rfl | hv
        · exact ⟨hnS, .inr ⟨t, htm, hm⟩⟩
        · obtain ⟨_, h7, u, h8, h9⟩ := h5 v hv
          exact ⟨h7, .inr ⟨u, h8, by rcases h9 with rfl | h9
                                     · exact List.mem_cons_self ..
                                     · exact List.mem_cons_of_mem _ h9⟩⟩
      have := ih (i + 1) t (at' :: V) (by omega) htn hta (List.nodup_cons.2 ⟨hnew, h4⟩) (fun v hv => by
        rcases List.mem_cons.1 hv with rfl | hv
        · exact ⟨h2, hnS, t, htm, .inl rfl⟩
        · obtain ⟨h6, h7, u, h8, h9⟩ := h5 v hv
          exact ⟨h6, h7, u, h8, .inr (by rcases h9 with rfl | h9
                                         · exact List.mem_cons_self ..
                                         · exact List.mem_cons_of_mem _ h9)⟩)
      rw [List.length_cons] at this
      exact this

theorem walks (s : SpaceV) (l : List Bool) (x : Int) (cs : List Int) (hs : okD spaceG s) (hcs : okD (.slice (.int .u8)) cs) : Wp (fun K _ => law19_ConvergeByRandomWalks K s l x cs) (fun y => y = ((true, ()), ())) := by
  simp only [law19_ConvergeByRandomWalks]
  refine (fair_ok hs l).call fun y hy => ?_
  obtain ⟨b, rfl, hb⟩ := hy
  refine Wp.itebn (fun _ => asleep rfl) (fun h1 => ?_)
  obtain ⟨hL, hP, hl⟩ := hb h1
  have hfew := hL.few
  have hS := sys_of hP
  have hpos := hS.pos
  refine (converge_Attractor_ok hL.inn l).call fun y hy => ?_
  obtain ⟨e, a, rfl, ha⟩ := hy
  obtain ⟨h0, hA⟩ := ha.fair hP hl
  subst h0
  have hla := hA.1
  refine Wp.negn rfl (Wp.negn (by simp only; omega) ?_)
  refine (made_Mod_ok (x := x) (n := l.length) (by omega) (by omega)).call fun y hy => ?_
  obtain ⟨m, rfl, hm⟩ := hy
  simp only [Int.toNat_natCast]
  refine Wp.posd (by omega) ?_
  refine Wp.itebn (fun hb => ?_) (fun hb => ?_)
  · refine Wp.callE awake19 (Wp.iteb (fun _ => ?_) (fun h => by simp at h))
    refine Wp.posd (by omega) (Wp.ret ?_)
    have : l.getD m false = false := by
      cases hlm : l.getD m false with
      | false => rfl
      | true =>
        have h2 := (hA.2 m (by omega)).2 (.base hlm)
        rw [hb] at h2; simp at h2
    rw [this]; rfl
  · refine (Wp.diag (walk_loop hS l a hl hA cs hcs cs.length 0 m [] (by omega) (by omega) ((hA.2 m (by omega)).1 hb) (by simp) (by simp))).call fun y hy => ?_
    obtain ⟨x, k, rfl, h2, h3⟩ := hy
    refine Wp.callE awake19 (Wp.iteb (fun _ => ?_) (fun h => by simp at h))
    simp only [Int.toNat_natCast]
    refine Wp.posd (by omega) (Wp.iteb (fun _ => Wp.ret rfl) (fun hx => Wp.ret ?_))
    rcases h3 with h3 | h3
    · rw [SetOf, hx] at h3; simp at h3
    · have : ((k : Int) < (l.length : Int)) = True := eq_true (by omega)
      simp only [this, decide_true]

theorem pure_law19_ConvergeByRandomWalks : ∀ x, okS [spaceG, .slice .bool, .int .i64, .slice (.int .u8)] 0 x → ∃ K, law19_ConvergeByRandomWalks K x.1 x.2.1 x.2.2.1 x.2.2.2.1 = some ((true, ()), ()) := by
  rintro ⟨s, l, x, cs, _⟩ ⟨hs, _, _, hcs, _⟩
  exact (walks s l x cs hs hcs).outE
end Go.Proofs.Yteemomggcpaakaa.G
