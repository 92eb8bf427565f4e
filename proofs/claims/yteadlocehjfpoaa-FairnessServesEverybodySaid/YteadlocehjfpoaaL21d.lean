/- The law FairnessServesEverybody. -/
import Derived.Test.YteadlocehjfpoaaL21c
namespace Go.Proofs.Yteadlocehjfpoaa.G
open Go Go.Fw

section
variable {s : SpaceV} {n : Nat} {l : List Bool}

/-- the states that have been passed, with the sets of their arcs -/
structure Way (s : SpaceV) (n : Nat) (l : List Bool) (at' : Nat) (V : List Nat) (S : List Int) : Prop where
  lt : at' < n
  len : S.length = V.length
  arc : ∀ i, i < V.length → V.getD i 0 < n ∧ l.getD (V.getD i 0) false = false ∧ ∃ j, j < (arcs s (V.getD i 0)).length ∧ aset (arcs s (V.getD i 0)) j = S.getD i 0 ∧ (goals s (V.getD i 0)).getD j 0 = (V ++ [at']).getD (i + 1) 0

theorem Way.go {at' : Nat} {V : List Nat} {S : List Int} (h : Way s n l at' V S) (hs : Sys s n) (hl : l.getD at' false = false) {j : Nat} (hj : j < (arcs s at').length) : Way s n l ((goals s at').getD j 0) (V ++ [at']) (S ++ [aset (arcs s at') j]) where
  lt := goals_at hs hj
  len := by simp [h.len]
  arc := fun i hi => by
    rw [List.length_append, List.length_singleton] at hi
    rcases Nat.lt_or_ge i V.length with h1 | h1
    · obtain ⟨h2, h3, j', h4, h5, h6⟩ := h.arc i h1
      rw [getD_app1 h1, getD_app1 (show i < S.length by rw [h.len]; exact h1), getD_app1 (show i + 1 < (V ++ [at']).length by rw [List.length_append, List.length_singleton]; omega)]
      exact ⟨h2, h3, j', h4, h5, h6⟩
    · have h2 : i = V.length := by omega
      have e1 : (V ++ [at']).getD i 0 = at' := by rw [getD_app2 (by omega), h2, Nat.sub_self]; rfl
      have e2 : (S ++ [aset (arcs s at') j]).getD i 0 = aset (arcs s at') j := by rw [getD_app2 (by rw [h.len]; omega), h.len, h2, Nat.sub_self]; rfl
      have e3 : (V ++ [at'] ++ [(goals s at').getD j 0]).getD (i + 1) 0 = (goals s at').getD j 0 := by
        have e4 : (V ++ [at']).length = V.length + 1 := by simp
        rw [getD_app2 (by omega), e4, h2, Nat.sub_self]; rfl
      rw [e1, e2, e3]
      exact ⟨h.lt, hl, j, hj, rfl, rfl⟩

theorem Way.last {at' : Nat} {V : List Nat} : (V ++ [at']).getD V.length 0 = at' := by rw [getD_app2 (by omega), Nat.sub_self]; rfl
theorem Way.side {at' : Nat} {V : List Nat} {S : List Int} (h : Way s n l at' V S) (hl : l.getD at' false = false) {k : Nat} (hk : k ≤ V.length) : l.getD ((V ++ [at']).getD k 0) false = false := by
  rcases Nat.lt_or_ge k V.length with h1 | h1
  · rw [getD_app1 h1]; exact (h.arc k h1).2.1
  · have h2 : k = V.length := by omega
    rw [h2, Way.last]; exact hl
theorem Way.step {at' : Nat} {V : List Nat} {S : List Int} (h : Way s n l at' V S) (hl : l.getD at' false = false) {k : Nat} (hk : k < V.length) : (V ++ [at']).getD (k + 1) 0 ∈ outer s l ((V ++ [at']).getD k 0) := by
  obtain ⟨_, _, j, h3, _, h5⟩ := h.arc k hk
  refine mem_outer.2 ⟨h.side hl (by omega), ?_, h.side hl (by omega)⟩
  rw [← h5, getD_app1 hk]
  exact getD_mem 0 (by rw [goals_len]; exact h3)
theorem Way.rch {at' : Nat} {V : List Nat} {S : List Int} (h : Way s n l at' V S) (hl : l.getD at' false = false) {i : Nat} : ∀ d, i + d ≤ V.length → Rch (outer s l) ((V ++ [at']).getD i 0) ((V ++ [at']).getD (i + d) 0) := by
  intro d
  induction d with
  | zero => intro _; exact .refl
  | succ d ih => intro h1; exact .tail (ih (by omega)) (h.step hl (by omega))
theorem Way.rch' {at' : Nat} {V : List Nat} {S : List Int} (h : Way s n l at' V S) (hl : l.getD at' false = false) {i j : Nat} (h1 : i ≤ j) (h2 : j ≤ V.length) : Rch (outer s l) ((V ++ [at']).getD i 0) ((V ++ [at']).getD j 0) := by
  have := h.rch hl (i := i) (j - i) (by omega)
  rwa [show i + (j - i) = j by omega] at this

theorem Way.ends {at' : Nat} {V : List Nat} {S : List Int} (h : Way s n l at' V S) (hl : l.getD at' false = false) (hV : 0 < V.length) (hc : CoreY s n l at') : CoreY s n l (V.getD 0 0) := by
  have h1 := h.rch' hl (i := 0) (j := V.length) (by omega) (by omega)
  rw [getD_app1 hV, Way.last] at h1
  obtain ⟨y, h2, h3⟩ := hc
  exact ⟨y, h1.trans h2, h3⟩

theorem Way.served {at' : Nat} {V : List Nat} {S : List Int} (h : Way s n l at' V S) (hl : l.getD at' false = false) {i : Nat} (hi : i < V.length) (he : V.getD i 0 = at')
    (hb : ∀ b, b < 24 → ∃ k, i ≤ k ∧ k < V.length ∧ (Free s (V.getD k 0) b ∨ (S.getD k 0).toNat.testBit b = true)) : CoreY s n l at' := by
  have hi' : (V ++ [at']).getD i 0 = at' := by rw [getD_app1 hi]; exact he
  have hto : ∀ k, i ≤ k → k ≤ V.length → Rch (outer s l) at' ((V ++ [at']).getD k 0) ∧ Rch (outer s l) ((V ++ [at']).getD k 0) at' := fun k h1 h2 => by
    have h3 := h.rch' hl h1 h2
    have h4 := h.rch' hl h2 (Nat.le_refl _)
    rw [hi'] at h3; rw [Way.last] at h4
    exact ⟨h3, h4⟩
  have hin : ∀ k, i ≤ k → k < V.length → Eq' s l (V.getD k 0) at' ∧ ∃ j, j < (arcs s (V.getD k 0)).length ∧ InA s l (V.getD k 0) j ∧ aset (arcs s (V.getD k 0)) j = S.getD k 0 := fun k h1 h2 => by
    obtain ⟨h3, h4, j, h5, h6, h7⟩ := h.arc k h2
    have h8 := hto k h1 (by omega)
    have h9 := hto (k + 1) (by omega) (by omega)
    rw [getD_app1 h2] at h8
    refine ⟨⟨h8.2, h8.1⟩, j, h5, ⟨?_, ?_⟩, h6⟩
    · rw [h7]; exact h.side hl (by omega)
    · rw [h7]; exact ⟨h8.2.trans h9.1, h9.2.trans h8.1⟩
  refine ⟨at', .refl, h.lt, hl, .inr ⟨?_, fun b hb' => ?_⟩⟩
  · obtain ⟨h1, j, h2, h3, _⟩ := hin i (Nat.le_refl _) hi
    exact ⟨_, h1, j, h2, h3⟩
  · obtain ⟨k, h1, h2, h3⟩ := hb b hb'
    obtain ⟨h4, j, h5, h6, h7⟩ := hin k h1 h2
    exact ⟨_, h4, h3.imp (fun h => h) (fun h => ⟨j, h5, h6, by rw [h7]; exact h⟩)⟩

theorem way_loop (hs : Sys s n) (hl : l.length = n) (cs : List Int) (hcs : okD (.slice (.int .u8)) cs) (hfew : cs.length ≤ 200) : ∀ d i (at' : Nat) (V : List Nat) (S : List Int), i + d = cs.length → V.length ≤ i → Way s n l at' V S →
    Wp (fun K k => law21_FairnessServesEverybody_1018 K k l cs (at' : Int) (i : Int) s (numl V) S) (fun y => ∃ (z : Nat) (V' : List Nat) (S' : List Int), y = (((z : Int), ((), ((), ()))), (numl V', (S', (s, ())))) ∧ V'.length ≤ 200 ∧ Way s n l z V' S') := by
  have hle := hs.le
  have har := hs.ar
  intro d
  induction d with
  | zero =>
    intro i at' V S h1 h2 h3
    refine Wp.step ?_
    simp only [law21_FairnessServesEverybody_1018]
    exact Wp.negd (by omega) (Wp.ret ⟨at', V, S, rfl, by omega, h3⟩)
  | succ d ih =>
    intro i at' V S h1 h2 h3
    have hic : i < cs.length := by omega
    have hat := h3.lt
    have hSl := h3.len
    have hnl := numl_length V
    obtain ⟨c, hc, hc2⟩ := nat_of_u8 (getD_ok hcs (0 : Int) hic)
    refine Wp.step ?_
    simp only [law21_FairnessServesEverybody_1018, Int.toNat_natCast, arcs_def, hc, wrapN c (by omega), wrapS i (by omega), List.length_singleton]
    refine Wp.posd (by omega) (Wp.posd (by omega) ?_)
    refine Wp.iteb (fun _ => Wp.ret ⟨at', V, S, rfl, by omega, h3⟩) (fun hla => Wp.posd (by omega) ?_)
    refine Wp.ited (fun _ => Wp.ret ⟨at', V, S, rfl, by omega, h3⟩) (fun h0 => ?_)
    have hlen : 0 < (arcs s at').length := by omega
    have hmod : c % (arcs s at').length < (arcs s at').length := Nat.mod_lt _ hlen
    have e1 : Int.tmod (c : Int) ((arcs s at').length : Int) = ((c % (arcs s at').length : Nat) : Int) := (Int.ofNat_tmod _ _).symm
    simp only [e1, Int.toNat_natCast, ato_def, aset_def, hs.at' at' _ hmod, numl_snoc]
    refine Wp.posd (by omega) (Wp.posd (by omega) (Wp.posd (by omega) (Wp.negd (by omega) (Wp.posd (by omega) (Wp.posd (by omega) (Wp.posd (by omega) ?_))))))
    exact ih (i + 1) _ _ _ (by omega) (by simpa using h2) (h3.go hs hla hmod)

theorem served_loop (hs : Sys s n) (hp : Plain s n) {at' : Nat} {V : List Nat} {S : List Int} (h : Way s n l at' V S) (hV : V.length ≤ 200) : ∀ d k (v : Nat), k + d = V.length → v < 4294967296 →
    Wp (fun K j => law21_FairnessServesEverybody_8385690 K j (numl V) S (v : Int) (k : Int) s) (fun y => ∃ v' : Nat, y = (((v' : Int), ()), (s, ())) ∧ v' < 4294967296 ∧ ∀ b, b < 24 → v'.testBit b = true → v.testBit b = true ∨ ∃ k', k ≤ k' ∧ k' < V.length ∧ (Free s (V.getD k' 0) b ∨ (S.getD k' 0).toNat.testBit b = true)) := by
  have hen := hs.en
  have hSl := h.len
  have hnl := numl_length V
  intro d
  induction d with
  | zero =>
    intro k v h1 h2
    refine Wp.step ?_
    simp only [law21_FairnessServesEverybody_8385690]
    exact Wp.negd (by omega) (Wp.ret ⟨v, rfl, h2, fun b _ hb => .inl hb⟩)
  | succ d ih =>
    intro k v h1 h2
    have hk : k < V.length := by omega
    obtain ⟨h3, h4, j, h5, h6, h7⟩ := h.arc k hk
    obtain ⟨e, he, he2⟩ := hp.en (V.getD k 0) h3
    obtain ⟨m, hm, hm2⟩ := hp.st (V.getD k 0) j h5
    rw [h6] at hm
    have hx : ixor .u32 4294967295 (e : Int) = ((4294967295 ^^^ e : Nat) : Int) := ixor_nat (a := 4294967295) (by decide) he2
    have hxl : (4294967295 ^^^ e) < 4294967296 := Nat.xor_lt_two_pow (n := 32) (by decide) he2
    have ho : ior .u32 ((4294967295 ^^^ e : Nat) : Int) (m : Int) = (((4294967295 ^^^ e) ||| m : Nat) : Int) := ior_nat hxl hm2
    have hol : ((4294967295 ^^^ e) ||| m) < 4294967296 := Nat.or_lt_two_pow (n := 32) hxl hm2
    have ho2 : ior .u32 (v : Int) ((((4294967295 ^^^ e) ||| m : Nat)) : Int) = ((v ||| ((4294967295 ^^^ e) ||| m) : Nat) : Int) := ior_nat h2 hol
    refine Wp.step ?_
    simp only [law21_FairnessServesEverybody_8385690, Int.toNat_natCast, wrapS k (by omega), numl_getD, he, hm, hx, ho, ho2]
    refine Wp.posd (by omega) (Wp.posd (by omega) (Wp.posd (by omega) (Wp.posd (by omega) ?_)))
    refine (ih (k + 1) _ (by omega) (Nat.or_lt_two_pow (n := 32) h2 hol)).mono fun y hy => ?_
    obtain ⟨v', rfl, h8, h9⟩ := hy
    refine ⟨v', rfl, h8, fun b hb hvb => ?_⟩
    rcases h9 b hb hvb with h10 | ⟨k', h10, h11⟩
    · rw [Nat.testBit_or, Bool.or_eq_true, Nat.testBit_or, Bool.or_eq_true, neg_bit (by omega)] at h10
      rcases h10 with h10 | h10 | h10
      · exact .inl h10
      · exact .inr ⟨k, Nat.le_refl _, hk, .inl (by rw [Free, he]; exact h10)⟩
      · exact .inr ⟨k, Nat.le_refl _, hk, .inr (by rw [hm]; exact h10)⟩
    · exact .inr ⟨k', by omega, h11⟩

theorem look_loop (hs : Sys s n) (hp : Plain s n) (hl : l.length = n) {at' : Nat} {V : List Nat} {S : List Int} (h : Way s n l at' V S) (hV : V.length ≤ 200) {c : List Bool} (hc : Tells n c (CoreY s n l)) : ∀ d, d ≤ V.length →
    Wp (fun K j => law21_FairnessServesEverybody_16378 K j l (at' : Int) (numl V) S c ((d : Int) - 1) s) (fun y => y = .inl ((), ()) ∨ y = .inr ((true, ()), ())) := by
  have hat := h.lt
  have hnl := numl_length V
  have hcl := hc.1
  intro d
  induction d with
  | zero =>
    intro h1
    refine Wp.step ?_
    simp only [law21_FairnessServesEverybody_16378]
    exact Wp.negd (by omega) (Wp.ret (.inl rfl))
  | succ d ih =>
    intro h1
    have h2 : ((d + 1 : Nat) : Int) - 1 = (d : Int) := by omega
    rw [h2]
    have next := ih (by omega)
    have hVd := (h.arc d (by omega)).1
    have hV0 := (h.arc 0 (by omega)).1
    refine Wp.step ?_
    simp only [law21_FairnessServesEverybody_16378, Int.toNat_natCast, wrapI (x := (d : Int) - 1) (by omega) (by omega), numl_getD]
    refine Wp.posd (by omega) (Wp.posd (by omega) ?_)
    refine Wp.iten (fun _ => next) (fun he => Wp.posd (by omega) ?_)
    refine Wp.iteb (fun _ => next) (fun hla => ?_)
    refine (Wp.diag (served_loop hs hp h hV (V.length - d) d 0 (by omega) (by decide))).call fun y hy => ?_
    obtain ⟨v, rfl, h3, h4⟩ := hy
    refine Wp.callE All24 (Wp.callE All24 ?_)
    refine Wp.ited (fun h5 => ?_) (fun _ => next)
    have hand : iand .u32 (v : Int) 16777215 = ((v &&& 16777215 : Nat) : Int) := iand_nat (b := 16777215) h3 (by decide)
    have h5 : ((v &&& 16777215 : Nat) : Int) = 16777215 := hand.symm.trans h5
    have h6 := (all24 h3).1 (by omega)
    have hcore : CoreY s n l at' := h.served hla (i := d) (by omega) (by omega) fun b hb => by
      rcases h4 b hb (h6 b hb) with h7 | h7
      · simp at h7
      · exact h7
    have h7 : c.getD at' false = true := (hc.2 at' hat).2 hcore
    have h8 : c.getD (V.getD 0 0) false = true := (hc.2 _ hV0).2 (h.ends hla (by omega) hcore)
    refine Wp.callE awake21 (Wp.iteb (fun _ => Wp.posd (by omega) ?_) (fun h => by simp at h))
    have e0 : Int.toNat 0 = 0 := rfl
    rw [h7]
    refine Wp.iteb (fun _ => Wp.posd (by omega) ?_) (fun h => by simp at h)
    rw [e0, h8]
    exact Wp.posd (by omega) (Wp.ret (.inr rfl))

theorem tail_ok (hs : Sys s n) (hp : Plain s n) (hl : l.length = n) {at' : Nat} {V : List Nat} {S : List Int} (h : Way s n l at' V S) (hV : V.length ≤ 200) {c : List Bool} (hc : Tells n c (CoreY s n l)) :
    Wp (fun K _ => law21_FairnessServesEverybody_2047 K l (at' : Int) (numl V) S c s) (fun y => y = ((true, ()), ())) := by
  simp only [law21_FairnessServesEverybody_2047, numl_length, wrapI (x := (V.length : Int) - 1) (by omega) (by omega)]
  refine (Wp.diag (look_loop hs hp hl h hV hc V.length (Nat.le_refl _))).call fun y hy => ?_
  rcases hy with rfl | rfl
  · exact Wp.callE awake21 (Wp.ret rfl)
  · exact Wp.ret rfl

theorem end_ok (hs : Sys s n) {at' : Nat} {V : List Nat} {S : List Int} (h : Way s n l at' V S) {c : List Bool} (hc : Tells n c (CoreY s n l)) (b : Bool) (hb : b = true → 0 < V.length ∧ l.getD at' false = false ∧ goals s at' = []) :
    Wp (fun K _ => law21_FairnessServesEverybody_4093 K (at' : Int) (numl V) c b) (fun y => y = .inl ((), ()) ∨ y = .inr ((true, ()), ())) := by
  have hat := h.lt
  have hcl := hc.1
  simp only [law21_FairnessServesEverybody_4093, numl_length]
  refine Wp.iteb (fun h1 => ?_) (fun _ => Wp.ret (.inl rfl))
  obtain ⟨h2, h3, h4⟩ := hb h1
  have hcore : CoreY s n l at' := ⟨at', .refl, hat, h3, .inl h4⟩
  have hV0 := (h.arc 0 h2).1
  have h7 : c.getD at' false = true := (hc.2 at' hat).2 hcore
  have h8 : c.getD (V.getD 0 0) false = true := (hc.2 _ hV0).2 (h.ends h3 h2 hcore)
  have e0 : (numl V).getD (Int.toNat 0) 0 = ((V.getD 0 0 : Nat) : Int) := numl_getD V 0
  refine Wp.callE awake21 (Wp.iteb (fun _ => Wp.posd (by omega) ?_) (fun h => by simp at h))
  simp only [e0, Int.toNat_natCast, h8, h7, if_true]
  exact Wp.posd (by omega) (Wp.posd (by omega) (Wp.ret (.inr rfl)))
end

theorem serves (s : SpaceV) (l : List Bool) (a : Int) (cs : List Int) (hs : okD spaceG s) (hcs : okD (.slice (.int .u8)) cs) : Wp (fun K _ => law21_FairnessServesEverybody K s l a cs) (fun y => y = ((true, ()), ())) := by
  simp only [law21_FairnessServesEverybody]
  refine (fair_ok hs l).call fun y hy => ?_
  obtain ⟨b0, rfl, hb⟩ := hy
  refine Wp.itebn (fun _ => asleep rfl) (fun h1 => ?_)
  obtain ⟨hL, hP, hl⟩ := hb h1
  have hfew := hL.few
  have hS := sys_of hP
  have hp := plain_of hL.inn hS
  have hpos := hS.pos
  have har := hS.ar
  refine Wp.ited (fun _ => asleep rfl) (fun hcl => ?_)
  obtain ⟨p, hpl, ep⟩ := two_mod (x := a) (n := l.length) (by omega) (by omega)
  simp only [ep]
  refine Wp.negd (by omega) (Wp.negd (by omega) ?_)
  refine (Wp.diag (way_loop hS hl cs hcs (by omega) cs.length 0 p [] [] (by omega) (by simp) ⟨by omega, rfl, fun i hi => absurd hi (Nat.not_lt_zero _)⟩)).call fun y hy => ?_
  obtain ⟨at', V, S, rfl, hV, hW⟩ := hy
  refine (core21 hL.inn l hP hl).call fun y hy => ?_
  obtain ⟨c, rfl, hc⟩ := hy
  have hlc := hc.1
  have hat := hW.lt
  refine Wp.negn rfl (Wp.negn (by simp only; omega) ?_)
  simp only [Int.toNat_natCast, numl_length, arcs_def]
  refine Wp.ited (fun h0 => Wp.posd (by omega) ?_) (fun _ => ?_)
  · refine Wp.itebn (fun hla => Wp.posd (by omega) ?_) (fun _ => ?_)
    · refine (end_ok hS hW hc _ fun h2 => ⟨by omega, hla, ?_⟩).call fun y hy => ?_
      · have h3 := of_decide_eq_true h2
        exact List.eq_nil_of_length_eq_zero (by rw [goals_len]; omega)
      · rcases hy with rfl | rfl
        · exact Wp.callE (tail_ok hS hp hl hW hV hc) (Wp.ret rfl)
        · exact Wp.ret rfl
    · refine (end_ok hS hW hc false (by simp)).call fun y hy => ?_
      rcases hy with rfl | rfl
      · exact Wp.callE (tail_ok hS hp hl hW hV hc) (Wp.ret rfl)
      · exact Wp.ret rfl
  · refine (end_ok hS hW hc false (by simp)).call fun y hy => ?_
    rcases hy with rfl | rfl
    · exact Wp.callE (tail_ok hS hp hl hW hV hc) (Wp.ret rfl)
    · exact Wp.ret rfl

theorem pure_law21_FairnessServesEverybody : ∀ x, okS [spaceG, .slice .bool, .int .i64, .slice (.int .u8)] 0 x → ∃ K, law21_FairnessServesEverybody K x.1 x.2.1 x.2.2.1 x.2.2.2.1 = some ((true, ()), ()) := by
  rintro ⟨s, l, a, cs, _⟩ ⟨hs, _, _, hcs, _⟩
  exact (serves s l a cs hs hcs).outE
end Go.Proofs.Yteadlocehjfpoaa.G
