/- The reference's components, numbered. -/
import Derived.Test.YteadlocehjfpoaaKosaC
namespace Go.Proofs.Yteadlocehjfpoaa.G
open Go Go.Fw

section
variable {s : SpaceV} {n : Nat} {l : List Bool}

theorem rnumber_loop (hn : n ≤ 32768) (hl : l.length = n) (f : List Int) (hf : f.length = n) (m : Nat) (hm : m ≤ 32768) (hfr : ∀ a, a < n → ¬ SetOf l a → ∃ p, p < m ∧ f.getD a 0 = (p : Int)) (hsame : ∀ a b, a < n → b < n → ¬ SetOf l a → ¬ SetOf l b → (f.getD a 0 = f.getD b 0 ↔ Eq' s l a b)) :
    ∀ d i (num out : List Int), i + d = n → num.length = m → out.length = i → PNum n (SetOf l) (Eq' s l) i out → (∀ j, j < i → ¬ SetOf l j → num.getD (f.getD j 0).toNat 0 = out.getD j 0 + 1) → (∀ p : Nat, (∀ j, j < i → ¬ SetOf l j → f.getD j 0 ≠ (p : Int)) → num.getD p 0 = 0) → (∀ j, j < i → ¬ SetOf l j → 0 ≤ out.getD j 0) →
    Wp (fun K k => ref21_components_2042 K k l f (cntC (SetOf l) (Eq' s l) i : Int) (i : Int) num out) (fun y => ∃ out' : List Int, y = (((), ()), (out', ())) ∧ Num n (SetOf l) (Eq' s l) out') := by
  intro d
  induction d with
  | zero =>
    intro i num out h1 hnl ho hp hk hz hge
    refine Wp.step ?_
    simp only [ref21_components_2042]
    have h2 : i = n := by omega
    rw [h2] at hp ho
    exact Wp.negd (by omega) (Wp.ret ⟨out, rfl, hp.num ho⟩)
  | succ d ih =>
    intro i num out h1 hnl ho hp hk hz hge
    have hi : i < n := by omega
    have hcl := cntC_le (SetOf l) (Eq' s l) i
    have happ : ∀ v j, (out ++ [v]).getD j 0 = if j < i then out.getD j 0 else if j = i then v else 0 := fun v j => by
      by_cases hj : j < i
      · rw [getD_app1 (by omega), if_pos hj]
      · rw [if_neg hj]
        by_cases hj2 : j = i
        · rw [if_pos hj2, getD_app2 (by omega), hj2, ho, Nat.sub_self]; rfl
        · rw [if_neg hj2, getD_over (by rw [List.length_append, List.length_singleton]; omega)]
    refine Wp.step ?_
    simp only [ref21_components_2042, wrapS i (by omega), Int.toNat_natCast, List.length_singleton]
    refine Wp.posd (by omega) (Wp.posd (by omega) ?_)
    refine Wp.iteb (fun hb => ?_) (fun hb => ?_)
    · have hL : SetOf l i := hb
      have hc : cntC (SetOf l) (Eq' s l) (i + 1) = cntC (SetOf l) (Eq' s l) i := by simp only [cntC]; rw [if_neg (fun hh => hh.1 hL)]; rfl
      have hnext := ih (i + 1) num (out ++ [-1]) (by omega) hnl (by rw [List.length_append, List.length_singleton]; omega) (hp.step (eq_symm s l) (fun j hj => by rw [happ, if_pos hj]) (fun _ => by rw [happ, if_neg (Nat.lt_irrefl _), if_pos rfl]) (fun h => absurd hL h) (fun j _ _ h => absurd hL h))
        (fun j hj hLj => by
          have hji : j ≠ i := fun he => hLj (he ▸ hL)
          rw [happ, if_pos (by omega)]; exact hk j (by omega) hLj)
        (fun p hp2 => hz p fun j hj => hp2 j (by omega))
        (fun j hj hLj => by
          have hji : j ≠ i := fun he => hLj (he ▸ hL)
          rw [happ, if_pos (by omega)]; exact hge j (by omega) hLj)
      rw [hc] at hnext
      exact Wp.posd (by omega) hnext
    · have hL : ¬ SetOf l i := notL.2 hb
      obtain ⟨p, hpm, hfp⟩ := hfr i hi hL
      simp only [hfp, Int.toNat_natCast]
      refine Wp.posd (by omega) (Wp.posd (by omega) ?_)
      by_cases hex : ∃ j, j < i ∧ ¬ SetOf l j ∧ f.getD j 0 = f.getD i 0
      · obtain ⟨j, hj, hLj, hfj⟩ := hex
        have hEj : Eq' s l j i := (hsame j i (by omega) hi hLj hL).1 hfj
        have hnum : num.getD p 0 = out.getD j 0 + 1 := by
          have := hk j hj hLj
          rw [hfj, hfp, Int.toNat_natCast] at this
          exact this
        have hgj := hge j hj hLj
        have hc : cntC (SetOf l) (Eq' s l) (i + 1) = cntC (SetOf l) (Eq' s l) i := by simp only [cntC]; rw [if_neg (fun hh => hh.2 j hj hLj hEj)]; rfl
        obtain ⟨jm, hjm1, hjm2⟩ : ∃ c : Nat, out.getD j 0 = (c : Int) ∧ c ≤ 32768 := by
          obtain ⟨j', h2, h3, h4, h5⟩ := least_ex (eq_refl s l) (eq_trans s l) j hLj
          refine ⟨cntC (SetOf l) (Eq' s l) j', by rw [← hp.old j' j (by omega) hj h3 hLj h4, hp.new j' (by omega) h3 h5], ?_⟩
          have := cntC_le (SetOf l) (Eq' s l) j'
          omega
        rw [hjm1] at hnum
        have hw : IntKind.i64.wrap (((jm : Int) + 1) - 1) = (jm : Int) := by rw [show ((jm : Int) + 1) - 1 = (jm : Int) by omega]; exact wrapN jm (by omega)
        refine Wp.negd (by omega) ?_
        simp only [ref21_components_130707, hfp, Int.toNat_natCast, hnum, hw, List.length_singleton]
        have g1 : (0 ≤ (i : Int) ∧ (i : Int) < (f.length : Int)) = True := eq_true (by omega)
        have g2 : (0 ≤ (p : Int) ∧ (p : Int) < (num.length : Int)) = True := eq_true (by omega)
        have g3 : (out.length + 1 ≤ 4294967296) = True := eq_true (by omega)
        simp only [g1, g2, g3, decide_true, if_true, Option.bind_some]
        have hnext := ih (i + 1) num (out ++ [(jm : Int)]) (by omega) hnl (by rw [List.length_append, List.length_singleton]; omega) (hp.step (eq_symm s l) (fun j hj => by rw [happ, if_pos hj]) (fun h => absurd h hL) (fun _ hle => absurd hEj (hle j hj hLj)) (fun j' hj' hLj' _ hE => by
            rw [happ, if_neg (Nat.lt_irrefl _), if_pos rfl, ← hjm1]
            exact hp.old j j' hj hj' hLj hLj' (hEj.trans hE.symm)))
          (fun j' hj' hLj' => by
            rcases Nat.lt_or_ge j' i with h3 | h3
            · rw [happ, if_pos h3]; exact hk j' h3 hLj'
            · have h4 : j' = i := by omega
              rw [h4, happ, if_neg (Nat.lt_irrefl _), if_pos rfl, hfp, Int.toNat_natCast]; exact hnum)
          (fun p hp2 => hz p fun j hj => hp2 j (by omega))
          (fun j' hj' hLj' => by
            rcases Nat.lt_or_ge j' i with h3 | h3
            · rw [happ, if_pos h3]; exact hge j' h3 hLj'
            · have h4 : j' = i := by omega
              rw [h4, happ, if_neg (Nat.lt_irrefl _), if_pos rfl]; omega)
        rw [hc] at hnext
        exact hnext
      · have hno : ∀ j, j < i → ¬ SetOf l j → f.getD j 0 ≠ (p : Int) := fun j hj hLj he => hex ⟨j, hj, hLj, he.trans hfp.symm⟩
        have hnum := hz p hno
        have hleast : Least (SetOf l) (Eq' s l) i := fun j hj hLj hE => hno j hj hLj (by rw [← hfp]; exact (hsame j i (by omega) hi hLj hL).2 hE)
        have hc : cntC (SetOf l) (Eq' s l) (i + 1) = cntC (SetOf l) (Eq' s l) i + 1 := by simp only [cntC]; rw [if_pos ⟨hL, hleast⟩]
        obtain ⟨c, hcc⟩ : ∃ c, c = cntC (SetOf l) (Eq' s l) i := ⟨_, rfl⟩
        have hw : IntKind.i64.wrap ((c : Int) + 1) = ((c + 1 : Nat) : Int) := wrapS c (by omega)
        have hw2 : IntKind.i64.wrap (((c + 1 : Nat) : Int) - 1) = (c : Int) := by rw [show (((c + 1 : Nat) : Int)) - 1 = (c : Int) by omega]; exact wrapN c (by omega)
        have hset : ∀ v j, (num.set p v).getD j 0 = if p = j then v else num.getD j 0 := fun v j => by
          rw [gset]
          by_cases hij : p = j
          · rw [if_pos ⟨hij, by omega⟩, if_pos hij]
          · rw [if_neg (fun hh => hij hh.1), if_neg hij]
        refine Wp.posd hnum (Wp.posd (by omega) (Wp.posd (by omega) ?_))
        simp only [ref21_components_130707, hfp, Int.toNat_natCast, ← hcc, hw, hset, if_true, hw2, List.length_singleton, List.length_set]
        have g1 : (0 ≤ (i : Int) ∧ (i : Int) < (f.length : Int)) = True := eq_true (by omega)
        have g2 : (0 ≤ (p : Int) ∧ (p : Int) < (num.length : Int)) = True := eq_true (by omega)
        have g3 : (out.length + 1 ≤ 4294967296) = True := eq_true (by omega)
        simp only [g1, g2, g3, decide_true, if_true, Option.bind_some]
        have hnext := ih (i + 1) (num.set p ((c + 1 : Nat) : Int)) (out ++ [(c : Int)]) (by omega) (by simpa using hnl) (by rw [List.length_append, List.length_singleton]; omega) (hp.step (eq_symm s l) (fun j hj => by rw [happ, if_pos hj]) (fun h => absurd h hL) (fun _ _ => by rw [happ, if_neg (Nat.lt_irrefl _), if_pos rfl, hcc]) (fun j' hj' hLj' _ hE => absurd hE (hleast j' hj' hLj')))
          (fun j' hj' hLj' => by
            rcases Nat.lt_or_ge j' i with h3 | h3
            · obtain ⟨p', hp1, hp2⟩ := hfr j' (by omega) hLj'
              have hne := hno j' h3 hLj'
              rw [happ, if_pos h3, hset, if_neg (by rw [hp2, Int.toNat_natCast]; omega)]; exact hk j' h3 hLj'
            · have h4 : j' = i := by omega
              rw [h4, happ, if_neg (Nat.lt_irrefl _), if_pos rfl, hfp, Int.toNat_natCast, hset, if_pos rfl]; omega)
          (fun p' hp2 => by
            have h3 := hp2 i (by omega) hL
            rw [hset, if_neg (by omega)]
            exact hz p' fun j hj => hp2 j (by omega))
          (fun j' hj' hLj' => by
            rcases Nat.lt_or_ge j' i with h3 | h3
            · rw [happ, if_pos h3]; exact hge j' h3 hLj'
            · have h4 : j' = i := by omega
              rw [h4, happ, if_neg (Nat.lt_irrefl _), if_pos rfl]; omega)
        rw [hc, ← hcc] at hnext
        exact hnext

theorem ref21_components_ok (hs : Sys s n) (hl : l.length = n) : Wp (fun K _ => ref21_components K s l) (fun y => ∃ out, y = (((), ()), (out, ())) ∧ Num n (SetOf l) (Eq' s l) out) := by
  have hle := hs.le
  simp only [ref21_components, hl, Int.toNat_natCast]
  refine Wp.posd (by omega) ?_
  refine (Wp.diag (init_loop hle hl n 0 (List.replicate n 0) (by omega) (by simp) (fun j hj => absurd hj (Nat.not_lt_zero _)))).call fun y hy => ?_
  obtain ⟨r0, rfl, h1, h2⟩ := hy
  refine (ref21_back_ok hs hl).call fun y hy => ?_
  obtain ⟨F, rfl, hF, hFm, hFl⟩ := hy
  refine (ref21_finished_ok hs hl).call fun y hy => ?_
  obtain ⟨order, rfl, hd, hf, hm⟩ := hy
  have hol : order.length ≤ n := nodup_le n order hd fun x hx => ((hm x).1 hx).1
  have hK0 : KI s n l order order.length r0 := ⟨h1, fun x hx => .inl (h2 x hx), fun x hx h0 => by rw [h2 x hx] at h0; omega, fun a c ha _ h0 => by rw [h2 a ha] at h0; omega, fun a c ha _ h0 => by rw [h2 a ha] at h0; omega, fun p hp hp2 => by omega⟩
  have hrough := rough_loop hs hd hf hm hF hFm hFl order.length r0 (Nat.le_refl _) hK0
  have hw : IntKind.i64.wrap ((order.length : Int) - 1) = (order.length : Int) - 1 := wrapI (by omega) (by omega)
  simp only [numl_length, hw, Int.toNat_natCast]
  refine (Wp.diag hrough).call fun y hy => ?_
  obtain ⟨r, rfl, hK⟩ := hy
  refine Wp.posd (by omega) ?_
  have hge : ∀ a, a < n → ¬ SetOf l a → 0 ≤ r.getD a 0 := fun a ha hL => by
    obtain ⟨p, h3, h4⟩ := mem_getD 0 ((hm a).2 ⟨ha, notL.1 hL⟩)
    have := hK.k3 p (Nat.zero_le _) h3
    rwa [h4] at this
  have hnum := rnumber_loop (s := s) (l := l) hle hl r hK.lr order.length (by omega) (fun a ha hL => by
      rcases hK.rg a ha with h3 | ⟨p, _, h4, h5⟩
      · have := hge a ha hL; omega
      · exact ⟨p, h4, h5⟩) (fun a b ha hb hLa hLb => ⟨fun h => hK.k2 a b ha hb (hge a ha hLa) h, fun h => (hK.k1 a b ha hb (hge a ha hLa) h).symm⟩)
    n 0 (List.replicate order.length 0) [] (by omega) (by simp) rfl ⟨fun j hj => absurd hj (Nat.not_lt_zero _), fun j hj => absurd hj (Nat.not_lt_zero _), fun j k hj => absurd hj (Nat.not_lt_zero _)⟩ (fun j hj => absurd hj (Nat.not_lt_zero _)) (fun p _ => by rw [getD_rep]; split <;> rfl) (fun j hj => absurd hj (Nat.not_lt_zero _))
  refine (Wp.diag hnum).call fun y hy => ?_
  obtain ⟨out, rfl, h3⟩ := hy
  exact Wp.ret ⟨out, rfl, h3⟩
end
end Go.Proofs.Yteadlocehjfpoaa.G
