/- The reference's rounds: the loops. -/
import Derived.Test.YtafndpkfoajpnaaWorstH
namespace Go.Proofs.Ytafndpkfoajpnaa.G
open Go Go.Fw

section
variable {s : SpaceV} {n : Nat} {l : List Bool}
structure GoodT (s : SpaceV) (l : List Bool) (n : Nat) (T : List (List (Nat × Nat))) : Prop where
  tab : TabOk s l n T
  und : UnderT s l T
  clo : ∀ x p, InT T x p → ∀ j, j < (arcs s x).length → l.getD (goN s x j) false = false → InT T (goN s x j) (afterN s p x j)
  seed : ∀ x, x < n → l.getD x false = false → InT T x (enN s x)

theorem rd_le {T : List (List (Nat × Nat))} (h : GoodT s l n T) {x p : Nat} (hi : InT T x p) : rd T x p ≤ (roundsN s l).val (x, p) := by
  obtain ⟨i, h1, h2⟩ := hi
  have h3 := rd_at (h.tab.nd x) h1
  rw [h2] at h3
  have h4 := h.und x i h1
  rw [h2] at h4
  omega
theorem thr_le (hf : ∀ x, x < n → Attr (goals s) (SetOf l) x) {T : List (List (Nat × Nat))} (h : GoodT s l n T) {x p j : Nat} (hin : InT T x p) (hj : j < (arcs s x).length) : thr s l T x p j ≤ (roundsN s l).val (x, p) := by
  obtain ⟨hp, hlx⟩ := h.tab.ok x p hin
  have hA := hf x hp.1
  unfold thr
  split
  · exact rval_pos hA hlx
  · rename_i hlg
    have h1 := rval_ge (p := p) hA hlx hj
    have h2 := rd_le h (h.clo x p hin j hj (by simpa using hlg))
    omega
theorem GoodT.setT (hf : ∀ x, x < n → Attr (goals s) (SetOf l) x) {T : List (List (Nat × Nat))} (h : GoodT s l n T) {x i v : Nat} (hx : x < n) (hi : i < (T.getD x []).length) (hv : ((T.getD x []).getD i (0, 0)).2 < v) (hv2 : v ≤ (roundsN s l).val (x, ((T.getD x []).getD i (0, 0)).1)) : GoodT s l n (setT T x i v) := by
  have hx' : x < T.length := by rw [h.tab.len]; exact hx
  exact ⟨h.tab.setT hx' hi, (betterT (n := n) h.und hx' hx hi hv hv2).1, fun y p hy j hj hlg => (setT_in hx' hi _ _).2 (h.clo y p ((setT_in hx' hi _ _).1 hy) j hj hlg), fun y hy hly => (setT_in hx' hi _ _).2 (h.seed y hy hly)⟩

/-- the flag and the table, against the table at the beginning of a round: less is lacking, or nothing has changed and so much is at rest -/
def Flag (s : SpaceV) (l : List Bool) (n : Nat) (T0 T : List (List (Nat × Nat))) (b : Bool) (R : Prop) : Prop := (b = true ∧ lackT s l n T < lackT s l n T0) ∨ (b = false ∧ T = T0 ∧ R)

theorem arcs_loop (hs : Sys s n) (hl : l.length = n) (hf : ∀ x, x < n → Attr (goals s) (SetOf l) x) (hS : Sets s n) (hrow : ∀ T, GoodT s l n T → ∀ x, x < n → (T.getD x []).length ≤ 30720) (hbig : ∀ x p, x < n → (roundsN s l).val (x, p) ≤ 1000000) (T0 : List (List (Nat × Nat))) {x i p : Nat} (hx : x < n) : ∀ d j (b : Bool) (T : List (List (Nat × Nat))) (R : Prop), j + d = (arcs s x).length → GoodT s l n T → i < (T.getD x []).length → ((T.getD x []).getD i (0, 0)).1 = p → Flag s l n T0 T b (R ∧ ∀ j', j' < j → thr s l T0 x p j' ≤ ((T0.getD x []).getD i (0, 0)).2) →
    Wp (fun K k => ref20_Rounds_65627282 K k l b (x : Int) (i : Int) (j : Int) s (encT T)) (fun y => ∃ (b' : Bool) (T' : List (List (Nat × Nat))), y = ((b', ()), (s, (encT T', ()))) ∧ GoodT s l n T' ∧ (∀ y, (T'.getD y []).length = (T.getD y []).length) ∧ (∀ y k, ((T'.getD y []).getD k (0, 0)).1 = ((T.getD y []).getD k (0, 0)).1) ∧ Flag s l n T0 T' b' (R ∧ b = false ∧ ∀ j', j' < (arcs s x).length → thr s l T0 x p j' ≤ ((T0.getD x []).getD i (0, 0)).2)) := by
  have har := hs.ar
  have htot := total_ge (s := s) hx
  have htt := hs.tot
  intro d
  induction d with
  | zero =>
    intro j b T R h1 hT hi hp h
    refine Wp.step ?_
    simp only [ref20_Rounds_65627282, Int.toNat_natCast, arcs_def]
    have h2 : j = (arcs s x).length := by omega
    subst h2
    refine Wp.posd (by omega) (Wp.negd (by omega) (Wp.ret ⟨b, T, rfl, hT, fun _ => rfl, fun _ _ => rfl, h.imp (fun h => h) (fun h => ⟨h.1, h.2.1, h.2.2.1, h.1, h.2.2.2⟩)⟩))
  | succ d ih =>
    intro j b T R h1 hT hi hp h
    have hjl : j < (arcs s x).length := by omega
    have hel := encP_length (T.getD x [])
    have htl := hT.tab.len
    have hin : InT T x p := ⟨i, hi, hp⟩
    have hpo := (hT.tab.ok x p hin).1
    have hg : goN s x j < n := goals_at hs hjl
    have hth := through_ok hs hl hS hT.tab (hrow T hT) hpo.2.1 hjl (hT.clo x p hin j hjl) (by
      by_cases hi2 : InT T (goN s x j) (afterN s p x j)
      · exact Nat.le_trans (rd_le hT hi2) (hbig _ _ hg)
      · unfold rd; rw [dif_neg hi2]; exact Nat.zero_le _)
    have hle := thr_le hf hT hin hjl
    have hat : ato (encP (T.getD x [])) i = ((((T.getD x []).getD i (0, 0)).2 : Nat) : Int) := by
      show ((encP (T.getD x [])).getD i (0, (0, ()))).2.1 = _
      rw [encP_getD]
    have has : aset (encP (T.getD x [])) i = (((p : Nat)) : Int) := by
      show ((encP (T.getD x [])).getD i (0, (0, ()))).1 = _
      rw [encP_getD, hp]
    refine Wp.step ?_
    simp only [ref20_Rounds_65627282, Int.toNat_natCast, arcs_def, encT_length, encT_getD, ato_def, aset_def, hat, has, wrapS j (by omega)]
    refine Wp.posd (by omega) (Wp.posd (by omega) (Wp.posd (by omega) (Wp.posd (by omega) (Wp.posd (by omega) (Wp.posd (by omega) ?_)))))
    refine Wp.callE hth (Wp.posd (by omega) (Wp.posd (by omega) ?_))
    refine Wp.ited (fun hlt => Wp.posd (by omega) (Wp.posd (by omega) ?_)) (fun hlt => ?_)
    · have hlt' : ((T.getD x []).getD i (0, 0)).2 < thr s l T x p j := by simp only at hlt; omega
      have hle' : thr s l T x p j ≤ (roundsN s l).val (x, ((T.getD x []).getD i (0, 0)).1) := by rw [hp]; exact hle
      have hx' : x < T.length := by omega
      have hT' := hT.setT hf hx hi hlt' hle'
      have hlk := (betterT (n := n) hT.und hx' hx hi hlt' hle').2
      have henc : (encT T).set x ((encP (T.getD x [])).set i ((p : Int), (((thr s l T x p j : Nat) : Int), ()))) = encT (setT T x i (thr s l T x p j)) := by
        rw [encP_set, encT_set]; unfold Go.Proofs.Ytafndpkfoajpnaa.G.setT; rw [hp]
      simp only [henc]
      refine (ih (j + 1) true _ R (by omega) hT' (by rw [setT_len hx']; exact hi) (by rw [setT_fst hx' hi]; exact hp) (.inl ⟨rfl, ?_⟩)).mono fun y hy => ?_
      · rcases h with h | ⟨_, h, _⟩
        · omega
        · rw [h] at hlk ⊢; exact hlk
      · obtain ⟨b', T', rfl, g1, g2, g3, g4⟩ := hy
        refine ⟨b', T', rfl, g1, fun y => by rw [g2, setT_len hx'], fun y k => by rw [g3, setT_fst hx' hi], g4.imp (fun h => h) (fun h => by have := h.2.2.2.1; simp at this)⟩
    · refine ih (j + 1) b T R (by omega) hT hi hp (h.imp (fun h => h) fun h => ⟨h.1, h.2.1, h.2.2.1, fun j' hj' => ?_⟩)
      rcases Nat.lt_or_ge j' j with h3 | h3
      · exact h.2.2.2 j' h3
      · have h4 : j' = j := by omega
        have h5 := h.2.1
        subst h5
        rw [h4]; simp only at hlt; omega

/-- a pair's arcs are at rest -/
def Rest (s : SpaceV) (l : List Bool) (T0 : List (List (Nat × Nat))) (x i : Nat) : Prop := ∀ j, j < (arcs s x).length → thr s l T0 x ((T0.getD x []).getD i (0, 0)).1 j ≤ ((T0.getD x []).getD i (0, 0)).2

theorem rows_loop (hs : Sys s n) (hl : l.length = n) (hf : ∀ x, x < n → Attr (goals s) (SetOf l) x) (hS : Sets s n) (hrow : ∀ T, GoodT s l n T → ∀ x, x < n → (T.getD x []).length ≤ 30720) (hbig : ∀ x p, x < n → (roundsN s l).val (x, p) ≤ 1000000) (T0 : List (List (Nat × Nat))) {x : Nat} (hx : x < n) : ∀ d i (b : Bool) (T : List (List (Nat × Nat))) (R : Prop), i + d = (T.getD x []).length → GoodT s l n T → (∀ y, (T.getD y []).length = (T0.getD y []).length) → (∀ y k, ((T.getD y []).getD k (0, 0)).1 = ((T0.getD y []).getD k (0, 0)).1) → Flag s l n T0 T b (R ∧ ∀ i', i' < i → Rest s l T0 x i') →
    Wp (fun K k => ref20_Rounds_1025426 K k l b (x : Int) (i : Int) s (encT T)) (fun y => ∃ (b' : Bool) (T' : List (List (Nat × Nat))), y = ((b', ()), (s, (encT T', ()))) ∧ GoodT s l n T' ∧ (∀ y, (T'.getD y []).length = (T0.getD y []).length) ∧ (∀ y k, ((T'.getD y []).getD k (0, 0)).1 = ((T0.getD y []).getD k (0, 0)).1) ∧ Flag s l n T0 T' b' (R ∧ ∀ i', i' < (T0.getD x []).length → Rest s l T0 x i')) := by
  intro d
  induction d with
  | zero =>
    intro i b T R h1 hT h2 h3 h
    have hel := encP_length (T.getD x [])
    have htl := hT.tab.len
    have h4 := h2 x
    refine Wp.step ?_
    simp only [ref20_Rounds_1025426, Int.toNat_natCast, encT_length, encT_getD]
    exact Wp.posd (by omega) (Wp.negd (by omega) (Wp.ret ⟨b, T, rfl, hT, h2, h3, h.imp (fun h => h) (fun h => ⟨h.1, h.2.1, h.2.2.1, fun i' hi' => h.2.2.2 i' (by omega)⟩)⟩))
  | succ d ih =>
    intro i b T R h1 hT h2 h3 h
    have hel := encP_length (T.getD x [])
    have htl := hT.tab.len
    have hr := hrow T hT x hx
    refine Wp.step ?_
    simp only [ref20_Rounds_1025426, Int.toNat_natCast, encT_length, encT_getD, wrapS i (by omega)]
    refine Wp.posd (by omega) (Wp.posd (by omega) ?_)
    refine (Wp.diag (arcs_loop hs hl hf hS hrow hbig T0 (i := i) (p := ((T.getD x []).getD i (0, 0)).1) hx (arcs s x).length 0 b T (R ∧ ∀ i', i' < i → Rest s l T0 x i') (by omega) hT (by omega) rfl (h.imp (fun h => h) (fun h => ⟨h.1, h.2.1, h.2.2, fun j' hj' => absurd hj' (Nat.not_lt_zero _)⟩)))).call fun y hy => ?_
    obtain ⟨b', T', rfl, g1, g2, g3, g4⟩ := hy
    refine ih (i + 1) b' T' R (by rw [g2]; omega) g1 (fun y => by rw [g2, h2]) (fun y k => by rw [g3, h3]) (g4.imp (fun h => h) ?_)
    rintro ⟨e1, e2, ⟨e3, e4⟩, _, e5⟩
    refine ⟨e1, e2, e3, fun i' hi' => ?_⟩
    rcases Nat.lt_or_ge i' i with h5 | h5
    · exact e4 i' h5
    · have h6 : i' = i := by omega
      subst h6
      intro j hj
      have := e5 j hj
      rw [h3] at this; exact this

theorem table_loop (hs : Sys s n) (hl : l.length = n) (hf : ∀ x, x < n → Attr (goals s) (SetOf l) x) (hS : Sets s n) (hrow : ∀ T, GoodT s l n T → ∀ x, x < n → (T.getD x []).length ≤ 30720) (hbig : ∀ x p, x < n → (roundsN s l).val (x, p) ≤ 1000000) (T0 : List (List (Nat × Nat))) : ∀ d x (b : Bool) (T : List (List (Nat × Nat))), x + d = n → GoodT s l n T → (∀ y, (T.getD y []).length = (T0.getD y []).length) → (∀ y k, ((T.getD y []).getD k (0, 0)).1 = ((T0.getD y []).getD k (0, 0)).1) → Flag s l n T0 T b (∀ y, y < x → ∀ i, i < (T0.getD y []).length → Rest s l T0 y i) →
    Wp (fun K k => ref20_Rounds_16022 K k l b (x : Int) s (encT T)) (fun y => ∃ (b' : Bool) (T' : List (List (Nat × Nat))), y = ((b', ()), (s, (encT T', ()))) ∧ GoodT s l n T' ∧ Flag s l n T0 T' b' (∀ y, y < n → ∀ i, i < (T0.getD y []).length → Rest s l T0 y i)) := by
  have hle := hs.le
  intro d
  induction d with
  | zero =>
    intro x b T h1 hT h2 h3 h
    have htl := hT.tab.len
    refine Wp.step ?_
    simp only [ref20_Rounds_16022, encT_length]
    exact Wp.negd (by omega) (Wp.ret ⟨b, T, rfl, hT, h.imp (fun h => h) (fun h => ⟨h.1, h.2.1, fun y hy => h.2.2 y (by omega)⟩)⟩)
  | succ d ih =>
    intro x b T h1 hT h2 h3 h
    have htl := hT.tab.len
    refine Wp.step ?_
    simp only [ref20_Rounds_16022, encT_length, wrapS x (by omega)]
    refine Wp.posd (by omega) ?_
    refine (Wp.diag (rows_loop hs hl hf hS hrow hbig T0 (show x < n by omega) (T.getD x []).length 0 b T _ (by omega) hT h2 h3 (h.imp (fun h => h) (fun h => ⟨h.1, h.2.1, h.2.2, fun i hi => absurd hi (Nat.not_lt_zero _)⟩)))).call fun y hy => ?_
    obtain ⟨b', T', rfl, g1, g2, g3, g4⟩ := hy
    refine ih (x + 1) b' T' (by omega) g1 g2 g3 (g4.imp (fun h => h) ?_)
    rintro ⟨e1, e2, e3, e4⟩
    refine ⟨e1, e2, fun y hy => ?_⟩
    rcases Nat.lt_or_ge y x with h5 | h5
    · exact e3 y h5
    · have h6 : y = x := by omega
      subst h6; exact e4
end
end Go.Proofs.Ytafndpkfoajpnaa.G
