/- The program's components are the components, numbered by least states. -/
import Derived.Test.YteadlocehjfpoaaTarjan2
namespace Go.Fw
open Go
theorem mput_length (κ : IntKind) {v : Type} : ∀ (m : List (Int × v)) (x : Int) (z : v), mget (.int κ) m x = none → (mput (.int κ) m x z).length = m.length + 1
  | [], x, z, _ => rfl
  | p :: r, x, z, h => by
    simp only [mget, GTy.beq, decide_eq_true_eq] at h
    split at h
    · simp at h
    · rename_i hx
      simp only [mput, GTy.beq, decide_eq_true_eq]
      rw [if_neg hx, List.length_cons, List.length_cons, mput_length κ r x z h]
theorem mget_mput' (κ : IntKind) {v : Type} : ∀ (m : List (Int × v)) (x y : Int) (z : v), mget (.int κ) (mput (.int κ) m x z) y = if y = x then some z else mget (.int κ) m y
  | [], x, y, z => by
    simp only [mput, mget, GTy.beq]
    by_cases h : y = x <;> simp [h]
  | p :: r, x, y, z => by
    simp only [mput]
    by_cases h : x = p.1
    · rw [if_pos (by simp [GTy.beq, h])]
      simp only [mget, GTy.beq, decide_eq_true_eq]
      by_cases h2 : y = x
      · simp [h2]
      · rw [if_neg h2, if_neg h2, if_neg (by rw [← h]; exact h2)]
    · rw [if_neg (by simp [GTy.beq, h])]
      simp only [mget, GTy.beq, decide_eq_true_eq]
      by_cases h2 : y = p.1
      · rw [if_pos h2, if_pos h2, if_neg (by rw [h2]; exact fun he => h he.symm)]
      · rw [if_neg h2, if_neg h2]
        exact mget_mput' κ r x y z

/-- the numbers of the first states -/
structure PNum (n : Nat) (L : Nat → Prop) (E : Nat → Nat → Prop) (k : Nat) (out : List Int) : Prop where
  leg : ∀ j, j < k → L j → out.getD j 0 = -1
  new : ∀ j, j < k → ¬ L j → Least L E j → out.getD j 0 = (cntC L E j : Int)
  old : ∀ i j, i < k → j < k → ¬ L i → ¬ L j → E i j → out.getD i 0 = out.getD j 0
theorem PNum.num {n : Nat} {L : Nat → Prop} {E : Nat → Nat → Prop} {out : List Int} (h : PNum n L E n out) (hl : out.length = n) : Num n L E out := ⟨hl, h.leg, h.new, h.old⟩

/-- one state more, with its number -/
theorem PNum.step {n : Nat} {L : Nat → Prop} {E : Nat → Nat → Prop} (hs : ∀ x y, E x y → E y x) {k : Nat} {out out' : List Int} (h : PNum n L E k out) (heq : ∀ j, j < k → out'.getD j 0 = out.getD j 0) (hleg : L k → out'.getD k 0 = -1) (hnew : ¬ L k → Least L E k → out'.getD k 0 = (cntC L E k : Int))
    (hold : ∀ j, j < k → ¬ L j → ¬ L k → E j k → out'.getD k 0 = out.getD j 0) : PNum n L E (k + 1) out' where
  leg := fun j hj hl => by
    rcases Nat.lt_or_ge j k with h1 | h1
    · rw [heq j h1]; exact h.leg j h1 hl
    · have h2 : j = k := by omega
      rw [h2] at hl ⊢; exact hleg hl
  new := fun j hj hl hL => by
    rcases Nat.lt_or_ge j k with h1 | h1
    · rw [heq j h1]; exact h.new j h1 hl hL
    · have h2 : j = k := by omega
      rw [h2] at hl hL ⊢; exact hnew hl hL
  old := fun i j hi hj hLi hLj hE => by
    rcases Nat.lt_or_ge i k with h1 | h1 <;> rcases Nat.lt_or_ge j k with h2 | h2
    · rw [heq i h1, heq j h2]; exact h.old i j h1 h2 hLi hLj hE
    · have h3 : j = k := by omega
      rw [h3] at hLj hE ⊢
      rw [heq i h1]; exact (hold i h1 hLi hLj hE).symm
    · have h3 : i = k := by omega
      rw [h3] at hLi hE ⊢
      rw [heq j h2]; exact hold j h2 hLj hLi (hs _ _ hE)
    · rw [show i = k by omega, show j = k by omega]
end Go.Fw
namespace Go.Proofs.Yteadlocehjfpoaa.G
open Go Go.Fw

section
variable {s : SpaceV} {n : Nat} {l : List Bool}

theorem TI.noStack {q : TS} (h : TI s n l (fun _ => False) q) : q.st = [] := by
  cases hs : q.st with
  | nil => rfl
  | cons a r =>
    obtain ⟨g, h1, _⟩ := h.togr a (by rw [hs]; exact List.mem_cons_self ..)
    exact h1.elim

theorem ti_zero (hl : l.length = n) : TI s n l (fun _ => False) ⟨0, List.replicate n 0, List.replicate n 0, List.replicate n false, [], List.replicate n 0⟩ := by
  have hz : ∀ x, (List.replicate n 0).getD x 0 = 0 := fun x => by rw [getD_rep]; split <;> rfl
  have hnd : ∀ x, ¬ TS.done ⟨0, List.replicate n 0, List.replicate n 0, List.replicate n false, [], List.replicate n 0⟩ x := fun x h => h.1 (hz x)
  refine ⟨by simp, by simp, by simp, by simp, ?_, fun x => by rw [hz]; exact Nat.le_refl _, fun x => ?_, fun x hx => by simp at hx, List.Pairwise.nil, fun x hx => hx.elim, fun x hx => by simp at hx, fun g hg => hg.elim, fun x hx => absurd (hz x) hx, fun x hx => absurd hx (hnd x), fun x hx => absurd (hz x) hx, fun x hx => absurd hx (hnd x), fun x y hx => absurd hx (hnd x)⟩
  · show (List.replicate n 0).countP (· == 0) + 0 = n
    rw [List.countP_replicate]; simp
  · show (List.replicate n false).getD x false = true ↔ x ∈ []
    rw [getD_rep]; simp

theorem roots_loop (hs : Sys s n) (hl : l.length = n) : ∀ d i (q : TS), i + d = n → TI s n l (fun _ => False) q → (∀ j, j < i → l.getD j false = false → q.idx.getD j 0 ≠ 0) →
    Wp (fun K k => fairness_components_122 K k l (n : Int) (i : Int) s l ((q.c : Int), ()) (numl q.idx) (numl q.low) q.on (numl q.st) (numl q.of)) (fun y => ∃ q', y = ((), TS.out q' s l) ∧ TI s n l (fun _ => False) q' ∧ ∀ j, j < n → l.getD j false = false → q'.idx.getD j 0 ≠ 0) := by
  have hle := hs.le
  intro d
  induction d with
  | zero =>
    intro i q h1 hq hv
    refine Wp.step ?_
    simp only [fairness_components_122]
    exact Wp.negd (by omega) (Wp.ret ⟨q, rfl, hq, fun j hj => hv j (by omega)⟩)
  | succ d ih =>
    intro i q h1 hq hv
    have hi : i < n := by omega
    have hli := hq.li
    have next : ∀ q' : TS, TI s n l (fun _ => False) q' → (∀ j, j < i + 1 → l.getD j false = false → q'.idx.getD j 0 ≠ 0) → Wp (fun K k => fairness_components_122 K k l (n : Int) ((i + 1 : Nat) : Int) s l ((q'.c : Int), ()) (numl q'.idx) (numl q'.low) q'.on (numl q'.st) (numl q'.of)) (fun y => ∃ q', y = ((), TS.out q' s l) ∧ TI s n l (fun _ => False) q' ∧ ∀ j, j < n → l.getD j false = false → q'.idx.getD j 0 ≠ 0) :=
      fun q' h2 h3 => ih (i + 1) q' (by omega) h2 h3
    refine Wp.step ?_
    simp only [fairness_components_122, wrapS i (by omega), Int.toNat_natCast, numl_getD, numl_length]
    refine Wp.posd (by omega) (Wp.posd (by omega) ?_)
    refine Wp.itebn (fun hb => ?_) (fun hb => next q hq fun j hj hlj => ?_)
    · refine Wp.posd (by omega) ?_
      refine Wp.ited (fun hz => ?_) (fun hz => next q hq fun j hj hlj => ?_)
      · have hvis := visit_ok hs hl _ (fun _ => False) q i hq rfl hi hb (by omega) (fun g hg => hg.elim)
        refine (Wp.diag hvis).call fun y hy => ?_
        obtain ⟨q', t, rfl, hv'⟩ := hy
        refine next q' hv'.inv fun j hj hlj => ?_
        rcases Nat.lt_or_ge j i with h2 | h2
        · rw [(hv'.old j (hv j h2 hlj)).1]; exact hv j h2 hlj
        · have h3 : j = i := by omega
          rw [h3, hv'.at']; omega
      · rcases Nat.lt_or_ge j i with h2 | h2
        · exact hv j h2 hlj
        · have h3 : j = i := by omega
          rw [h3]; omega
    · rcases Nat.lt_or_ge j i with h2 | h2
      · exact hv j h2 hlj
      · have h3 : j = i := by omega
        rw [h3, hb] at hlj; simp at hlj

/-- the components outside of the legitimate states -/
abbrev Eq' (s : SpaceV) (l : List Bool) := Both (outer s l)
theorem eq_refl (s : SpaceV) (l : List Bool) : ∀ x, Eq' s l x x := fun _ => .refl
theorem eq_symm (s : SpaceV) (l : List Bool) : ∀ x y, Eq' s l x y → Eq' s l y x := fun _ _ h => h.symm
theorem eq_trans (s : SpaceV) (l : List Bool) : ∀ x y z, Eq' s l x y → Eq' s l y z → Eq' s l x z := fun _ _ _ h h' => h.trans h'

theorem number_loop (hn : n ≤ 32768) (hl : l.length = n) (f : List Nat) (hf : f.length = n) (hsame : ∀ a b, a < n → b < n → ¬ SetOf l a → ¬ SetOf l b → (f.getD a 0 = f.getD b 0 ↔ Eq' s l a b)) (c : Int × Unit) (ix lw st : List Int) (on : List Bool) :
    ∀ d i (out : List Int) (m : List (Int × Int)), i + d = n → out.length = n → PNum n (SetOf l) (Eq' s l) i out → m.length = cntC (SetOf l) (Eq' s l) i → (∀ j, j < i → ¬ SetOf l j → mget (.int .i64) m (f.getD j 0 : Int) = some (out.getD j 0)) → (∀ v : Nat, (∀ j, j < i → ¬ SetOf l j → f.getD j 0 ≠ v) → mget (.int .i64) m (v : Int) = none) →
    Wp (fun K k => fairness_components_506 K k l (n : Int) (i : Int) s l c ix lw on st (numl f) out m) (fun y => ∃ (out' : List Int) (m' : List (Int × Int)), y = ((), (out', (m', ()))) ∧ Num n (SetOf l) (Eq' s l) out' ∧ m'.length = cntC (SetOf l) (Eq' s l) n) := by
  intro d
  induction d with
  | zero =>
    intro i out m h1 ho hp hm hk hnone
    refine Wp.step ?_
    simp only [fairness_components_506]
    have h2 : i = n := by omega
    rw [h2] at hp hm
    exact Wp.negd (by omega) (Wp.ret ⟨out, m, rfl, hp.num ho, hm⟩)
  | succ d ih =>
    intro i out m h1 ho hp hm hk hnone
    have hi : i < n := by omega
    have hcl := cntC_le (SetOf l) (Eq' s l) i
    have hset : ∀ v j, (out.set i v).getD j 0 = if i = j then v else out.getD j 0 := fun v j => by
      rw [gset]
      by_cases hij : i = j
      · rw [if_pos ⟨hij, by omega⟩, if_pos hij]
      · rw [if_neg (fun hh => hij hh.1), if_neg hij]
    refine Wp.step ?_
    simp only [fairness_components_506, wrapS i (by omega), Int.toNat_natCast, numl_getD, numl_length]
    refine Wp.posd (by omega) (Wp.posd (by omega) (Wp.posd (by omega) ?_))
    refine Wp.iteb (fun hb => ?_) (fun hb => ?_)
    · have hL : SetOf l i := hb
      refine ih (i + 1) _ m (by omega) (by simpa using ho) (hp.step (eq_symm s l) (fun j hj => by rw [hset, if_neg (by omega)]) (fun _ => by rw [hset, if_pos rfl]) (fun h => absurd hL h) (fun j _ _ h => absurd hL h)) ?_ (fun j hj hLj => ?_) (fun v hv => hnone v fun j hj => hv j (by omega))
      · simp only [cntC]; rw [if_neg (fun hh => hh.1 hL)]; exact hm
      · have hji : j ≠ i := fun he => hLj (he ▸ hL)
        rw [hset, if_neg (Ne.symm hji)]; exact hk j (by omega) hLj
    · have hL : ¬ SetOf l i := by rw [SetOf, hb]; simp
      refine Wp.posd (by omega) ?_
      by_cases hex : ∃ j, j < i ∧ ¬ SetOf l j ∧ f.getD j 0 = f.getD i 0
      · obtain ⟨j, hj, hLj, hfj⟩ := hex
        have hEj : Eq' s l j i := (hsame j i (by omega) hi hLj hL).1 hfj
        have hget : mget (.int .i64) m (f.getD i 0 : Int) = some (out.getD j 0) := by rw [← hfj]; exact hk j hj hLj
        simp only [hget, Option.isSome_some, Bool.not_true, Bool.false_eq_true, if_false, fairness_components_259279, numl_length, numl_getD, Int.toNat_natCast, List.length_set, Option.getD_some, List.set_set]
        have g1 : (0 ≤ (i : Int) ∧ (i : Int) < (f.length : Int)) = True := eq_true (by omega)
        have g2 : (0 ≤ (i : Int) ∧ (i : Int) < (out.length : Int)) = True := eq_true (by omega)
        simp only [g1, g2, decide_true, if_true, Option.bind_some]
        refine ih (i + 1) _ m (by omega) (by simpa using ho) (hp.step (eq_symm s l) (fun j hj => by rw [hset, if_neg (by omega)]) (fun h => absurd h hL) (fun _ hle => absurd hEj (hle j hj hLj)) (fun j' hj' hLj' _ hE => ?_)) ?_ (fun j' hj' hLj' => ?_) (fun v hv => hnone v fun j hj => hv j (by omega))
        · rw [hset, if_pos rfl]
          exact hp.old j j' hj hj' hLj hLj' (hEj.trans hE.symm)
        · simp only [cntC]; rw [if_neg (fun hh => hh.2 j hj hLj hEj)]; exact hm
        · rcases Nat.lt_or_ge j' i with h3 | h3
          · rw [hset, if_neg (by omega)]; exact hk j' h3 hLj'
          · have h4 : j' = i := by omega
            rw [h4, hset, if_pos rfl]; exact hget
      · have hno : ∀ j, j < i → ¬ SetOf l j → f.getD j 0 ≠ f.getD i 0 := fun j hj hLj he => hex ⟨j, hj, hLj, he⟩
        have hget := hnone _ hno
        have hleast : Least (SetOf l) (Eq' s l) i := fun j hj hLj hE => hno j hj hLj ((hsame j i (by omega) hi hLj hL).2 hE)
        simp only [hget, Option.isSome_none, Bool.not_false, if_true, fairness_components_259279, numl_length, numl_getD, Int.toNat_natCast, List.length_set, mget_mput', Option.getD_some, List.set_set]
        have g1 : (0 ≤ (i : Int) ∧ (i : Int) < (f.length : Int)) = True := eq_true (by omega)
        have g2 : (0 ≤ (i : Int) ∧ (i : Int) < (out.length : Int)) = True := eq_true (by omega)
        have g3 : (m.length ≤ 9223372036854775807) = True := eq_true (by omega)
        simp only [g1, g2, g3, decide_true, if_true, Option.bind_some]
        refine ih (i + 1) _ _ (by omega) (by simpa using ho) (hp.step (eq_symm s l) (fun j hj => by rw [hset, if_neg (by omega)]) (fun h => absurd h hL) (fun _ _ => by rw [hset, if_pos rfl, hm]) (fun j' hj' hLj' _ hE => absurd hE (hleast j' hj' hLj'))) ?_ (fun j' hj' hLj' => ?_) (fun v hv => ?_)
        · rw [mput_length _ _ _ _ hget, hm]
          simp only [cntC]; rw [if_pos ⟨hL, hleast⟩]
        · rw [mget_mput']
          rcases Nat.lt_or_ge j' i with h3 | h3
          · have := hno j' h3 hLj'
            rw [if_neg (by omega), hset, if_neg (by omega)]; exact hk j' h3 hLj'
          · have h4 : j' = i := by omega
            rw [h4, if_pos rfl, hset, if_pos rfl]
        · have h3 := hv i (by omega) hL
          rw [mget_mput', if_neg (by omega)]
          exact hnone v fun j hj => hv j (by omega)

theorem fairness_components_ok (hs : Sys s n) (hl : l.length = n) : Wp (fun K _ => fairness_components K s l) (fun y => ∃ out, y = ((((), ((cntC (SetOf l) (Eq' s l) n : Int), ())), ()), (out, ())) ∧ Num n (SetOf l) (Eq' s l) out) := by
  have hle := hs.le
  have hrep : List.replicate n (0 : Int) = numl (List.replicate n 0) := by simp [numl]
  have hcl := cntC_le (SetOf l) (Eq' s l) n
  simp only [fairness_components, hl, Int.toNat_natCast]
  refine Wp.posd (by omega) (Wp.posd (by omega) (Wp.posd (by omega) (Wp.posd (by omega) ?_)))
  have hroots := roots_loop hs hl n 0 ⟨0, List.replicate n 0, List.replicate n 0, List.replicate n false, [], List.replicate n 0⟩ (by omega) (ti_zero hl) (fun j hj => absurd hj (Nat.not_lt_zero _))
  simp only [hrep]
  refine (Wp.diag hroots).call fun y hy => ?_
  obtain ⟨q, rfl, hq, hv⟩ := hy
  have hst := hq.noStack
  have hdone : ∀ a, a < n → ¬ SetOf l a → q.done a := fun a ha hL => ⟨hv a ha (by cases h : l.getD a false with | false => rfl | true => exact absurd h hL), by rw [hst]; simp⟩
  have hloop := number_loop (s := s) (l := l) hle hl q.of hq.lf (fun a b ha hb hLa hLb => ⟨fun he => ?_, fun hE => hq.same a b (hdone a ha hLa) (hdone b hb hLb) hE⟩) ((q.c : Int), ()) (numl q.idx) (numl q.low) (numl q.st) q.on n 0 (numl (List.replicate n 0)) [] (by omega) (by simp) ⟨fun j hj => absurd hj (Nat.not_lt_zero _), fun j hj => absurd hj (Nat.not_lt_zero _), fun j k hj => absurd hj (Nat.not_lt_zero _)⟩ rfl (fun j hj => absurd hj (Nat.not_lt_zero _)) (fun v _ => rfl)
  · refine Wp.posd (by omega) ?_
    refine (Wp.diag hloop).call fun y hy => ?_
    obtain ⟨out, m, rfl, h1, h2⟩ := hy
    simp only [h2]
    exact Wp.posd (by omega) (Wp.ret ⟨out, rfl, h1⟩)
  · have h1 := (hq.rep a (hdone a ha hLa)).2
    have h2 := (hq.rep b (hdone b hb hLb)).2
    rw [he] at h1
    exact h1.trans h2.symm
end
end Go.Proofs.Yteadlocehjfpoaa.G
