/- The components in which a fair execution can stay. -/
import Derived.Test.YteadlocehjfpoaaCompR
namespace Go.Fw
/-- bits, as a predicate on places -/
structure Srv (m : Nat) (sv : List Nat) (Q : Nat → Nat → Prop) : Prop where
  len : sv.length = m
  lt : ∀ c, sv.getD c 0 < 4294967296
  bit : ∀ c, c < m → ∀ b, b < 32 → ((sv.getD c 0).testBit b = true ↔ Q c b)
theorem Srv.zero (m : Nat) : Srv m (List.replicate m 0) (fun _ _ => False) := by
  have hz : ∀ x, (List.replicate m 0).getD x 0 = 0 := fun x => by rw [getD_rep]; split <;> rfl
  exact ⟨by simp, fun c => by rw [hz]; decide, fun c _ b _ => by rw [hz]; simp⟩
theorem Srv.or {m : Nat} {sv : List Nat} {Q : Nat → Nat → Prop} (h : Srv m sv Q) {c v : Nat} (hv : v < 4294967296) : Srv m (sv.set c (sv.getD c 0 ||| v)) (fun c' b => Q c' b ∨ (c' = c ∧ v.testBit b = true)) := by
  refine ⟨by simpa using h.len, fun c' => ?_, fun c' hc b hb => ?_⟩
  · rw [gset]
    split
    · exact Nat.or_lt_two_pow (n := 32) (h.lt c) hv
    · exact h.lt c'
  · rw [gset]
    by_cases hcc : c = c'
    · subst hcc
      rw [if_pos ⟨rfl, by rw [h.len]; exact hc⟩, Nat.testBit_or, Bool.or_eq_true, h.bit c hc b hb]
      simp
    · rw [if_neg (fun hh => hcc hh.1), h.bit c' hc b hb]
      simp [Ne.symm hcc]
theorem Srv.imp {m : Nat} {sv : List Nat} {Q Q' : Nat → Nat → Prop} (h : Srv m sv Q) (hq : ∀ c b, c < m → b < 32 → (Q c b ↔ Q' c b)) : Srv m sv Q' :=
  ⟨h.len, h.lt, fun c hc b hb => (h.bit c hc b hb).trans (hq c b hc hb)⟩
theorem all24 {v : Nat} (hv : v < 4294967296) : v &&& 16777215 = 16777215 ↔ ∀ b, b < 24 → v.testBit b = true := by
  rw [show (16777215 : Nat) = 2 ^ 24 - 1 from rfl]
  constructor
  · intro h b hb
    have := congrArg (fun x => x.testBit b) h
    simp only [Nat.testBit_and, Nat.testBit_two_pow_sub_one, hb, decide_true, Bool.and_true] at this
    exact this
  · intro h
    apply Nat.eq_of_testBit_eq
    intro b
    rw [Nat.testBit_and, Nat.testBit_two_pow_sub_one]
    by_cases hb : b < 24
    · rw [h b hb]; simp [hb]
    · simp [hb]
end Go.Fw
namespace Go.Proofs.Yteadlocehjfpoaa.G
open Go Go.Fw

section
variable {s : SpaceV} {n : Nat} {l : List Bool} {of : List Int}

/-- an arc inside of a component -/
def Inside (s : SpaceV) (of : List Int) (y j : Nat) : Prop := of.getD ((goals s y).getD j 0) 0 = of.getD y 0
/-- the first arcs of a state, as far as they serve a node -/
def Arc1 (s : SpaceV) (of : List Int) (y J b : Nat) : Prop := ∃ j, j < J ∧ Inside s of y j ∧ (aset (arcs s y) j).toNat.testBit b = true
def Free (s : SpaceV) (y b : Nat) : Prop := (s.1.getD y 0).toNat.testBit b = false
/-- the component c is served at b by the first x states -/
def ServedTo (s : SpaceV) (of : List Int) (x c b : Nat) : Prop := ∃ y, y < x ∧ of.getD y 0 = (c : Int) ∧ (Free s y b ∨ Arc1 s of y (arcs s y).length b)
def InsTo (s : SpaceV) (of : List Int) (x c : Nat) : Prop := ∃ y, y < x ∧ of.getD y 0 = (c : Int) ∧ ∃ j, j < (arcs s y).length ∧ Inside s of y j
/-- a fair execution can stay in a component -/
def KeptP (s : SpaceV) (n : Nat) (of : List Int) (c : Nat) : Prop := InsTo s of n c ∧ ∀ b, b < 24 → ServedTo s of n c b

/-- the numbers of a system's sets are plain -/
structure Plain (s : SpaceV) (n : Nat) : Prop where
  en : ∀ y, y < n → ∃ e : Nat, s.1.getD y 0 = (e : Int) ∧ e < 4294967296
  st : ∀ y j, j < (arcs s y).length → ∃ e : Nat, aset (arcs s y) j = (e : Int) ∧ e < 4294967296
theorem plain_of (hi : SpaceIn s) (hs : Sys s n) : Plain s n where
  en := fun y hy => nat_of_u32 (getD_ok hi.en (0 : Int) (by rw [hs.en]; exact hy))
  st := fun y j hj => by
    have hy : y < s.2.1.length := by
      rcases Nat.lt_or_ge y s.2.1.length with h | h
      · exact h
      · have : arcs s y = [] := getD_over h
        rw [this] at hj; simp at hj
    exact nat_of_u32 (getD_ok (arcs_ok hi hy) (0, (0, ())) hj).1

theorem neg_bit {e b : Nat} (hb : b < 32) : (4294967295 ^^^ e).testBit b = true ↔ e.testBit b = false := by
  rw [Nat.testBit_xor, show (4294967295 : Nat) = 2 ^ 32 - 1 from rfl, Nat.testBit_two_pow_sub_one]
  simp [hb]

theorem num_range (h : Num n (SetOf l) (Eq' s l) of) {y : Nat} (hy : y < n) (hL : ¬ SetOf l y) : ∃ c : Nat, of.getD y 0 = (c : Int) ∧ c < cntC (SetOf l) (Eq' s l) n := by
  obtain ⟨c, h1, h2⟩ := h.range (eq_refl s l) (eq_trans s l) hy hL
  exact ⟨c, h1, Nat.lt_of_lt_of_le h2 (cntC_mono _ _ hy)⟩

/-! ### The program -/
theorem kept_in (hs : Sys s n) (hp : Plain s n) (hof : of.length = n) {m : Nat} {x c : Nat} (hx : x < n) (hc : of.getD x 0 = (c : Int)) (hcm : c < m) {Q : Nat → Nat → Prop} {I : Nat → Prop} : ∀ d i (fl : List Bool) (sv : List Nat), i + d = (arcs s x).length →
    Srv m sv (fun c' b => Q c' b ∨ (c' = c ∧ Arc1 s of x i b)) → fl.length = m → (∀ c', fl.getD c' false = true ↔ I c' ∨ (c' = c ∧ ∃ j, j < i ∧ Inside s of x j)) →
    Wp (fun K k => fairness_kept_59806 K k of (x : Int) (arcs s x) ((arcs s x).length : Int) (i : Int) fl (numl sv)) (fun y => ∃ (fl' : List Bool) (sv' : List Nat), y = ((), (fl', (numl sv', ()))) ∧
      Srv m sv' (fun c' b => Q c' b ∨ (c' = c ∧ Arc1 s of x (arcs s x).length b)) ∧ fl'.length = m ∧ (∀ c', fl'.getD c' false = true ↔ I c' ∨ (c' = c ∧ ∃ j, j < (arcs s x).length ∧ Inside s of x j))) := by
  have htot := total_ge (s := s) hx
  have htt := hs.tot
  intro d
  induction d with
  | zero =>
    intro i fl sv h1 h2 h3 h4
    refine Wp.step ?_
    simp only [fairness_kept_59806]
    have h5 : i = (arcs s x).length := by omega
    rw [h5] at h2 h4
    exact Wp.negd (by omega) (Wp.ret ⟨fl, sv, rfl, h2, h3, h4⟩)
  | succ d ih =>
    intro i fl sv h1 h2 h3 h4
    have hil : i < (arcs s x).length := by omega
    have hg := goals_at hs hil
    obtain ⟨v, hv1, hv2⟩ := hp.st x i hil
    have hsl := h2.len
    refine Wp.step ?_
    simp only [fairness_kept_59806, wrapS i (by omega), Int.toNat_natCast, ato_def, aset_def, hs.at' x i hil, hc, hv1, numl_getD, numl_length]
    refine Wp.posd (by omega) (Wp.posd (by omega) (Wp.posd (by omega) (Wp.posd (by omega) ?_)))
    refine Wp.ited (fun he => ?_) (fun he => ?_)
    · have hin : Inside s of x i := he.trans hc.symm
      have hor : ior .u32 ((sv.getD c 0 : Nat) : Int) (v : Int) = ((sv.getD c 0 ||| v : Nat) : Int) := ior_nat (h2.lt c) hv2
      simp only [hor, numl_set]
      refine Wp.posd (by omega) (Wp.posd (by omega) (Wp.posd (by omega) (Wp.posd (by omega) (Wp.posd (by omega) ?_))))
      refine ih (i + 1) _ _ (by omega) ((h2.or hv2).imp fun c' b _ _ => ?_) (by simpa using h3) (fun c' => ?_)
      · constructor
        · rintro ((h5 | ⟨h5, j, h6, h7, h8⟩) | ⟨h5, h6⟩)
          · exact .inl h5
          · exact .inr ⟨h5, j, by omega, h7, h8⟩
          · exact .inr ⟨h5, i, by omega, hin, by rw [hv1]; exact h6⟩
        · rintro (h5 | ⟨h5, j, h6, h7, h8⟩)
          · exact .inl (.inl h5)
          · rcases Nat.lt_or_ge j i with h9 | h9
            · exact .inl (.inr ⟨h5, j, h9, h7, h8⟩)
            · rw [show j = i by omega, hv1] at h8
              exact .inr ⟨h5, h8⟩
      · rw [gset]
        by_cases hcc : c = c'
        · rw [if_pos ⟨hcc, by omega⟩]
          exact ⟨fun _ => .inr ⟨hcc.symm, i, by omega, hin⟩, fun _ => rfl⟩
        · rw [if_neg (fun hh => hcc hh.1), h4]
          exact ⟨fun h => h.imp (fun h => h) (fun ⟨h5, _⟩ => absurd h5.symm hcc), fun h => h.imp (fun h => h) (fun ⟨h5, _⟩ => absurd h5.symm hcc)⟩
    · have hin : ¬ Inside s of x i := fun h => he (h.trans hc)
      refine ih (i + 1) fl sv (by omega) (h2.imp fun c' b _ _ => ?_) h3 (fun c' => ?_)
      · constructor
        · rintro (h5 | ⟨h5, j, h6, h7, h8⟩)
          · exact .inl h5
          · exact .inr ⟨h5, j, by omega, h7, h8⟩
        · rintro (h5 | ⟨h5, j, h6, h7, h8⟩)
          · exact .inl h5
          · refine .inr ⟨h5, j, ?_, h7, h8⟩
            rcases Nat.lt_or_ge j i with h9 | h9
            · exact h9
            · exact absurd (by rw [← show j = i by omega]; exact h7) hin
      · rw [h4]
        constructor
        · rintro (h5 | ⟨h5, j, h6, h7⟩)
          · exact .inl h5
          · exact .inr ⟨h5, j, by omega, h7⟩
        · rintro (h5 | ⟨h5, j, h6, h7⟩)
          · exact .inl h5
          · refine .inr ⟨h5, j, ?_, h7⟩
            rcases Nat.lt_or_ge j i with h9 | h9
            · exact h9
            · exact absurd (by rw [← show j = i by omega]; exact h7) hin

theorem served_next {x c : Nat} (hc : of.getD x 0 = (c : Int)) (c' b : Nat) : ((ServedTo s of x c' b ∨ (c' = c ∧ Free s x b)) ∨ (c' = c ∧ Arc1 s of x (arcs s x).length b)) ↔ ServedTo s of (x + 1) c' b := by
  constructor
  · rintro ((⟨y, h1, h2, h3⟩ | ⟨h1, h2⟩) | ⟨h1, h2⟩)
    · exact ⟨y, by omega, h2, h3⟩
    · exact ⟨x, by omega, by rw [h1]; exact hc, .inl h2⟩
    · exact ⟨x, by omega, by rw [h1]; exact hc, .inr h2⟩
  · rintro ⟨y, h1, h2, h3⟩
    rcases Nat.lt_or_ge y x with h4 | h4
    · exact .inl (.inl ⟨y, h4, h2, h3⟩)
    · have h5 : y = x := by omega
      rw [h5] at h2 h3
      have h6 : c' = c := by omega
      rcases h3 with h3 | h3
      · exact .inl (.inr ⟨h6, h3⟩)
      · exact .inr ⟨h6, h3⟩
theorem ins_next {x c : Nat} (hc : of.getD x 0 = (c : Int)) (c' : Nat) : (InsTo s of x c' ∨ (c' = c ∧ ∃ j, j < (arcs s x).length ∧ Inside s of x j)) ↔ InsTo s of (x + 1) c' := by
  constructor
  · rintro (⟨y, h1, h2, h3⟩ | ⟨h1, h2⟩)
    · exact ⟨y, by omega, h2, h3⟩
    · exact ⟨x, by omega, by rw [h1]; exact hc, h2⟩
  · rintro ⟨y, h1, h2, h3⟩
    rcases Nat.lt_or_ge y x with h4 | h4
    · exact .inl ⟨y, h4, h2, h3⟩
    · have h5 : y = x := by omega
      rw [h5] at h2 h3
      exact .inr ⟨by omega, h3⟩
theorem served_skip {x : Nat} (hc : of.getD x 0 < 0) (c b : Nat) : ServedTo s of x c b ↔ ServedTo s of (x + 1) c b := by
  constructor
  · rintro ⟨y, h1, h2⟩; exact ⟨y, by omega, h2⟩
  · rintro ⟨y, h1, h2, h3⟩
    refine ⟨y, ?_, h2, h3⟩
    rcases Nat.lt_or_ge y x with h4 | h4
    · exact h4
    · rw [show y = x by omega] at h2; omega
theorem ins_skip {x : Nat} (hc : of.getD x 0 < 0) (c : Nat) : InsTo s of x c ↔ InsTo s of (x + 1) c := by
  constructor
  · rintro ⟨y, h1, h2⟩; exact ⟨y, by omega, h2⟩
  · rintro ⟨y, h1, h2, h3⟩
    refine ⟨y, ?_, h2, h3⟩
    rcases Nat.lt_or_ge y x with h4 | h4
    · exact h4
    · rw [show y = x by omega] at h2; omega

/-- what is asked of numbers here: below 0, or a component -/
def OfOk (n m : Nat) (of : List Int) : Prop := of.length = n ∧ ∀ y, y < n → of.getD y 0 < 0 ∨ ∃ c : Nat, of.getD y 0 = (c : Int) ∧ c < m
theorem ofOk_of (h : Num n (SetOf l) (Eq' s l) of) : OfOk n (cntC (SetOf l) (Eq' s l) n) of :=
  ⟨h.len, fun y hy => by
    by_cases hL : SetOf l y
    · left; rw [h.leg y hy hL]; decide
    · exact .inr (num_range h hy hL)⟩

theorem kept_out (hs : Sys s n) (hp : Plain s n) {m : Nat} (hof : OfOk n m of) : ∀ d x (fl : List Bool) (sv : List Nat), x + d = n → Srv m sv (ServedTo s of x) → fl.length = m → (∀ c, fl.getD c false = true ↔ InsTo s of x c) →
    Wp (fun K k => fairness_kept_58 K k of s.2.1 (n : Int) (x : Int) s fl (numl sv)) (fun y => ∃ (fl' : List Bool) (sv' : List Nat), y = ((), (fl', (numl sv', ()))) ∧ Srv m sv' (ServedTo s of n) ∧ fl'.length = m ∧ ∀ c, fl'.getD c false = true ↔ InsTo s of n c) := by
  have hle := hs.le
  have har := hs.ar
  have hen := hs.en
  obtain ⟨hofl, hofr⟩ := hof
  intro d
  induction d with
  | zero =>
    intro x fl sv h1 h2 h3 h4
    refine Wp.step ?_
    simp only [fairness_kept_58]
    have h5 : x = n := by omega
    rw [h5] at h2 h4
    exact Wp.negd (by omega) (Wp.ret ⟨fl, sv, rfl, h2, h3, h4⟩)
  | succ d ih =>
    intro x fl sv h1 h2 h3 h4
    have hx : x < n := by omega
    have hsl := h2.len
    refine Wp.step ?_
    simp only [fairness_kept_58, wrapS x (by omega), Int.toNat_natCast, arcs_def]
    refine Wp.posd (by omega) (Wp.posd (by omega) (Wp.posd (by omega) ?_))
    rcases hofr x hx with hneg | ⟨c, hc, hcm⟩
    · exact Wp.posd hneg (ih (x + 1) fl sv (by omega) (h2.imp fun c b _ _ => served_skip hneg c b) h3 (fun c => (h4 c).trans (ins_skip hneg c)))
    · obtain ⟨e, he1, he2⟩ := hp.en x hx
      have hxor : ixor .u32 4294967295 (e : Int) = ((4294967295 ^^^ e : Nat) : Int) := ixor_nat (a := 4294967295) (by decide) he2
      have hxlt : 4294967295 ^^^ e < 4294967296 := Nat.xor_lt_two_pow (n := 32) (by decide) he2
      have hor : ior .u32 ((sv.getD c 0 : Nat) : Int) ((4294967295 ^^^ e : Nat) : Int) = ((sv.getD c 0 ||| (4294967295 ^^^ e) : Nat) : Int) := ior_nat (h2.lt c) hxlt
      simp only [hc, Int.toNat_natCast, he1, hxor, numl_getD, numl_length, hor, numl_set]
      refine Wp.negd (by omega) (Wp.posd (by omega) (Wp.posd (by omega) (Wp.posd (by omega) (Wp.posd (by omega) ?_))))
      have hin := kept_in hs hp hofl hx hc hcm (Q := fun c' b => ServedTo s of x c' b ∨ (c' = c ∧ Free s x b)) (I := InsTo s of x) (arcs s x).length 0 fl _ (by omega) ((h2.or (c := c) hxlt).imp fun c' b _ hb => ?_) h3 (fun c' => ?_)
      · refine (Wp.diag hin).call fun y hy => ?_
        obtain ⟨fl', sv', rfl, h5, h6, h7⟩ := hy
        exact ih (x + 1) fl' sv' (by omega) (h5.imp fun c' b _ _ => served_next hc c' b) h6 (fun c' => (h7 c').trans (ins_next hc c'))
      · have hfree : (4294967295 ^^^ e).testBit b = true ↔ Free s x b := by
          rw [neg_bit hb, Free, he1, Int.toNat_natCast]
        rw [hfree]
        constructor
        · exact .inl
        · rintro (h5 | ⟨_, j, h6, _⟩)
          · exact h5
          · exact absurd h6 (Nat.not_lt_zero _)
      · rw [h4]
        constructor
        · exact .inl
        · rintro (h5 | ⟨_, j, h6, _⟩)
          · exact h5
          · exact absurd h6 (Nat.not_lt_zero _)

theorem served_all {m : Nat} {sv : List Nat} (h : Srv m sv (ServedTo s of n)) {c : Nat} (hc : c < m) : iand .u32 ((sv.getD c 0 : Nat) : Int) 16777215 = 16777215 ↔ ∀ b, b < 24 → ServedTo s of n c b := by
  have hand : iand .u32 ((sv.getD c 0 : Nat) : Int) 16777215 = ((sv.getD c 0 &&& 16777215 : Nat) : Int) := iand_nat (b := 16777215) (h.lt c) (by decide)
  rw [hand]
  have := all24 (h.lt c)
  rw [show ((16777215 : Int)) = ((16777215 : Nat) : Int) from rfl, Int.natCast_inj, this]
  exact ⟨fun h1 b hb => (h.bit c hc b (by omega)).1 (h1 b hb), fun h1 b hb => (h.bit c hc b (by omega)).2 (h1 b hb)⟩

theorem kept_end {m : Nat} (hm : m ≤ 32768) {sv : List Nat} (hsv : Srv m sv (ServedTo s of n)) (f0 : List Bool) (hf0 : ∀ c, f0.getD c false = true ↔ InsTo s of n c) : ∀ d x (fl : List Bool), x + d = m → fl.length = m → (∀ c, x ≤ c → fl.getD c false = f0.getD c false) → (∀ c, c < x → (fl.getD c false = true ↔ KeptP s n of c)) →
    Wp (fun K k => fairness_kept_122 K k (numl sv) (m : Int) (x : Int) fl) (fun y => ∃ fl' : List Bool, y = ((), (fl', ())) ∧ Tells m fl' (KeptP s n of)) := by
  have hsl := hsv.len
  intro d
  induction d with
  | zero =>
    intro x fl h1 h2 h3 h4
    refine Wp.step ?_
    simp only [fairness_kept_122]
    exact Wp.negd (by omega) (Wp.ret ⟨fl, rfl, h2, fun j hj => h4 j (by omega)⟩)
  | succ d ih =>
    intro x fl h1 h2 h3 h4
    have hx : x < m := by omega
    have hset : ∀ v c, (fl.set x v).getD c false = if x = c then v else fl.getD c false := fun v c => by
      rw [gset]
      by_cases hij : x = c
      · rw [if_pos ⟨hij, by omega⟩, if_pos hij]
      · rw [if_neg (fun hh => hij hh.1), if_neg hij]
    have next : ∀ v : Bool, (v = true ↔ KeptP s n of x) → Wp (fun K k => fairness_kept_122 K k (numl sv) (m : Int) ((x + 1 : Nat) : Int) (fl.set x v)) (fun y => ∃ fl' : List Bool, y = ((), (fl', ())) ∧ Tells m fl' (KeptP s n of)) := fun v hv =>
      ih (x + 1) _ (by omega) (by simpa using h2) (fun c hc => by rw [hset, if_neg (by omega)]; exact h3 c (by omega)) (fun c hc => by
        rw [hset]
        split
        · rename_i h; rw [← h]; exact hv
        · exact h4 c (by omega))
    refine Wp.step ?_
    simp only [fairness_kept_122, wrapS x (by omega), Int.toNat_natCast, numl_getD, numl_length]
    refine Wp.posd (by omega) (Wp.posd (by omega) ?_)
    have hI : fl.getD x false = true ↔ InsTo s of n x := by rw [h3 x (Nat.le_refl _)]; exact hf0 x
    refine Wp.iteb (fun hb => ?_) (fun hb => ?_)
    · refine Wp.posd (by omega) (Wp.posd (by omega) (next _ ?_))
      rw [decide_eq_true_eq, served_all hsv hx]
      exact ⟨fun h => ⟨hI.1 hb, h⟩, fun h => h.2⟩
    · refine Wp.posd (by omega) (next false ?_)
      simp only [Bool.false_eq_true, false_iff]
      exact fun h => by rw [hI.2 h.1] at hb; simp at hb

theorem fairness_kept_ok (hs : Sys s n) (hp : Plain s n) {m : Nat} (hm : m ≤ 32768) (hof : OfOk n m of) : Wp (fun K _ => fairness_kept K s of (m : Int)) (fun y => ∃ out, y = (((), ()), (out, ())) ∧ Tells m out (KeptP s n of)) := by
  have hrep : List.replicate m (0 : Int) = numl (List.replicate m 0) := by simp [numl]
  simp only [fairness_kept, hs.ar, Int.toNat_natCast, hrep]
  refine Wp.posd (by omega) (Wp.posd (by omega) ?_)
  have hz : Srv m (List.replicate m 0) (ServedTo s of 0) := (Srv.zero m).imp fun c b _ _ => ⟨fun h => h.elim, fun ⟨y, h, _⟩ => absurd h (Nat.not_lt_zero _)⟩
  have hout := kept_out hs hp hof n 0 (List.replicate m false) _ (by omega) hz (by simp) (fun c => by
    rw [getD_rep]
    constructor
    · intro h; split at h <;> simp at h
    · rintro ⟨y, h, _⟩; exact absurd h (Nat.not_lt_zero _))
  refine (Wp.diag hout).call fun y hy => ?_
  obtain ⟨fl, sv, rfl, h1, h2, h3⟩ := hy
  simp only [h2]
  refine (Wp.diag (kept_end hm h1 fl h3 m 0 fl (by omega) h2 (fun c _ => rfl) (fun c hc => absurd hc (Nat.not_lt_zero _)))).call fun y hy => ?_
  obtain ⟨fl', rfl, h4⟩ := hy
  exact Wp.ret ⟨fl', rfl, h4⟩

/-! ### The reference -/
theorem max_loop (hn : n ≤ 32768) (hof : Num n (SetOf l) (Eq' s l) of) : ∀ d x, x + d = n →
    Wp (fun K k => ref21_all_58 K k of (cntC (SetOf l) (Eq' s l) x : Int) (x : Int)) (fun y => y = (((cntC (SetOf l) (Eq' s l) n : Int), ()), ())) := by
  have hlen := hof.len
  intro d
  induction d with
  | zero =>
    intro x h1
    refine Wp.step ?_
    simp only [ref21_all_58]
    refine Wp.negd (by omega) (Wp.ret ?_)
    rw [show x = n by omega]
  | succ d ih =>
    intro x h1
    have hx : x < n := by omega
    have hcl := cntC_le (SetOf l) (Eq' s l) x
    have hcl1 := cntC_le (SetOf l) (Eq' s l) (x + 1)
    refine Wp.step ?_
    simp only [ref21_all_58, wrapS x (by omega), Int.toNat_natCast]
    refine Wp.posd (by omega) (Wp.posd (by omega) ?_)
    have hv : (if IntKind.i64.wrap (of.getD x 0 + 1) > (cntC (SetOf l) (Eq' s l) x : Int) then IntKind.i64.wrap (of.getD x 0 + 1) else (cntC (SetOf l) (Eq' s l) x : Int)) = (cntC (SetOf l) (Eq' s l) (x + 1) : Int) := by
      by_cases hL : SetOf l x
      · rw [hof.leg x hx hL, wrapI (by omega) (by omega)]
        have hc : cntC (SetOf l) (Eq' s l) (x + 1) = cntC (SetOf l) (Eq' s l) x := by simp only [cntC]; rw [if_neg (fun hh => hh.1 hL)]; rfl
        rw [if_neg (by omega), hc]
      · obtain ⟨j, h2, h3, h4, h5⟩ := least_ex (eq_refl s l) (eq_trans s l) x hL
        have hj : of.getD x 0 = (cntC (SetOf l) (Eq' s l) j : Int) := by rw [← hof.old j x (by omega) hx h3 hL h4, hof.new j (by omega) h3 h5]
        have hcj := cntC_le (SetOf l) (Eq' s l) j
        rw [hj, wrapS _ (by omega)]
        rcases Nat.eq_or_lt_of_le h2 with h6 | h6
        · have hc : cntC (SetOf l) (Eq' s l) (x + 1) = cntC (SetOf l) (Eq' s l) x + 1 := by simp only [cntC]; rw [if_pos ⟨hL, by rw [← h6]; exact h5⟩]
          rw [hc, h6, if_pos (by omega)]
        · have hc : cntC (SetOf l) (Eq' s l) (x + 1) = cntC (SetOf l) (Eq' s l) x := by simp only [cntC]; rw [if_neg (fun hh => hh.2 j h6 h3 h4)]; rfl
          have h7 := cntC_mono (SetOf l) (Eq' s l) (show j + 1 ≤ x from h6)
          have h8 : cntC (SetOf l) (Eq' s l) (j + 1) = cntC (SetOf l) (Eq' s l) j + 1 := by simp only [cntC]; rw [if_pos ⟨h3, h5⟩]
          rw [hc, if_neg (by omega)]
    simp only [hv]
    exact ih (x + 1) (by omega)

theorem rkept_in (hs : Sys s n) (hp : Plain s n) (hof : of.length = n) {m : Nat} {x c : Nat} (hx : x < n) (hc : of.getD x 0 = (c : Int)) (hcm : c < m) {Q : Nat → Nat → Prop} {I : Nat → Prop} : ∀ d i (fl : List Nat) (sv : List Nat), i + d = (arcs s x).length →
    Srv m sv (fun c' b => Q c' b ∨ (c' = c ∧ Arc1 s of x i b)) → fl.length = m → (∀ c', 0 < fl.getD c' 0 ↔ I c' ∨ (c' = c ∧ ∃ j, j < i ∧ Inside s of x j)) → (∀ c', fl.getD c' 0 ≤ total s x + i) →
    Wp (fun K k => ref21_all_64078 K k of (x : Int) (i : Int) s (numl fl) (numl sv)) (fun y => ∃ (fl' : List Nat) (sv' : List Nat), y = ((), (s, (numl fl', (numl sv', ())))) ∧
      Srv m sv' (fun c' b => Q c' b ∨ (c' = c ∧ Arc1 s of x (arcs s x).length b)) ∧ fl'.length = m ∧ (∀ c', 0 < fl'.getD c' 0 ↔ I c' ∨ (c' = c ∧ ∃ j, j < (arcs s x).length ∧ Inside s of x j)) ∧ ∀ c', fl'.getD c' 0 ≤ total s (x + 1)) := by
  have htot := total_ge (s := s) hx
  have htt := hs.tot
  have har := hs.ar
  intro d
  induction d with
  | zero =>
    intro i fl sv h1 h2 h3 h4 h6
    refine Wp.step ?_
    simp only [ref21_all_64078, Int.toNat_natCast, arcs_def]
    have h5 : i = (arcs s x).length := by omega
    rw [h5] at h2 h4 h6
    exact Wp.posd (by omega) (Wp.negd (by omega) (Wp.ret ⟨fl, sv, rfl, h2, h3, h4, fun c' => h6 c'⟩))
  | succ d ih =>
    intro i fl sv h1 h2 h3 h4 hb4
    have hil : i < (arcs s x).length := by omega
    have hg := goals_at hs hil
    obtain ⟨v, hv1, hv2⟩ := hp.st x i hil
    have hsl := h2.len
    have hbc := hb4 c
    refine Wp.step ?_
    simp only [ref21_all_64078, wrapS i (by omega), Int.toNat_natCast, arcs_def, ato_def, aset_def, hs.at' x i hil, hc, hv1, numl_getD, numl_length]
    refine Wp.posd (by omega) (Wp.posd (by omega) (Wp.posd (by omega) (Wp.posd (by omega) (Wp.posd (by omega) (Wp.posd (by omega) ?_)))))
    refine Wp.ited (fun he => ?_) (fun he => ?_)
    · have hin : Inside s of x i := he.trans hc.symm
      have hor : ior .u32 ((sv.getD c 0 : Nat) : Int) (v : Int) = ((sv.getD c 0 ||| v : Nat) : Int) := ior_nat (h2.lt c) hv2
      simp only [hor, numl_set, wrapS (fl.getD c 0) (by omega)]
      refine Wp.posd (by omega) (Wp.posd (by omega) (Wp.posd (by omega) (Wp.posd (by omega) (Wp.posd (by omega) (Wp.posd (by omega) (Wp.posd (by omega) (Wp.posd (by omega) ?_)))))))
      refine ih (i + 1) _ _ (by omega) ((h2.or hv2).imp fun c' b _ _ => ?_) (by simpa using h3) (fun c' => ?_) (fun c' => ?_)
      · constructor
        · rintro ((h5 | ⟨h5, j, h6, h7, h8⟩) | ⟨h5, h6⟩)
          · exact .inl h5
          · exact .inr ⟨h5, j, by omega, h7, h8⟩
          · exact .inr ⟨h5, i, by omega, hin, by rw [hv1]; exact h6⟩
        · rintro (h5 | ⟨h5, j, h6, h7, h8⟩)
          · exact .inl (.inl h5)
          · rcases Nat.lt_or_ge j i with h9 | h9
            · exact .inl (.inr ⟨h5, j, h9, h7, h8⟩)
            · rw [show j = i by omega, hv1] at h8
              exact .inr ⟨h5, h8⟩
      · rw [gset]
        by_cases hcc : c = c'
        · rw [if_pos ⟨hcc, by omega⟩]
          exact ⟨fun _ => .inr ⟨hcc.symm, i, by omega, hin⟩, fun _ => Nat.succ_pos _⟩
        · rw [if_neg (fun hh => hcc hh.1), h4]
          exact ⟨fun h => h.imp (fun h => h) (fun ⟨h5, _⟩ => absurd h5.symm hcc), fun h => h.imp (fun h => h) (fun ⟨h5, _⟩ => absurd h5.symm hcc)⟩
      · rw [gset]
        split
        · omega
        · have := hb4 c'; omega
    · have hin : ¬ Inside s of x i := fun h => he (h.trans hc)
      refine ih (i + 1) fl sv (by omega) (h2.imp fun c' b _ _ => ?_) h3 (fun c' => ?_) (fun c' => by have := hb4 c'; omega)
      · constructor
        · rintro (h5 | ⟨h5, j, h6, h7, h8⟩)
          · exact .inl h5
          · exact .inr ⟨h5, j, by omega, h7, h8⟩
        · rintro (h5 | ⟨h5, j, h6, h7, h8⟩)
          · exact .inl h5
          · refine .inr ⟨h5, j, ?_, h7, h8⟩
            rcases Nat.lt_or_ge j i with h9 | h9
            · exact h9
            · exact absurd (by rw [← show j = i by omega]; exact h7) hin
      · rw [h4]
        constructor
        · rintro (h5 | ⟨h5, j, h6, h7⟩)
          · exact .inl h5
          · exact .inr ⟨h5, j, by omega, h7⟩
        · rintro (h5 | ⟨h5, j, h6, h7⟩)
          · exact .inl h5
          · refine .inr ⟨h5, j, ?_, h7⟩
            rcases Nat.lt_or_ge j i with h9 | h9
            · exact h9
            · exact absurd (by rw [← show j = i by omega]; exact h7) hin

theorem rkept_out (hs : Sys s n) (hp : Plain s n) {m : Nat} (hof : OfOk n m of) : ∀ d x (fl : List Nat) (sv : List Nat), x + d = n → Srv m sv (ServedTo s of x) → fl.length = m → (∀ c, 0 < fl.getD c 0 ↔ InsTo s of x c) → (∀ c, fl.getD c 0 ≤ total s x) →
    Wp (fun K k => ref21_all_250 K k of (x : Int) s (numl fl) (numl sv)) (fun y => ∃ (fl' : List Nat) (sv' : List Nat), y = ((), (numl fl', (numl sv', ()))) ∧ Srv m sv' (ServedTo s of n) ∧ fl'.length = m ∧ ∀ c, 0 < fl'.getD c 0 ↔ InsTo s of n c) := by
  have hle := hs.le
  have har := hs.ar
  have hen := hs.en
  obtain ⟨hofl, hofr⟩ := hof
  intro d
  induction d with
  | zero =>
    intro x fl sv h1 h2 h3 h4 _
    refine Wp.step ?_
    simp only [ref21_all_250]
    have h5 : x = n := by omega
    rw [h5] at h2 h4
    exact Wp.negd (by omega) (Wp.ret ⟨fl, sv, rfl, h2, h3, h4⟩)
  | succ d ih =>
    intro x fl sv h1 h2 h3 h4 hb4
    have hx : x < n := by omega
    have hsl := h2.len
    refine Wp.step ?_
    simp only [ref21_all_250, wrapS x (by omega), Int.toNat_natCast]
    refine Wp.posd (by omega) (Wp.posd (by omega) ?_)
    rcases hofr x hx with hneg | ⟨c, hc, hcm⟩
    · exact Wp.posd hneg (ih (x + 1) fl sv (by omega) (h2.imp fun c b _ _ => served_skip hneg c b) h3 (fun c => (h4 c).trans (ins_skip hneg c)) (fun c => Nat.le_trans (hb4 c) (total_mono s (Nat.le_succ x))))
    · obtain ⟨e, he1, he2⟩ := hp.en x hx
      have hxor : ixor .u32 4294967295 (e : Int) = ((4294967295 ^^^ e : Nat) : Int) := ixor_nat (a := 4294967295) (by decide) he2
      have hxlt : 4294967295 ^^^ e < 4294967296 := Nat.xor_lt_two_pow (n := 32) (by decide) he2
      have hor : ior .u32 ((sv.getD c 0 : Nat) : Int) ((4294967295 ^^^ e : Nat) : Int) = ((sv.getD c 0 ||| (4294967295 ^^^ e) : Nat) : Int) := ior_nat (h2.lt c) hxlt
      simp only [hc, Int.toNat_natCast, he1, hxor, numl_getD, numl_length, hor, numl_set]
      refine Wp.negd (by omega) (Wp.posd (by omega) (Wp.posd (by omega) (Wp.posd (by omega) (Wp.posd (by omega) ?_))))
      have hin := rkept_in hs hp hofl hx hc hcm (Q := fun c' b => ServedTo s of x c' b ∨ (c' = c ∧ Free s x b)) (I := InsTo s of x) (arcs s x).length 0 fl _ (by omega) ((h2.or (c := c) hxlt).imp fun c' b _ hb => ?_) h3 (fun c' => ?_) (fun c' => by have := hb4 c'; omega)
      · refine (Wp.diag hin).call fun y hy => ?_
        obtain ⟨fl', sv', rfl, h5, h6, h7, h8⟩ := hy
        exact ih (x + 1) fl' sv' (by omega) (h5.imp fun c' b _ _ => served_next hc c' b) h6 (fun c' => (h7 c').trans (ins_next hc c')) h8
      · have hfree : (4294967295 ^^^ e).testBit b = true ↔ Free s x b := by
          rw [neg_bit hb, Free, he1, Int.toNat_natCast]
        rw [hfree]
        constructor
        · exact .inl
        · rintro (h5 | ⟨_, j, h6, _⟩)
          · exact h5
          · exact absurd h6 (Nat.not_lt_zero _)
      · rw [h4]
        constructor
        · exact .inl
        · rintro (h5 | ⟨_, j, h6, _⟩)
          · exact h5
          · exact absurd h6 (Nat.not_lt_zero _)

theorem rkept_end {m : Nat} (hm : m ≤ 32768) {fl sv : List Nat} (hsv : Srv m sv (ServedTo s of n)) (hfl : fl.length = m) (hf : ∀ c, 0 < fl.getD c 0 ↔ InsTo s of n c) : ∀ d x (out : List Bool), x + d = m → out.length = x → (∀ c, c < x → (out.getD c false = true ↔ KeptP s n of c)) →
    Wp (fun K k => ref21_all_1018 K k (m : Int) (numl fl) (numl sv) (x : Int) out) (fun y => ∃ out' : List Bool, y = (((), ()), (out', ())) ∧ Tells m out' (KeptP s n of)) := by
  have hsl := hsv.len
  intro d
  induction d with
  | zero =>
    intro x out h1 h2 h3
    refine Wp.step ?_
    simp only [ref21_all_1018]
    exact Wp.negd (by omega) (Wp.ret ⟨out, rfl, by omega, fun j hj => h3 j (by omega)⟩)
  | succ d ih =>
    intro x out h1 h2 h3
    have hx : x < m := by omega
    have next : ∀ v : Bool, (v = true ↔ KeptP s n of x) → Wp (fun K k => ref21_all_1018 K k (m : Int) (numl fl) (numl sv) ((x + 1 : Nat) : Int) (out ++ [v])) (fun y => ∃ out' : List Bool, y = (((), ()), (out', ())) ∧ Tells m out' (KeptP s n of)) := fun v hv =>
      ih (x + 1) _ (by omega) (by rw [List.length_append, List.length_singleton]; omega) (fun c hc => by
        rcases Nat.lt_or_ge c x with h4 | h4
        · rw [getD_app1 (by omega)]; exact h3 c h4
        · have h5 : c = x := by omega
          rw [h5, getD_app2 (by omega), h2, Nat.sub_self]; exact hv)
    refine Wp.step ?_
    simp only [ref21_all_1018, wrapS x (by omega), Int.toNat_natCast, numl_getD, numl_length, List.length_singleton]
    refine Wp.posd (by omega) (Wp.posd (by omega) ?_)
    refine Wp.ited (fun hb => ?_) (fun hb => ?_)
    · refine Wp.posd (by omega) (Wp.callE All24 (Wp.callE All24 (Wp.posd (by omega) (next _ ?_))))
      rw [decide_eq_true_eq]
      refine (served_all hsv hx).trans ⟨fun h => ⟨(hf x).1 (by omega), h⟩, fun h => h.2⟩
    · refine Wp.posd (by omega) (next false ?_)
      simp only [Bool.false_eq_true, false_iff]
      exact fun h => hb (by have := (hf x).2 h.1; omega)

theorem ref21_all_ok (hs : Sys s n) (hp : Plain s n) (hof : Num n (SetOf l) (Eq' s l) of) : Wp (fun K _ => ref21_all K s of) (fun y => ∃ out, y = (((), ()), (out, ())) ∧ Tells (cntC (SetOf l) (Eq' s l) n) out (KeptP s n of)) := by
  have hle := hs.le
  have hcl := cntC_le (SetOf l) (Eq' s l) n
  have hmax := max_loop hle hof n 0 (by omega)
  simp only [ref21_all]
  refine Wp.callE (Wp.diag hmax) ?_
  have hrep : List.replicate (cntC (SetOf l) (Eq' s l) n) (0 : Int) = numl (List.replicate (cntC (SetOf l) (Eq' s l) n) 0) := by simp [numl]
  simp only [Int.toNat_natCast, hrep]
  refine Wp.posd (by omega) (Wp.posd (by omega) ?_)
  have hz : Srv (cntC (SetOf l) (Eq' s l) n) (List.replicate (cntC (SetOf l) (Eq' s l) n) 0) (ServedTo s of 0) := (Srv.zero _).imp fun c b _ _ => ⟨fun h => h.elim, fun ⟨y, h, _⟩ => absurd h (Nat.not_lt_zero _)⟩
  have hz2 : ∀ x, (List.replicate (cntC (SetOf l) (Eq' s l) n) 0).getD x 0 = 0 := fun x => by rw [getD_rep]; split <;> rfl
  have hout := rkept_out hs hp (ofOk_of hof) n 0 (List.replicate (cntC (SetOf l) (Eq' s l) n) 0) _ (by omega) hz (by simp) (fun c => by
    rw [hz2]
    constructor
    · intro h; exact absurd h (Nat.not_lt_zero _)
    · rintro ⟨y, h, _⟩; exact absurd h (Nat.not_lt_zero _)) (fun c => by rw [hz2]; exact Nat.zero_le _)
  refine (Wp.diag hout).call fun y hy => ?_
  obtain ⟨fl, sv, rfl, h1, h2, h3⟩ := hy
  refine (Wp.diag (rkept_end (by omega) h1 h2 h3 _ 0 [] (Nat.zero_add _) rfl (fun c hc => absurd hc (Nat.not_lt_zero _)))).call fun y hy => ?_
  obtain ⟨out, rfl, h4⟩ := hy
  exact Wp.ret ⟨out, rfl, h4⟩
end
end Go.Proofs.Yteadlocehjfpoaa.G
