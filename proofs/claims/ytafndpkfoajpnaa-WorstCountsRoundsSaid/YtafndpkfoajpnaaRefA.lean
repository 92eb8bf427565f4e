/- The reference's core, by rounds, is the complement of the attractor. -/
import Derived.Test.YtafndpkfoajpnaaSysA
namespace Go.Fw
theorem holes_unset {l : List Bool} {i : Nat} (hi : i < l.length) (h : l.getD i false = true) : holes (l.set i false) = holes l + 1 := by
  unfold holes
  induction l generalizing i with
  | nil => simp at hi
  | cons a l ih =>
    cases i with
    | zero =>
      simp only [List.getD_cons_zero] at h
      subst h
      simp
    | succ i =>
      simp only [List.length_cons, Nat.add_lt_add_iff_right] at hi
      simp only [List.getD_cons_succ] at h
      have := ih hi h
      simp only [List.set_cons_succ, List.countP_cons]
      omega
end Go.Fw
namespace Go.Proofs.Ytafndpkfoajpnaa.G
open Go Go.Fw

theorem into_loop {s : SpaceV} {n : Nat} (hs : Sys s n) (x : Nat) (hx : x < n) (l : List Bool) (hl : l.length = n) : ∀ d i, i + d = (arcs s x).length →
    Wp (fun K k => ref19_into_58 K k (arcs s x) l (((goals s x).take i).countP (fun t => l.getD t false) : Int) (i : Int)) (fun y => y = ((((goals s x).countP (fun t => l.getD t false) : Int), ()), ())) := by
  intro d
  induction d with
  | zero =>
    intro i h1
    refine Wp.step ?_
    simp only [ref19_into_58]
    refine Wp.negd (by omega) (Wp.ret ?_)
    rw [List.take_of_length_le (by rw [goals_len]; omega)]
  | succ d ih =>
    intro i h1
    have hil : i < (arcs s x).length := by omega
    have hg := goals_at hs hil
    have htot := total_ge (s := s) hx
    have htt := hs.tot
    have hw := wrapS i (by omega)
    have hc : ((goals s x).take i).countP (fun t => l.getD t false) ≤ i := Nat.le_trans List.countP_le_length (by rw [List.length_take]; omega)
    have hn : ((goals s x).take (i + 1)).countP (fun t => l.getD t false) = ((goals s x).take i).countP (fun t => l.getD t false) + if l.getD ((goals s x).getD i 0) false = true then 1 else 0 := by
      rw [List.take_succ_eq_append_getElem (by rw [goals_len]; exact hil), List.countP_append, getD_at 0 (by rw [goals_len]; exact hil), List.countP_singleton]
    have hnext := ih (i + 1) (by omega)
    rw [hn] at hnext
    refine Wp.step ?_
    simp only [ref19_into_58, hw, Int.toNat_natCast, ato_def, hs.at' x i hil]
    refine Wp.posd (by omega) (Wp.posd (by omega) (Wp.posd (by omega) ?_))
    refine Wp.iteb (fun hb => ?_) (fun hb => ?_)
    · rw [if_pos hb] at hnext
      rw [wrapS _ (by omega)]
      exact hnext
    · rw [if_neg (by rw [hb]; simp), Nat.add_zero] at hnext
      exact hnext

theorem into_ok {s : SpaceV} {n : Nat} (hs : Sys s n) (x : Nat) (hx : x < n) (l : List Bool) (hl : l.length = n) :
    Wp (fun K _ => ref19_into K (arcs s x) l) (fun y => y = ((((goals s x).countP (fun t => l.getD t false) : Int), ()), ())) := by
  simp only [ref19_into]
  refine (Wp.diag (into_loop hs x hx l hl (arcs s x).length 0 (by omega))).call fun y hy => ?_
  subst hy
  exact Wp.ret rfl

theorem core_pass {s : SpaceV} {n : Nat} (hs : Sys s n) {S : Nat → Prop} (o0 : List Bool) : ∀ d x (b : Bool) (out : List Bool), x + d = n → out.length = n → (∀ j, j < n → out.getD j false = false → Attr (goals s) S j) → (∀ j, j < n → S j → out.getD j false = false) →
      (if b = true then holes o0 < holes out else out = o0 ∧ ∀ j, j < x → out.getD j false = false ∨ goals s j = [] ∨ ∃ t ∈ goals s j, out.getD t false = true) →
    Wp (fun K k => ref19_Core_16022 K k b (x : Int) s out) (fun y => ∃ (b' : Bool) (out' : List Bool), y = ((b', ()), (s, (out', ()))) ∧ out'.length = n ∧ (∀ j, j < n → out'.getD j false = false → Attr (goals s) S j) ∧ (∀ j, j < n → S j → out'.getD j false = false) ∧
      (if b' = true then holes o0 < holes out' else out' = o0 ∧ ∀ j, j < n → out'.getD j false = false ∨ goals s j = [] ∨ ∃ t ∈ goals s j, out'.getD t false = true)) := by
  intro d
  induction d with
  | zero =>
    intro x b out h1 hl hA hS h
    refine Wp.step ?_
    simp only [ref19_Core_16022]
    rw [show x = n by omega] at h
    exact Wp.negd (by omega) (Wp.ret ⟨b, out, rfl, hl, hA, hS, h⟩)
  | succ d ih =>
    intro x b out h1 hl hA hS h
    have hx : x < n := by omega
    have har := hs.ar
    have hle := hs.le
    have hlast : ∀ c : Bool, (c = true → out.getD x false = true ∧ goals s x ≠ [] ∧ ∀ t ∈ goals s x, out.getD t false = false) → (c = false → out.getD x false = false ∨ goals s x = [] ∨ ∃ t ∈ goals s x, out.getD t false = true) →
        Wp (fun K k => (ref19_Core_512713 K b (x : Int) c out).bind fun y => ref19_Core_16022 K k y.1.1 ((x + 1 : Nat) : Int) s y.2.1) (fun y => ∃ (b' : Bool) (out' : List Bool), y = ((b', ()), (s, (out', ()))) ∧ out'.length = n ∧ (∀ j, j < n → out'.getD j false = false → Attr (goals s) S j) ∧ (∀ j, j < n → S j → out'.getD j false = false) ∧
          (if b' = true then holes o0 < holes out' else out' = o0 ∧ ∀ j, j < n → out'.getD j false = false ∨ goals s j = [] ∨ ∃ t ∈ goals s j, out'.getD t false = true)) := by
      intro c hc1 hc2
      cases c with
      | true =>
        obtain ⟨h2, h3, h4⟩ := hc1 rfl
        simp only [ref19_Core_512713, if_true, Int.toNat_natCast]
        have g : decide (0 ≤ (x : Int) ∧ (x : Int) < (out.length : Int)) = true := decide_eq_true (by omega)
        simp only [g, if_true, Option.bind_some]
        refine ih (x + 1) true _ (by omega) (by simpa using hl) (fun j h5 hj => ?_) (fun j h5 h6 => ?_) ?_
        · rw [gset] at hj
          by_cases hjx : x = j
          · subst hjx; exact .step h3 fun t ht => hA t (hs.lt _ t ht) (h4 t ht)
          · rw [if_neg (fun hh => hjx hh.1)] at hj; exact hA j h5 hj
        · rw [gset]
          split
          · rfl
          · exact hS j h5 h6
        · rw [if_pos rfl]
          have h5 := holes_unset (l := out) (i := x) (by omega) h2
          split at h
          · omega
          · rw [← h.1]; omega
      | false =>
        simp only [ref19_Core_512713, Bool.false_eq_true, if_false, Option.bind_some]
        refine ih (x + 1) b out (by omega) hl hA hS ?_
        split at h
        · rename_i hb; rw [if_pos hb]; exact h
        · rename_i hb
          rw [if_neg hb]
          refine ⟨h.1, fun j hj => ?_⟩
          rcases Nat.lt_or_ge j x with h5 | h5
          · exact h.2 j h5
          · rw [show j = x by omega]; exact hc2 rfl
    refine Wp.step ?_
    simp only [ref19_Core_16022, wrapS x (by omega), Int.toNat_natCast, arcs_def]
    refine Wp.posd (by omega) (Wp.posd (by omega) ?_)
    refine Wp.iteb (fun hb => ?_) (fun hb => hlast false (by simp) (fun _ => .inl hb))
    refine Wp.posd (by omega) ?_
    refine Wp.ited (fun hp => ?_) (fun hp => hlast false (by simp) (fun _ => .inr (.inl (List.eq_nil_of_length_eq_zero (by rw [goals_len]; omega)))))
    refine Wp.posd (by omega) ?_
    refine Wp.callE (into_ok hs x hx out hl) ?_
    have hz : ((goals s x).countP (fun t => out.getD t false) : Int) = 0 ↔ ∀ t ∈ goals s x, ¬ out.getD t false = true := by
      rw [show ((0 : Int)) = ((0 : Nat) : Int) from rfl, Int.natCast_inj, List.countP_eq_zero]
    refine hlast _ (fun h5 => ⟨hb, fun he => ?_, fun t ht => ?_⟩) (fun h5 => ?_)
    · have := goals_len s x; rw [he] at this; simp at this; omega
    · have := hz.1 (of_decide_eq_true h5) t ht
      simpa only [Bool.not_eq_true] using this
    · have h5 := of_decide_eq_false h5
      exact .inr (.inr (Classical.byContradiction fun h6 => h5 (hz.2 fun t ht h7 => h6 ⟨t, ht, h7⟩)))

theorem core_rounds {s : SpaceV} {n : Nat} (hs : Sys s n) {S : Nat → Prop} : ∀ m (out : List Bool), n - holes out = m → out.length = n → (∀ j, j < n → out.getD j false = false → Attr (goals s) S j) → (∀ j, j < n → S j → out.getD j false = false) →
    Wp (fun K k => ref19_Core_250 K k true s out) (fun y => ∃ out', y = ((), (out', ())) ∧ Tells n out' (fun j => ¬ Attr (goals s) S j)) := by
  intro m
  induction m using Nat.strongRecOn with
  | ind m ih =>
    intro out hm hl hA hS
    refine Wp.step ?_
    simp only [ref19_Core_250, if_true]
    refine (Wp.diag (core_pass hs (S := S) out n 0 false out (by omega) hl hA hS (by simp))).call fun y hy => ?_
    obtain ⟨b, out', rfl, h1, h2, h3, h4⟩ := hy
    cases b with
    | true =>
      rw [if_pos rfl] at h4
      have := holes_le out'
      exact ih (n - holes out') (by omega) out' rfl h1 h2 h3
    | false =>
      rw [if_neg (by simp)] at h4
      refine Wp.step ?_
      simp only [ref19_Core_250, Bool.false_eq_true, if_false]
      refine Wp.ret ⟨out', rfl, h1, fun j hj => ⟨fun ho => ?_, fun hn => ?_⟩⟩
      · refine Attr.coind (C := fun j => j < n ∧ out'.getD j false = true) (fun i hi => ⟨fun hS => ?_, ?_⟩) ⟨hj, ho⟩
        · have := h3 i hi.1 hS
          rw [hi.2] at this; simp at this
        · rcases h4.2 i hi.1 with h5 | h5 | ⟨t, h5, h6⟩
          · rw [hi.2] at h5; simp at h5
          · exact .inl h5
          · exact .inr ⟨t, h5, hs.lt i t h5, h6⟩
      · cases ho : out'.getD j false with
        | true => rfl
        | false => exact absurd (h2 j hj ho) hn

theorem core_start (l : List Bool) (hl : l.length ≤ 32768) : ∀ d x, x + d = l.length →
    Wp (fun K k => ref19_Core_122 K k l (x : Int) ((l.take x).map (!·))) (fun y => y = (((), ()), (l.map (!·), ()))) := by
  intro d
  induction d with
  | zero =>
    intro x h1
    refine Wp.step ?_
    simp only [ref19_Core_122]
    refine Wp.negd (by omega) (Wp.ret ?_)
    rw [List.take_of_length_le (by omega)]
  | succ d ih =>
    intro x h1
    have hx : x < l.length := by omega
    have hnext := ih (x + 1) (by omega)
    rw [List.take_succ_eq_append_getElem hx, List.map_append, List.map_singleton, ← getD_at false hx] at hnext
    refine Wp.step ?_
    simp only [ref19_Core_122, wrapS x (by omega), Int.toNat_natCast, List.length_map, List.length_take, List.length_singleton]
    exact Wp.posd (by omega) (Wp.posd (by omega) (Wp.posd (by omega) hnext))

/-! What the functions return. -/
def Chk (s : SpaceV) (l : List Bool) (e : Int) : Prop := (e = 0 ∧ SpaceP s ∧ l.length = s.1.length) ∨ (e = 13 ∧ ¬ SpaceP s) ∨ (e = 7 ∧ SpaceP s ∧ l.length ≠ s.1.length)
theorem Chk.unique {s : SpaceV} {l : List Bool} {a b : Int} (ha : Chk s l a) (hb : Chk s l b) : a = b := by
  rcases ha with ⟨rfl, h1, h2⟩ | ⟨rfl, h1⟩ | ⟨rfl, h1, h2⟩ <;> rcases hb with ⟨rfl, h3, h4⟩ | ⟨rfl, h3⟩ | ⟨rfl, h3, h4⟩ <;> first | rfl | exact absurd h1 h3 | exact absurd h3 h1 | exact absurd h2 h4 | exact absurd h4 h2
theorem Chk.zero {s : SpaceV} {l : List Bool} (h : Chk s l 0) : SpaceP s ∧ l.length = s.1.length := by
  rcases h with ⟨_, h1, h2⟩ | ⟨h, _⟩ | ⟨h, _⟩
  · exact ⟨h1, h2⟩
  · simp at h
  · simp at h
theorem Chk.fair {s : SpaceV} {l : List Bool} {e : Int} (h : Chk s l e) (h1 : SpaceP s) (h2 : l.length = s.1.length) : e = 0 := h.unique (.inl ⟨rfl, h1, h2⟩)

theorem ref19_Begin_ok {s : SpaceV} (hs : SpaceIn s) (l : List Bool) : Wp (fun K _ => ref19_Begin K s l) (fun y => ∃ e, y = ((e, ()), ()) ∧ Chk s l e) := by
  simp only [ref19_Begin]
  refine (ref18_Valid_ok hs).call fun y hy => ?_
  obtain ⟨b, rfl, hb⟩ := hy
  refine Wp.itebn (fun h0 => Wp.ret ⟨_, rfl, .inr (.inl ⟨rfl, fun hp => ?_⟩)⟩) (fun h1 => ?_)
  · rw [← hb] at hp
    simp only at h0
    rw [h0] at hp; simp at hp
  · have hp := hb.1 h1
    exact Wp.iten (fun hn => Wp.ret ⟨_, rfl, .inr (.inr ⟨rfl, hp, fun he => hn (by rw [he])⟩)⟩) (fun he => Wp.ret ⟨_, rfl, .inl ⟨rfl, hp, by omega⟩⟩)

/-- an error, or a list that tells a set of states -/
def Res (s : SpaceV) (l : List Bool) (P : Nat → Prop) (e : Int) (out : List Bool) : Prop := Chk s l e ∧ ((e = 0 ∧ Tells s.1.length out P) ∨ (e ≠ 0 ∧ out = []))
theorem Res.unique {s : SpaceV} {l : List Bool} {P : Nat → Prop} {e f : Int} {a b : List Bool} (ha : Res s l P e a) (hb : Res s l P f b) : e = f ∧ a = b := by
  obtain ⟨h1, h2⟩ := ha
  obtain ⟨h3, h4⟩ := hb
  have h5 := h1.unique h3
  subst h5
  refine ⟨rfl, ?_⟩
  rcases h2 with ⟨h6, h7⟩ | ⟨h6, rfl⟩ <;> rcases h4 with ⟨h8, h9⟩ | ⟨h8, rfl⟩
  · exact h7.unique h9
  · exact absurd h6 h8
  · exact absurd h8 h6
  · rfl
theorem Res.fair {s : SpaceV} {l : List Bool} {P : Nat → Prop} {e : Int} {a : List Bool} (h : Res s l P e a) (h1 : SpaceP s) (h2 : l.length = s.1.length) : e = 0 ∧ Tells s.1.length a P := by
  have h3 := h.1.fair h1 h2
  rcases h.2 with h4 | h4
  · exact h4
  · exact absurd h3 h4.1

theorem ref19_Core_ok {s : SpaceV} (hs : SpaceIn s) (l : List Bool) : Wp (fun K _ => ref19_Core K s l) (fun y => ∃ e out, y = ((((), (e, ())), ()), (out, ())) ∧ Res s l (fun j => ¬ Attr (goals s) (SetOf l) j) e out) := by
  simp only [ref19_Core]
  refine (ref19_Begin_ok hs l).call fun y hy => ?_
  obtain ⟨e, rfl, he⟩ := hy
  refine Wp.iten (fun h0 => Wp.ret ⟨_, _, rfl, he, .inr ⟨h0, rfl⟩⟩) (fun h0 => ?_)
  simp only at h0
  subst h0
  obtain ⟨h1, h2⟩ := he.zero
  have hle := h1.2.1
  refine Wp.callE (Wp.diag (core_start l (by omega) l.length 0 (by omega))) ?_
  have hm : ∀ j, j < s.1.length → (l.map (!·)).getD j false = !(l.getD j false) := fun j hj => by
    rw [getD_at false (by simpa using (by omega : j < l.length)), getD_at false (by omega), List.getElem_map]
  refine (Wp.diag (core_rounds (sys_of h1) (S := SetOf l) _ (l.map (!·)) rfl (by simpa using h2) (fun j h5 hj => ?_) (fun j h5 hj => ?_))).call fun y hy => ?_
  · rw [hm j h5] at hj
    refine .base ?_
    show l.getD j false = true
    cases hb : l.getD j false with
    | true => rfl
    | false => rw [hb] at hj; simp at hj
  · rw [hm j h5, show l.getD j false = true from hj]; rfl
  · obtain ⟨out, rfl, h3⟩ := hy
    exact Wp.ret ⟨_, _, rfl, he, .inl ⟨rfl, h3⟩⟩
end Go.Proofs.Ytafndpkfoajpnaa.G
