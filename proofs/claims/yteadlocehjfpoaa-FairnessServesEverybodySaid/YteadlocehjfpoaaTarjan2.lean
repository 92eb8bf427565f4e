/- The depth-first search: its arcs, its pops, its visits. -/
import Derived.Test.YteadlocehjfpoaaTarjan
namespace Go.Proofs.Yteadlocehjfpoaa.G
open Go Go.Fw

section
variable {s : SpaceV} {n : Nat} {l : List Bool} {gray : Nat → Prop}

theorem TI.setLow {q : TS} (h : TI s n l gray q) (x v : Nat) : TI s n l gray { q with low := q.low.set x v } :=
  ⟨h.li, by simpa using h.ll, h.lo, h.lf, h.cnt, h.top, h.on, h.st, h.srt, h.gst, h.togr, h.frgr, h.black, h.shut, h.leg, h.rep, h.same⟩

theorem Visiting.white {q q1 : TS} {x i : Nat} {t : List Nat} (h : Visiting s n l gray q x i q1 t) {y : Nat} (hy : q1.idx.getD y 0 = 0) : q.idx.getD y 0 = 0 := by
  rcases Nat.eq_zero_or_pos (q.idx.getD y 0) with h1 | h1
  · exact h1
  · rw [(h.old y (by omega)).1] at hy; exact hy

theorem Visiting.skip {q q1 : TS} {x i : Nat} {t : List Nat} (h : Visiting s n l gray q x i q1 t)
    (hi : l.getD ((goals s x).getD i 0) false = false → q1.idx.getD ((goals s x).getD i 0) 0 ≠ 0 ∧ ((goals s x).getD i 0 ∈ q.st → q1.low.getD x 0 ≤ q.idx.getD ((goals s x).getD i 0) 0)) : Visiting s n l gray q x (i + 1) q1 t :=
  ⟨h.inv, h.old, h.at', h.st, h.new, h.pos, h.le, h.lnk, h.edge, fun j hj hl => by
    rcases Nat.lt_or_ge j i with h1 | h1
    · exact h.arc j h1 hl
    · have h2 : j = i := by omega
      rw [h2] at hl ⊢
      exact hi hl, h.cle⟩

theorem Visiting.back {q q1 : TS} {x i : Nat} {t : List Nat} (h : Visiting s n l gray q x i q1 t) (hq : TI s n l gray q) (hx : x < n) (h0 : q.idx.getD x 0 = 0) (hlx : l.getD x false = false) (hig : i < (goals s x).length)
    (hl : l.getD ((goals s x).getD i 0) false = false) (hs : (goals s x).getD i 0 ∈ q1.st) :
    Visiting s n l gray q x (i + 1) { q1 with low := q1.low.set x (min (q1.idx.getD ((goals s x).getD i 0) 0) (q1.low.getD x 0)) } t := by
  obtain ⟨y, hy⟩ : ∃ y, y = (goals s x).getD i 0 := ⟨_, rfl⟩
  rw [← hy] at hl hs ⊢
  have hxy : y ∈ outer s l x := mem_outer.2 ⟨hlx, by rw [hy]; exact getD_mem 0 hig, hl⟩
  have hidx := h.inv.st y hs
  have hset : ∀ z, (q1.low.set x (min (q1.idx.getD y 0) (q1.low.getD x 0))).getD z 0 = if x = z then min (q1.idx.getD y 0) (q1.low.getD x 0) else q1.low.getD z 0 := fun z => by
    rw [gset]
    by_cases hz : x = z
    · rw [if_pos ⟨hz, by rw [h.inv.ll]; exact hx⟩, if_pos hz]
    · rw [if_neg (fun hh => hz hh.1), if_neg hz]
  have hpos := h.pos
  have hle := h.le
  refine ⟨h.inv.setLow _ _, fun z hz => ?_, h.at', h.st, h.new, ?_, ?_, ?_, fun u hu w hw hws => ?_, fun j hj hlj => ?_, h.cle⟩
  · have hzx : x ≠ z := fun he => hz (he ▸ h0)
    obtain ⟨h1, h2⟩ := h.old z hz
    exact ⟨h1, by show (q1.low.set x _).getD z 0 = _; rw [hset, if_neg hzx]; exact h2⟩
  · show 1 ≤ (q1.low.set x _).getD x 0
    rw [hset, if_pos rfl]; omega
  · show (q1.low.set x _).getD x 0 ≤ _
    rw [hset, if_pos rfl]; omega
  · show ∃ z ∈ q1.st, q1.idx.getD z 0 = (q1.low.set x _).getD x 0 ∧ _
    rw [hset, if_pos rfl]
    rcases Nat.le_total (q1.idx.getD y 0) (q1.low.getD x 0) with h3 | h3
    · rw [Nat.min_eq_left h3]; exact ⟨y, hs, rfl, .one hxy⟩
    · rw [Nat.min_eq_right h3]; exact h.lnk
  · show (q1.low.set x _).getD x 0 ≤ _
    rw [hset, if_pos rfl]
    exact Nat.le_trans (Nat.min_le_right _ _) (h.edge u hu w hw hws)
  · show q1.idx.getD _ 0 ≠ 0 ∧ (_ → (q1.low.set x _).getD x 0 ≤ _)
    rw [hset, if_pos rfl]
    rcases Nat.lt_or_ge j i with h1 | h1
    · obtain ⟨h2, h3⟩ := h.arc j h1 hlj
      exact ⟨h2, fun h4 => Nat.le_trans (Nat.min_le_right _ _) (h3 h4)⟩
    · rw [show j = i by omega, ← hy]
      refine ⟨hidx, fun h4 => Nat.le_trans (Nat.min_le_left _ _) ?_⟩
      rw [(h.old y (hq.st y h4)).1]
      exact Nat.le_refl _

theorem Visiting.tree {q q1 q2 : TS} {x i : Nat} {t t2 : List Nat} (h : Visiting s n l gray q x i q1 t) (hq : TI s n l gray q) (hx : x < n) (h0 : q.idx.getD x 0 = 0) (hlx : l.getD x false = false) (hig : i < (goals s x).length)
    (hl : l.getD ((goals s x).getD i 0) false = false) (hw : q1.idx.getD ((goals s x).getD i 0) 0 = 0) (hv : Visited s n l (fun y => gray y ∨ y = x) q1 ((goals s x).getD i 0) q2 t2) :
    Visiting s n l gray q x (i + 1) { q2 with low := q2.low.set x (min (q2.low.getD ((goals s x).getD i 0) 0) (q2.low.getD x 0)) } (t ++ t2) := by
  obtain ⟨y, hy⟩ : ∃ y, y = (goals s x).getD i 0 := ⟨_, rfl⟩
  rw [← hy] at hl hw hv ⊢
  have hxy : y ∈ outer s l x := mem_outer.2 ⟨hlx, by rw [hy]; exact getD_mem 0 hig, hl⟩
  have hx1 : q1.idx.getD x 0 ≠ 0 := by rw [h.at']; omega
  have hlow : q2.low.getD x 0 = q1.low.getD x 0 := (hv.old x hx1).2
  have hset : ∀ z, (q2.low.set x (min (q2.low.getD y 0) (q2.low.getD x 0))).getD z 0 = if x = z then min (q2.low.getD y 0) (q2.low.getD x 0) else q2.low.getD z 0 := fun z => by
    rw [gset]
    by_cases hz : x = z
    · rw [if_pos ⟨hz, by rw [hv.inv.ll]; exact hx⟩, if_pos hz]
    · rw [if_neg (fun hh => hz hh.1), if_neg hz]
  have hpos := h.pos
  have hle := h.le
  have hpos2 := hv.pos
  have hc1 : q.c + 1 ≤ q1.c := by have := h.inv.top x; rw [h.at'] at this; exact this
  have hy0 : q.idx.getD y 0 = 0 := h.white hw
  refine ⟨hv.inv.setLow _ _, fun z hz => ?_, ?_, ?_, fun z hz => ?_, ?_, ?_, ?_, fun u hu w hwo hws => ?_, fun j hj hlj => ?_, Nat.le_trans h.cle hv.cle⟩
  · have hzx : x ≠ z := fun he => hz (he ▸ h0)
    obtain ⟨h1, h2⟩ := h.old z hz
    obtain ⟨h3, h4⟩ := hv.old z (by rw [h1]; exact hz)
    refine ⟨h3.trans h1, ?_⟩
    show (q2.low.set x _).getD z 0 = _
    rw [hset, if_neg hzx]
    exact h4.trans h2
  · exact (hv.old x hx1).1.trans h.at'
  · show q2.st = _
    rw [hv.st, h.st]; simp
  · rcases List.mem_append.1 hz with h1 | h1
    · exact h.new z h1
    · exact h.white (hv.new z h1)
  · show 1 ≤ (q2.low.set x _).getD x 0
    rw [hset, if_pos rfl]; omega
  · show (q2.low.set x _).getD x 0 ≤ _
    rw [hset, if_pos rfl]; omega
  · show ∃ z ∈ q2.st, q2.idx.getD z 0 = (q2.low.set x _).getD x 0 ∧ _
    rw [hset, if_pos rfl]
    rcases Nat.lt_or_ge (q2.low.getD y 0) (q2.low.getD x 0) with h3 | h3
    · rw [Nat.min_eq_left (by omega)]
      have hys : y ∈ q2.st := Classical.byContradiction fun hn => by
        have := hv.pop hn
        omega
      obtain ⟨z, h4, h5, h6⟩ := hv.lnk hys
      exact ⟨z, h4, h5, .head hxy h6⟩
    · rw [Nat.min_eq_right h3, hlow]
      obtain ⟨z, h4, h5, h6⟩ := h.lnk
      exact ⟨z, by rw [hv.st]; exact List.mem_append_left _ h4, by rw [(hv.old z (h.inv.st z h4)).1]; exact h5, h6⟩
  · show (q2.low.set x _).getD x 0 ≤ _
    rw [hset, if_pos rfl]
    rcases List.mem_append.1 hu with h1 | h1
    · have := h.edge u h1 w hwo hws; omega
    · have h2 := hv.edge u h1 w hwo (by rw [h.st]; exact List.mem_append_left _ hws)
      rw [(h.old w (hq.st w hws)).1] at h2
      omega
  · show q2.idx.getD _ 0 ≠ 0 ∧ (_ → (q2.low.set x _).getD x 0 ≤ _)
    rw [hset, if_pos rfl]
    rcases Nat.lt_or_ge j i with h1 | h1
    · obtain ⟨h2, h3⟩ := h.arc j h1 hlj
      refine ⟨by rw [(hv.old _ h2).1]; exact h2, fun h4 => ?_⟩
      have := h3 h4; omega
    · rw [show j = i by omega, ← hy]
      refine ⟨by rw [hv.at']; omega, fun h4 => absurd hy0 (hq.st y h4)⟩

/-- without a pop -/
theorem Visiting.stay {q q1 : TS} {x : Nat} {t : List Nat} (h : Visiting s n l gray q x (goals s x).length q1 t) (hq : TI s n l gray q) (h0 : q.idx.getD x 0 = 0) (hne : q1.low.getD x 0 ≠ q1.idx.getD x 0) : Visited s n l gray q x q1 (x :: t) := by
  have hle := h.le
  have hat := h.at'
  have hgx : ¬ gray x := fun hg => hq.st x (hq.gst x hg) h0
  obtain ⟨z, hz1, hz2, hz3⟩ := h.lnk
  -- the link leads below
  have hzq : z ∈ q.st := by
    rw [h.st, List.mem_append] at hz1
    rcases hz1 with hz1 | hz1
    · exact hz1
    · exfalso
      have hsrt := h.inv.srt
      rw [h.st, List.pairwise_append] at hsrt
      rcases List.mem_cons.1 hz1 with rfl | hz1
      · exact hne hz2.symm
      · have := List.rel_of_pairwise_cons hsrt.2.1 hz1
        omega
  obtain ⟨g, hg1, hg2, hg3⟩ := hq.togr z hzq
  have hgi := (h.old g (hq.st g (hq.gst g hg1))).1
  have hzi := (h.old z (hq.st z hzq)).1
  have harc : ∀ y ∈ outer s l x, q1.idx.getD y 0 ≠ 0 ∧ (y ∈ q.st → q1.low.getD x 0 ≤ q.idx.getD y 0) := fun y hy => by
    obtain ⟨_, h2, h3⟩ := mem_outer.1 hy
    obtain ⟨j, h4, h5⟩ := mem_getD 0 h2
    have := h.arc j h4 (by rw [h5]; exact h3)
    rwa [h5] at this
  refine ⟨⟨h.inv.li, h.inv.ll, h.inv.lo, h.inv.lf, h.inv.cnt, h.inv.top, h.inv.on, h.inv.st, h.inv.srt, fun y hy => h.inv.gst y (.inl hy), fun y hy => ?_, fun g hg y hy hle => h.inv.frgr g (.inl hg) y hy hle, fun y hy hng w hw => ?_, h.inv.shut, h.inv.leg, h.inv.rep, h.inv.same⟩, h.old, h.at', h.st, fun y hy => ?_, h.pos, h.le, fun _ => h.lnk, fun hn => ?_, fun u hu y hy hys => ?_, h.cle⟩
  · obtain ⟨g', h1, h2, h3⟩ := h.inv.togr y hy
    rcases h1 with h1 | rfl
    · exact ⟨g', h1, h2, h3⟩
    · refine ⟨g, hg1, ?_, h3.trans (hz3.trans hg3)⟩
      omega
  · by_cases hyx : y = x
    · exact (harc w (hyx ▸ hw)).1
    · exact h.inv.black y hy (fun hh => hh.elim hng hyx) w hw
  · rcases List.mem_cons.1 hy with rfl | hy
    · exact h0
    · exact h.new y hy
  · exact absurd (by rw [h.st]; simp) hn
  · rcases List.mem_cons.1 hu with rfl | hu
    · exact (harc y hy).2 hys
    · exact h.edge u hu y hy hys

/-- with a pop -/
theorem Visiting.leave {q q1 : TS} {x : Nat} {t : List Nat} (h : Visiting s n l gray q x (goals s x).length q1 t) (hq : TI s n l gray q) (h0 : q.idx.getD x 0 = 0) (he : q1.low.getD x 0 = q1.idx.getD x 0) {on : List Bool} {of : List Nat} (hlo : on.length = n) (hlf : of.length = n)
    (hon : ∀ y, on.getD y false = if y ∈ x :: t then false else q1.on.getD y false) (hof : ∀ y, of.getD y 0 = if y ∈ x :: t then x else q1.of.getD y 0) : Visited s n l gray q x ⟨q1.c, q1.idx, q1.low, on, q.st, of⟩ [] := by
  have hle := h.le
  have hat := h.at'
  have hsrt := h.inv.srt
  rw [h.st, List.pairwise_append] at hsrt
  obtain ⟨hs1, hs2, hs3⟩ := hsrt
  have hdisj : ∀ y ∈ q.st, y ∉ x :: t := fun y h1 h2 => absurd (hs3 y h1 y h2) (Nat.lt_irrefl _)
  have hmem : ∀ y, y ∈ q1.st ↔ y ∈ q.st ∨ y ∈ x :: t := fun y => by rw [h.st, List.mem_append]
  have harc : ∀ y ∈ outer s l x, q1.idx.getD y 0 ≠ 0 ∧ (y ∈ q.st → q1.low.getD x 0 ≤ q.idx.getD y 0) := fun y hy => by
    obtain ⟨_, h2, h3⟩ := mem_outer.1 hy
    obtain ⟨j, h4, h5⟩ := mem_getD 0 h2
    have := h.arc j h4 (by rw [h5]; exact h3)
    rwa [h5] at this
  have hedge : ∀ u ∈ x :: t, ∀ y ∈ outer s l u, q1.idx.getD y 0 ≠ 0 ∧ y ∉ q.st := by
    intro u hu y hy
    have hlt : ∀ y ∈ q.st, q.idx.getD y 0 < q1.low.getD x 0 := fun y hys => by
      rw [he, ← (h.old y (hq.st y hys)).1]
      exact hs3 y hys x (List.mem_cons_self ..)
    rcases List.mem_cons.1 hu with rfl | hu
    · obtain ⟨h1, h2⟩ := harc y hy
      exact ⟨h1, fun hys => by have := hlt y hys; have := h2 hys; omega⟩
    · have h1 := h.inv.st u ((hmem u).2 (.inr (List.mem_cons_of_mem _ hu)))
      have h2 : ¬ (gray u ∨ u = x) := by
        rintro (hg | hux)
        · exact hdisj u (hq.gst u hg) (List.mem_cons_of_mem _ hu)
        · exact absurd (List.rel_of_pairwise_cons hs2 hu) (by rw [hux]; exact Nat.lt_irrefl _)
      exact ⟨h.inv.black u h1 h2 y hy, fun hys => by have := hlt y hys; have := h.edge u hu y hy hys; omega⟩
  -- the states that are done
  have hdone : ∀ y, (TS.done ⟨q1.c, q1.idx, q1.low, on, q.st, of⟩ y) ↔ q1.done y ∨ y ∈ x :: t := fun y => by
    simp only [TS.done]
    constructor
    · rintro ⟨h1, h2⟩
      by_cases hy : y ∈ x :: t
      · exact .inr hy
      · exact .inl ⟨h1, fun h3 => ((hmem y).1 h3).elim h2 hy⟩
    · rintro (⟨h1, h2⟩ | h1)
      · exact ⟨h1, fun h3 => h2 ((hmem y).2 (.inl h3))⟩
      · exact ⟨h.inv.st y ((hmem y).2 (.inr h1)), fun h2 => hdisj y h2 h1⟩
  have hshut : ∀ y, (q1.done y ∨ y ∈ x :: t) → ∀ w ∈ outer s l y, (q1.done w ∨ w ∈ x :: t) := by
    rintro y (hy | hy) w hw
    · exact .inl (h.inv.shut y hy w hw)
    · obtain ⟨h1, h2⟩ := hedge y hy w hw
      by_cases hwt : w ∈ x :: t
      · exact .inr hwt
      · exact .inl ⟨h1, fun h3 => ((hmem w).1 h3).elim h2 hwt⟩
  have hboth : ∀ u ∈ x :: t, Both (outer s l) u x := fun u hu => by
    have hus := (hmem u).2 (.inr hu)
    have hxu : q1.idx.getD x 0 ≤ q1.idx.getD u 0 := by
      rcases List.mem_cons.1 hu with rfl | hu
      · exact Nat.le_refl _
      · exact Nat.le_of_lt (List.rel_of_pairwise_cons hs2 hu)
    refine ⟨?_, h.inv.frgr x (.inr rfl) u hus hxu⟩
    obtain ⟨g, h1, h2, h3⟩ := h.inv.togr u hus
    rcases h1 with h1 | rfl
    · exfalso
      have h4 : q1.done g ∨ g ∈ x :: t := Rch.closed (X := fun y => q1.done y ∨ y ∈ x :: t) hshut (.inr hu) h3
      have h5 := hq.gst g h1
      rcases h4 with h4 | h4
      · exact h4.2 ((hmem g).2 (.inl h5))
      · exact hdisj g h5 h4
    · exact h3
  have hnt : ∀ y, q1.done y → y ∉ x :: t := fun y hy hm => hy.2 ((hmem y).2 (.inr hm))
  refine ⟨⟨h.inv.li, h.inv.ll, hlo, hlf, h.inv.cnt, h.inv.top, fun y => ?_, fun y hy => ?_, hs1, hq.gst, fun y hy => ?_, fun g hg y hy hle => h.inv.frgr g (.inl hg) y ((hmem y).2 (.inl hy)) hle, fun y hy hng w hw => ?_, fun y hy w hw => ?_, h.inv.leg, fun y hy => ?_, fun y w hy hw hb => ?_⟩, h.old, h.at', by simp, fun y hy => by simp at hy, h.pos, h.le, fun hx => absurd (List.mem_cons_self ..) (hdisj x hx), fun _ => by show q1.low.getD x 0 = _; rw [he, hat], fun u hu => by simp at hu, h.cle⟩
  · show on.getD y false = true ↔ y ∈ q.st
    rw [hon]
    by_cases hy : y ∈ x :: t
    · rw [if_pos hy]
      simp only [Bool.false_eq_true, false_iff]
      exact fun h1 => hdisj y h1 hy
    · rw [if_neg hy, h.inv.on, hmem]
      exact ⟨fun h1 => h1.resolve_right hy, .inl⟩
  · exact h.inv.st y ((hmem y).2 (.inl hy))
  · obtain ⟨g, h1, h2, h3⟩ := hq.togr y hy
    refine ⟨g, h1, ?_, h3⟩
    show q1.idx.getD g 0 ≤ q1.idx.getD y 0
    rw [(h.old g (hq.st g (hq.gst g h1))).1, (h.old y (hq.st y hy)).1]; exact h2
  · by_cases hyx : y = x
    · exact (harc w (hyx ▸ hw)).1
    · exact h.inv.black y hy (fun hh => hh.elim hng hyx) w hw
  · rw [hdone] at hy ⊢
    exact hshut y hy w hw
  · show TS.done ⟨q1.c, q1.idx, q1.low, on, q.st, of⟩ (of.getD y 0) ∧ Both (outer s l) y (of.getD y 0)
    rw [hdone] at hy ⊢
    rw [hof]
    by_cases hyt : y ∈ x :: t
    · rw [if_pos hyt]; exact ⟨.inr (List.mem_cons_self ..), hboth y hyt⟩
    · rw [if_neg hyt]
      obtain ⟨h1, h2⟩ := h.inv.rep y (hy.resolve_right hyt)
      exact ⟨.inl h1, h2⟩
  · show of.getD y 0 = of.getD w 0
    rw [hdone] at hy hw
    rw [hof, hof]
    by_cases hyt : y ∈ x :: t
    · by_cases hwt : w ∈ x :: t
      · rw [if_pos hyt, if_pos hwt]
      · exfalso
        have hwd := hw.resolve_right hwt
        have : q1.done y := Rch.closed (X := q1.done) h.inv.shut hwd hb.2
        exact hnt y this hyt
    · have hyd := hy.resolve_right hyt
      have hwd : q1.done w := Rch.closed (X := q1.done) h.inv.shut hyd hb.1
      rw [if_neg hyt, if_neg (hnt w hwd)]
      exact h.inv.same y w hyd hwd hb

/-! ### The code -/
abbrev visitR (K j : Nat) := fairness_finder_visit K j

theorem pop_loop (q : TS) (x : Nat) (hn : n ≤ 1000000) : ∀ m (t : List Nat) (on : List Bool) (of : List Nat), t.length = m → x ∉ t → on.length = n → of.length = n → (∀ y ∈ q.st ++ (x :: t), y < n) → (q.st ++ (x :: t)).length ≤ n →
    W3 (fun K j k => fairness_finder_visit_126 K (visitR K j) k (x : Int) s l ((q.c : Int), ()) (numl q.idx) (numl q.low) on (numl (q.st ++ (x :: t))) (numl of)) (fun y => ∃ on' of', y = ((), TS.out ⟨q.c, q.idx, q.low, on', q.st, of'⟩ s l) ∧ on'.length = n ∧ of'.length = n ∧
      (∀ y, on'.getD y false = if y ∈ x :: t then false else on.getD y false) ∧ ∀ y, of'.getD y 0 = if y ∈ x :: t then x else of.getD y 0) := by
  intro m
  induction m with
  | zero =>
    intro t on of ht hx hlo hlf hlt hlen
    have ht0 : t = [] := List.eq_nil_of_length_eq_zero ht
    subst ht0
    have hxn := hlt x (by simp)
    have hl1 : (q.st ++ [x]).length = q.st.length + 1 := by rw [List.length_append, List.length_singleton]
    have hw := wrapP (q.st ++ [x]).length (by omega) (by omega)
    have hlast : (q.st ++ [x]).getD ((q.st ++ [x]).length - 1) 0 = x := by rw [hl1, Nat.add_sub_cancel, getD_app2 (Nat.le_refl _), Nat.sub_self]; rfl
    have htk : (q.st ++ [x]).take ((q.st ++ [x]).length - 1) = q.st := by rw [hl1, Nat.add_sub_cancel, List.take_left]
    refine W3.step ?_
    simp only [fairness_finder_visit_126, numl_length, hw, Int.toNat_natCast, numl_getD, hlast, numl_take, htk, numl_set]
    refine W3.posd (by omega) (W3.posd (by omega) (W3.posd (by omega) (W3.posd (by omega) (W3.posd trivial (W3.ret ⟨on.set x false, of.set x x, rfl, by simpa using hlo, by simpa using hlf, fun y => ?_, fun y => ?_⟩)))))
    · rw [gset]
      by_cases hxy : x = y
      · rw [if_pos ⟨hxy, by omega⟩, if_pos (by simp [hxy])]
      · rw [if_neg (fun hh => hxy hh.1), if_neg (by simp [Ne.symm hxy])]
    · rw [gset]
      by_cases hxy : x = y
      · rw [if_pos ⟨hxy, by omega⟩, if_pos (by simp [hxy])]
      · rw [if_neg (fun hh => hxy hh.1), if_neg (by simp [Ne.symm hxy])]
  | succ m ih =>
    intro t on of ht hx hlo hlf hlt hlen
    obtain ⟨t', u, rfl⟩ : ∃ t' u, t = t' ++ [u] := by
      rcases List.eq_nil_or_concat t with h | ⟨t', u, h⟩
      · rw [h] at ht; simp at ht
      · exact ⟨t', u, by simpa using h⟩
    have hux : u ≠ x := fun h => hx (by simp [h])
    have hun := hlt u (by simp)
    have happ : q.st ++ (x :: (t' ++ [u])) = (q.st ++ (x :: t')) ++ [u] := by simp
    have hl1 : ((q.st ++ (x :: t')) ++ [u]).length = (q.st ++ (x :: t')).length + 1 := by rw [List.length_append, List.length_singleton]
    rw [happ] at hlen ⊢
    have hw := wrapP ((q.st ++ (x :: t')) ++ [u]).length (by omega) (by omega)
    have hlast : ((q.st ++ (x :: t')) ++ [u]).getD (((q.st ++ (x :: t')) ++ [u]).length - 1) 0 = u := by rw [hl1, Nat.add_sub_cancel, getD_app2 (Nat.le_refl _), Nat.sub_self]; rfl
    have htk : ((q.st ++ (x :: t')) ++ [u]).take (((q.st ++ (x :: t')) ++ [u]).length - 1) = q.st ++ (x :: t') := by rw [hl1, Nat.add_sub_cancel, List.take_left]
    refine W3.step ?_
    simp only [fairness_finder_visit_126, numl_length, hw, Int.toNat_natCast, numl_getD, hlast, numl_take, htk, numl_set]
    refine W3.posd (by omega) (W3.posd (by omega) (W3.posd (by omega) (W3.posd (by omega) (W3.negd (by omega) ?_))))
    refine (ih t' (on.set u false) (of.set u x) (by simpa using ht) (fun h => hx (List.mem_append_left _ h)) (by simpa using hlo) (by simpa using hlf) (fun y hy => hlt y (by rw [happ]; exact List.mem_append_left _ hy)) (by omega)).mono fun y hy => ?_
    obtain ⟨on', of', h1, h2, h3, h4, h5⟩ := hy
    have hm : ∀ y, y ∈ x :: (t' ++ [u]) ↔ y ∈ x :: t' ∨ y = u := fun y => by simp [or_assoc]
    refine ⟨on', of', h1, h2, h3, fun y => ?_, fun y => ?_⟩
    · rw [h4, gset]
      by_cases hy : y ∈ x :: t'
      · rw [if_pos hy, if_pos ((hm y).2 (.inl hy))]
      · rw [if_neg hy]
        by_cases huy : u = y
        · rw [if_pos ⟨huy, by omega⟩, if_pos ((hm y).2 (.inr huy.symm))]
        · rw [if_neg (fun hh => huy hh.1), if_neg (fun hh => ((hm y).1 hh).elim hy (fun h => huy h.symm))]
    · rw [h5, gset]
      by_cases hy : y ∈ x :: t'
      · rw [if_pos hy, if_pos ((hm y).2 (.inl hy))]
      · rw [if_neg hy]
        by_cases huy : u = y
        · rw [if_pos ⟨huy, by omega⟩, if_pos ((hm y).2 (.inr huy.symm))]
        · rw [if_neg (fun hh => huy hh.1), if_neg (fun hh => ((hm y).1 hh).elim hy (fun h => huy h.symm))]

/-- what a visit does -/
def VisitOk (s : SpaceV) (n : Nat) (l : List Bool) (w : Nat) : Prop := ∀ (gray : Nat → Prop) (q : TS) (x : Nat), TI s n l gray q → q.idx.countP (· == 0) = w → x < n → l.getD x false = false → q.idx.getD x 0 = 0 → (∀ g, gray g → Rch (outer s l) g x) →
  Wp (fun K j => fairness_finder_visit K j (x : Int) s l ((q.c : Int), ()) (numl q.idx) (numl q.low) q.on (numl q.st) (numl q.of)) (fun y => ∃ q' t, y = (((), ()), TS.out q' s l) ∧ Visited s n l gray q x q' t)

theorem arcs_loop (hs : Sys s n) (hl : l.length = n) {q : TS} (hq : TI s n l gray q) {x : Nat} (hx : x < n) (hlx : l.getD x false = false) (h0 : q.idx.getD x 0 = 0) (hg : ∀ g, gray g → Rch (outer s l) g x) {w : Nat} (hw : q.idx.countP (· == 0) = w) (ih : ∀ w' < w, VisitOk s n l w') :
    ∀ d i (q1 : TS) (t : List Nat), i + d = (arcs s x).length → Visiting s n l gray q x i q1 t → q1.idx.countP (· == 0) < w →
    W3 (fun K j k => fairness_finder_visit_122 K (visitR K j) k (x : Int) (arcs s x) ((arcs s x).length : Int) (i : Int) s l ((q1.c : Int), ()) (numl q1.idx) (numl q1.low) q1.on (numl q1.st) (numl q1.of)) (fun y => ∃ q' t', y = ((), TS.out q' s l) ∧ Visiting s n l gray q x (goals s x).length q' t') := by
  have htot := total_ge (s := s) hx
  have htt := hs.tot
  intro d
  induction d with
  | zero =>
    intro i q1 t h1 hv _
    refine W3.step ?_
    simp only [fairness_finder_visit_122]
    refine W3.negd (by omega) (W3.ret ⟨q1, t, rfl, ?_⟩)
    rw [goals_len, show (arcs s x).length = i by omega]
    exact hv
  | succ d ihd =>
    intro i q1 t h1 hv hw1
    have hil : i < (arcs s x).length := by omega
    have hig : i < (goals s x).length := by rw [goals_len]; exact hil
    have hgn := goals_at hs hil
    have hli := hv.inv.li
    have hll := hv.inv.ll
    have hlo := hv.inv.lo
    refine W3.step ?_
    simp only [fairness_finder_visit_122, wrapS i (by omega), Int.toNat_natCast, ato_def, hs.at' x i hil, numl_getD, numl_length]
    refine W3.posd (by omega) (W3.posd (by omega) (W3.posd (by omega) ?_))
    refine W3.iteb (fun hb => ?_) (fun hb => ?_)
    · exact ihd (i + 1) q1 t (by omega) (hv.skip fun hc => by rw [hb] at hc; simp at hc) hw1
    refine W3.posd (by omega) ?_
    refine W3.ited (fun hz => ?_) (fun hz => ?_)
    · have hz : q1.idx.getD ((goals s x).getD i 0) 0 = 0 := by omega
      have hy : (goals s x).getD i 0 ∈ outer s l x := mem_outer.2 ⟨hlx, getD_mem 0 hig, hb⟩
      have hvis := ih _ hw1 (fun y => gray y ∨ y = x) q1 _ hv.inv rfl hgn hb hz (fun g hg' => by
        rcases hg' with hg' | rfl
        · exact .tail (hg g hg') hy
        · exact .one hy)
      refine (W3.lift hvis).call fun y hy => ?_
      obtain ⟨q2, t2, rfl, hv2⟩ := hy
      have hll2 := hv2.inv.ll
      have hcle := hv2.cle
      simp only [TS.out, numl_length, numl_getD, min_eq, numl_set]
      refine W3.posd (by omega) (W3.posd (by omega) (W3.posd (by omega) ?_))
      have hcnt1 := hv.inv.cnt
      have hcnt2 := hv2.inv.cnt
      exact ihd (i + 1) { q2 with low := q2.low.set x (min (q2.low.getD ((goals s x).getD i 0) 0) (q2.low.getD x 0)) } (t ++ t2) (by omega) (hv.tree hq hx h0 hlx hig hb hz hv2) (by show q2.idx.countP (· == 0) < w; omega)
    · have hz : q1.idx.getD ((goals s x).getD i 0) 0 ≠ 0 := by omega
      refine W3.posd (by omega) ?_
      refine W3.iteb (fun ho => ?_) (fun ho => ?_)
      · simp only [min_eq, numl_set]
        refine W3.posd (by omega) (W3.posd (by omega) (W3.posd (by omega) ?_))
        exact ihd (i + 1) { q1 with low := q1.low.set x (min (q1.idx.getD ((goals s x).getD i 0) 0) (q1.low.getD x 0)) } t (by omega) (hv.back hq hx h0 hlx hig hb ((hv.inv.on _).1 ho)) hw1
      · refine ihd (i + 1) q1 t (by omega) (hv.skip fun _ => ⟨hz, fun hm => ?_⟩) hw1
        have := (hv.inv.on _).2 (by rw [hv.st]; exact List.mem_append_left _ hm)
        rw [ho] at this; simp at this

theorem visit_ok (hs : Sys s n) (hl : l.length = n) : ∀ w, VisitOk s n l w := by
  intro w
  induction w using Nat.strongRecOn with
  | ind w ih =>
    intro gray q x hq hw hx hlx h0 hg
    have hle := hs.le
    have hli := hq.li
    have hll := hq.ll
    have hlo := hq.lo
    have hstn := hq.stn
    have har := hs.ar
    have hcnt := hq.cnt
    have hpos : 0 < q.idx.countP (· == 0) := List.countP_pos_iff.2 ⟨q.idx.getD x 0, getD_mem 0 (by omega), by rw [h0]; rfl⟩
    have hc := countP_set0 (l := q.idx) (i := x) (v := q.c + 1) (by omega) h0 (by omega)
    have hstart := Visiting.start hq hx hlx h0 hg
    refine Wp.step ?_
    simp only [fairness_finder_visit, fairness_finder_visit_body, numl_length, List.length_singleton, Int.toNat_natCast, arcs_def, wrapS q.c (by omega), numl_set, numl_snoc]
    refine Wp.posd (by omega) (Wp.posd (by omega) (Wp.posd (by omega) (Wp.posd (by omega) (Wp.posd (by omega) ?_))))
    have hloop := arcs_loop hs hl hq hx hlx h0 hg hw ih (arcs s x).length 0 _ [] (by omega) hstart (by show (q.idx.set x (q.c + 1)).countP (· == 0) < w; omega)
    refine (W3.diag hloop).call fun y hy => ?_
    obtain ⟨q1, t, rfl, hv⟩ := hy
    have hli1 := hv.inv.li
    have hll1 := hv.inv.ll
    simp only [TS.out, numl_length, numl_getD]
    refine Wp.posd (by omega) (Wp.posd (by omega) ?_)
    refine Wp.iten (fun hne => Wp.ret ⟨q1, x :: t, rfl, hv.stay hq h0 (by omega)⟩) (fun he => ?_)
    have hnd := hv.inv.nodup
    rw [hv.st] at hnd ⊢
    have hxt : x ∉ t := by
      have := (List.nodup_append.1 hnd).2.1
      exact (List.nodup_cons.1 this).1
    have hpop := pop_loop (s := s) (l := l) (n := n) { q1 with st := q.st } x (by omega) t.length t q1.on q1.of rfl hxt hv.inv.lo hv.inv.lf (fun y hy => idx_lt hv.inv (hv.inv.st y (by rw [hv.st]; exact hy))) (by have := hv.inv.stn; rw [hv.st] at this; exact this)
    refine (W3.diag hpop).call fun y hy => ?_
    obtain ⟨on', of', rfl, h1, h2, h3, h4⟩ := hy
    exact Wp.ret ⟨⟨q1.c, q1.idx, q1.low, on', q.st, of'⟩, [], rfl, hv.leave hq h0 (by omega) h1 h2 h3 h4⟩
end
end Go.Proofs.Yteadlocehjfpoaa.G
