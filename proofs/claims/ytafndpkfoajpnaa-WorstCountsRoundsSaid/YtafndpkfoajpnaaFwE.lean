/- The interpreter over typed plain data, and its soundness: part E. Nothing of the program stands here. -/
import Derived.Test.YtafndpkfoajpnaaFwD
import Derived.Orders
import Derived.Tactics
import Derived.LoopN
import Derived.Scope
import Derived.ChangeOld
import Derived.ChangeShapes
import Derived.ChangeSlices
import Derived.SizedLaws
import Derived.Below
import Derived.Carry
import Derived.OpenShut
import Derived.RowKit
import Derived.IntWalk
namespace Go.Fw
open Go

/-! ### A contract's use -/
def Lb.isOwn : Lb → Bool
  | .own _ => true
  | _ => false

/-- the place of a new object among the contract's -/
def newIdx (base : Nat) (o : List (Option Nat × OSlot)) (id : Nat) : Option Nat :=
  if base ≤ id then (match o[id - base]? with
    | some (none, _) => some (id - base)
    | _ => none) else none

/-- the contract's list of lists that stays at an object's place -/
noncomputable def pinAt (m : Mt) (o : List (Option Nat × OSlot)) (id : Nat) : Option Nat := by
  classical exact if h : ∃ j, ∃ i e, o[j]? = some (some i, .row2 e) ∧ look m.map i = some (.obj id none) then some (Classical.choose h) else none
theorem pinAt_some {m : Mt} {o : List (Option Nat × OSlot)} {id j : Nat} (h : pinAt m o id = some j) : ∃ i e, o[j]? = some (some i, .row2 e) ∧ look m.map i = some (.obj id none) := by
  unfold pinAt at h
  split at h
  · rename_i hx
    injection h with h
    subst h
    exact Classical.choose_spec hx
  · simp at h
theorem pinAt_none {m : Mt} {o : List (Option Nat × OSlot)} {id : Nat} (h : pinAt m o id = none) {j i : Nat} {e : GTy} (h1 : o[j]? = some (some i, .row2 e)) (h2 : look m.map i = some (.obj id none)) : False := by
  unfold pinAt at h
  split at h
  · simp at h
  · rename_i hx
    exact hx ⟨j, i, e, h1, h2⟩

def Gh.back (G G0 G' : Gh) (n base : Nat) (ids : Nat → Nat) (o : List (Option Nat × OSlot)) (pa : Nat → Option Nat) (gs : List Nat) : Gh where
  ow := fun b => if b < n ∧ (G0.ow b).isOwn = false then G.ow b else match G'.ow b with
    | .own (j :: r) => .own (ids j :: r)
    | .own [] => .out
    | .frz => .frz
    | .out => .out
  kd := fun id => match newIdx base o id with
    | some j => G'.kd j
    | none => G.kd id
  nd := fun id g i => match newIdx base o id with
    | some j => if g = 0 then G'.nd j 0 i else none
    | none => match pa id with
      | some j => if g = gs.getD j 0 then G'.nd j 0 i else G.nd id g i
      | none => G.nd id g i

theorem notOwn_iff (x : Lb) : (∀ l, x ≠ .own l) ↔ x.isOwn = false := by
  cases x <;> simp [Lb.isOwn]

theorem filterMap_inj {α : Type} (l : List (Option Nat × α)) : (l.filterMap (·.1)).Nodup → ∀ (i j : Nat) (n : Nat) (a b : α), l[i]? = some (some n, a) → l[j]? = some (some n, b) → i = j := by
  induction l with
  | nil => intro _ i j n a b h; simp at h
  | cons p l ih =>
    intro hn i j n a b hi hj
    cases hp : p.1 with
    | none =>
      simp only [List.filterMap_cons, hp] at hn
      cases i with
      | zero => simp at hi; subst hi; simp at hp
      | succ i =>
        cases j with
        | zero => simp at hj; subst hj; simp at hp
        | succ j => simp at hi hj; rw [ih hn i j n a b hi hj]
    | some q =>
      simp only [List.filterMap_cons, hp, List.nodup_cons] at hn
      cases i with
      | zero =>
        simp at hi; subst hi; simp at hp; subst hp
        cases j with
        | zero => rfl
        | succ j =>
          simp at hj
          exact absurd (show n ∈ l.filterMap (·.1) from List.mem_filterMap.2 ⟨(some n, b), List.mem_of_getElem? hj, rfl⟩) hn.1
      | succ i =>
        simp at hi
        cases j with
        | zero =>
          simp at hj; subst hj; simp at hp; subst hp
          exact absurd (show n ∈ l.filterMap (·.1) from List.mem_filterMap.2 ⟨(some n, a), List.mem_of_getElem? hi, rfl⟩) hn.1
        | succ j => simp at hj; rw [ih hn.2 i j n a b hi hj]

structure Used (G : Gh) (w : World) (objs : Nat → AObj) (base : Nat) (eff : Eff) (o : Out) (w' : World) (V' : Nat → Value) (G2 : Gh) : Prop where
  ex : eff.ex = o.ex
  ext : Ext G w G2 w'
  slot : ∀ q ∈ eff.slots, RepT G2 w' q.2 (V' q.1)
  obj : ∀ id, RepO G2 w' id (upds objs eff.objs id)
  wf : ∀ id, G2.kd id = none → ∀ g i, G2.nd id g i = none
  fresh : ∀ id k, G2.kd id = some k → G.kd id = some k ∨ (base ≤ id ∧ id < base + 8)

theorem use_spec {G : Gh} {w : World} {objs : Nat → AObj} {f : Nat → AVal} {V : Nat → Value} (hv : ∀ t, RepT G w (f t) (V t)) (ho : ∀ id, RepO G w id (objs id)) (hwf : ∀ id, G.kd id = none → ∀ g i, G.nd id g i = none)
    {p : Piece} {base : Nat} (hf : ∀ id, base ≤ id → id < base + 8 → G.kd id = none) {eff : Eff} (h : (p.use f base).ev objs = some eff) :
    ∃ x y G0, p.fn x = some y ∧ TRep G0 w (slotsMk id p.slots x.1) (objsMk id 0 p.objs x.2) V p.objs.length ∧
      ∀ o yo G' w' V', OutSel p.outs y o yo → OutRel o yo G0 w G' w' V' → ∃ G2, Used G w objs base eff o w' V' G2 := by
  unfold Piece.use at h
  obtain ⟨⟨xs, m1⟩, h1, h⟩ := ev_some h
  obtain ⟨⟨xo, m⟩, h2, h⟩ := ev_some h
  simp only at h2 h
  split at h
  · rename_i hok
    simp only [Bool.and_eq_true] at hok
    obtain ⟨hok, hw⟩ := hok
    unfold Mt.ok at hok
    simp only [Bool.and_eq_true] at hok
    obtain ⟨⟨hd, hvi⟩, hfl⟩ := hok
    have hvi' : ∀ v ∈ m.views, v ∉ m.ids := by
      intro v hvm
      rw [List.all_eq_true] at hvi
      have := hvi v hvm
      simpa using this
    obtain ⟨hrep, hfit, hlive⟩ := pick_spec hv ho (m0 := { map := [], views := [] }) (fun j id win hj => by simp [look] at hj) h1 h2 hd hvi' hw
    simp only [M.ev] at h
    cases hfn : p.fn (xs, xo) with
    | none => rw [hfn] at h; simp at h
    | some y =>
      rw [hfn] at h
      simp only [Option.bind_some] at h
      refine ⟨(xs, xo), y, G.sel objs m p.objs, hfn, hrep, fun o yo G' w' V' hsel hout => ?_⟩
      rw [putOuts_sel hsel] at h
      have homem := outSel_mem hsel
      unfold putOut at h
      split at h
      · rename_i hpins
        obtain ⟨gs, hgs, h⟩ := ev_some h
        injection (show some _ = some eff from h) with h; subst h
        have hgen := gensM_spec o.objs gs hgs
        unfold Mt.pinsOk at hpins
        simp only [Bool.and_eq_true, decide_eq_true_eq, List.all_eq_true] at hpins
        obtain ⟨⟨hlen, hpd⟩, hpins⟩ := hpins
        have hpn := distinct_nodup _ hpd
        have hinj := filterMap_inj o.objs hpn
        obtain ⟨hfra, htr, hpin⟩ := hout
        -- where an object of the contract is
        have hids : ∀ j, (∃ i s id, o.objs[j]? = some (some i, s) ∧ look m.map i = some (.obj id none) ∧ m.objId base o.objs j = id) ∨ ((∀ i s, o.objs[j]? ≠ some (some i, s)) ∧ m.objId base o.objs j = base + j) := by
          intro j
          unfold Mt.objId
          cases hoj : o.objs[j]? with
          | none => right; simp
          | some q =>
            obtain ⟨pi, s⟩ := q
            cases pi with
            | none => right; simp
            | some i =>
              have := hpins _ (List.mem_of_getElem? hoj)
              simp only at this
              split at this
              · rename_i id hl
                left
                exact ⟨i, s, id, rfl, hl, by simp [hl]⟩
              · simp at this
        have hlookk : ∀ i id, look m.map i = some (.obj id none) → ∃ k, G.kd id = some k ∧ (G.sel objs m p.objs).kd i = some k := by
          intro i id hl
          obtain ⟨_, k, hk⟩ := hlive i id none hl
          exact ⟨k, hk, hfit.obj i id none hl k hk k (shiftK_none k)⟩
        have hidmem : ∀ i id win, look m.map i = some (.obj id win) → id ∈ m.ids := by
          intro i id win hl
          exact List.mem_filterMap.2 ⟨_, look_mem _ _ _ hl, rfl⟩
        have hpa : ∀ id j, pinAt m o.objs id = some j → id ∈ m.ids ∧ ∃ k, G.kd id = some k ∧ (∀ g i, gs.getD j 0 ≤ g → G.nd id g i = none) := by
          intro id j hj
          obtain ⟨i, e, h1, h2⟩ := pinAt_some hj
          obtain ⟨i2, id2, e', l', g0, hole, h3, h4, h5, h6⟩ := (hgen j _ h1).1 ⟨i, e, rfl⟩
          simp only [Option.some.injEq] at h3
          subst h3
          rw [h2] at h4
          simp only [Option.some.injEq, Src.obj.injEq, and_true] at h4
          subst h4
          have hoid := ho id
          rw [h5] at hoid
          obtain ⟨b, off, c, hk, _, _, hz, _⟩ := hoid
          exact ⟨hidmem i id none h2, _, hk, fun g i hg => hz g i (by omega)⟩
        have hkd : ∀ j k, G'.kd j = some k → (G.back (G.sel objs m p.objs) G' w.heap.size base (m.objId base o.objs) o.objs (pinAt m o.objs) gs).kd (m.objId base o.objs j) = some k := by
          intro j k hk
          have hj : j < o.objs.length := by
            rcases Nat.lt_or_ge j o.objs.length with hh | hh
            · exact hh
            · rw [htr.fresh j hh] at hk; simp at hk
          rcases hids j with ⟨i, s, id, hoj, hl, hid⟩ | ⟨hnp, hid⟩
          · rw [hid]
            obtain ⟨k0, hk0, hk0'⟩ := hlookk i id hl
            have hk1 := hpin j i s hoj k0 hk0'
            rw [hk] at hk1; simp at hk1; subst hk1
            have hnew : newIdx base o.objs id = none := by
              unfold newIdx
              split
              · rename_i hle
                split
                · rename_i s' hs'
                  exfalso
                  have : id - base < o.objs.length := getElem?_lt hs'
                  have := hf id hle (by omega)
                  rw [this] at hk0; simp at hk0
                · rfl
              · rfl
            simp only [Gh.back, hnew]; exact hk0
          · rw [hid]
            have hnew : newIdx base o.objs (base + j) = some j := by
              unfold newIdx
              rw [if_pos (by omega), show base + j - base = j by omega]
              have hoj : o.objs[j]? = some o.objs[j] := List.getElem?_eq_getElem hj
              rw [hoj]
              generalize o.objs[j] = q at hoj
              obtain ⟨pi, s⟩ := q
              cases pi with
              | none => rfl
              | some i => exact absurd hoj (hnp i s)
            simp only [Gh.back, hnew]; exact hk
        have hfz : (o.flat = true) ∨ ∀ b, G'.fz b → (G.back (G.sel objs m p.objs) G' w.heap.size base (m.objId base o.objs) o.objs (pinAt m o.objs) gs).fz b := by
          simp only [Bool.or_eq_true, List.all_eq_true] at hfl
          rcases hfl with hfl | hfl
          · right
            intro b hb
            have hb : G'.ow b = .frz := hb
            show (G.back _ _ _ _ _ _ _ _).ow b = .frz
            simp only [Gh.back]
            split
            · rename_i hc
              have := (hfra.keep b hc.1 ((notOwn_iff _).2 hc.2)).2
              rw [hb] at this
              simp only [Gh.sel] at this
              split at this
              · split at this
                · simp at this
                · have hve : m.views = [] := by simpa using hfl
                  rw [hve] at this; simp at this
              · simp at this
              · assumption
              · simp at this
            · rw [hb]
          · exact .inl (hfl o homem)
        have how : ∀ j b r, G'.ow b = .own (j :: r) → (G.back (G.sel objs m p.objs) G' w.heap.size base (m.objId base o.objs) o.objs (pinAt m o.objs) gs).ow b = .own (m.objId base o.objs j :: r) := by
          intro j b r hb
          simp only [Gh.back]
          rw [if_neg, hb]
          rintro ⟨hlt, hno⟩
          have := (hfra.keep b hlt ((notOwn_iff _).2 hno)).2
          rw [hb] at this; rw [← this] at hno; simp [Lb.isOwn] at hno
        have hext : Ext G w (G.back (G.sel objs m p.objs) G' w.heap.size base (m.objId base o.objs) o.objs (pinAt m o.objs) gs) w' := by
          have hold : ∀ id k, G.kd id = some k → newIdx base o.objs id = none := by
            intro id k hk
            unfold newIdx
            split
            · rename_i hle
              split
              · rename_i s' hs'
                exfalso
                have : id - base < o.objs.length := getElem?_lt hs'
                have := hf id hle (by omega)
                rw [this] at hk; simp at hk
              · rfl
            · rfl
          refine ⟨hfra.os, hfra.tape, hfra.output, hfra.size, fun id k hk => ?_, fun id g i x hx => ?_, fun b hb hno => ?_⟩
          · simp only [Gh.back, hold id k hk]; exact hk
          · cases hkk : G.kd id with
            | none => rw [hwf id hkk] at hx; simp at hx
            | some k =>
              simp only [Gh.back, hold id k hkk]
              cases hpj : pinAt m o.objs id with
              | none => exact hx
              | some j =>
                simp only
                obtain ⟨_, _, _, hz⟩ := hpa id j hpj
                rw [if_neg]
                · exact hx
                · rintro rfl
                  rw [hz _ i (Nat.le_refl _)] at hx
                  simp at hx
          · have hsel : (G.sel objs m p.objs).ow b = G.ow b := by
              simp only [Gh.sel]
              generalize G.ow b = x at hno
              cases x with
              | own l => exact absurd rfl (hno l)
              | frz => rfl
              | out => rfl
            have hno' : ((G.sel objs m p.objs).ow b).isOwn = false := by rw [hsel]; exact (notOwn_iff _).1 hno
            refine ⟨(hfra.keep b hb ((notOwn_iff _).2 hno')).1, ?_⟩
            simp only [Gh.back]; rw [if_pos ⟨hb, hno'⟩]
        have hinjids : ∀ j j', j < o.objs.length → j' < o.objs.length → m.objId base o.objs j = m.objId base o.objs j' → j = j' := by
          intro j j' hj hj' he
          rcases hids j with ⟨i, s, id, hoj, hl, hid⟩ | ⟨hnp, hid⟩ <;> rcases hids j' with ⟨i', s', id', hoj', hl', hid'⟩ | ⟨hnp', hid'⟩
          · rw [hid, hid'] at he; subst he
            have e1 := invM_look _ (distinct_nodup _ hd) i id none (look_mem _ _ _ hl)
            have e2 := invM_look _ (distinct_nodup _ hd) i' id none (look_mem _ _ _ hl')
            rw [e1] at e2; simp at e2; subst e2
            exact hinj j j' i s s' hoj hoj'
          · rw [hid, hid'] at he
            obtain ⟨k, hk, _⟩ := hlookk i id hl
            rw [hf id (by omega) (by omega)] at hk; simp at hk
          · rw [hid, hid'] at he
            obtain ⟨k, hk, _⟩ := hlookk i' id' hl'
            rw [hf id' (by omega) (by omega)] at hk; simp at hk
          · rw [hid, hid'] at he; omega
        refine ⟨G.back (G.sel objs m p.objs) G' w.heap.size base (m.objId base o.objs) o.objs (pinAt m o.objs) gs, rfl, hext, fun q hq => ?_, fun id => ?_, fun id hk g i => ?_, fun id k hk => ?_⟩
        · -- the values
          obtain ⟨s, y', hs, rfl, hall⟩ := slotsMk_mem _ _ _ hq
          have := htr.slot _ (hall _root_.id)
          refine repT_ren hkd s.2 y' _ ?_ this
          rcases hfz with hfz | hfz
          · left
            simp only [Out.flat, Bool.and_eq_true, List.all_eq_true] at hfz
            exact hfz.1 s hs
          · exact .inr hfz
        · -- the objects
          rw [upds_append]
          by_cases hin : ∃ j, j < o.objs.length ∧ m.objId base o.objs j = id
          · obtain ⟨j, hj, rfl⟩ := hin
            have hjl : j < (o.objs.map (·.2)).length := by simpa using hj
            obtain ⟨yj, hyj, hyg⟩ := objsMkG_at (o.objs.map (·.2)) 0 yo.2 j _ (List.getElem?_eq_getElem hjl)
            simp only [Nat.zero_add] at hyj hyg
            have h3 := upds_at (objsMkG (m.objId base o.objs) gs 0 (o.objs.map (·.2)) yo.2) (upds objs (m.ids.map fun id => (id, AObj.dead))) j _ (hyg _ _) (fun i' q' hi' hq' => by
              have h4 := objsMkG_key _ _ _ _ _ i' q' hi'
              have h5 := getElem?_lt hi'
              rw [objsMkG_len] at h5
              simp only [Nat.zero_add] at h4
              rw [h4] at hq'
              exact hinjids i' j (by simpa using h5) hj hq')
            simp only at h3
            rw [h3]
            have h6 := htr.obj j
            have h7 := upds_at (objsMk _root_.id 0 (o.objs.map (·.2)) yo.2) (fun _ => AObj.dead) j _ (hyj _root_.id) (fun i' q' hi' hq' => by
              have h4 := objsMk_key _ _ _ _ i' q' hi'
              simp at h4 hq'; omega)
            simp only [_root_.id] at h7
            rw [h7] at h6
            refine repO_ren hkd (how j) (gs.getD j 0) _ yj ?_ (fun e he => ?_) h6
            · rcases hfz with hfz | hfz
              · left
                simp only [Out.flat, Bool.and_eq_true, List.all_eq_true] at hfz
                have := hfz.2 o.objs[j] (List.getElem_mem hj)
                simpa using this
              · exact .inr hfz
            · -- a list of lists is new
              have hsj : o.objs[j]? = some (o.objs[j].1, .row2 e) := by
                rw [List.getElem?_eq_getElem hj]
                have : o.objs[j].2 = .row2 e := by simpa using he
                rw [← this]
              rcases hids j with ⟨i, s, id, hoj, hl, hid⟩ | ⟨hnp, hid⟩
              · rw [hoj] at hsj
                simp only [Option.some.injEq, Prod.mk.injEq] at hsj
                obtain ⟨_, rfl⟩ := hsj
                rw [hid]
                obtain ⟨k0, hk0, _⟩ := hlookk i id hl
                have hnew : newIdx base o.objs id = none := by
                  unfold newIdx
                  split
                  · rename_i hle
                    split
                    · rename_i s' hs'
                      exfalso
                      have : id - base < o.objs.length := getElem?_lt hs'
                      have := hf id hle (by omega)
                      rw [this] at hk0; simp at hk0
                    · rfl
                  · rfl
                cases hpj : pinAt m o.objs id with
                | none => exact (pinAt_none hpj hoj hl).elim
                | some j' =>
                  obtain ⟨i', e', h8, h9⟩ := pinAt_some hpj
                  have hj' : j' = j := by
                    refine hinjids j' j (getElem?_lt h8) hj ?_
                    rw [hid]
                    unfold Mt.objId
                    rw [h8]
                    simp [h9]
                  subst hj'
                  obtain ⟨_, _, _, hz⟩ := hpa id _ hpj
                  simp only [Gh.back, hnew, hpj]
                  exact ⟨fun i => by rw [if_pos trivial], fun g i hg => by rw [if_neg (by omega)]; exact hz g i (by omega)⟩
              · have hg0 : gs.getD j 0 = 0 := (hgen j _ hsj).2 (by
                  rintro ⟨i, e', he'⟩
                  rw [he'] at hsj
                  exact hnp i _ hsj)
                rw [hg0]
                have hnew : newIdx base o.objs (base + j) = some j := by
                  unfold newIdx
                  rw [if_pos (by omega), show base + j - base = j by omega, hsj]
                  cases hp : o.objs[j].1 with
                  | none => rfl
                  | some i => rw [hp] at hsj; exact absurd hsj (hnp i _)
                rw [hid]
                simp only [Gh.back, hnew, if_true]
                exact ⟨fun i => trivial, fun g i hg => by rw [if_neg (by omega)]⟩
          · rw [upds_not _ (objsMkG _ _ _ _ _)]
            · by_cases hmem : id ∈ m.ids
              · have : ∀ (f : Nat → AObj) (l : List Nat), id ∈ l → upds f (l.map fun id => (id, AObj.dead)) id = .dead := by
                  intro f l
                  induction l generalizing f with
                  | nil => intro h; simp at h
                  | cons q l ih =>
                    intro hm
                    simp only [List.map_cons, upds]
                    by_cases hmm : id ∈ l
                    · exact ih _ hmm
                    · have : id = q := by simpa [hmm] using hm
                      subst this
                      rw [upds_not, upd_same]
                      intro v hv'; simp at hv'; obtain ⟨q, h1, h2, _⟩ := hv'; exact hmm (h2 ▸ h1)
                rw [this _ _ hmem]; exact trivial
              · rw [upds_not _ _ _ (by intro v hv'; simp at hv'; obtain ⟨q, h1, h2, _⟩ := hv'; exact hmem (h2 ▸ h1))]
                have hinv : invM m.map id = none := by
                  cases hi : invM m.map id with
                  | none => rfl
                  | some j => exact absurd (invM_mem _ _ _ hi) hmem
                cases hobj : objs id with
                | dead => exact trivial
                | _ =>
                  rw [← hobj]
                  have hkk : ∃ k, G.kd id = some k := by
                    have := ho id
                    rw [hobj] at this
                    first
                      | (obtain ⟨b, cs, hk, _⟩ := this; exact ⟨_, hk⟩)
                      | (obtain ⟨b, off, c, hk, _⟩ := this; exact ⟨_, hk⟩)
                      | (obtain ⟨b, hk, _⟩ := this; exact ⟨_, hk⟩)
                  obtain ⟨k, hk⟩ := hkk
                  have hnew : newIdx base o.objs id = none := by
                    unfold newIdx
                    split
                    · rename_i hle
                      split
                      · rename_i s' hs'
                        exfalso
                        have : id - base < o.objs.length := getElem?_lt hs'
                        have := hf id hle (by omega)
                        rw [this] at hk; simp at hk
                      · rfl
                    · rfl
                  have hpn0 : pinAt m o.objs id = none := by
                    cases hpj : pinAt m o.objs id with
                    | none => rfl
                    | some j => exact absurd (hpa id j hpj).1 hmem
                  refine RepO.frame hext (fun g i => by simp only [Gh.back, hnew, hpn0]) (fun b r hb hob => ?_) (ho id)
                  have hno : ((G.sel objs m p.objs).ow b).isOwn = false := by
                    simp only [Gh.sel, hob, hinv]
                    split <;> rfl
                  refine ⟨(hfra.keep b hb ((notOwn_iff _).2 hno)).1, ?_⟩
                  simp only [Gh.back]; rw [if_pos ⟨hb, hno⟩]
            · intro v hv'
              obtain ⟨i', hi'⟩ := List.getElem?_of_mem hv'
              have h4 := objsMkG_key _ _ _ _ _ i' _ hi'
              have h5 := getElem?_lt hi'
              rw [objsMkG_len] at h5
              simp only [Nat.zero_add] at h4
              exact hin ⟨i', by simpa using h5, h4.symm⟩
        · simp only [Gh.back] at hk ⊢
          split at hk
          · rename_i j hj
            split
            · exact htr.wf j hk 0 i
            · rfl
          · split
            · rename_i j hj
              obtain ⟨_, k, hk2, _⟩ := hpa id j hj
              rw [hk2] at hk
              simp at hk
            · exact hwf id hk g i
        · simp only [Gh.back] at hk
          split at hk
          · rename_i j hj
            right
            unfold newIdx at hj
            split at hj
            · rename_i hle
              split at hj
              · rename_i s' hs'
                have := getElem?_lt hs'
                exact ⟨hle, by omega⟩
              · simp at hj
            · simp at hj
          · exact .inl hk
      · simp [M.ev] at h
  · simp [M.ev] at h

end Go.Fw
namespace Go.Fw
open Go

/-- the functions of an environment keep their contracts -/
structure EnvFn (P : Program) (E : Env) : Prop where
  fn : ∀ f p, E.fn f = some p → FnSound P f p ∧ ∃ fn, P.funcs[f]? = some fn ∧ fn.body.isSome = true ∧ (fn.name == "runtime.NumGoroutine") = false

section
variable {P : Program} {E : Env} {o : Oper}

theorem allR_capList {G : Gh} {w : World} : ∀ (c : AVal) (vs : List Value), RepG G w c true vs → AllR (RepT G w) (capList c) vs
  | .nil, vs, h => by rw [show vs = [] from h]; exact trivial
  | .cons a b, vs, h => by
    obtain ⟨v, vs', rfl, h1, h2⟩ := h
    refine ⟨?_, allR_capList b vs' h2⟩
    cases a <;> first | exact h1 | exact trivial | (simp [ValOf, AVal.isAgg, RepG] at h1)
  | .none, _, h => h.elim
  | .val _ _, _, h => by simp [RepG] at h
  | .nilS, _, h => by simp [RepG] at h
  | .hdr _ _, _, h => by simp [RepG] at h
  | .hdr2 _ _ _ _, _, h => by simp [RepG] at h
  | .ptr _ _ _, _, h => by simp [RepG] at h
  | .eptr _ _ _ _, _, h => by simp [RepG] at h
  | .eptr2 _ _ _ _ _ _, _, h => by simp [RepG] at h
  | .fptr _ _, _, h => by simp [RepG] at h
  | .tup _, _, h => h.elim
  | .clo _ _, _, h => by simp [RepG] at h
  | .mref _, _, h => by simp [RepG] at h
  | .opq, _, h => by simp [RepG] at h

theorem allR_append {α β : Type} {R : α → β → Prop} : ∀ {l : List α} {m : List β} {l' : List α} {m' : List β}, AllR R l m → AllR R l' m' → AllR R (l ++ l') (m ++ m')
  | [], [], _, _, _, h' => h'
  | [], _ :: _, _, _, h, _ => h.elim
  | _ :: _, [], _, _, h, _ => h.elim
  | _ :: _, _ :: _, _, _, h, h' => ⟨h.1, allR_append h.2 h'⟩

theorem argList_rep {G : Gh} {w : World} : ∀ (l : List AVal) (vs : List Value), AllR (RepT G w) l vs → ∀ t, RepT G w (argList l t) (vs.getD t undef)
  | [], _, _, _ => trivial
  | a :: l, [], h, _ => h.elim
  | a :: l, v :: vs, h, t => by
    cases t with
    | zero => exact h.1
    | succ t => simpa [argList] using argList_rep l vs h.2 t

theorem sound_call (hF : EnvFn P E) {f : Operand} {args : Array Operand} {ts : Array TypeId} (h : o.op = .call { callee := .value f, args := args, argTypes := ts }) : Sound P E o := by
  intro G w s a base r hr hf he next Q hn
  simp only [opM, h] at he
  unfold callM at he
  have hfv := evalA_rep hr f
  split at he
  · rename_i fid caps hfa
    rw [hfa] at hfv
    obtain ⟨_, vals, hfe, hcaps⟩ := hfv
    simp at hfe
    split at he
    · rename_i p hp
      obtain ⟨eff, hu, he⟩ := ev_some he
      split at he
      · rename_i v hsl
        injection (show some _ = some r from he) with he; subst he
        obtain ⟨hsound, fn, hfn, hbody, hname⟩ := hF.fn fid p hp
        have hall : AllR (RepT G w) (args.toList.map (evalA s.tmps) ++ capList caps) ((args.map a.eval ++ vals).toList) := by
          rw [Array.toList_append, Array.toList_map]
          exact allR_append (allR_args hr args.toList) (allR_capList caps _ hcaps)
        have hv : ∀ t, RepT G w (argList (args.toList.map (evalA s.tmps) ++ capList caps) t) ((args.map a.eval ++ vals).getD t undef) := by
          intro t
          have := argList_rep _ _ hall t
          rwa [List.getD_eq_getElem?_getD, Array.getElem?_toList, ← Array.getD_eq_getD_getElem?] at this
        obtain ⟨x, y, G0, hxy, htr, hback⟩ := use_spec hv hr.obj hr.wf hf hu
        have hcalls := hsound x y hxy G0 w (args.map a.eval ++ vals) htr
        have hrun : (execOp a.eval o).run P w = .ok (.enter fid (args.map a.eval ++ vals)) w := by
          have hb : fn.body.isNone = false := by cases hb : fn.body <;> simp [hb] at hbody ⊢
          have hname' : ¬ fn.name = "runtime.NumGoroutine" := by simpa using hname
          have hb' : ¬ fn.body = none := by intro hc; rw [hc] at hbody; simp at hbody
          simp [execOp, h, resolve, Deferred.ofValue, hfe, invoke, callFunc, hfn, hb', hname']
        unfold Oper.wp
        rw [hrun]
        simp only [Oper.upon]
        refine hcalls.mono fun e w' hh => ?_
        obtain ⟨v', rfl, o', yo, G', hsel, hout⟩ := hh
        obtain ⟨G2, hused⟩ := hback o' yo G' w' _ hsel hout
        exact hn v' w' G2 ⟨hused.ext, hused.slot (0, v) (by rw [hsl]; simp), hused.obj, hused.wf, hused.fresh⟩
      · simp [M.ev] at he
    · simp [M.ev] at he
  · simp [M.ev] at he

theorem sound_op (hE : EnvTy P E) (hF : EnvFn P E) (o : Oper) : Sound P E o := by
  have bad : (∀ ρ base objs, (opM E o.op ρ base).ev objs = none) → Sound P E o := by
    intro hb G w s a base r hr hf he
    rw [hb] at he; simp at he
  cases h : o.op with
  | move x => exact sound_move h
  | assign x => exact sound_assign h
  | pick c x y => exact sound_pick h
  | alloc t => exact sound_alloc hE h
  | box t x => exact sound_box h
  | build t ps => exact sound_build hE h
  | buildSlice t n ps => exact sound_buildSlice hE h
  | load t x => exact sound_load hE h
  | store t x y => exact sound_store hE h
  | nilCheck x => exact sound_nilCheck h
  | binOp op t x y u => exact sound_binOp hE h
  | unOp op t x => exact sound_unOp h
  | convert s d x => exact sound_convert hE h
  | makeFunc fn first caps =>
    cases fn with
    | func f => exact sound_makeFunc h
    | _ => exact bad fun ρ base objs => by rw [h]; rfl
  | makeMap t r =>
    cases r with
    | none => exact sound_makeMap h
    | some x => exact bad fun ρ base objs => by rw [h]; rfl
  | makeSlice t n c => exact sound_make hE h
  | slice t x lo hi mx =>
    cases mx with
    | none => exact sound_slice hE h
    | some m => exact bad fun ρ base objs => by rw [h]; rfl
  | fieldAddr t x f => exact sound_fieldAddr hE h
  | field t x f => exact sound_field hE h
  | indexAddr t x i => exact sound_indexAddr hE h
  | index t x i => exact sound_index hE h
  | lookup t m i ok => exact sound_lookup hE h
  | mapUpdate t m k x => exact sound_mapUpdate hE h
  | extract t i => exact sound_extract h
  | call c =>
    obtain ⟨callee, args, ts⟩ := c
    cases callee with
    | value f => exact sound_call hF h
    | invoke r m => exact bad fun ρ base objs => by rw [h]; rfl
    | builtin b =>
      cases b with
      | len =>
        intro G w s a base r hr hf he
        have he' := he
        simp only [opM, h, builtinM] at he'
        split at he'
        · rename_i t x htys hargs
          have hts : ∃ t', ts.toList = [t'] := by
            cases htl : ts.toList with
            | nil => rw [htl] at htys; simp at htys
            | cons t' r' => rw [htl] at htys; simp at htys; exact ⟨t', by rw [htys.2]⟩
          obtain ⟨t', hts⟩ := hts
          have hx : ∃ x', args = #[x'] := by
            cases hal : args.toList with
            | nil => rw [hal] at hargs; simp at hargs
            | cons x' r' => rw [hal] at hargs; simp at hargs; exact ⟨x', by apply Array.ext'; rw [hal, hargs.2]⟩
          obtain ⟨x', rfl⟩ := hx
          exact sound_len hE hts h G w s a base r hr hf he
        · simp [M.ev] at he'
      | append =>
        intro G w s a base r hr hf he
        have he' := he
        simp only [opM, h, builtinM] at he'
        split at he'
        · rename_i t u x y htys hargs
          have hts : ∃ t' u', ts.toList = [t', u'] := by
            cases htl : ts.toList with
            | nil => rw [htl] at htys; simp at htys
            | cons t' r' =>
              cases r' with
              | nil => rw [htl] at htys; simp at htys
              | cons u' r'' => rw [htl] at htys; simp at htys; exact ⟨t', u', by rw [htys.2.2]⟩
          obtain ⟨t', u', hts⟩ := hts
          have hx : ∃ x' y', args = #[x', y'] := by
            cases hal : args.toList with
            | nil => rw [hal] at hargs; simp at hargs
            | cons x' r' =>
              cases r' with
              | nil => rw [hal] at hargs; simp at hargs
              | cons y' r'' => rw [hal] at hargs; simp at hargs; exact ⟨x', y', by apply Array.ext'; rw [hal, hargs.2.2]⟩
          obtain ⟨x', y', rfl⟩ := hx
          exact sound_append hE hts h G w s a base r hr hf he
        · simp [M.ev] at he'
      | max => exact sound_minMax (mx := true) h
      | min => exact sound_minMax (mx := false) h
      | _ => exact bad fun ρ base objs => by rw [h]; rfl
  | _ => exact bad fun ρ base objs => by rw [h]; rfl

/-! ### Only the operands count -/
theorem optInt_congr {ρ ρ' : Operand → AVal} {x : Option Operand} (h : ∀ y ∈ x.toArray, ρ y = ρ' y) : optInt ρ x = optInt ρ' x := by
  cases x with
  | none => rfl
  | some y => simp only [optInt]; rw [h y (by simp)]

theorem opM_congr {ρ ρ' : Operand → AVal} (op : Op) (base : Nat) (h : ∀ x ∈ op.operands, ρ x = ρ' x) : opM E op ρ base = opM E op ρ' base := by
  have pairs : ∀ ps : Array (Nat × Operand), (∀ x ∈ ps.map (·.2), ρ x = ρ' x) → (ps.toList.map fun p => (p.1, ρ p.2)) = (ps.toList.map fun p => (p.1, ρ' p.2)) := fun ps hp =>
    List.map_congr_left fun p hm => by rw [hp p.2 (by simp; exact ⟨p.1, by simpa using hm⟩)]
  have lst : ∀ xs : Array Operand, (∀ x ∈ xs, ρ x = ρ' x) → xs.toList.map ρ = xs.toList.map ρ' := fun xs hx => List.map_congr_left fun x hm => hx x (by simpa using hm)
  cases op <;> simp only [Op.operands] at h
  case move x => simp only [opM, h x (by simp)]
  case assign x => simp only [opM, h x (by simp)]
  case pick c x y => simp only [opM, h c (by simp), h x (by simp), h y (by simp)]
  case alloc t => rfl
  case box t x => simp only [opM, h x (by simp)]
  case build t ps => simp only [opM]; rw [pairs ps fun x hx => h x (by simpa using hx)]
  case buildSlice t n ps => simp only [opM]; rw [pairs ps fun x hx => h x (by simpa using hx)]
  case load t x => simp only [opM, h x (by simp)]
  case store t x y => simp only [opM, h x (by simp), h y (by simp)]
  case nilCheck x => simp only [opM, h x (by simp)]
  case binOp op t x y u => simp only [opM, h x (by simp), h y (by simp)]
  case unOp op t x => simp only [opM, h x (by simp)]
  case convert s d x => simp only [opM, h x (by simp)]
  case makeFunc fn first caps =>
    cases fn <;> try rfl
    rename_i f
    have h1 := lst caps fun c hc => h c (by simp; exact .inr (by simpa using hc))
    have A : ∀ ρ'' : Operand → AVal, opM E (.makeFunc (.func f) first caps) ρ'' base = if first.toList.isEmpty && (caps.toList.map ρ'').all (fun v => match v with | .none => false | .tup _ => false | _ => true) then retV (.clo f ((caps.toList.map ρ'').foldr AVal.cons .nil)) else .fail := by
      intro ρ''
      rw [List.all_map, List.foldr_map]; rfl
    rw [A, A, h1]
  case makeMap t r => cases r <;> rfl
  case makeSlice t n c => simp only [opM, h n (by simp), h c (by simp)]
  case slice t x lo hi mx =>
    cases mx with
    | some m => rfl
    | none =>
      simp only [opM]
      rw [h x (by simp), optInt_congr (x := lo) fun y hy => h y (by simp; simp at hy; exact .inr (.inl hy)), optInt_congr (x := hi) fun y hy => h y (by simp; simp at hy; exact .inr (.inr hy))]
  case fieldAddr t x f => simp only [opM, h x (by simp)]
  case field t x f => simp only [opM, h x (by simp)]
  case indexAddr t x i => simp only [opM, h x (by simp), h i (by simp)]
  case index t x i => simp only [opM, h x (by simp), h i (by simp)]
  case lookup t m i ok => simp only [opM, h m (by simp), h i (by simp)]
  case mapUpdate t m k x => simp only [opM, h m (by simp), h k (by simp), h x (by simp)]
  case extract t i => simp only [opM, h t (by simp)]
  case call c =>
    obtain ⟨callee, args, ts⟩ := c
    simp only [Call.operands] at h
    cases callee with
    | value f => simp only [opM]; rw [h f (by simp), lst args fun x hx => h x (by simp; exact .inr hx)]
    | invoke r m => rfl
    | builtin b => simp only [opM]; rw [lst args fun x hx => h x (by simpa using hx)]
  all_goals rfl

end
end Go.Fw
namespace Go.Fw
open Go

/-! ### Evaluation -/
theorem eval_andThen {α β : Type} (m : M α) (f : α → M β) : (m.andThen f).eval = m.eval.bind fun a => (f a).eval := by
  induction m with
  | ret a => rfl
  | fail => rfl
  | ite b x y ihx ihy => simp only [M.andThen, M.eval]; split <;> assumption
  | bind m k ih =>
    simp only [M.andThen, M.eval]
    cases m with
    | none => rfl
    | some x => exact ih x
  | case y g h ihg ihh =>
    cases y with
    | inl a => exact ihg a
    | inr b => exact ihh b
  | rd id k ih => rfl
  | opt m => cases m <;> rfl

theorem eval_some {α β : Type} {m : M α} {f : α → M β} {b : β} (h : (m.andThen f).eval = some b) : ∃ a, m.eval = some a ∧ (f a).eval = some b := by
  rw [eval_andThen] at h
  cases hm : m.eval with
  | none => simp [hm] at h
  | some a => exact ⟨a, rfl, by simpa [hm] using h⟩

theorem eval_ite {α : Type} {b : Bool} {x y : M α} {r : α} (h : (M.ite b x y).eval = some r) : (b = true ∧ x.eval = some r) ∨ (b = false ∧ y.eval = some r) := by
  simp only [M.eval] at h
  cases b
  · exact .inr ⟨rfl, by simpa using h⟩
  · exact .inl ⟨rfl, by simpa using h⟩

/-! ### One operation of a region -/
def putX (s : St) (o : Oper) (v : AVal) (w : List (Nat × AObj)) : St := { s with tmps := putA s o v, objs := upds s.objs w }

theorem evalA_agree {f g : Nat → AVal} {x : Operand} (h : ∀ t, x = .tmp t → f t = g t) : evalA f x = evalA g x := by
  cases x <;> first | rfl | exact h _ rfl

theorem forkM_eval {g : Bool} {r r' : Res} (h : (forkM g r).eval = some r') : r' = r := by
  unfold forkM at h
  split at h
  · split at h
    · rename_i b hb
      obtain ⟨v, w⟩ := r
      simp only at hb
      subst hb
      cases b <;> simp [M.eval] at h <;> exact h.symm
    · simp [M.eval] at h; exact h.symm
  · simp [M.eval] at h; exact h.symm

theorem forkM_some (g : Bool) (r : Res) : (forkM g r).eval = some r := by
  unfold forkM
  split
  · split
    · rename_i b hb
      obtain ⟨v, w⟩ := r
      simp only at hb
      subst hb
      cases b <;> rfl
    · rfl
  · rfl

theorem goM_spec {E : Env} {ops : List Oper} {base i : Nat} {o : Oper} {s s' : St} {l : Log} (h : (goM E ops base i o s).eval = some (s', l)) :
    ∃ r, ((opM E o.op (evalA s.tmps) (base + 8 * i)).res s.objs []).eval = some (r, l.reads) ∧ s' = putX s o r.v r.w ∧ l.writes = r.w.map (·.1) := by
  obtain ⟨⟨r, rd⟩, h1, h2⟩ := eval_some h
  obtain ⟨r', h3, h2⟩ := eval_some h2
  have := forkM_eval h3
  simp only at this
  subst this
  simp only [M.eval, Option.some.injEq, Prod.mk.injEq] at h2
  obtain ⟨rfl, rfl⟩ := h2
  exact ⟨r', h1, rfl, rfl⟩

theorem goM_congr {E : Env} {ops : List Oper} {base i : Nat} {o : Oper} {s s2 : St} {l : Log} {r : Res} (h : ((opM E o.op (evalA s.tmps) (base + 8 * i)).res s.objs []).eval = some (r, l.reads)) (hw : l.writes = r.w.map (·.1))
    (ht : ∀ t, .tmp t ∈ o.op.operands → s2.tmps t = s.tmps t) (ho : ∀ x ∈ l.reads, s2.objs x = s.objs x) : (goM E ops base i o s2).eval = some (putX s2 o r.v r.w, l) := by
  have h1 : opM E o.op (evalA s2.tmps) (base + 8 * i) = opM E o.op (evalA s.tmps) (base + 8 * i) := opM_congr o.op _ fun x hx => evalA_agree fun t hxt => ht t (hxt ▸ hx)
  have h2 : ((opM E o.op (evalA s2.tmps) (base + 8 * i)).res s2.objs []).eval = some (r, l.reads) := by rw [h1]; exact res_congr _ _ _ _ h ho
  unfold goM
  rw [eval_andThen, h2]
  simp only [Option.bind_some]
  rw [eval_andThen, forkM_some]
  obtain ⟨rd, wr⟩ := l
  simp only at hw
  subst hw
  rfl

def dstOk (o : Oper) (n : Nat) : Bool := match o.dst with | some d => decide (d < n) | none => true
def stepB (E : Env) (ops : List Oper) (base : Nat) (i : Nat) (o : Oper) (s : St) : M (St × Log) := match o.guard with
    | none => goM E ops base i o s
    | some (j, want) => match (ops[j]?).bind (·.dst) with
      | some d => match s.tmps d with
        | .val .bool b => match want with
          | true => .ite b (goM E ops base i o s) (skipM o s)
          | false => .ite b (skipM o s) (goM E ops base i o s)
        | .tup .nil => skipM o s
        | _ => .fail
      | none => .fail
theorem stepM_eq (E : Env) (ops : List Oper) (base : Nat) (i : Nat) (o : Oper) (s : St) : stepM E ops base i o s = if dstOk o s.nt then stepB E ops base i o s else .fail := rfl

theorem stepM_spec {E : Env} {ops : List Oper} {base i : Nat} {o : Oper} {s s' : St} {l : Log} (h : (stepM E ops base i o s).eval = some (s', l)) :
    ∃ v w, s' = putX s o v w ∧ l.writes = w.map (·.1) ∧
      ∀ s2 : St, s2.nt = s.nt → (∀ t ∈ o.looksAt ops.toArray, s2.tmps t = s.tmps t) → (∀ x ∈ l.reads, s2.objs x = s.objs x) → (stepM E ops base i o s2).eval = some (putX s2 o v w, l) := by
  rw [stepM_eq] at h
  split at h
  · rename_i hd
    unfold stepB at h
    have hop : ∀ t, .tmp t ∈ o.op.operands → t ∈ o.looksAt ops.toArray := fun t ht => List.mem_append_left _ (List.mem_filterMap.2 ⟨.tmp t, by simpa using ht, rfl⟩)
    cases hg : o.guard with
    | none =>
      simp only [hg] at h
      obtain ⟨r, h1, h2, h3⟩ := goM_spec h
      refine ⟨r.v, r.w, h2, h3, fun s2 hn ht ho => ?_⟩
      rw [stepM_eq, if_pos (by rw [hn]; exact hd)]
      unfold stepB
      simp only [hg]
      exact goM_congr h1 h3 (fun t hx => ht t (hop t hx)) ho
    | some jw =>
      obtain ⟨j, want⟩ := jw
      simp only [hg] at h
      split at h
      · rename_i d hdj
        have hlk : d ∈ o.looksAt ops.toArray := by
          refine List.mem_append_right _ ?_
          simp [hg]
          simpa using hdj
        split at h
        · rename_i b hb
          have key : ∀ (gos : Bool), (if gos then goM E ops base i o s else skipM o s).eval = some (s', l) → ∃ v w, s' = putX s o v w ∧ l.writes = w.map (·.1) ∧
              ∀ s2 : St, s2.nt = s.nt → (∀ t ∈ o.looksAt ops.toArray, s2.tmps t = s.tmps t) → (∀ x ∈ l.reads, s2.objs x = s.objs x) → (if gos then goM E ops base i o s2 else skipM o s2).eval = some (putX s2 o v w, l) := by
            intro gos hh
            cases gos with
            | true =>
              obtain ⟨r, h1, h2, h3⟩ := goM_spec hh
              exact ⟨r.v, r.w, h2, h3, fun s2 hn ht ho => goM_congr h1 h3 (fun t hx => ht t (hop t hx)) ho⟩
            | false =>
              simp only [Bool.false_eq_true, if_false, skipM, M.eval, Option.some.injEq, Prod.mk.injEq] at hh
              obtain ⟨rfl, rfl⟩ := hh
              exact ⟨.tup .nil, [], rfl, rfl, fun s2 _ _ _ => rfl⟩
          have hgo : (if (b == want) then goM E ops base i o s else skipM o s).eval = some (s', l) := by
            cases want <;> cases b <;> simpa [M.eval] using h
          obtain ⟨v, w, h1, h2, h3⟩ := key _ hgo
          refine ⟨v, w, h1, h2, fun s2 hn ht ho => ?_⟩
          have h4 := h3 s2 hn ht ho
          rw [stepM_eq, if_pos (by rw [hn]; exact hd)]
          unfold stepB
          simp only [hg, hdj, ht d hlk, hb]
          cases want <;> cases b <;> simpa [M.eval] using h4
        · rename_i hb
          simp only [skipM, M.eval, Option.some.injEq, Prod.mk.injEq] at h
          obtain ⟨rfl, rfl⟩ := h
          refine ⟨.tup .nil, [], rfl, rfl, fun s2 hn ht ho => ?_⟩
          rw [stepM_eq, if_pos (by rw [hn]; exact hd)]
          unfold stepB
          simp only [hg, hdj, ht d hlk, hb]
          rfl
        · simp [M.eval] at h
      · simp [M.eval] at h
  · simp [M.eval] at h

/-- the invariant of a walk -/
structure Inv (G : Gh) (w : World) (s : St) (a : Act) : Prop where
  rel : Rel G w s a
  sz : s.nt ≤ a.tmps.size

section
variable {P : Program} {E : Env}

theorem getD_set_self {α : Type} {a : Array α} {d : Nat} {v z : α} (h : d < a.size) : (a.setIfInBounds d v).getD d z = v := by
  simp [Array.getD_eq_getD_getElem?, h]
theorem getD_set_other {α : Type} {a : Array α} {d t : Nat} {v z : α} (h : d ≠ t) : (a.setIfInBounds d v).getD t z = a.getD t z := by
  simp [Array.getD_eq_getD_getElem?, Array.getElem?_setIfInBounds_ne h]

theorem put_size (a : Act) (d : Option Tmp) (v : Value) : (a.put d v).tmps.size = a.tmps.size := by
  cases d <;> simp [Act.put]

theorem put_other {a : Act} {d : Option Tmp} {v : Value} {t : Nat} (h : d ≠ some t) : (a.put d v).tmps.getD t undef = a.tmps.getD t undef := by
  cases d with
  | none => rfl
  | some d => exact getD_set_other fun e => h (by rw [e])

theorem rel_put {G G' : Gh} {w w' : World} {s : St} {a : Act} (hr : Rel G w s a) (hsz : s.nt ≤ a.tmps.size) {o : Oper} (hd : ∀ d, o.dst = some d → d < s.nt) {v : AVal} {val : Value} {ws : List (Nat × AObj)}
    (hx : Ext G w G' w') (hv : RepT G' w' v val) (ho : ∀ id, RepO G' w' id (upds s.objs ws id)) (hwf : ∀ id, G'.kd id = none → ∀ g i, G'.nd id g i = none) :
    Rel G' w' (putX s o v ws) (a.put o.dst val) where
  tmp := by
    intro t
    simp only [putX, putA]
    cases hdd : o.dst with
    | none => exact hx.repT (hr.tmp t)
    | some d =>
      by_cases ht : d = t
      · subst ht
        simp only [upd, if_true, Act.put]
        rw [getD_set_self (Nat.lt_of_lt_of_le (hd d hdd) hsz)]
        exact hv
      · simp only [upd, if_neg (Ne.symm ht), Act.put]
        rw [getD_set_other ht]
        exact hx.repT (hr.tmp t)
  obj := ho
  wf := hwf
  nodef := by
    cases o.dst <;> exact hr.nodef

theorem step_sound (hS : ∀ o, Sound P E o) {ops : List Oper} {base i : Nat} {o : Oper} {s s' : St} {l : Log} (h : (stepM E ops base i o s).eval = some (s', l))
    {G : Gh} {w : World} {a : Act} (hi : Inv G w s a) (hf : ∀ id, base + 8 * i ≤ id → id < base + 8 * i + 8 → G.kd id = none) {K : Act → World → Prop} {Q : Exit → Act → World → Prop}
    (hK : ∀ a' w' G', Inv G' w' s' a' → Ext G w G' w' → (∀ id k, G'.kd id = some k → G.kd id = some k ∨ (base + 8 * i ≤ id ∧ id < base + 8 * i + 8)) → a'.tmps.size = a.tmps.size →
      (∀ t, o.dst ≠ some t → a'.tmps.getD t undef = a.tmps.getD t undef) → K a' w') :
    if Region.wanted o (yielded ops.toArray a.tmps) then o.wp P a w K Q else K (a.put o.dst undef) w := by
  rw [stepM_eq] at h
  split at h
  · rename_i hd
    unfold stepB at h
    have hd' : ∀ d, o.dst = some d → d < s.nt := by intro d hdd; simpa [dstOk, hdd] using hd
    have goC : (goM E ops base i o s).eval = some (s', l) → o.wp P a w K Q := by
      intro hh
      obtain ⟨r, h1, rfl, h3⟩ := goM_spec hh
      refine hS o G w s a (base + 8 * i) r hi.rel hf (res_ev h1) K Q fun val w' G' hp => ?_
      exact hK _ _ G' ⟨rel_put hi.rel hi.sz hd' hp.ext hp.v hp.obj hp.wf, by rw [put_size]; exact hi.sz⟩ hp.ext hp.fresh (put_size _ _ _) fun t ht => put_other ht
    have skC : (skipM o s).eval = some (s', l) → K (a.put o.dst undef) w := by
      intro hh
      simp only [skipM, M.eval, Option.some.injEq, Prod.mk.injEq] at hh
      obtain ⟨rfl, rfl⟩ := hh
      exact hK _ _ G ⟨rel_put (ws := []) hi.rel hi.sz hd' (Ext.refl G w) ⟨#[], rfl, rfl⟩ hi.rel.obj hi.rel.wf, by rw [put_size]; exact hi.sz⟩ (Ext.refl G w) (fun id k hk => .inl hk) (put_size _ _ _) fun t ht => put_other ht
    cases hg : o.guard with
    | none =>
      simp only [hg] at h
      simp only [Region.wanted, hg, if_true]
      exact goC h
    | some jw =>
      obtain ⟨j, want⟩ := jw
      simp only [hg] at h
      split at h
      · rename_i d hdj
        split at h
        · rename_i b hb
          have hrep := hi.rel.tmp d
          rw [hb] at hrep
          have hy : yielded ops.toArray a.tmps j = some b := by
            unfold yielded
            have : a.tmps.getD d undef = .bool b := by simpa [RepT, ValOf, RepG, RepC, AVal.isAgg, GTy.isAgg] using hrep
            have hlt : a.tmps[d]? = some (.bool b) := by
              rw [Array.getD_eq_getD_getElem?] at this
              cases hx : a.tmps[d]? with
              | none => rw [hx] at this; simp [undef] at this
              | some x => rw [hx] at this; simp at this; rw [this]
            simp [hdj, hlt]
          simp only [Region.wanted, hg, hy]
          cases want <;> cases b <;> simp [M.eval] at h ⊢ <;> first | exact goC h | exact skC h
        · rename_i hb
          have hrep := hi.rel.tmp d
          rw [hb] at hrep
          have hy : yielded ops.toArray a.tmps j = none := by
            unfold yielded
            obtain ⟨vs, h1, h2⟩ := hrep
            cases hx : a.tmps[d]? with
            | none => simp [hdj, hx]
            | some x =>
              rw [Array.getD_eq_getD_getElem?, hx] at h1
              simp at h1
              simp [hdj, hx, h1]
          simp only [Region.wanted, hg, hy]
          simp
          exact skC h
        · simp [M.eval] at h
      · simp [M.eval] at h
  · simp [M.eval] at h

/-! ### The text's own order -/
theorem runOps_list (hS : ∀ o, Sound P E o) {ops : List Oper} {base : Nat} {Q : Exit → Act → World → Prop} : ∀ (r : List Oper) (i : Nat) (s s' : St) (l l' : List Log), (runOps E ops base i r s l).eval = some (s', l') →
    ∀ (G : Gh) (w : World) (a : Act), Inv G w s a → (∀ id, base + 8 * i ≤ id → G.kd id = none) →
      (∀ a' w' G', Inv G' w' s' a' → Ext G w G' w' → (∀ id k, G'.kd id = some k → G.kd id = some k ∨ (base + 8 * i ≤ id ∧ id < base + 8 * (i + r.length))) → a'.tmps.size = a.tmps.size →
        (∀ t, (∀ o ∈ r, o.dst ≠ some t) → a'.tmps.getD t undef = a.tmps.getD t undef) → Q .normal a' w') →
      wpList P ops.toArray Q r a w
  | [], i, s, s', l, l', h, G, w, a, hi, hf, hQ => by
    simp only [runOps, M.eval, Option.some.injEq, Prod.mk.injEq] at h
    obtain ⟨rfl, rfl⟩ := h
    exact hQ a w G hi (Ext.refl G w) (fun id k hk => .inl hk) rfl fun t _ => rfl
  | o :: r, i, s, s', l, l', h, G, w, a, hi, hf, hQ => by
    obtain ⟨⟨s1, l1⟩, h1, h2⟩ := eval_some h
    refine wpList_step fun K hK => step_sound hS h1 hi (fun id hid _ => hf id hid) fun a1 w1 G1 hi1 hx1 hf1 hs1 ht1 => hK _ _ ?_
    refine runOps_list hS r (i + 1) s1 s' _ l' h2 G1 w1 a1 hi1 (fun id hid => ?_) fun a' w' G' hi' hx' hf' hs' ht' => ?_
    · cases hk : G1.kd id with
      | none => rfl
      | some k =>
        rcases hf1 id k hk with hh | hh
        · rw [hf id (by omega)] at hh; simp at hh
        · omega
    · refine hQ a' w' G' hi' (hx1.trans hx') (fun id k hk => ?_) (hs'.trans hs1) fun t ht => ?_
      · rcases hf' id k hk with hh | hh
        · rcases hf1 id k hh with hh | hh
          · exact .inl hh
          · exact .inr (by simp only [List.length_cons]; omega)
        · exact .inr (by simp only [List.length_cons]; omega)
      · rw [ht' t fun o ho => ht o (List.mem_cons_of_mem _ ho), ht1 t (ht o (List.mem_cons_self ..))]
end
end Go.Fw
namespace Go.Fw
open Go

/-! ### Any order -/
structure Fx where
  o : Oper
  v : AVal
  w : List (Nat × AObj)
  l : Log

def Fx.put (s : St) (x : Fx) : St := putX s x.o x.v x.w
def pl (s : St) : List Fx → St
  | [] => s
  | x :: r => pl (x.put s) r
def selE (A : Nat → Bool) : Nat → List Fx → List Fx
  | _, [] => []
  | k, x :: r => if A k then x :: selE A (k + 1) r else selE A (k + 1) r

theorem upds_other {α : Type} {x : Nat} : ∀ (l : List (Nat × α)) (f : Nat → α), x ∉ l.map (·.1) → upds f l x = f x
  | [], _, _ => rfl
  | (i, v) :: r, f, h => by
    simp only [List.map_cons, List.mem_cons, not_or] at h
    simp only [upds]
    rw [upds_other r _ h.2]
    simp [upd, h.1]

theorem upds_base {α : Type} {x : Nat} : ∀ (l : List (Nat × α)) (f g : Nat → α), f x = g x → upds f l x = upds g l x
  | [], _, _, h => h
  | (i, v) :: r, f, g, h => by
    simp only [upds]
    refine upds_base r _ _ ?_
    simp only [upd]; split
    · rfl
    · exact h

theorem upds_in {α : Type} {x : Nat} : ∀ (l : List (Nat × α)) (f g : Nat → α), x ∈ l.map (·.1) → upds f l x = upds g l x
  | [], _, _, h => by simp at h
  | (i, v) :: r, f, g, h => by
    simp only [upds]
    by_cases hx : x ∈ r.map (·.1)
    · exact upds_in r _ _ hx
    · have : x = i := by simpa [hx] using h
      subst this
      exact upds_base r _ _ (by simp [upd])

def Fx.apt (x y : Fx) : Prop := (∀ d, x.o.dst = some d → y.o.dst ≠ some d) ∧ ∀ a, a ∈ x.w.map (·.1) → a ∉ y.w.map (·.1)

theorem put_comm' {x y : Fx} (h : x.apt y) (s : St) : y.put (x.put s) = x.put (y.put s) := by
  obtain ⟨h1, h2⟩ := h
  simp only [Fx.put, putX, St.mk.injEq, and_true]
  constructor
  · funext t
    simp only [putA]
    cases hx : x.o.dst with
    | none => cases hy : y.o.dst <;> rfl
    | some d =>
      cases hy : y.o.dst with
      | none => rfl
      | some e =>
        have := h1 d hx
        rw [hy] at this
        simp only [upd]
        by_cases h3 : t = e
        · subst h3
          have h4 : t ≠ d := fun hh => this (by rw [hh])
          simp [h4]
        · simp [h3]
  · funext a
    by_cases hx : a ∈ x.w.map (·.1)
    · have hy := h2 a hx
      rw [upds_other y.w _ hy]
      exact upds_in x.w _ _ hx
    · rw [upds_other x.w _ hx]
      exact upds_base y.w _ _ (upds_other x.w _ hx)

theorem pl_comm {x : Fx} : ∀ (l : List Fx), (∀ y ∈ l, x.apt y) → ∀ s, pl (x.put s) l = x.put (pl s l)
  | [], _, s => rfl
  | y :: r, h, s => by
    simp only [pl]
    rw [put_comm' (h y (List.mem_cons_self ..)), pl_comm r fun z hz => h z (List.mem_cons_of_mem _ hz)]

theorem selE_congr {A B : Nat → Bool} : ∀ (l : List Fx) (k : Nat), (∀ j, k ≤ j → j < k + l.length → A j = B j) → selE A k l = selE B k l
  | [], _, _ => rfl
  | x :: r, k, h => by
    simp only [selE]
    rw [h k (Nat.le_refl _) (by simp), selE_congr r (k + 1) fun j h1 h2 => h j (by omega) (by simp only [List.length_cons]; omega)]

theorem selE_mem {A : Nat → Bool} {y : Fx} : ∀ (l : List Fx) (k : Nat), y ∈ selE A k l → ∃ j, l[j]? = some y ∧ A (k + j) = true
  | [], _, h => by simp [selE] at h
  | x :: r, k, h => by
    simp only [selE] at h
    split at h
    · rename_i hk
      rcases List.mem_cons.1 h with rfl | h
      · exact ⟨0, by simp, by simpa using hk⟩
      · obtain ⟨j, h1, h2⟩ := selE_mem r (k + 1) h
        exact ⟨j + 1, by simpa using h1, by rw [← h2]; congr 1; omega⟩
    · obtain ⟨j, h1, h2⟩ := selE_mem r (k + 1) h
      exact ⟨j + 1, by simpa using h1, by rw [← h2]; congr 1; omega⟩

theorem pl_ins {A B : Nat → Bool} {i : Nat} {x : Fx} (hAi : A i = false) (hBi : B i = true) (hAB : ∀ j, j ≠ i → B j = A j) : ∀ (l : List Fx) (k : Nat), k ≤ i → l[i - k]? = some x →
    (∀ j y, i < k + j → l[j]? = some y → A (k + j) = true → x.apt y) → ∀ s, pl s (selE B k l) = x.put (pl s (selE A k l))
  | [], k, _, h, _, s => by simp at h
  | z :: r, k, hk, h, hy, s => by
    by_cases hki : k = i
    · subst hki
      simp at h
      subst h
      simp only [selE, hAi, hBi, if_true, Bool.false_eq_true, if_false, pl]
      rw [selE_congr (A := B) (B := A) r (k + 1) fun j h1 _ => hAB j (by omega)]
      refine pl_comm _ (fun y hm => ?_) s
      obtain ⟨j, h1, h2⟩ := selE_mem r (k + 1) hm
      exact hy (j + 1) y (by omega) (by simpa using h1) (by rw [← h2]; congr 1; omega)
    · have ih := pl_ins hAi hBi hAB r (k + 1) (by omega) (by rw [← h, show i - k = (i - (k + 1)) + 1 by omega]; simp)
        (fun j y h1 h2 h3 => hy (j + 1) y (by omega) (by simpa using h2) (by rw [← h3]; congr 1; omega))
      simp only [selE, hAB k hki]
      split
      · exact ih _
      · exact ih _

theorem pl_nt : ∀ (l : List Fx) (s : St), (pl s l).nt = s.nt ∧ (pl s l).next = s.next
  | [], _ => ⟨rfl, rfl⟩
  | x :: r, s => pl_nt r (x.put s)

theorem pl_tmp {A B : Nat → Bool} {t : Nat} : ∀ (l : List Fx) (k : Nat), (∀ j x, l[j]? = some x → x.o.dst = some t → A (k + j) = B (k + j)) → ∀ s s' : St, s.tmps t = s'.tmps t → (pl s (selE A k l)).tmps t = (pl s' (selE B k l)).tmps t
  | [], _, _, s, s', h => h
  | x :: r, k, hh, s, s', h => by
    have ih := pl_tmp (A := A) (B := B) (t := t) r (k + 1) fun j y h1 h2 => by
      have := hh (j + 1) y (by simpa using h1) h2
      rwa [show k + (j + 1) = k + 1 + j by omega] at this
    have hp : ∀ s1 : St, x.o.dst ≠ some t → (x.put s1).tmps t = s1.tmps t := by
      intro s1 hn
      simp only [Fx.put, putX, putA]
      cases hd : x.o.dst with
      | none => rfl
      | some d => simp only [upd]; rw [if_neg]; intro he; exact hn (by rw [hd, he])
    by_cases hd : x.o.dst = some t
    · have hk := hh 0 x (by simp) hd
      simp only [Nat.add_zero] at hk
      simp only [selE, hk]
      split
      · exact ih _ _ (by simp [Fx.put, putX, putA, hd, upd])
      · exact ih _ _ h
    · simp only [selE]
      split <;> split <;> (try simp only [pl]) <;> apply ih <;> first | exact h | simp only [hp _ hd, h]

theorem pl_obj {A B : Nat → Bool} {t : Nat} : ∀ (l : List Fx) (k : Nat), (∀ j x, l[j]? = some x → t ∈ x.w.map (·.1) → A (k + j) = B (k + j)) → ∀ s s' : St, s.objs t = s'.objs t → (pl s (selE A k l)).objs t = (pl s' (selE B k l)).objs t
  | [], _, _, s, s', h => h
  | x :: r, k, hh, s, s', h => by
    have ih := pl_obj (A := A) (B := B) (t := t) r (k + 1) fun j y h1 h2 => by
      have := hh (j + 1) y (by simpa using h1) h2
      rwa [show k + (j + 1) = k + 1 + j by omega] at this
    have hp : ∀ s1 : St, t ∉ x.w.map (·.1) → (x.put s1).objs t = s1.objs t := fun s1 hn => upds_other _ _ hn
    by_cases hd : t ∈ x.w.map (·.1)
    · have hk := hh 0 x (by simp) hd
      simp only [Nat.add_zero] at hk
      simp only [selE, hk]
      split
      · exact ih _ _ (upds_base _ _ _ h)
      · exact ih _ _ h
    · simp only [selE]
      split <;> split <;> (try simp only [pl]) <;> apply ih <;> first | exact h | simp only [hp _ hd, h]

/-- the text's order, effect by effect -/
theorem runOps_fx {E : Env} {ops : List Oper} {base : Nat} : ∀ (r : List Oper) (i : Nat) (s s' : St) (l l' : List Log), (runOps E ops base i r s l).eval = some (s', l') →
    ∃ fx : List Fx, s' = pl s fx ∧ l' = l ++ fx.map (·.l) ∧ fx.map (·.o) = r ∧ ∀ j x, fx[j]? = some x → x.l.writes = x.w.map (·.1) ∧
      ∀ s2 : St, s2.nt = s.nt → (∀ t ∈ x.o.looksAt ops.toArray, s2.tmps t = (pl s (fx.take j)).tmps t) → (∀ a ∈ x.l.reads, s2.objs a = (pl s (fx.take j)).objs a) →
        (stepM E ops base (i + j) x.o s2).eval = some (x.put s2, x.l)
  | [], i, s, s', l, l', h => by
    simp only [runOps, M.eval, Option.some.injEq, Prod.mk.injEq] at h
    obtain ⟨rfl, rfl⟩ := h
    exact ⟨[], rfl, by simp, rfl, fun j x hx => by simp at hx⟩
  | o :: r, i, s, s', l, l', h => by
    obtain ⟨⟨s1, l1⟩, h1, h2⟩ := eval_some h
    obtain ⟨v, w, rfl, hw, hc⟩ := stepM_spec h1
    obtain ⟨fx, h3, h4, h5, h6⟩ := runOps_fx r (i + 1) _ s' _ l' h2
    refine ⟨⟨o, v, w, l1⟩ :: fx, h3, by rw [h4]; simp, by simp [h5], fun j x hx => ?_⟩
    cases j with
    | zero =>
      simp at hx
      subst hx
      exact ⟨hw, fun s2 hn ht ho => hc s2 hn ht ho⟩
    | succ j =>
      obtain ⟨h7, h8⟩ := h6 j x (by simpa using hx)
      refine ⟨h7, fun s2 hn ht ho => ?_⟩
      rw [show i + (j + 1) = i + 1 + j by omega]
      exact h8 s2 hn ht ho

/-! ### What stands ahead -/
theorem aheadM_mem {k : Nat} {acc : List Nat} : ∀ (l : List Nat), (aheadM l acc).testBit k = true → ∃ e ∈ l, k = e ∨ (acc.getD e 0).testBit k = true
  | [], h => by simp [aheadM] at h
  | e :: l, h => by
    unfold aheadM at h
    rw [List.foldr_cons, Nat.testBit_or, Nat.testBit_or, Bool.or_eq_true, Bool.or_eq_true] at h
    rcases h with (h | h) | h
    · refine ⟨e, List.mem_cons_self .., .inl ?_⟩
      rw [Nat.one_shiftLeft, Nat.testBit_two_pow] at h
      simpa using (of_decide_eq_true h).symm
    · exact ⟨e, List.mem_cons_self .., .inr h⟩
    · obtain ⟨e', h1, h2⟩ := aheadM_mem l h
      exact ⟨e', List.mem_cons_of_mem _ h1, h2⟩

theorem befores_cons (o : Oper) (r : List Oper) (acc : List Nat) : befores (o :: r) acc = befores r (acc ++ [aheadM (edgesOf o) acc]) := rfl

theorem befores_ext : ∀ (r : List Oper) (acc : List Nat), ∃ x, befores r acc = acc ++ x
  | [], acc => ⟨[], by simp [befores]⟩
  | o :: r, acc => by
    obtain ⟨x, hx⟩ := befores_ext r (acc ++ [aheadM (edgesOf o) acc])
    exact ⟨[aheadM (edgesOf o) acc] ++ x, by rw [befores_cons, hx]; simp⟩

theorem mem_edgesOf {o : Oper} {n : Nat} : n ∈ edgesOf o ↔ ∃ e ∈ o.after.toList, Region.binds .any e = true ∧ e.on = n := by
  unfold edgesOf
  simp only [List.mem_map, List.mem_filter, and_assoc]

theorem befores_spec {B : List Nat} {k : Nat} : ∀ (r : List Oper) (acc : List Nat), B = befores r acc → ∀ j o, r[j]? = some o → (B.getD (acc.length + j) 0).testBit k = true →
    ∃ e ∈ o.after.toList, Region.binds .any e = true ∧ (k = e.on ∨ (B.getD e.on 0).testBit k = true)
  | [], acc, _, j, o, ho, _ => by simp at ho
  | p :: r, acc, hB, j, o, ho, hk => by
    rw [befores_cons] at hB
    cases j with
    | zero =>
      simp at ho
      subst ho
      obtain ⟨x, hx⟩ := befores_ext r (acc ++ [aheadM (edgesOf p) acc])
      have hB2 : B = acc ++ (aheadM (edgesOf p) acc :: x) := by rw [hB, hx]; simp
      have hg : B.getD (acc.length + 0) 0 = aheadM (edgesOf p) acc := by rw [hB2]; simp [List.getD]
      rw [hg] at hk
      obtain ⟨n, h1, h2⟩ := aheadM_mem _ hk
      obtain ⟨e, h3, h4, rfl⟩ := mem_edgesOf.1 h1
      refine ⟨e, h3, h4, h2.imp (fun h => h) fun h => ?_⟩
      rw [hB2]
      rcases Nat.lt_or_ge e.on acc.length with hl | hl
      · simpa [List.getD, List.getElem?_append_left hl] using h
      · simp [List.getD, List.getElem?_eq_none hl] at h
    | succ j =>
      exact befores_spec r (acc ++ [aheadM (edgesOf p) acc]) hB j o (by simpa using ho) (by rw [List.length_append]; simpa [Nat.add_assoc, Nat.add_comm 1 j] using hk)
end Go.Fw
namespace Go.Fw
open Go

def cnt : Nat → (Nat → Bool) → Nat
  | 0, _ => 0
  | n + 1, A => cnt n A + (if A n then 0 else 1)

theorem cnt_congr {A B : Nat → Bool} : ∀ n, (∀ j, j < n → A j = B j) → cnt n A = cnt n B
  | 0, _ => rfl
  | n + 1, h => by simp only [cnt]; rw [cnt_congr n fun j hj => h j (by omega), h n (by omega)]

theorem cnt_ins {A B : Nat → Bool} {i : Nat} (hA : A i = false) (hB : B i = true) (h : ∀ j, j ≠ i → B j = A j) : ∀ n, i < n → cnt n A = cnt n B + 1
  | 0, hi => by omega
  | n + 1, hi => by
    simp only [cnt]
    by_cases hn : n = i
    · subst hn
      rw [cnt_congr (B := B) n fun j hj => (h j (by omega)).symm, hA, hB]
      simp
    · rw [cnt_ins hA hB h n (by omega), h n hn]; omega

theorem cnt_zero {A : Nat → Bool} : ∀ n, cnt n A = 0 → ∀ j, j < n → A j = true
  | 0, _, j, hj => by omega
  | n + 1, h, j, hj => by
    simp only [cnt] at h
    by_cases hn : j = n
    · subst hn
      cases hA : A j with
      | true => rfl
      | false => simp [hA] at h
    · exact cnt_zero n (by omega) j (by omega)

theorem cnt_le {A : Nat → Bool} : ∀ n, cnt n A ≤ n
  | 0 => Nat.le_refl _
  | n + 1 => by
    simp only [cnt]
    have := cnt_le (A := A) n
    split <;> omega

section
variable {P : Program} {E : Env}

theorem edgesBack_spec {ops : List Oper} (h : edgesBack ops = true) {j : Nat} {o : Oper} (ho : ops[j]? = some o) {e : Edge} (he : e ∈ o.after.toList) (hb : Region.binds .any e = true) : e.on < j := by
  unfold edgesBack at h
  rw [List.all_eq_true] at h
  have := h (o, j) (by rw [List.mem_zipIdx_iff_getElem?]; exact ho)
  rw [List.all_eq_true] at this
  simpa using this e.on (mem_edgesOf.2 ⟨e, he, hb, rfl⟩)

theorem befores_lt {ops : List Oper} (h : edgesBack ops = true) {k : Nat} : ∀ (j : Nat) (o : Oper), ops[j]? = some o → ((befores ops []).getD j 0).testBit k = true → k < j := by
  intro j
  induction j using Nat.strongRecOn with
  | ind j ih =>
    intro o ho hk
    obtain ⟨e, he, hb, hh⟩ := befores_spec ops [] rfl j o ho (by simpa using hk)
    have hlt := edgesBack_spec h ho he hb
    rcases hh with rfl | hh
    · exact hlt
    · have hoe : ∃ o', ops[e.on]? = some o' := by
        have := (List.getElem?_eq_some_iff.1 ho).1
        exact ⟨_, List.getElem?_eq_getElem (by omega)⟩
      obtain ⟨o', ho'⟩ := hoe
      have := ih e.on hlt o' ho' hh
      omega

theorem befores_closed {ops : List Oper} (h : edgesBack ops = true) {A : Nat → Bool} (hA : ∀ j o, A j = true → ops[j]? = some o → ∀ e ∈ o.after.toList, Region.binds .any e = true → A e.on = true) {k : Nat} :
    ∀ (j : Nat) (o : Oper), ops[j]? = some o → A j = true → ((befores ops []).getD j 0).testBit k = true → A k = true := by
  intro j
  induction j using Nat.strongRecOn with
  | ind j ih =>
    intro o ho hj hk
    obtain ⟨e, he, hb, hh⟩ := befores_spec ops [] rfl j o ho (by simpa using hk)
    have hlt := edgesBack_spec h ho he hb
    have hae := hA j o hj ho e he hb
    rcases hh with rfl | hh
    · exact hae
    · have hoe : ∃ o', ops[e.on]? = some o' := by
        have := (List.getElem?_eq_some_iff.1 ho).1
        exact ⟨_, List.getElem?_eq_getElem (by omega)⟩
      obtain ⟨o', ho'⟩ := hoe
      exact ih e.on hlt o' ho' hae hh

theorem clash_spec {u v : Log} (h : clash u v = false) : (∀ a, a ∈ u.writes → a ∉ v.reads ∧ a ∉ v.writes) ∧ ∀ a, a ∈ v.writes → a ∉ u.reads := by
  unfold clash at h
  simp only [Bool.or_eq_false_iff, List.any_eq_false, List.elem_eq_mem, decide_eq_true_eq, Bool.not_eq_true, decide_eq_false_iff_not] at h
  exact ⟨fun a ha => h.1 a ha, fun a ha => h.2 a ha⟩

/-- two operations stand in order or change places -/
theorem free_or {ops : List Oper} {fx : List Fx} (hfx : fx.map (·.o) = ops) (h : orderFree ops (fx.map (·.l)) = true) {i j : Nat} {x y : Fx} (hx : fx[i]? = some x) (hy : fx[j]? = some y) (hij : i ≠ j) :
    ((befores ops []).getD i 0).testBit j = true ∨ ((befores ops []).getD j 0).testBit i = true ∨ (clash x.l y.l = false ∧ x.o.apart ops.toArray y.o = true) := by
  unfold orderFree at h
  simp only [Bool.and_eq_true] at h
  obtain ⟨⟨_, ht⟩, hm⟩ := h
  have hxo : ops[i]? = some x.o := by rw [← hfx, List.getElem?_map, hx]; rfl
  have hyo : ops[j]? = some y.o := by rw [← hfx, List.getElem?_map, hy]; rfl
  have ord : ordered (befores ops []) i j = true → ((befores ops []).getD i 0).testBit j = true ∨ ((befores ops []).getD j 0).testBit i = true := by
    intro ho
    simp only [ordered, Bool.or_eq_true, beq_iff_eq] at ho
    rcases ho with (ho | ho) | ho
    · exact absurd ho hij
    · exact .inl ho
    · exact .inr ho
  unfold textFree at ht
  rw [List.all_eq_true] at ht
  have h1 := ht (x.o, i) (by rw [List.mem_zipIdx_iff_getElem?]; exact hxo)
  rw [List.all_eq_true] at h1
  have h2 := h1 (y.o, j) (by rw [List.mem_zipIdx_iff_getElem?]; exact hyo)
  simp only [Bool.or_eq_true] at h2
  rcases h2 with h2 | hap
  · exact (ord h2).imp (fun h => h) .inl
  · have hlx : (fx.map (·.l)).zipIdx.filter (fun p => p.1.any) = (fx.map (·.l)).zipIdx.filter (fun p => p.1.any) := rfl
    cases hax : x.l.any with
    | false =>
      refine .inr (.inr ⟨?_, hap⟩)
      simp only [Log.any, Bool.not_eq_false', Bool.and_eq_true, List.isEmpty_iff] at hax
      simp [clash, hax.1, hax.2]
    | true =>
      cases hay : y.l.any with
      | false =>
        refine .inr (.inr ⟨?_, hap⟩)
        simp only [Log.any, Bool.not_eq_false', Bool.and_eq_true, List.isEmpty_iff] at hay
        simp [clash, hay.1, hay.2]
      | true =>
        unfold memFree at hm
        simp only [List.all_eq_true, List.mem_filter] at hm
        have h3 := hm (x.l, i) ⟨by rw [List.mem_zipIdx_iff_getElem?]; simp [hx], hax⟩ (y.l, j) ⟨by rw [List.mem_zipIdx_iff_getElem?]; simp [hy], hay⟩
        simp only [Bool.or_eq_true, Bool.not_eq_true'] at h3
        rcases h3 with h3 | h3
        · exact (ord h3).imp (fun h => h) .inl
        · exact .inr (.inr ⟨h3, hap⟩)

theorem selE_take : ∀ (l : List Fx) (k i : Nat), k ≤ i → selE (fun j => decide (j < i)) k l = l.take (i - k)
  | [], k, i, _ => by simp [selE]
  | x :: r, k, i, h => by
    simp only [selE]
    by_cases hk : k < i
    · rw [if_pos (by simpa using hk), selE_take r (k + 1) i (by omega), show i - k = (i - (k + 1)) + 1 by omega]; simp
    · rw [if_neg (by simpa using hk)]
      have : ∀ (l : List Fx) (k : Nat), i ≤ k → selE (fun j => decide (j < i)) k l = [] := by
        intro l
        induction l with
        | nil => intro k _; rfl
        | cons y l ih => intro k hk; simp only [selE]; rw [if_neg (by simpa using hk), ih (k + 1) (by omega)]
      rw [this r (k + 1) (by omega), show i - k = 0 by omega]; simp

theorem selE_all {A : Nat → Bool} : ∀ (l : List Fx) (k : Nat), (∀ j, j < l.length → A (k + j) = true) → selE A k l = l
  | [], _, _ => rfl
  | x :: r, k, h => by
    simp only [selE]
    rw [if_pos (by simpa using h 0 (by simp)), selE_all r (k + 1) fun j hj => by have := h (j + 1) (by simpa using hj); rwa [show k + (j + 1) = k + 1 + j by omega] at this]

theorem selE_none {A : Nat → Bool} : ∀ (l : List Fx) (k : Nat), (∀ j, A j = false) → selE A k l = []
  | [], _, _ => rfl
  | x :: r, k, h => by simp only [selE]; rw [h k, selE_none r (k + 1) h]; simp

theorem any_sound (hS : ∀ o, Sound P E o) {ops : List Oper} {base : Nat} {s s' : St} {logs : List Log} (h : (runOps E ops base 0 ops s []).eval = some (s', logs)) (hfree : orderFree ops logs = true)
    {Q : Exit → Act → World → Prop} {G0 : Gh} {w0 : World} {a0 : Act} (hi0 : Inv G0 w0 s a0) (hf0 : ∀ id, base ≤ id → G0.kd id = none)
    (hQ : ∀ a' w' G', Inv G' w' s' a' → Ext G0 w0 G' w' → (∀ id k, G'.kd id = some k → G0.kd id = some k ∨ (base ≤ id ∧ id < base + 8 * ops.length)) → a'.tmps.size = a0.tmps.size →
        (∀ t, (∀ o ∈ ops, o.dst ≠ some t) → a'.tmps.getD t undef = a0.tmps.getD t undef) → Q .normal a' w') :
    wpAny P .any ops.toArray Q ops.toArray.size (Array.replicate ops.toArray.size false) a0 w0 := by
  obtain ⟨fx, rfl, hlogs, hops, hstep⟩ := runOps_fx ops 0 s s' [] logs h
  simp only [List.nil_append] at hlogs
  subst hlogs
  have heb : edgesBack ops = true := by unfold orderFree at hfree; simp only [Bool.and_eq_true] at hfree; exact hfree.1.1
  have hlen : fx.length = ops.length := by rw [← hops]; simp
  have hops' : ∀ (j : Nat) (x : Fx), fx[j]? = some x → ops[j]? = some x.o := fun j x hx => by rw [← hops, List.getElem?_map, hx]; rfl
  have main : ∀ (fuel : Nat) (listed : Array Bool) (a : Act) (w : World) (G : Gh), listed.size = ops.length → (∀ j o, listed.getD j false = true → ops[j]? = some o → ∀ e ∈ o.after.toList, Region.binds .any e = true → listed.getD e.on false = true) →
      cnt ops.length (fun j => listed.getD j false) ≤ fuel → Inv G w (pl s (selE (fun j => listed.getD j false) 0 fx)) a → Ext G0 w0 G w →
      (∀ id k, G.kd id = some k → G0.kd id = some k ∨ ∃ j, listed.getD j false = true ∧ j < ops.length ∧ base + 8 * j ≤ id ∧ id < base + 8 * j + 8) → a.tmps.size = a0.tmps.size →
      (∀ t, (∀ o ∈ ops, o.dst ≠ some t) → a.tmps.getD t undef = a0.tmps.getD t undef) → wpAny P .any ops.toArray Q fuel listed a w := by
    intro fuel
    induction fuel with
    | zero =>
      intro listed a w G hls hcl hcnt hi hx hkd hsz ht
      have hall := cnt_zero ops.length (Nat.le_zero.1 hcnt)
      refine ⟨?_, hQ a w G ?_ hx (fun id k hk => ?_) hsz ht⟩
      · rw [List.eq_nil_iff_forall_not_mem]
        intro j hj
        obtain ⟨h0, o, ho, _⟩ := mem_ready.1 hj
        have hjl : j < ops.length := by simpa using (Array.getElem?_eq_some_iff.1 ho).1
        have := hall j hjl
        simp [Array.getD_eq_getD_getElem?, hls, hjl] at h0 this
        rw [h0] at this; simp at this
      · rw [selE_all fx 0 fun j hj => by simpa using hall j (by omega)] at hi
        exact hi
      · rcases hkd id k hk with h1 | ⟨j, _, h2, h3, h4⟩
        · exact .inl h1
        · exact .inr (by omega)
    | succ fuel ih =>
      intro listed a w G hls hcl hcnt hi hx hkd hsz ht
      have hget : ∀ j, j < ops.length → listed.getD j true = listed.getD j false := fun j hj => by simp [Array.getD_eq_getD_getElem?, hls, hj]
      refine ⟨fun hr => ?_, fun i hir => ?_⟩
      · have hall : ∀ j, j < ops.length → listed.getD j false = true := by
          intro j
          induction j using Nat.strongRecOn with
          | ind j ihj =>
            intro hj
            cases hl : listed.getD j false with
            | true => rfl
            | false =>
              exfalso
              have : j ∈ Region.ready .any ops.toArray listed := by
                rw [mem_ready]
                refine ⟨by rw [hget j hj]; exact hl, ops[j], by simp [hj], fun e he hb => ?_⟩
                have hlt := edgesBack_spec heb (List.getElem?_eq_getElem hj) (e := e) (by simpa using he) hb
                exact ihj e.on hlt (by omega)
              rw [hr] at this
              simp at this
        refine hQ a w G ?_ hx (fun id k hk => ?_) hsz ht
        · rw [selE_all fx 0 fun j hj => by simpa using hall j (by omega)] at hi
          exact hi
        · rcases hkd id k hk with h1 | ⟨j, _, h2, h3, h4⟩
          · exact .inl h1
          · exact .inr (by omega)
      · obtain ⟨h0, o, ho, hedges⟩ := mem_ready.1 hir
        have hil : i < ops.length := by simpa using (Array.getElem?_eq_some_iff.1 ho).1
        have hiF : listed.getD i false = false := by rw [← hget i hil]; exact h0
        have hox : ∃ x, fx[i]? = some x := ⟨_, List.getElem?_eq_getElem (by omega)⟩
        obtain ⟨x, hxi⟩ := hox
        have hoxo : o = x.o := by
          have := hops' i x hxi
          have h2 : ops[i]? = some o := by simpa using ho
          rw [h2] at this; exact Option.some.inj this
        subst hoxo
        have hBclosed : ∀ j (o : Oper) k, ops[j]? = some o → listed.getD j false = true → ((befores ops []).getD j 0).testBit k = true → listed.getD k false = true :=
          fun j o k hj hl hk => befores_closed (A := fun j => listed.getD j false) heb hcl j o hj hl hk
        have hBi : ∀ k, ((befores ops []).getD i 0).testBit k = true → listed.getD k false = true := by
          intro k hk
          obtain ⟨e, he, hb, hh⟩ := befores_spec ops [] rfl i x.o (hops' i x hxi) (by simpa using hk)
          have hae := hedges e (by simpa using he) hb
          rcases hh with rfl | hh
          · exact hae
          · have hlt := edgesBack_spec heb (hops' i x hxi) he hb
            exact hBclosed e.on _ k (List.getElem?_eq_getElem (by omega)) hae hh
        have hsame : ∀ j y, fx[j]? = some y → (listed.getD j false = decide (j < i)) ∨ (j ≠ i ∧ clash x.l y.l = false ∧ x.o.apart ops.toArray y.o = true) := by
          intro j y hy
          by_cases hij : i = j
          · subst hij; left; simpa using hiF
          · rcases free_or hops hfree hxi hy hij with hh | hh | hh
            · left
              rw [hBi j hh]
              have := befores_lt heb i x.o (hops' i x hxi) hh
              simp [this]
            · left
              have hlt := befores_lt heb j y.o (hops' j y hy) hh
              cases hl : listed.getD j false with
              | true => rw [hBclosed j y.o i (hops' j y hy) hl hh] at hiF; simp at hiF
              | false => simp; omega
            · exact .inr ⟨Ne.symm hij, hh⟩
        obtain ⟨hwr, hcong⟩ := hstep i x hxi
        have hprefix : selE (fun j => decide (j < i)) 0 fx = fx.take i := by rw [selE_take fx 0 i (Nat.zero_le _)]; simp
        have hst : (stepM E ops base i x.o (pl s (selE (fun j => listed.getD j false) 0 fx))).eval = some (x.put (pl s (selE (fun j => listed.getD j false) 0 fx)), x.l) := by
          have := hcong (pl s (selE (fun j => listed.getD j false) 0 fx)) (pl_nt _ _).1 ?_ ?_
          · rwa [Nat.zero_add] at this
          · intro t hlk
            rw [← hprefix]
            refine pl_tmp fx 0 (fun j y hy hd => ?_) s s rfl
            simp only [Nat.zero_add]
            rcases hsame j y hy with hh | ⟨_, _, hap⟩
            · exact hh
            · exact absurd hlk ((Oper.apart_spec hap).2.2 t hd)
          · intro id hrd
            rw [← hprefix]
            refine pl_obj fx 0 (fun j y hy hd => ?_) s s rfl
            simp only [Nat.zero_add]
            rcases hsame j y hy with hh | ⟨_, hcl, _⟩
            · exact hh
            · refine absurd hrd ((clash_spec hcl).2 id ?_)
              rw [(hstep j y hy).1]; exact hd
        have hins : pl s (selE (fun j => (listed.setIfInBounds i true).getD j false) 0 fx) = x.put (pl s (selE (fun j => listed.getD j false) 0 fx)) := by
          refine pl_ins (i := i) hiF (by simp [Array.getD_eq_getD_getElem?, hls, hil]) (fun j hj => by simp [Array.getD_eq_getD_getElem?, Array.getElem?_setIfInBounds_ne (Ne.symm hj)]) fx 0 (Nat.zero_le _) (by simpa using hxi) (fun j y hij hy hA => ?_) s
          simp only [Nat.zero_add] at hij hA
          rcases hsame j y hy with hh | ⟨_, hcl, hap⟩
          · rw [hA] at hh; simp at hh; omega
          · refine ⟨(Oper.apart_spec hap).2.1, fun id h1 h2 => ?_⟩
            have := ((clash_spec hcl).1 id (by rw [hwr]; exact h1)).2
            rw [(hstep j y hy).1] at this
            exact this h2
        have hfr : ∀ id, base + 8 * i ≤ id → id < base + 8 * i + 8 → G.kd id = none := by
          intro id h1 h2
          cases hk : G.kd id with
          | none => rfl
          | some k =>
            rcases hkd id k hk with h3 | ⟨j, h3, h4, h5, h6⟩
            · rw [hf0 id (by omega)] at h3; simp at h3
            · have : i = j := by omega
              subst this
              rw [hiF] at h3; simp at h3
        have hstep' := step_sound (Q := Q) (K := wpAny P .any ops.toArray Q fuel (listed.setIfInBounds i true)) hS hst hi hfr fun a1 w1 G1 hi1 hx1 hf1 hs1 ht1 => by
          refine ih (listed.setIfInBounds i true) a1 w1 G1 (by simpa using hls) (fun j o hj ho2 e he hb => ?_) ?_ (by rw [hins]; exact hi1) (hx.trans hx1) (fun id k hk => ?_) (hs1.trans hsz) (fun t hto => ?_)
          · by_cases hji : j = i
            · subst hji
              have : o = x.o := by have h2 := hops' j x hxi; rw [ho2] at h2; exact Option.some.inj h2
              subst this
              exact getD_set_true (hedges e (by simpa using he) hb)
            · rw [getD_set_ne false (Ne.symm hji)] at hj
              exact getD_set_true (hcl j o hj ho2 e he hb)
          · have := cnt_ins (A := fun j => listed.getD j false) (B := fun j => (listed.setIfInBounds i true).getD j false) (i := i) hiF (by simp [Array.getD_eq_getD_getElem?, hls, hil]) (fun j hj => by simp [Array.getD_eq_getD_getElem?, Array.getElem?_setIfInBounds_ne (Ne.symm hj)]) ops.length hil
            omega
          · rcases hf1 id k hk with h1 | h1
            · rcases hkd id k h1 with h2 | ⟨j, h2, h3, h4⟩
              · exact .inl h2
              · exact .inr ⟨j, getD_set_true h2, h3, h4⟩
            · exact .inr ⟨i, by simp [Array.getD_eq_getD_getElem?, hls, hil], hil, h1⟩
          · rw [ht1 t (hto x.o (List.mem_of_getElem? (hops' i x hxi))), ht t hto]
        unfold wpOp
        rw [ho]
        simp only
        split
        · rename_i hw; rw [if_pos hw] at hstep'; exact .inl hstep'
        · rename_i hw; rw [if_neg hw] at hstep'; exact hstep'
  refine main _ _ a0 w0 G0 (by simp) (fun j o hj => ?_) (by simpa using cnt_le _) ?_ (Ext.refl _ _) (fun id k hk => .inl hk) rfl fun t _ => rfl
  · simp [Array.getD_eq_getD_getElem?, Array.getElem?_replicate] at hj
    split at hj <;> simp at hj
  · rw [selE_none fx 0 fun j => by simp only [Array.getD_eq_getD_getElem?, Array.getElem?_replicate]; split <;> rfl]
    exact hi0

/-- a region -/
theorem region_sound (hS : ∀ o, Sound P E o) (hm : P.follows .mixedOrders = true) {id : Nat} {ops : Array Oper} {draw : Bool} {s s' : St} (h : (regionM E ops.toList draw s).eval = some s')
    {Q : Exit → Act → World → Prop} {G : Gh} {w : World} {a : Act} (hi : Inv G w s a) (hf : ∀ id, s.next ≤ id → G.kd id = none)
    (hQ : ∀ a' w' G', Inv G' w' s' a' → Ext G w G' w' → (∀ id, s'.next ≤ id → G'.kd id = none) → a'.tmps.size = a.tmps.size → s'.nt = s.nt →
        (∀ t, (∀ o ∈ ops.toList, o.dst ≠ some t) → a'.tmps.getD t undef = a.tmps.getD t undef) → Q .normal a' w') :
    (Code.region id ops draw).wp P Q a w := by
  obtain ⟨⟨s1, logs⟩, h1, h2⟩ := eval_some h
  have hnt : s1.nt = s.nt := by
    obtain ⟨fx, rfl, _⟩ := runOps_fx ops.toList 0 s s1 [] logs h1
    exact (pl_nt fx s).1
  have fin : s' = { s1 with next := s.next + 8 * ops.toList.length } → ∀ a' w' G', Inv G' w' s1 a' → Ext G w G' w' → (∀ id k, G'.kd id = some k → G.kd id = some k ∨ (s.next ≤ id ∧ id < s.next + 8 * ops.toList.length)) → a'.tmps.size = a.tmps.size →
      (∀ t, (∀ o ∈ ops.toList, o.dst ≠ some t) → a'.tmps.getD t undef = a.tmps.getD t undef) → Q .normal a' w' := by
    rintro rfl a' w' G' hi' hx' hk' hs' ht'
    refine hQ a' w' G' ⟨⟨hi'.rel.tmp, hi'.rel.obj, hi'.rel.wf, hi'.rel.nodef⟩, hi'.sz⟩ hx' (fun id hid => ?_) hs' hnt ht'
    cases hk : G'.kd id with
    | none => rfl
    | some k =>
      simp only at hid
      rcases hk' id k hk with h3 | h3
      · rw [hf id (by omega)] at h3; simp at h3
      · omega
  cases draw with
  | false =>
    simp only [Bool.false_eq_true, if_false, M.eval, Option.some.injEq] at h2
    refine wp_region_list ?_
    have hq : ∀ a' w' G', Inv G' w' s1 a' → Ext G w G' w' → (∀ id k, G'.kd id = some k → G.kd id = some k ∨ (s.next + 8 * 0 ≤ id ∧ id < s.next + 8 * (0 + ops.toList.length))) → a'.tmps.size = a.tmps.size →
        (∀ t, (∀ o ∈ ops.toList, o.dst ≠ some t) → a'.tmps.getD t undef = a.tmps.getD t undef) → Q .normal a' w' := fun a' w' G' x1 x2 x3 x4 x5 =>
      fin h2.symm a' w' G' x1 x2 (fun id k hk => by have := x3 id k hk; simpa using this) x4 x5
    have := runOps_list hS (Q := Q) ops.toList 0 s s1 [] logs h1 G w a hi (fun id hid => hf id (by omega)) hq
    simpa using this
  | true =>
    simp only [if_true] at h2
    split at h2
    · rename_i hfree
      simp only [M.eval, Option.some.injEq] at h2
      refine wp_region_any hm ?_
      have hxw : Ext G w G { w with drawn := w.drawn + 1 } := ⟨rfl, rfl, rfl, Nat.le_refl _, fun _ _ h => h, fun _ _ _ _ h => h, fun _ _ _ => ⟨rfl, rfl⟩⟩
      have hi' : Inv G { w with drawn := w.drawn + 1 } s a := ⟨⟨fun t => hxw.repT (hi.rel.tmp t), fun id => RepO.frame hxw (fun _ _ => rfl) (fun _ _ _ _ => ⟨rfl, rfl⟩) (hi.rel.obj id), hi.rel.wf, hi.rel.nodef⟩, hi.sz⟩
      have := any_sound hS h1 hfree (Q := Q) hi' hf fun a' w' G' x1 x2 x3 x4 x5 => fin h2.symm a' w' G' x1 (hxw.trans x2) x3 x4 x5
      simpa using this
    · simp [M.eval] at h2
end
end Go.Fw
namespace Go.Fw
open Go

/-- what a code assigns -/
def dsts : Code → List Nat
  | .region _ ops _ => ops.toList.filterMap (·.dst)
  | .seq a b => dsts a ++ dsts b
  | .cond _ a b => dsts a ++ dsts b
  | .block _ c => dsts c
  | .loop c => dsts c
  | .scope c => dsts c
  | _ => []

def PcS (P : Program) (c : Code) (p : Piece) : Prop :=
  ∀ x y, p.fn x = some y → ∀ (G : Gh) (w : World) (a : Act), TRep G w (slotsMk id p.slots x.1) (objsMk id 0 p.objs x.2) (fun t => a.tmps.getD t undef) p.objs.length → a.defers = [] → p.nt ≤ a.tmps.size →
    c.wp P (fun e a' w' => ∃ o yo G', OutSel p.outs y o yo ∧ e = o.ex.to ∧ OutRel o yo G w G' w' (fun t => a'.tmps.getD t undef) ∧ a'.defers = [] ∧ a'.tmps.size = a.tmps.size ∧ ∀ t, t ∉ dsts c → a'.tmps.getD t undef = a.tmps.getD t undef) a w

structure PcOk (P : Program) (c : Code) (p : Piece) : Prop where
  snd : PcS P c p
  asg : ∀ t ∈ dsts c, t ∈ p.asg

def CutAt (P : Program) (E : Env) (c : Code) (p : Nat) (rest : Prop) : Prop := match E.pc p with
  | some pc => PcOk P c pc
  | none => rest

def Cuts (P : Program) (E : Env) : Code → Nat → Prop
  | .seq a b, p => Cuts P E a (2 * p) ∧ CutAt P E b (2 * p + 1) (Cuts P E b (2 * p + 1))
  | .cond _ a b, p => Cuts P E a (2 * p) ∧ Cuts P E b (2 * p + 1)
  | .block _ c, p => Cuts P E c (2 * p)
  | .loop c, p => CutAt P E (.loop c) p True
  | .scope c, p => Cuts P E c (2 * p)
  | _, _ => True

structure RunPost (G : Gh) (w : World) (a : Act) (d : List Nat) (ex : Ex) (s' : St) (e : Exit) (a' : Act) (w' : World) (G' : Gh) : Prop where
  e : e = ex.to
  inv : Inv G' w' s' a'
  ext : Ext G w G' w'
  fresh : ∀ id, s'.next ≤ id → G'.kd id = none
  size : a'.tmps.size = a.tmps.size
  same : ∀ t, t ∉ d → a'.tmps.getD t undef = a.tmps.getD t undef

theorem RunPost.trans {G G1 G' : Gh} {w w1 w' : World} {a a1 a' : Act} {d d1 d' : List Nat} {ex ex1 : Ex} {s1 s' : St} {e e1 : Exit} (h : RunPost G w a d ex1 s1 e1 a1 w1 G1) (k : RunPost G1 w1 a1 d1 ex s' e a' w' G') (h1 : ∀ t ∈ d, t ∈ d') (h2 : ∀ t ∈ d1, t ∈ d') :
    RunPost G w a d' ex s' e a' w' G' :=
  ⟨k.e, k.inv, h.ext.trans k.ext, k.fresh, k.size.trans h.size, fun t ht => (k.same t fun hm => ht (h2 t hm)).trans (h.same t fun hm => ht (h1 t hm))⟩

section
variable {P : Program} {E : Env}

theorem repT_none {G : Gh} {w : World} {v : Value} : RepT G w .none v := trivial

theorem apply_sound {c : Code} {p : Piece} (hp : PcOk P c p) {s s' : St} {ex : Ex} (h : (p.apply s).eval = some (ex, s')) {G : Gh} {w : World} {a : Act} (hi : Inv G w s a) (hf : ∀ id, s.next ≤ id → G.kd id = none) :
    c.wp P (fun e a' w' => ∃ G', RunPost G w a (dsts c) ex s' e a' w' G') a w := by
  unfold Piece.apply at h
  split at h
  · simp [M.eval] at h
  · rename_i hnt
    obtain ⟨⟨eff, l⟩, h1, h2⟩ := eval_some h
    simp only [M.eval, Option.some.injEq, Prod.mk.injEq] at h2
    obtain ⟨rfl, rfl⟩ := h2
    obtain ⟨x, y, G0, hxy, htr, hback⟩ := use_spec (V := fun t => a.tmps.getD t undef) hi.rel.tmp hi.rel.obj hi.rel.wf (fun id h1 _ => hf id h1) (res_ev h1)
    refine wp_mono (hp.snd x y hxy G0 w a htr hi.rel.nodef (by have := hi.sz; omega)) fun e a' w' hh => ?_
    obtain ⟨o, yo, G', hsel, he, hout, hnd, hsz, hsame⟩ := hh
    obtain ⟨G2, hu⟩ := hback o yo G' w' _ hsel hout
    refine ⟨G2, by rw [he, hu.ex], ⟨⟨fun t => ?_, hu.obj, hu.wf, hnd⟩, by rw [hsz]; exact hi.sz⟩, hu.ext, fun id hid => ?_, hsz, hsame⟩
    · simp only
      split
      · rename_i v hv
        exact hu.slot (t, v) (look_mem _ _ _ hv)
      · split
        · exact repT_none
        · rename_i hna
          rw [hsame t fun hm => hna (by simpa using hp.asg t hm)]
          exact hu.ext.repT (hi.rel.tmp t)
    · cases hk : G2.kd id with
      | none => rfl
      | some k =>
        simp only at hid
        rcases hu.fresh id k hk with h3 | h3
        · rw [hf id (by omega)] at h3; simp at h3
        · omega

theorem evalA_bool {G : Gh} {w : World} {s : St} {a : Act} (hr : Rel G w s a) {c : Operand} {t : Bool} (h : evalA s.tmps c = .val .bool t) : a.eval c = .bool t := by
  have := evalA_rep hr c
  rw [h] at this
  simpa [RepT, ValOf, RepG, RepC, AVal.isAgg, GTy.isAgg] using this

theorem run_sound (hS : ∀ o, Sound P E o) (hm : P.follows .mixedOrders = true) : ∀ (c : Code) (p : Nat) (s s' : St) (ex : Ex), (run E c p s).eval = some (ex, s') → Cuts P E c p →
    ∀ (G : Gh) (w : World) (a : Act), Inv G w s a → (∀ id, s.next ≤ id → G.kd id = none) → c.wp P (fun e a' w' => ∃ G', RunPost G w a (dsts c) ex s' e a' w' G') a w
  | .skip, p, s, s', ex, h, _, G, w, a, hi, hf => by
    simp only [run, M.eval, Option.some.injEq, Prod.mk.injEq] at h
    obtain ⟨rfl, rfl⟩ := h
    exact wp_skip ⟨G, rfl, hi, Ext.refl _ _, hf, rfl, fun _ _ => rfl⟩
  | .region id ops draw, p, s, s', ex, h, _, G, w, a, hi, hf => by
    obtain ⟨s1, h1, h2⟩ := eval_some h
    simp only [M.eval, Option.some.injEq, Prod.mk.injEq] at h2
    obtain ⟨rfl, rfl⟩ := h2
    refine region_sound hS hm h1 hi hf fun a' w' G' x1 x2 x3 x4 _ x5 => ⟨G', rfl, x1, x2, x3, x4, fun t ht => x5 t fun o ho hd => ht ?_⟩
    exact List.mem_filterMap.2 ⟨o, ho, hd⟩
  | .seq c d, p, s, s', ex, h, hc, G, w, a, hi, hf => by
    obtain ⟨⟨e1, s1⟩, h1, h2⟩ := eval_some h
    obtain ⟨hc1, hc2⟩ := hc
    refine wp_seq (wp_mono (run_sound hS hm c (2 * p) s s1 e1 h1 hc1 G w a hi hf) fun e a1 w1 hh => ?_)
    obtain ⟨G1, hp⟩ := hh
    have done : ∀ ex1, ex1 = e1 → (M.ret (ex1, s1)).eval = some (ex, s') → ex1 ≠ .normal → Exit.then (d.wp P fun e a' w' => ∃ G', RunPost G w a (dsts (c.seq d)) ex s' e a' w' G') (fun e a' w' => ∃ G', RunPost G w a (dsts (c.seq d)) ex s' e a' w' G') e a1 w1 := by
      intro ex1 he1 hr hn
      subst he1
      simp only [M.eval, Option.some.injEq, Prod.mk.injEq] at hr
      obtain ⟨rfl, rfl⟩ := hr
      have hfin : ∃ G', RunPost G w a (dsts (c.seq d)) ex1 s1 e a1 w1 G' := ⟨G1, hp.e, hp.inv, hp.ext, hp.fresh, hp.size, fun t ht => hp.same t fun hm => ht (List.mem_append_left _ hm)⟩
      have he := hp.e
      cases ex1 with
      | normal => exact absurd rfl hn
      | exit i => rw [show Ex.to (.exit i) = .exit i from rfl] at he; subst he; exact hfin
      | ret => rw [show Ex.to .ret = .ret from rfl] at he; subst he; exact hfin
    cases e1 with
    | normal =>
      have he := hp.e
      rw [show Ex.to .normal = .normal from rfl] at he
      subst he
      simp only at h2
      show d.wp P _ a1 w1
      have fin : d.wp P (fun e a' w' => ∃ G', RunPost G1 w1 a1 (dsts d) ex s' e a' w' G') a1 w1 → d.wp P (fun e a' w' => ∃ G', RunPost G w a (dsts (c.seq d)) ex s' e a' w' G') a1 w1 := fun hd =>
        wp_mono hd fun e a' w' hh => let ⟨G', hk⟩ := hh; ⟨G', hp.trans hk (fun t ht => List.mem_append_left _ ht) (fun t ht => List.mem_append_right _ ht)⟩
      unfold CutAt at hc2
      split at h2
      · rename_i pc hpc
        rw [hpc] at hc2
        exact fin (apply_sound hc2 h2 hp.inv hp.fresh)
      · rename_i hpc
        rw [hpc] at hc2
        exact fin (run_sound hS hm d (2 * p + 1) s1 s' ex h2 hc2 G1 w1 a1 hp.inv hp.fresh)
    | exit i => exact done _ rfl h2 (by simp)
    | ret => exact done _ rfl h2 (by simp)
  | .cond x c d, p, s, s', ex, h, hc, G, w, a, hi, hf => by
    simp only [run] at h
    split at h
    · rename_i t ht
      have hb := evalA_bool hi.rel ht
      refine wp_cond_split hb (fun h0 => ?_) (fun h0 => ?_)
      · subst h0
        have h' : (run E c (2 * p) s).eval = some (ex, s') := by simpa [M.eval] using h
        exact wp_mono (run_sound hS hm c (2 * p) s s' ex h' hc.1 G w a hi hf) fun e a' w' hh => let ⟨G', hk⟩ := hh; ⟨G', hk.e, hk.inv, hk.ext, hk.fresh, hk.size, fun t ht => hk.same t fun hm => ht (List.mem_append_left _ hm)⟩
      · subst h0
        have h' : (run E d (2 * p + 1) s).eval = some (ex, s') := by simpa [M.eval] using h
        exact wp_mono (run_sound hS hm d (2 * p + 1) s s' ex h' hc.2 G w a hi hf) fun e a' w' hh => let ⟨G', hk⟩ := hh; ⟨G', hk.e, hk.inv, hk.ext, hk.fresh, hk.size, fun t ht => hk.same t fun hm => ht (List.mem_append_right _ hm)⟩
    · simp [M.eval] at h
  | .block i c, p, s, s', ex, h, hc, G, w, a, hi, hf => by
    obtain ⟨⟨e1, s1⟩, h1, h2⟩ := eval_some h
    refine wp_block (wp_mono (run_sound hS hm c (2 * p) s s1 e1 h1 hc G w a hi hf) fun e a1 w1 hh => ?_)
    obtain ⟨G1, hp⟩ := hh
    have he := hp.e
    cases e1 with
    | normal =>
      rw [show Ex.to .normal = .normal from rfl] at he; subst he
      simp only [M.eval, Option.some.injEq, Prod.mk.injEq] at h2
      obtain ⟨rfl, rfl⟩ := h2
      exact ⟨G1, rfl, hp.inv, hp.ext, hp.fresh, hp.size, hp.same⟩
    | ret =>
      rw [show Ex.to .ret = .ret from rfl] at he; subst he
      simp only [M.eval, Option.some.injEq, Prod.mk.injEq] at h2
      obtain ⟨rfl, rfl⟩ := h2
      exact ⟨G1, rfl, hp.inv, hp.ext, hp.fresh, hp.size, hp.same⟩
    | exit j =>
      rw [show Ex.to (.exit j) = .exit j from rfl] at he; subst he
      simp only at h2
      show if j = i then _ else _
      split at h2
      · rename_i hji
        simp only [M.eval, Option.some.injEq, Prod.mk.injEq] at h2
        obtain ⟨rfl, rfl⟩ := h2
        rw [if_pos hji]
        exact ⟨G1, rfl, hp.inv, hp.ext, hp.fresh, hp.size, hp.same⟩
      · rename_i hji
        simp only [M.eval, Option.some.injEq, Prod.mk.injEq] at h2
        obtain ⟨rfl, rfl⟩ := h2
        rw [if_neg hji]
        exact ⟨G1, rfl, hp.inv, hp.ext, hp.fresh, hp.size, hp.same⟩
  | .scope c, p, s, s', ex, h, hc, G, w, a, hi, hf => by
    refine wp_scope_straight (wp_mono (run_sound hS hm c (2 * p) s s' ex h hc G w a hi hf) fun e a1 w1 hh => ?_)
    obtain ⟨G1, hp⟩ := hh
    have he := hp.e
    have hfin : ∃ G', RunPost G w a (dsts (.scope c)) ex s' e a1 w1 G' := ⟨G1, hp⟩
    cases ex with
    | normal => rw [show Ex.to .normal = .normal from rfl] at he; subst he; exact hfin
    | ret => rw [show Ex.to .ret = .ret from rfl] at he; subst he; exact hfin
    | exit j => rw [show Ex.to (.exit j) = .exit j from rfl] at he; subst he; exact hfin
  | .loop c, p, s, s', ex, h, hc, G, w, a, hi, hf => by
    simp only [run] at h
    simp only [Cuts, CutAt] at hc
    split at h
    · rename_i pc hpc
      rw [hpc] at hc
      exact apply_sound hc h hi hf
    · simp [M.eval] at h
  | .exit i, p, s, s', ex, h, _, G, w, a, hi, hf => by
    simp only [run, M.eval, Option.some.injEq, Prod.mk.injEq] at h
    obtain ⟨rfl, rfl⟩ := h
    exact wp_exit ⟨G, rfl, hi, Ext.refl _ _, hf, rfl, fun _ _ => rfl⟩
  | .label i, p, s, s', ex, h, _, G, w, a, hi, hf => by
    simp only [run, M.eval, Option.some.injEq, Prod.mk.injEq] at h
    obtain ⟨rfl, rfl⟩ := h
    exact wp_label ⟨G, rfl, hi, Ext.refl _ _, hf, rfl, fun _ _ => rfl⟩
  | .ret, p, s, s', ex, h, _, G, w, a, hi, hf => by
    simp only [run, M.eval, Option.some.injEq, Prod.mk.injEq] at h
    obtain ⟨rfl, rfl⟩ := h
    exact wp_ret ⟨G, rfl, hi, Ext.refl _ _, hf, rfl, fun _ _ => rfl⟩
  | .rangeFunc .., p, s, s', ex, h, _, G, w, a, hi, hf => by simp [run, M.eval] at h
  | .goto .., p, s, s', ex, h, _, G, w, a, hi, hf => by simp [run, M.eval] at h
end
end Go.Fw
namespace Go.Fw
open Go

section
variable {P : Program} {E : Env}

theorem pinMap_look : ∀ (l : List (Option Nat × OSlot)) (k j i : Nat) (s : OSlot), l[j]? = some (some i, s) → look (pinMap k l) (k + j) = some (.obj i none)
  | [], k, j, i, s, h => by simp at h
  | o :: r, k, j, i, s, h => by
    cases j with
    | zero =>
      simp at h; subst h
      simp [pinMap, look]
    | succ j =>
      have ih := pinMap_look r (k + 1) j i s (by simpa using h)
      rw [show k + 1 + j = k + (j + 1) by omega] at ih
      simp only [pinMap]
      split
      · simp only [look]; rw [if_neg (by omega)]; exact ih
      · exact ih

theorem pinMap_none : ∀ (l : List (Option Nat × OSlot)) (k j id : Nat) (win : Option (Nat × Nat)), look (pinMap k l) j = some (.obj id win) → win = none
  | [], k, j, id, win, h => by simp [pinMap, look] at h
  | o :: r, k, j, id, win, h => by
    simp only [pinMap] at h
    split at h
    · simp only [look] at h
      split at h
      · simp at h; exact h.2.symm
      · exact pinMap_none r _ _ _ _ h
    · exact pinMap_none r _ _ _ _ h

theorem sel_fra {G G1 : Gh} {w w1 : World} (h : Fra G w G1 w1) (objs : Nat → AObj) (m : Mt) (os : List OSlot) : Fra G w (G1.sel objs m os) w1 :=
  ⟨h.os, h.tape, h.output, h.size, fun b hb ho => by
    obtain ⟨h1, h2⟩ := h.keep b hb ho
    refine ⟨h1, ?_⟩
    have hn : ∀ l, G1.ow b ≠ .own l := by rw [h2]; exact ho
    rw [← h2]
    simp only [Gh.sel]
    cases hx : G1.ow b with
    | own l => exact absurd hx (hn l)
    | frz => rfl
    | out => rfl⟩

theorem getOut_rel {o : Out} {f : Nat → AVal} {objs : Nat → AObj} {yo : o.X} (h : (getOut o f objs).eval = some yo) {G G1 : Gh} {w w1 : World} {V : Nat → Value} (hfra : Fra G w G1 w1) (hk : ∀ id k, G.kd id = some k → G1.kd id = some k)
    (hv : ∀ t, RepT G1 w1 (f t) (V t)) (ho : ∀ id, RepO G1 w1 id (objs id)) : ∃ G', OutRel o yo G w G' w1 V := by
  unfold getOut at h
  obtain ⟨⟨⟨xs, xo⟩, l⟩, h1, h2⟩ := eval_some h
  simp only [M.eval, Option.some.injEq] at h2
  subst h2
  have h1 := res_ev h1
  obtain ⟨⟨ys, m1⟩, h3, h1⟩ := ev_some h1
  obtain ⟨⟨yo, m2⟩, h4, h1⟩ := ev_some h1
  simp only at h4 h1
  split at h1
  · rename_i hok
    simp only [Bool.and_eq_true] at hok
    obtain ⟨⟨hd, hvi⟩, hw⟩ := hok
    simp only [M.ev, Option.some.injEq, Prod.mk.injEq] at h1
    obtain ⟨rfl, rfl⟩ := h1
    have hvi' : ∀ v ∈ m2.views, v ∉ m2.ids := by
      intro v hvm
      rw [List.all_eq_true] at hvi
      simpa using hvi v hvm
    obtain ⟨hrep, hfit, hlive⟩ := pick_spec hv ho (m0 := { map := pinMap 0 o.objs, views := [] }) (fun j id win hj e len b off c hkk => by
      have := pinMap_none _ _ _ _ _ hj
      subst this
      simp [winOff, winNum]) h3 h4 hd hvi' hw
    refine ⟨_, sel_fra hfra objs m2 (o.objs.map (·.2)), by simpa using hrep, fun j i s hj k hkk => ?_⟩
    have hl := pinMap_look o.objs 0 j i s hj
    rw [Nat.zero_add] at hl
    have hl2 := (getObjs_le _ _ _ _ _ h4).map _ _ ((getSlots_le _ _ _ _ h3).map _ _ hl)
    exact hfit.obj j i none hl2 k (hk i k hkk) k (shiftK_none k)
  · simp [M.ev] at h1

theorem inOut_sel : ∀ (os : List Out) (e : Ex) (f : Nat → AVal) (g : Nat → AObj) (y : outsX os), (inOut os e f g).eval = some y → ∃ o yo, OutSel os y o yo ∧ e = o.ex ∧ (getOut o f g).eval = some yo
  | [], e, f, g, y, h => by simp [inOut, M.eval] at h
  | [o], e, f, g, y, h => by
    simp only [inOut] at h
    split at h
    · rename_i he; exact ⟨o, y, .one o y, he, h⟩
    · simp [M.eval] at h
  | o :: p :: r, e, f, g, y, h => by
    simp only [inOut] at h
    split at h
    · rename_i he
      obtain ⟨x, h1, h2⟩ := eval_some h
      simp only [M.eval, Option.some.injEq] at h2
      subst h2
      exact ⟨o, x, .inl o p r x, he, h1⟩
    · obtain ⟨x, h1, h2⟩ := eval_some h
      simp only [M.eval, Option.some.injEq] at h2
      subst h2
      obtain ⟨o', yo, h3, h4, h5⟩ := inOut_sel (p :: r) e f g x h1
      exact ⟨o', yo, .inr o p r x o' yo h3, h4, h5⟩

theorem stOf_inv {p : Piece} {x : slotsX p.slots × objsX p.objs} {G : Gh} {w : World} {a : Act} (h : TRep G w (slotsMk id p.slots x.1) (objsMk id 0 p.objs x.2) (fun t => a.tmps.getD t undef) p.objs.length) (hd : a.defers = []) (hs : p.nt ≤ a.tmps.size) :
    Inv G w (stOf p x) a ∧ ∀ id, (stOf p x).next ≤ id → G.kd id = none := by
  refine ⟨⟨⟨fun t => ?_, h.obj, h.wf, hd⟩, hs⟩, h.fresh⟩
  simp only [stOf]
  split
  · rename_i v hv; exact h.slot (t, v) (look_mem _ _ _ hv)
  · exact repT_none

theorem seg_ok (hS : ∀ o, Sound P E o) (hm : P.follows .mixedOrders = true) {c : Code} {n : Nat} {p : Piece} (h : ∀ x y, p.fn x = some y → (segM E p c n x).eval = some y) (hc : Cuts P E c n) (ha : ∀ t ∈ dsts c, t ∈ p.asg) : PcOk P c p where
  asg := ha
  snd := by
    intro x y hxy G w a htr hd hs
    obtain ⟨⟨ex, s1⟩, h1, h2⟩ := eval_some (h x y hxy)
    obtain ⟨hi, hf⟩ := stOf_inv htr hd hs
    refine wp_mono (run_sound hS hm c n _ s1 ex h1 hc G w a hi hf) fun e a' w' hh => ?_
    obtain ⟨G1, hp⟩ := hh
    simp only at h2
    obtain ⟨o, yo, hsel, hex, hget⟩ := inOut_sel _ _ _ _ _ h2
    obtain ⟨G', hout⟩ := getOut_rel hget (V := fun t => a'.tmps.getD t undef) hp.ext.fra hp.ext.kd hp.inv.rel.tmp hp.inv.rel.obj
    exact ⟨o, yo, G', hsel, by rw [hp.e, hex], hout, hp.inv.rel.nodef, hp.size, hp.same⟩

theorem pinsSame_spec {m : Mt} {outs : List Out} (h : pinsSame m outs = true) {o : Out} (ho : o ∈ outs) {j i : Nat} {s : OSlot} (hj : o.objs[j]? = some (some i, s)) : look m.map i = some (.obj i none) := by
  unfold pinsSame at h
  rw [List.all_eq_true] at h
  have := h o ho
  rw [List.all_eq_true] at this
  have := this _ (List.mem_of_getElem? hj)
  simp only at this
  split at this
  · rename_i q hq
    simp only [beq_iff_eq] at this
    rw [hq, this]
  · simp at this

theorem loop_ok (hS : ∀ o, Sound P E o) (hm : P.follows .mixedOrders = true) {c : Code} {n : Nat} {p : Piece} {l : Nat → slotsX p.slots × objsX p.objs → Option (outsX p.outs)} (h0 : ∀ x, l 0 x = none)
    (h1 : ∀ k x y, l (k + 1) x = some y → (roundM E p (l k) c n x).eval = some y) (hc : Cuts P E c (2 * n)) (ha : ∀ t ∈ dsts c, t ∈ p.asg) (k : Nat) : PcOk P (.loop c) { p with fn := l k } where
  asg := ha
  snd := by
    have key : ∀ k x y, l k x = some y → ∀ (G : Gh) (w : World) (a : Act), TRep G w (slotsMk id p.slots x.1) (objsMk id 0 p.objs x.2) (fun t => a.tmps.getD t undef) p.objs.length → a.defers = [] → p.nt ≤ a.tmps.size → ∀ Q : Exit → Act → World → Prop,
        (∀ e a' w' o yo G', OutSel p.outs y o yo → e = o.ex.to → OutRel o yo G w G' w' (fun t => a'.tmps.getD t undef) → a'.defers = [] → a'.tmps.size = a.tmps.size → (∀ t, t ∉ dsts c → a'.tmps.getD t undef = a.tmps.getD t undef) → (e = .normal → False) → Q e a' w') →
        Code.rounds P c Q k a w := by
      intro k
      induction k with
      | zero => intro x y hxy; rw [h0 x] at hxy; simp at hxy
      | succ k ih =>
        intro x y hxy G w a htr hd hs Q hQ
        rw [rounds_succ]
        obtain ⟨⟨ex, s1⟩, h2, h3⟩ := eval_some (h1 k x y hxy)
        obtain ⟨hi, hf⟩ := stOf_inv htr hd hs
        refine wp_mono (run_sound hS hm c (2 * n) _ s1 ex h2 hc G w a hi hf) fun e a1 w1 hh => ?_
        obtain ⟨G1, hp⟩ := hh
        have leave : ex ≠ .normal → (inOut p.outs ex s1.tmps s1.objs).eval = some y → Exit.then (Code.rounds P c Q k) Q e a1 w1 := by
          intro hn h4
          obtain ⟨o, yo, hsel, hex, hget⟩ := inOut_sel _ _ _ _ _ h4
          obtain ⟨G', hout⟩ := getOut_rel hget (V := fun t => a1.tmps.getD t undef) hp.ext.fra hp.ext.kd hp.inv.rel.tmp hp.inv.rel.obj
          have he := hp.e
          have hq : e ≠ .normal → Q e a1 w1 := fun hen => hQ e a1 w1 o yo G' hsel (by rw [he, hex]) hout hp.inv.rel.nodef hp.size hp.same hen
          cases ex with
          | normal => exact absurd rfl hn
          | exit i => rw [show Ex.to (.exit i) = .exit i from rfl] at he; subst he; exact hq (by simp)
          | ret => rw [show Ex.to .ret = .ret from rfl] at he; subst he; exact hq (by simp)
        cases ex with
        | exit i => exact leave (by simp) h3
        | ret => exact leave (by simp) h3
        | normal =>
          have he := hp.e
          rw [show Ex.to .normal = .normal from rfl] at he
          subst he
          show Code.rounds P c Q k a1 w1
          simp only at h3
          unfold againM at h3
          obtain ⟨⟨⟨xs, xo⟩, lg⟩, h4, h5⟩ := eval_some h3
          simp only [M.eval] at h5
          have h4 := res_ev h4
          obtain ⟨⟨ys, m1⟩, h6, h4⟩ := ev_some h4
          obtain ⟨⟨yo, m⟩, h7, h4⟩ := ev_some h4
          simp only at h7 h4
          split at h4
          · rename_i hok
            simp only [Bool.and_eq_true] at hok
            obtain ⟨⟨hok, hpins⟩, hw⟩ := hok
            unfold Mt.ok at hok
            simp only [Bool.and_eq_true] at hok
            obtain ⟨⟨hdd, hvi⟩, _⟩ := hok
            simp only [M.ev, Option.some.injEq, Prod.mk.injEq] at h4
            obtain ⟨rfl, rfl⟩ := h4
            have hvi' : ∀ v ∈ m.views, v ∉ m.ids := by
              intro v hvm
              rw [List.all_eq_true] at hvi
              simpa using hvi v hvm
            obtain ⟨hrep, hfit, hlive⟩ := pick_spec (V := fun t => a1.tmps.getD t undef) hp.inv.rel.tmp hp.inv.rel.obj (m0 := { map := [], views := [] }) (fun j id win hj => by simp [look] at hj) h6 h7 hdd hvi' hw
            refine ih (ys, yo) y h5 (G1.sel s1.objs m p.objs) w1 a1 hrep hp.inv.rel.nodef (by rw [hp.size]; exact hs) Q fun e a' w' o yo' G' x1 x2 x3 x4 x5 x6 x7 => ?_
            refine hQ e a' w' o yo' G' x1 x2 ⟨(sel_fra hp.ext.fra _ _ _).trans x3.fra, x3.rep, fun j i s hj kk hkk => ?_⟩ x4 (x5.trans hp.size) (fun t ht => (x6 t ht).trans (hp.same t ht)) x7
            refine x3.pin j i s hj kk ?_
            exact hfit.obj i i none (pinsSame_spec hpins (outSel_mem x1) hj) kk (hp.ext.kd i kk hkk) kk (shiftK_none kk)
          · simp [M.ev] at h4
    intro x y hxy G w a htr hd hs
    exact wp_loop_rounds k (key k x y hxy G w a htr hd hs _ fun e a' w' o yo G' x1 x2 x3 x4 x5 x6 _ => ⟨o, yo, G', x1, x2, x3, x4, x5, x6⟩)

/-! ### What a function returns -/
theorem resultM_rep (hE : EnvTy P E) {G : Gh} {w : World} {s : St} {a : Act} (hr : Rel G w s a) {r : ResultVar} {v : AVal} (h : (resultM E s r).eval = some v) :
    ∃ u, (match r with | .tmp t => pure (a.tmps.getD t undef) | .cell x t => do loadVar t (← asAddr (a.tmps.getD x undef)) : Sem Value).run P w = .ok u w ∧ ValOf v.isAgg (RepG G w v false) u := by
  cases r with
  | tmp t =>
    have := hr.tmp t
    refine ⟨a.tmps.getD t undef, by simp, ?_⟩
    cases hx : s.tmps t <;> rw [hx] at this <;> simp [resultM, hx, M.eval] at h <;> subst h <;> exact this
  | cell x t =>
    simp only [resultM] at h
    split at h
    · rename_i id g0 hx
      have hp := hr.tmp x
      rw [hx] at hp
      obtain ⟨_, t0, b, hk, htt, hv⟩ := hp
      split at h
      · rename_i g u hobj
        split at h
        · rename_i hty
          simp only [M.eval, Option.some.injEq] at h
          subst h
          have ho := hr.obj id
          rw [hobj] at ho
          obtain ⟨b', cs, hk', _, hc, hrep, hsh⟩ := ho
          rw [hk] at hk'; simp at hk'; obtain ⟨rfl, rfl⟩ := hk'
          obtain ⟨u, hu, hu'⟩ := run_loadVar (hE.ty t t0 hty) hc (shape_len t0 _ cs hsh hrep).1
          have hval : a.tmps.getD x undef = .pointer (some ⟨b, 0, none⟩) := by simpa [offT_nil] using hv
          refine ⟨u, by simp only [hval, asAddr]; simpa using hu, ?_⟩
          rw [(shape_len t0 _ cs hsh hrep).2.2]
          exact hu' _ hrep
        · simp [M.eval] at h
      · simp [M.eval] at h
    · simp [M.eval] at h

def resSem (tmps : Array Value) : ResultVar → Sem Value
  | .tmp t => pure (tmps.getD t undef)
  | .cell a t => do loadVar t (← asAddr (tmps.getD a undef))

theorem resultL_rep (hE : EnvTy P E) {G : Gh} {w : World} {s : St} {a : Act} (hr : Rel G w s a) : ∀ (rs : List ResultVar) (v : AVal), (resultL E s rs).eval = some v → ∃ us, (rs.mapM (resSem a.tmps)).run P w = .ok us w ∧ us.length = rs.length ∧ RepG G w v true us
  | [], v, h => by
    simp only [resultL, M.eval, Option.some.injEq] at h
    subst h
    exact ⟨[], by simp, rfl, rfl⟩
  | r :: rs, v, h => by
    simp only [resultL] at h
    obtain ⟨v1, h1, h⟩ := eval_some h
    obtain ⟨v2, h2, h⟩ := eval_some h
    simp only [M.eval, Option.some.injEq] at h
    subst h
    obtain ⟨u, hu, hv⟩ := resultM_rep hE hr h1
    obtain ⟨us, hus, hl, hvs⟩ := resultL_rep hE hr rs v2 h2
    have hu' : (resSem a.tmps r).run P w = .ok u w := by cases r <;> exact hu
    exact ⟨u :: us, by simp [List.mapM_cons, hu', hus], by simp [hl], u, us, rfl, hv, hvs⟩

theorem results_eq (fn : Func) (tmps : Array Value) : results fn tmps = (do
    let vs ← fn.results.mapM (resSem tmps)
    pure (if h : vs.size = 1 then vs[0] else .tuple vs)) := by
  unfold results
  congr 1

theorem resultsM_rep (hE : EnvTy P E) {G : Gh} {w : World} {s : St} {a : Act} (hr : Rel G w s a) {fn : Func} {rs : List ResultVar} (hrs : fn.results.toList = rs) {v : AVal} (h : (resultsM E s rs).eval = some v) :
    ∃ u, (results fn a.tmps).run P w = .ok u w ∧ RepT G w v u := by
  have hfr : fn.results = rs.toArray := by rw [← hrs]
  rw [results_eq, hfr]
  have many : rs.length ≠ 1 → (∃ l, (resultL E s rs).eval = some l ∧ v = .tup l) → ∃ u, (do
      let vs ← rs.toArray.mapM (resSem a.tmps)
      pure (if h : vs.size = 1 then vs[0] else .tuple vs) : Sem Value).run P w = .ok u w ∧ RepT G w v u := by
    rintro hn ⟨l, hl, rfl⟩
    obtain ⟨us, h1, h2, h3⟩ := resultL_rep hE hr rs l hl
    refine ⟨.tuple us.toArray, ?_, us.toArray, rfl, by simpa using h3⟩
    rw [List.mapM_toArray]
    simp [h1, h2, hn]
  match rs, h, many with
  | [r], h, _ =>
    obtain ⟨u, hu, hv⟩ := resultM_rep hE hr h
    have hu' : (resSem a.tmps r).run P w = .ok u w := by cases r <;> exact hu
    refine ⟨u, by rw [List.mapM_toArray]; simp [List.mapM_cons, hu'], ?_⟩
    cases v <;> first | exact hv | (simp [ValOf, AVal.isAgg, RepG] at hv)
  | [], h, many => 
    obtain ⟨l, h1, h2⟩ := eval_some h
    simp only [M.eval, Option.some.injEq] at h2
    exact many (by simp) ⟨l, h1, h2.symm⟩
  | r :: r2 :: rs, h, many =>
    obtain ⟨l, h1, h2⟩ := eval_some h
    simp only [M.eval, Option.some.injEq] at h2
    exact many (by simp) ⟨l, h1, h2.symm⟩

theorem fun_ok (hE : EnvTy P E) (hS : ∀ o, Sound P E o) (hm : P.follows .mixedOrders = true) {f : FuncId} {fn : Func} {c : Code} {rs : List ResultVar} {p : Piece} (hfn : P.funcs[f]? = some fn) (hb : fn.body = some c) (hrs : fn.results.toList = rs) (hnt : p.nt ≤ fn.ntmps)
    (h : ∀ x y, p.fn x = some y → (funM E p rs c x).eval = some y) (hc : Cuts P E c 1) : FnSound P f p := by
  intro x y hxy G w args htr
  refine calls_of_wp hfn hb ?_
  obtain ⟨⟨ex, s1⟩, h1, h2⟩ := eval_some (h x y hxy)
  have hget : ∀ t, (args ++ Array.replicate (fn.ntmps - args.size) undef).getD t undef = args.getD t undef := by
    intro t
    simp only [Array.getD_eq_getD_getElem?, Array.getElem?_append, Array.getElem?_replicate]
    split
    · rfl
    · rename_i hlt
      rw [Array.getElem?_eq_none (by omega)]
      split <;> rfl
  obtain ⟨hi, hf⟩ := stOf_inv (p := p) (x := x) (a := { tmps := args ++ Array.replicate (fn.ntmps - args.size) undef, defers := [] }) (G := G) (w := w) ⟨fun q hq => by simp only [hget]; exact htr.slot q hq, htr.obj, htr.wf, htr.fresh⟩ rfl (by simp; omega)
  refine wp_mono (run_sound hS hm c 1 _ s1 ex h1 hc G w _ hi hf) fun e a' w' hh => ?_
  obtain ⟨G1, hp⟩ := hh
  have he := hp.e
  have fin : ((resultsM E s1 rs).andThen fun v => inOut p.outs .ret (fun _ => v) s1.objs).eval = some y → a'.defers = [] ∧ ∃ v, (results fn a'.tmps).run P w' = .ok v w' ∧ ∃ v', Ending.returned v = .returned v' ∧ ∃ o yo G', OutSel p.outs y o yo ∧ OutRel o yo G w G' w' (fun _ => v') := by
    intro h3
    obtain ⟨v, h4, h5⟩ := eval_some h3
    obtain ⟨u, hu, hv⟩ := resultsM_rep hE hp.inv.rel hrs h4
    obtain ⟨o, yo, hsel, hex, hgo⟩ := inOut_sel _ _ _ _ _ h5
    obtain ⟨G', hout⟩ := getOut_rel hgo (V := fun _ => u) hp.ext.fra hp.ext.kd (fun _ => hv) hp.inv.rel.obj
    exact ⟨hp.inv.rel.nodef, u, hu, u, rfl, o, yo, G', hsel, hout⟩
  cases ex with
  | exit i => simp [M.eval] at h2
  | normal => rw [show Ex.to .normal = .normal from rfl] at he; subst he; exact fin h2
  | ret => rw [show Ex.to .ret = .ret from rfl] at he; subst he; exact fin h2
end
end Go.Fw
namespace Go.Fw
open Go

/-! ### Codes by their places -/
def nodeAt : Code → List Bool → Option Code
  | c, [] => some c
  | .seq a b, t :: r => if t then nodeAt b r else nodeAt a r
  | .cond _ a b, t :: r => if t then nodeAt b r else nodeAt a r
  | .block _ c, t :: r => if t then none else nodeAt c r
  | .loop c, t :: r => if t then none else nodeAt c r
  | .scope c, t :: r => if t then none else nodeAt c r
  | _, _ :: _ => none

def idOf : Nat → List Bool → Nat
  | p, [] => p
  | p, t :: r => idOf (2 * p + (if t then 1 else 0)) r

def pathGo : Nat → Nat → List Bool → List Bool
  | 0, _, acc => acc
  | k + 1, n, acc => if n ≤ 1 then acc else pathGo k (n / 2) ((n % 2 == 1) :: acc)
def pathOf (n : Nat) : List Bool := pathGo n.log2 n []

theorem idOf_pos : ∀ (l : List Bool) (p : Nat), 0 < p → 0 < idOf p l
  | [], _, h => h
  | t :: r, p, h => by simp only [idOf]; exact idOf_pos r _ (by split <;> omega)

theorem pathGo_id : ∀ (l : List Bool) (p k : Nat) (acc : List Bool), 0 < p → pathGo (k + l.length) (idOf p l) acc = pathGo k p (l ++ acc)
  | [], p, k, acc, _ => rfl
  | t :: r, p, k, acc, hp => by
    simp only [idOf, List.length_cons]
    rw [show k + (r.length + 1) = (k + 1) + r.length by omega, pathGo_id r _ (k + 1) acc (by split <;> omega)]
    simp only [pathGo, List.cons_append]
    cases t <;> simp <;> (try rw [if_neg (by omega)]) <;> (try congr 1) <;> (try omega) <;> (try congr 1) <;> (try omega) <;> (try simp) <;> (try omega)

theorem log2_id : ∀ (l : List Bool) (p : Nat), 0 < p → (idOf p l).log2 = p.log2 + l.length
  | [], p, _ => rfl
  | t :: r, p, hp => by
    simp only [idOf, List.length_cons]
    rw [log2_id r _ (by split <;> omega)]
    have : (2 * p + if t = true then 1 else 0).log2 = p.log2 + 1 := by
      rw [Nat.log2_def, if_pos (by split <;> omega)]
      congr 2
      split <;> omega
    rw [this]; omega

theorem pathOf_idOf (l : List Bool) : pathOf (idOf 1 l) = l := by
  unfold pathOf
  rw [log2_id l 1 (by omega), show (1 : Nat).log2 = 0 from rfl, pathGo_id l 1 0 [] (by omega)]
  simp [pathGo]

theorem idOf_append : ∀ (l m : List Bool) (p : Nat), idOf p (l ++ m) = idOf (idOf p l) m
  | [], _, _ => rfl
  | t :: r, m, p => by simp only [List.cons_append, idOf]; exact idOf_append r m _

theorem nodeAt_append : ∀ (l m : List Bool) (c c' : Code), nodeAt c l = some c' → nodeAt c (l ++ m) = nodeAt c' m
  | [], m, c, c', h => by
    have : c = c' := by cases c <;> simpa [nodeAt] using h
    subst this; rfl
  | t :: r, m, c, c', h => by
    cases c <;> simp only [nodeAt, List.cons_append] at h ⊢ <;> try (simp at h; done)
    all_goals
      split at h
      · rename_i ht; first | (rw [if_pos ht]; exact nodeAt_append r m _ _ h) | simp at h
      · rename_i ht; rw [if_neg ht]; exact nodeAt_append r m _ _ h

noncomputable def codeAt (c : Code) (n : Nat) : Code := (nodeAt c (pathOf n)).getD .skip

section
variable {P : Program} {E : Env}

theorem cuts_of : ∀ (c : Code) (n : Nat), (∀ l c', nodeAt c l = some c' → ∀ pc, E.pc (idOf n l) = some pc → PcOk P c' pc) → Cuts P E c n
  | .seq a b, n, h => by
    refine ⟨cuts_of a (2 * n) fun l c' h1 pc h2 => h (false :: l) c' (by simpa [nodeAt] using h1) pc (by simpa [idOf] using h2), ?_⟩
    unfold CutAt
    split
    · rename_i pc hpc
      exact h [true] b (by cases b <;> simp [nodeAt]) pc (by simpa [idOf] using hpc)
    · exact cuts_of b (2 * n + 1) fun l c' h1 pc h2 => h (true :: l) c' (by simpa [nodeAt] using h1) pc (by simpa [idOf] using h2)
  | .cond _ a b, n, h => ⟨cuts_of a (2 * n) fun l c' h1 pc h2 => h (false :: l) c' (by simpa [nodeAt] using h1) pc (by simpa [idOf] using h2),
      cuts_of b (2 * n + 1) fun l c' h1 pc h2 => h (true :: l) c' (by simpa [nodeAt] using h1) pc (by simpa [idOf] using h2)⟩
  | .block _ c, n, h => cuts_of c (2 * n) fun l c' h1 pc h2 => h (false :: l) c' (by simpa [nodeAt] using h1) pc (by simpa [idOf] using h2)
  | .loop c, n, h => by
    simp only [Cuts, CutAt]
    split
    · rename_i pc hpc
      exact h [] _ rfl pc (by simpa [idOf] using hpc)
    · trivial
  | .skip, n, h => trivial
  | .region .., n, h => trivial
  | .exit .., n, h => trivial
  | .label .., n, h => trivial
  | .ret, n, h => trivial
  | .rangeFunc .., n, h => trivial
  | .scope c, n, h => cuts_of c (2 * n) fun l c' h1 pc h2 => h (false :: l) c' (by simpa [nodeAt] using h1) pc (by simpa [idOf] using h2)
  | .goto .., n, h => trivial
  | .refuse .., n, h => trivial

/-- a list of pieces, each sound at its place -/
def PcsOk (P : Program) (body : Code) (l : List (Nat × Piece)) : Prop := ∀ q ∈ l, PcOk P (codeAt body q.1) q.2

theorem PcsOk.nil {body : Code} : PcsOk P body [] := fun q hq => by simp at hq
theorem PcsOk.cons {body : Code} {l : List (Nat × Piece)} {n : Nat} {p : Piece} (h : PcOk P (codeAt body n) p) (hl : PcsOk P body l) : PcsOk P body ((n, p) :: l) := fun q hq => by
  rcases List.mem_cons.1 hq with rfl | hq
  · exact h
  · exact hl q hq

theorem look_mem' {α : Type 1} : ∀ (l : List (Nat × α)) (j : Nat) (s : α), (l.find? (fun p => p.1 == j)).map (·.2) = some s → (j, s) ∈ l := by
  intro l j s h
  simp only [Option.map_eq_some_iff] at h
  obtain ⟨q, h1, rfl⟩ := h
  have h2 := List.find?_some h1
  have h3 := List.mem_of_find?_eq_some h1
  simp only [beq_iff_eq] at h2
  subst h2
  exact h3

/-- the table of an environment -/
def lookP : List (Nat × Piece) → Nat → Option Piece
  | [], _ => none
  | (i, v) :: r, j => if j = i then some v else lookP r j

theorem lookP_mem : ∀ (l : List (Nat × Piece)) (j : Nat) (s : Piece), lookP l j = some s → (j, s) ∈ l
  | [], _, _, h => by simp [lookP] at h
  | (i, v) :: r, j, s, h => by
    simp only [lookP] at h
    split at h
    · rename_i hj; simp at h; subst h; subst hj; exact List.mem_cons_self ..
    · exact List.mem_cons_of_mem _ (lookP_mem r j s h)

structure Tabs where
  ty : List (Nat × GTy)
  eq : List Nat
  mt : List (Nat × (GTy × GTy))

def mkEnv (T : Tabs) (fns pcs : List (Nat × Piece)) : Env := { ty := look T.ty, eqt := T.eq.elem, mty := look T.mt, fn := lookP fns, pc := lookP pcs }

def tabsOk (P : Program) (T : Tabs) : Bool :=
  T.ty.all (fun q => tyOk P q.2 q.1) && T.eq.all (fun t => match look T.ty t with | some g => eqOk P g t && decide (g.dep ≤ 10000) | none => true) &&
  T.mt.all (fun q => match P.underlying q.1 with
    | some (.map tk tv) => tyOk P q.2.1 tk && eqOk P q.2.1 tk && decide (q.2.1.dep ≤ 10000) && tyOk P q.2.2 tv && q.2.2.seen
    | _ => false)

theorem envTy_of {T : Tabs} (h : tabsOk P T = true) (fns pcs : List (Nat × Piece)) : EnvTy P (mkEnv T fns pcs) := by
  simp only [tabsOk, Bool.and_eq_true, List.all_eq_true] at h
  obtain ⟨⟨h1, h2⟩, h3⟩ := h
  refine ⟨fun t g ht hg => ?_, fun t g hg => h1 _ (look_mem _ _ _ hg), fun t k v hm => ?_⟩
  · have := h2 t (by simpa [mkEnv] using ht)
    rw [show look T.ty t = some g from hg] at this
    simpa using this
  · have := h3 _ (look_mem _ _ _ hm)
    simp only at this
    split at this
    · rename_i tk tv hu
      simp only [Bool.and_eq_true, decide_eq_true_eq] at this
      obtain ⟨⟨⟨⟨x1, x2⟩, x3⟩, x4⟩, x5⟩ := this
      exact ⟨tk, tv, hu, ⟨x1, x2, x3⟩, x4, x5⟩
    · simp at this

def isFn (P : Program) (f : FuncId) : Bool := match P.funcs[f]? with
  | some fn => fn.body.isSome && !(fn.name == "runtime.NumGoroutine")
  | none => false

def FnsOk (P : Program) (l : List (Nat × Piece)) : Prop := ∀ q ∈ l, FnSound P q.1 q.2 ∧ isFn P q.1 = true
theorem FnsOk.nil : FnsOk P [] := fun q hq => by simp at hq
theorem FnsOk.cons {l : List (Nat × Piece)} {n : Nat} {p : Piece} (h : FnSound P n p) (hi : isFn P n = true) (hl : FnsOk P l) : FnsOk P ((n, p) :: l) := fun q hq => by
  rcases List.mem_cons.1 hq with rfl | hq
  · exact ⟨h, hi⟩
  · exact hl q hq

theorem envFn_of {T : Tabs} {fns pcs : List (Nat × Piece)} (h : FnsOk P fns) : EnvFn P (mkEnv T fns pcs) := ⟨fun f p hf => by
  obtain ⟨h1, h2⟩ := h _ (lookP_mem _ _ _ hf)
  refine ⟨h1, ?_⟩
  unfold isFn at h2
  split at h2
  · rename_i fn hfn
    simp only [Bool.and_eq_true, Bool.not_eq_true'] at h2
    exact ⟨fn, hfn, h2.1, h2.2⟩
  · simp at h2⟩

theorem cuts_at {T : Tabs} {fns pcs : List (Nat × Piece)} {body : Code} (h : PcsOk P body pcs) {path : List Bool} {c : Code} (hc : nodeAt body path = some c) : Cuts P (mkEnv T fns pcs) c (idOf 1 path) := by
  refine cuts_of c _ fun l c' h1 pc h2 => ?_
  rw [← idOf_append] at h2
  have h3 := h _ (lookP_mem _ _ _ h2)
  have h4 : nodeAt body (path ++ l) = some c' := by rw [nodeAt_append path l body c hc]; exact h1
  simpa [codeAt, pathOf_idOf, h4] using h3

/-- the program's own facts, and a function's -/
structure Base (P : Program) (T : Tabs) (fns : List (Nat × Piece)) : Prop where
  mixed : P.follows .mixedOrders = true
  tabs : tabsOk P T = true
  fns : FnsOk P fns

theorem Base.ops {T : Tabs} {fns : List (Nat × Piece)} (h : Base P T fns) (pcs : List (Nat × Piece)) : ∀ o, Sound P (mkEnv T fns pcs) o := sound_op (envTy_of h.tabs fns pcs) (envFn_of h.fns)

def pathOk (n : Nat) : Bool := decide (idOf 1 (pathOf n) = n)

theorem codeAt_some {body : Code} {n : Nat} (h : (nodeAt body (pathOf n)).isSome = true) : nodeAt body (pathOf n) = some (codeAt body n) := by
  unfold codeAt
  cases hx : nodeAt body (pathOf n) with
  | none => rw [hx] at h; simp at h
  | some c => rfl

theorem seg_thm {T : Tabs} {fns pcs : List (Nat × Piece)} {body : Code} (hB : Base P T fns) (hP : PcsOk P body pcs) (n : Nat) (p : Piece) (hn : pathOk n = true) (hs : (nodeAt body (pathOf n)).isSome = true) (ha : (dsts (codeAt body n)).all p.asg.elem = true)
    (h : ∀ x, (segM (mkEnv T fns pcs) p (codeAt body n) n x).eval = p.fn x) : PcOk P (codeAt body n) p := by
  have hc := cuts_at (T := T) (fns := fns) hP (codeAt_some hs)
  rw [of_decide_eq_true hn] at hc
  exact seg_ok (hB.ops pcs) hB.mixed (fun x y hxy => by rw [h x]; exact hxy) hc fun t ht => by
    rw [List.all_eq_true] at ha
    simpa using ha t ht

theorem loop_thm {T : Tabs} {fns pcs : List (Nat × Piece)} {body : Code} (hB : Base P T fns) (hP : PcsOk P body pcs) (n : Nat) (p : Piece) {l : Nat → slotsX p.slots × objsX p.objs → Option (outsX p.outs)} {c : Code} (hl : codeAt body n = .loop c) (hn : pathOk n = true) (hs : (nodeAt body (pathOf n)).isSome = true)
    (ha : (dsts (codeAt body n)).all p.asg.elem = true) (h0 : ∀ x, l 0 x = none) (h1 : ∀ k x, (roundM (mkEnv T fns pcs) p (l k) c n x).eval = l (k + 1) x) (k : Nat) : PcOk P (codeAt body n) { p with fn := l k } := by
  rw [hl] at ha ⊢
  have hsome := codeAt_some hs
  rw [hl] at hsome
  have hc := cuts_at (T := T) (fns := fns) hP (path := pathOf n ++ [false]) (c := c) (by rw [nodeAt_append _ _ _ _ hsome]; cases c <;> simp [nodeAt])
  rw [idOf_append, of_decide_eq_true hn] at hc
  exact loop_ok (hB.ops pcs) hB.mixed h0 (fun k x y hxy => by rw [h1 k x]; exact hxy) (by simpa [idOf] using hc) (fun t ht => by
    rw [List.all_eq_true] at ha
    simpa using ha t ht) k

theorem fun_thm {T : Tabs} {fns pcs : List (Nat × Piece)} {body : Code} (hB : Base P T fns) (hP : PcsOk P body pcs) {f : FuncId} {fn : Func} (hfn : P.funcs[f]? = some fn) (hb : fn.body = some body) (p : Piece) {rs : List ResultVar} (hrs : fn.results.toList = rs) (hnt : p.nt ≤ fn.ntmps)
    (h : ∀ x, (funM (mkEnv T fns pcs) p rs body x).eval = p.fn x) : FnSound P f p := by
  have hc := cuts_at (T := T) (fns := fns) hP (path := []) (c := body) (by cases body <;> rfl)
  exact fun_ok (envTy_of hB.tabs fns pcs) (hB.ops pcs) hB.mixed hfn hb hrs hnt (fun x y hxy => by rw [h x]; exact hxy) (by simpa [idOf] using hc)
end
end Go.Fw
namespace Go.Fw
open Go Go.ChangeShapes Go.WideShapes

/-- a type whose values are read as plain data -/
def GTy.solid : GTy → Bool
  | .opq => false
  | .pair a b => a.solid && b.solid
  | .slice e => e.solid && decide (0 < e.size)
  | _ => true

theorem list_of {α : Type} {R : Nat → α → Prop} : ∀ n, (∀ i, i < n → ∃ x, R i x) → ∃ l : List α, l.length = n ∧ ∀ i x, l[i]? = some x → R i x
  | 0, _ => ⟨[], rfl, fun i x h => by simp at h⟩
  | n + 1, h => by
    obtain ⟨l, hl, hr⟩ := list_of n fun i hi => h i (by omega)
    obtain ⟨x, hx⟩ := h n (by omega)
    refine ⟨l ++ [x], by simp [hl], fun i y hy => ?_⟩
    rcases Nat.lt_or_ge i l.length with hlt | hge
    · rw [List.getElem?_append_left hlt] at hy; exact hr i y hy
    · rw [List.getElem?_append_right hge] at hy
      cases hi : i - l.length with
      | zero =>
        rw [hi] at hy
        simp at hy
        subst hy
        rw [show i = n by omega]; exact hx
      | succ k => rw [hi] at hy; simp at hy

section
variable {H : Type} {enc : TypeId × Value → H} {P : Program} {w : World} {base : Nat} {spare : Nat → Bool} {held : Bool} {fz : Nat → Prop}

theorem cells_get {a : Addr} {n : Nat} {cs : List Value} (h : w.cells? base a n = some cs) : cs.length = n ∧ ∀ i, i < n → w.cell? (a.add i) = cs[i]? := by
  unfold World.cells? at h
  split at h
  · refine ⟨by simpa using mapM_some_length h, fun i hi => mapM_some_get h i i (by simp [hi])⟩
  · simp at h

theorem cell_spot {a : Addr} {v : Value} (h : w.cell? a = some v) : a.spot = none ∧ a.block < w.heap.size := by
  unfold World.cell? at h
  split at h
  · rename_i c _ _ hc
    refine ⟨?_, ?_⟩
    · cases hs : a.spot with
      | none => rfl
      | some x => simp [hs] at h
    · rcases Nat.lt_or_ge a.block w.heap.size with hlt | hge
      · exact hlt
      · simp [Array.getElem?_eq_none hge] at hc
  · simp at h

theorem info_cells {g : GTy} {t : TypeId} (h : tyOk P g t = true) : P.cellsOf t = g.size := by
  obtain ⟨i, hi, hs, _⟩ := ty_info h
  simp [Program.cellsOf, hi, hs]

mutual
theorem trod_rep (hfz : ∀ b, b < w.heap.size → fz b) : ∀ (g : GTy) (t : TypeId) (fuel : Nat) (cs : List Value) (x : DataW H × List MemPlace), tyOk P g t = true → g.solid = true → DataW.trod enc P w base spare held fuel t cs = some x → ∃ y : g.denote, RepC w fz g y cs
  | .int k, t, fuel, cs, x, ht, _, h => by
    simp only [tyOk, Bool.and_eq_true] at ht
    have hu := ht.2
    split at hu
    · rename_i k' hk
      obtain rfl : k' = k := by simpa using hu
      obtain ⟨n, rfl, _, hw⟩ := DataW.trod_int hk h
      refine ⟨n, rfl, ?_⟩
      simp [Lit.wf] at hw
      exact hw
    · simp at hu
  | .bool, t, fuel, cs, x, ht, _, h => by
    simp only [tyOk, Bool.and_eq_true] at ht
    have hu := ht.2
    split at hu
    · rename_i hk
      obtain ⟨b, rfl, _⟩ := DataW.trod_bool hk h
      exact ⟨b, rfl⟩
    · simp at hu
  | .str, t, fuel, cs, x, ht, _, h => by
    simp only [tyOk, Bool.and_eq_true] at ht
    have hu := ht.2
    split at hu
    · rename_i hk
      obtain ⟨s, rfl, _⟩ := DataW.trod_string hk h
      exact ⟨s, rfl⟩
    · simp at hu
  | .unit, t, fuel, cs, x, ht, _, h => by
    have hc := info_cells ht
    simp only [tyOk, Bool.and_eq_true] at ht
    have hu := ht.2
    split at hu
    · rename_i fs hk
      obtain ⟨xs, n, _, _, hl, _⟩ := DataW.trod_struct hk h
      rw [hc] at hl
      exact ⟨(), show cs = [] by simpa [GTy.size] using hl⟩
    · simp at hu
  | .opq, _, _, _, _, _, hs, _ => by simp [GTy.solid] at hs
  | .slice e, t, fuel, cs, x, ht, hs, h => by
    simp only [tyOk, Bool.and_eq_true] at ht
    have hu := ht.2
    split at hu
    · rename_i te hk
      simp only [GTy.solid, Bool.and_eq_true, decide_eq_true_eq] at hs
      have hce := info_cells hu
      rcases DataW.trod_slice hk h with ⟨rfl, _⟩ | ⟨a, len, cap, elems, rest, n, _, rfl, _, hb, hl, hm, hlen, hel, _, _⟩
      · exact ⟨[], none, 0, rfl, Nat.le_refl _, Nat.zero_le _, fun h0 => by simp at h0⟩
      · have hex : ∀ i, i < len → ∃ y : e.denote, ∃ cs, w.cells? base (a.add (i * P.cellsOf te)) (P.cellsOf te) = some cs ∧ RepC w fz e y cs := by
          intro i hi
          have h1 := hel i hi
          rw [List.getElem?_eq_getElem (by omega)] at h1
          cases hc : w.cells? base (a.add (i * P.cellsOf te)) (P.cellsOf te) with
          | none => rw [hc] at h1; simp at h1
          | some cs =>
            rw [hc] at h1
            simp only [Option.bind_some] at h1
            obtain ⟨y, hy⟩ := trod_rep hfz e te n cs _ hu hs.1 h1
            exact ⟨y, cs, rfl, hy⟩
        obtain ⟨l, hll, hlr⟩ := list_of len hex
        refine ⟨l, some a, cap, by rw [hll], by rw [hll]; exact hl, hm, fun h0 => ?_⟩
        have hsp : a.spot = none ∧ a.block < w.heap.size := by
          obtain ⟨y, cs, hc, _⟩ := hex 0 (by omega)
          obtain ⟨h1, h2⟩ := cells_get hc
          have h3 := h2 0 (by rw [hce]; exact hs.2)
          rw [List.getElem?_eq_getElem (by rw [h1, hce]; exact hs.2)] at h3
          have := cell_spot h3
          simpa [Addr.add] using this
        obtain ⟨b, o, sp⟩ := a
        simp only at hsp
        obtain ⟨rfl, hblt⟩ := hsp
        refine ⟨b, o, rfl, hfz b hblt, hblt, fun i y hy => ?_⟩
        obtain ⟨cs, hc, hr⟩ := hlr i y hy
        refine ⟨cs, fun j v hj => ?_, hr⟩
        obtain ⟨h1, h2⟩ := cells_get hc
        have hjl : j < P.cellsOf te := by rw [← h1]; exact (List.getElem?_eq_some_iff.1 hj).1
        have h3 := h2 j hjl
        rw [hj] at h3
        rw [← h3, hce]
        congr 1
        simp only [Addr.add]
        split <;> split <;> simp_all
    · simp at hu
  | .pair a b, t, fuel, cs, x, ht, hs, h => by
    have hc := info_cells ht
    simp only [tyOk, Bool.and_eq_true] at ht
    have hu := ht.2
    split at hu
    · rename_i fs hk
      obtain ⟨xs, n, _, _, hl, hxl, hget⟩ := DataW.trod_struct hk h
      split at hu
      · rename_i f r hfr
        simp only [Bool.and_eq_true, beq_iff_eq] at hu
        obtain ⟨⟨hoff, hta⟩, hfl⟩ := hu
        simp only [GTy.solid, Bool.and_eq_true] at hs
        have hget' : ∀ (i : Nat) (f : Field), (f :: r)[i]? = (f :: r)[i]? → fs.toList[i]? = some f → ∃ y, DataW.trod enc P w base spare held n f.type ((cs.drop f.offset).take (P.cellsOf f.type)) = some y := by
          intro i f _ hf
          have hf' : fs[i]? = some f := by simpa using hf
          have h1 := hget i f hf'
          have hil : i < xs.length := by rw [hxl]; exact (Array.getElem?_eq_some_iff.1 hf').1
          rw [List.getElem?_eq_getElem hil] at h1
          exact ⟨_, h1⟩
        rw [hc] at hl
        obtain ⟨y0, h0⟩ := hget' 0 f rfl (by rw [hfr]; rfl)
        rw [hoff, info_cells hta] at h0
        obtain ⟨ya, hya⟩ := trod_rep hfz a f.type n _ _ hta hs.1 h0
        obtain ⟨yb, hyb⟩ := trod_flds hfz b a.size r n cs (fun f' hf' => by
          obtain ⟨i, hi⟩ := List.getElem?_of_mem hf'
          exact hget' (i + 1) f' rfl (by rw [hfr]; simpa using hi)) hfl hs.2
        refine ⟨(ya, yb), cs.take a.size, cs.drop a.size, by simp, by simpa using hya, ?_⟩
        rw [List.take_of_length_le (by simp only [GTy.size] at hl; simp; omega)] at hyb
        exact hyb
      · simp at hu
    · simp at hu
theorem trod_flds (hfz : ∀ b, b < w.heap.size → fz b) : ∀ (g : GTy) (off : Nat) (r : List Field) (n : Nat) (cs : List Value), (∀ f ∈ r, ∃ y, DataW.trod enc P w base spare held n f.type ((cs.drop f.offset).take (P.cellsOf f.type)) = some y) →
    fldsOk P g off r = true → g.solid = true → ∃ y : g.denote, RepC w fz g y ((cs.drop off).take g.size)
  | .unit, off, r, n, cs, _, _, _ => ⟨(), by simp [RepC, GTy.size]⟩
  | .pair a b, off, r, n, cs, hall, hfl, hs => by
    cases r with
    | nil => simp [fldsOk] at hfl
    | cons f r =>
      simp only [fldsOk, Bool.and_eq_true, beq_iff_eq] at hfl
      obtain ⟨⟨hoff, hta⟩, hfl⟩ := hfl
      simp only [GTy.solid, Bool.and_eq_true] at hs
      obtain ⟨y0, h0⟩ := hall f (List.mem_cons_self ..)
      rw [hoff, info_cells hta] at h0
      obtain ⟨ya, hya⟩ := trod_rep hfz a f.type n _ _ hta hs.1 h0
      obtain ⟨yb, hyb⟩ := trod_flds hfz b (off + a.size) r n cs (fun f' hf' => hall f' (List.mem_cons_of_mem _ hf')) hfl hs.2
      refine ⟨(ya, yb), _, _, ?_, hya, hyb⟩
      simp only [GTy.size]
      rw [List.take_add, List.drop_drop]
  | .int _, _, _, _, _, _, h, _ => by simp [fldsOk] at h
  | .bool, _, _, _, _, _, h, _ => by simp [fldsOk] at h
  | .str, _, _, _, _, _, h, _ => by simp [fldsOk] at h
  | .opq, _, _, _, _, _, h, _ => by simp [fldsOk] at h
  | .slice _, _, _, _, _, _, h, _ => by simp [fldsOk] at h
end
end
end Go.Fw
namespace Go.Fw
open Go Go.ChangeShapes Go.WideShapes Go.RowKit

def okD : (g : GTy) → g.denote → Prop
  | .int k, x => k.has x
  | .slice e, l => List.length l ≤ maxL ∧ ∀ y ∈ (l : List e.denote), okD e y
  | .pair a b, x => okD a x.1 ∧ okD b x.2
  | _, _ => True

theorem rep_ok {w : World} {fz : Nat → Prop} : ∀ (g : GTy) (x : g.denote) (cs : List Value), RepC w fz g x cs → okD g x
  | .int _, _, _, h => h.2
  | .bool, _, _, _ => trivial
  | .str, _, _, _ => trivial
  | .unit, _, _, _ => trivial
  | .opq, _, _, _ => trivial
  | .pair a b, x, cs, h => by
    obtain ⟨c1, c2, _, h1, h2⟩ := h
    exact ⟨rep_ok a _ _ h1, rep_ok b _ _ h2⟩
  | .slice e, l, cs, h => by
    obtain ⟨ad, c, _, h1, h2, h3⟩ := h
    refine ⟨Nat.le_trans h1 h2, fun y hy => ?_⟩
    obtain ⟨i, hi⟩ := List.getElem?_of_mem hy
    have h0 : 0 < List.length l := by have := (List.getElem?_eq_some_iff.1 hi).1; omega
    obtain ⟨b, o, _, _, _, hr⟩ := h3 h0
    obtain ⟨cs, _, h5⟩ := hr i y hi
    exact rep_ok e y cs h5

@[reducible] def argSlots : Nat → List GTy → List (Nat × TA)
  | _, [] => []
  | k, g :: r => (k, .v g) :: argSlots (k + 1) r

def okS : (gs : List GTy) → (k : Nat) → slotsX (argSlots k gs) → Prop
  | [], _, _ => True
  | g :: r, k, x => okD g x.1 ∧ okS r (k + 1) x.2

def argsOk (P : Program) : List GTy → List TypeId → Bool
  | [], [] => true
  | g :: gs, t :: ts => tyOk P g t && g.solid && argsOk P gs ts
  | _, _ => false

section
variable {H : Type} {enc : TypeId × Value → H} {P : Program} {w : World} {base b0 : Nat} {spare : Nat → Bool} {held : Bool} {fz : Nat → Prop}

theorem val_of {g : GTy} {t : TypeId} {v : Value} {y : g.denote} (ht : tyOk P g t = true) (hs : g.solid = true) (hok : Value.okWide P w .any b0 t v) (hr : RepC w fz g y v.cells.toList) : ValOf g.isAgg (RepC w fz g y) v := by
  cases g with
  | int k =>
    simp only [tyOk, Bool.and_eq_true] at ht
    have hu := ht.2
    split at hu
    · rename_i k' hk
      obtain ⟨n, rfl⟩ := okWide_int hk hok
      simpa [ValOf, GTy.isAgg, Value.cells] using hr
    · simp at hu
  | bool =>
    simp only [tyOk, Bool.and_eq_true] at ht
    have hu := ht.2
    split at hu
    · rename_i hk
      obtain ⟨n, rfl⟩ := okWide_bool hk hok
      simpa [ValOf, GTy.isAgg, Value.cells] using hr
    · simp at hu
  | str =>
    simp only [tyOk, Bool.and_eq_true] at ht
    have hu := ht.2
    split at hu
    · rename_i hk
      obtain ⟨n, rfl⟩ := okWide_string hk hok
      simpa [ValOf, GTy.isAgg, Value.cells] using hr
    · simp at hu
  | slice e =>
    simp only [tyOk, Bool.and_eq_true] at ht
    have hu := ht.2
    split at hu
    · rename_i te hk
      obtain ⟨a, l, c, rfl⟩ := okWide_slice hk hok
      simpa [ValOf, GTy.isAgg, Value.cells] using hr
    · simp at hu
  | unit =>
    simp only [tyOk, Bool.and_eq_true] at ht
    have hu := ht.2
    split at hu
    · rename_i fs hk
      obtain ⟨cs, rfl, _⟩ := okWide_struct hk hok
      exact ⟨cs, rfl, hr⟩
    · simp at hu
  | pair a b =>
    simp only [tyOk, Bool.and_eq_true] at ht
    have hu := ht.2
    split at hu
    · rename_i fs hk
      obtain ⟨cs, rfl, _⟩ := okWide_struct hk hok
      exact ⟨cs, rfl, hr⟩
    · simp at hu
  | opq => simp [GTy.solid] at hs

theorem args_rep (hfz : ∀ b, b < w.heap.size → fz b) : ∀ (gs : List GTy) (ts : List TypeId) (vs : List Value) (ds : List (DataW H)) (ps : List MemPlace) (k : Nat), argsOk P gs ts = true → DataW.TrodAll enc P w base spare held ts vs ds ps →
    (∀ (j : Nat) t v, ts[j]? = some t → vs[j]? = some v → Value.okWide P w .any b0 t v) →
    ∃ x : slotsX (argSlots k gs), okS gs k x ∧ ∀ (G : Gh), (∀ b, fz b → G.fz b) → ∀ (A : Nat → Value), (∀ (j : Nat) v, vs[j]? = some v → A (k + j) = v) → ∀ p ∈ slotsMk id (argSlots k gs) x, RepT G w p.2 (A p.1)
  | [], ts, vs, ds, ps, k, _, _, _ => ⟨(), trivial, fun G _ A _ p hp => by simp [slotsMk] at hp⟩
  | g :: gs, [], vs, ds, ps, k, h, _, _ => by simp [argsOk] at h
  | g :: gs, t :: ts, vs, ds, ps, k, h, ht, hok => by
    simp only [argsOk, Bool.and_eq_true] at h
    obtain ⟨⟨hty, hsol⟩, hrest⟩ := h
    obtain ⟨v, vs', d, ds', p, q, rfl, rfl, rfl, h0, h1⟩ := trodAll_cons ht
    obtain ⟨fuel, hf⟩ := h0
    obtain ⟨y, hy⟩ := trod_rep hfz g t fuel _ _ hty hsol hf
    obtain ⟨x, hx, hxr⟩ := args_rep hfz gs ts vs' ds' q (k + 1) hrest h1 fun j t v ht hv => hok (j + 1) t v (by simpa using ht) (by simpa using hv)
    refine ⟨(y, x), ⟨rep_ok g y _ hy, hx⟩, fun G hG A hA p hp => ?_⟩
    rcases List.mem_cons.1 hp with rfl | hp
    · have hval := val_of hty hsol (hok 0 t v rfl rfl) hy
      have hA0 := hA 0 v rfl
      simp only [Nat.add_zero] at hA0
      show RepT G w (.val g y) (A k)
      rw [hA0]
      exact ValOf.mono (fun cs hc => ⟨rfl, RepC.mono (fun b _ hb => ⟨hG b hb, rfl⟩) (Nat.le_refl _) g y cs hc⟩) hval
    · exact hxr G hG A (fun j v hj => by have := hA (j + 1) v (by simpa using hj); rwa [show k + (j + 1) = k + 1 + j by omega] at this) p hp

@[reducible] def boolOut : Out := { ex := .ret, slots := [(0, .v .bool)], objs := [] }
@[reducible] def lawPiece (gs : List GTy) (nt : Nat) (fn : slotsX (argSlots 0 gs) × objsX [] → Option (outsX [boolOut])) : Piece := { slots := argSlots 0 gs, objs := [], outs := [boolOut], asg := [], nt := nt, fn := fn }

theorem law_contract {gs : List GTy} {nt : Nat} {fn : Nat → slotsX (argSlots 0 gs) × objsX [] → Option (outsX [boolOut])} {f : FuncId} (hfs : ∀ K, FnSound P f (lawPiece gs nt (fn K)))
    (hlaw : ∀ x, okS gs 0 x → ∃ K, fn K (x, ()) = some ((true, ()), ())) {ts : List TypeId} (hty : argsOk P gs ts = true) {args : Array Value} {ds : List (DataW H)} {ps : List MemPlace}
    (hA : DataW.TrodAll enc P w 0 spare held ts args.toList ds ps) (hok : ∀ (j : Nat) t v, ts[j]? = some t → args.toList[j]? = some v → Value.okWide P w .any b0 t v) :
    Calls P f args w fun e w' => e = .returned (.bool true) ∧ Below w.heap.size w w' := by
  let G : Gh := { ow := fun b => if b < w.heap.size then .frz else .out, kd := fun _ => none, nd := fun _ _ _ => none }
  obtain ⟨x, hx, hrep⟩ := args_rep (fz := fun b => b < w.heap.size) (fun b hb => hb) gs ts args.toList ds ps 0 hty hA hok
  obtain ⟨K, hK⟩ := hlaw x hx
  have htr : TRep G w (slotsMk id (argSlots 0 gs) x) (objsMk id 0 [] ()) (fun t => args.getD t undef) 0 := by
    refine ⟨hrep G (fun b hb => by simp [Gh.fz, G, hb]) (fun t => args.getD t undef) fun j v hj => ?_, fun j => trivial, fun id _ g i => rfl, fun j _ => rfl⟩
    simp only [Nat.zero_add]
    have hj' : args[j]? = some v := by simpa using hj
    simp [Array.getD_eq_getD_getElem?, hj']
  refine (hfs K (x, ()) _ hK G w args htr).mono fun e w' hh => ?_
  obtain ⟨v, rfl, o, yo, G', hsel, hout⟩ := hh
  have hbel : Below w.heap.size w w' := ⟨hout.fra.os, hout.fra.tape, hout.fra.output, hout.fra.size, fun k hk => (hout.fra.keep k hk (fun l => by simp [G, hk])).1⟩
  cases hsel with
  | one =>
    have := hout.rep.slot (0, .val .bool true) (by simp [slotsMk, TA.mk])
    have hv : v = .bool true := by simpa [RepT, ValOf, RepG, RepC, AVal.isAgg, GTy.isAgg] using this
    subst hv
    exact ⟨rfl, hbel⟩

theorem trodAll_below (hl : laidOutB P = true) {w' : World} (hb : Below w.heap.size w w') : ∀ (ts : List TypeId) (vs : List Value) (ds : List (DataW H)) (ps : List MemPlace), ts.all (fun t => P.readableRec t && decide (t < P.types.size)) = true →
    DataW.TrodAll enc P w 0 (fun _ => true) true ts vs ds ps → DataW.TrodAll enc P w' 0 (fun b => decide (b < w.heap.size)) true ts vs ds ps
  | [], vs, ds, ps, _, h => by
    obtain ⟨rfl, rfl, rfl⟩ := trodAll_nil h
    exact trodAll_mk0
  | t :: ts, vs, ds, ps, hr, h => by
    have hlt := DataW.TrodAll.lt h
    obtain ⟨v, vs', d, ds', p, q, rfl, rfl, rfl, h0, h1⟩ := trodAll_cons h
    simp only [List.all_cons, Bool.and_eq_true, decide_eq_true_eq] at hr
    exact ⟨p, q, Below.trod hl hr.1.1 hr.1.2 h0 hb fun x hx => hlt x (List.mem_append_left _ hx), trodAll_below hl hb ts vs' ds' q hr.2 h1, rfl⟩

theorem trodAll_len : ∀ (ts : List TypeId) (vs : List Value) (ds : List (DataW H)) (ps : List MemPlace), DataW.TrodAll enc P w base spare held ts vs ds ps → ds.length = ts.length
  | [], vs, ds, ps, h => by
    obtain ⟨rfl, rfl, rfl⟩ := trodAll_nil h
    rfl
  | t :: ts, vs, ds, ps, h => by
    obtain ⟨v, vs', d, ds', p, q, rfl, rfl, rfl, h0, h1⟩ := trodAll_cons h
    simp [trodAll_len ts vs' ds' q h1]

/-- the law's row: true, and what came in reads as it did -/
theorem law_post {s : ChangeSpec} {fn : Func} {f : FuncId} {gs : List GTy} {nt : Nat} {lf : Nat → slotsX (argSlots 0 gs) × objsX [] → Option (outsX [boolOut])} {tb : TypeId}
    (hvars : s.vars = []) (hsfn : ∀ ds : List (DataW H), ds.length = fn.params.toList.length → s.fn H ds = { results := [.lit (.bool true)], args := ds })
    (hres : fn.resultTypes = #[tb]) (htb : P.underlying tb = some .bool) (hlay : laidOutB P = true) (hread : fn.params.toList.all (fun t => P.readableRec t && decide (t < P.types.size)) = true)
    (hfs : ∀ K, FnSound P f (lawPiece gs nt (lf K))) (hlaw : ∀ x, okS gs 0 x → ∃ K, lf K (x, ()) = some ((true, ()), ())) (hty : argsOk P gs fn.params.toList = true)
    {W : World} {args : Array Value} {ds gs' : List (DataW H)} {before : List MemPlace}
    (hok : ∀ (j : Nat) t v, fn.params[j]? = some t → args[j]? = some v → Value.okWide P W .any b0 t v) (hW : DataW.Whole enc P fn.params.toList s.vars false W args.toList ds gs' before) :
    Calls P f args W fun e W' => ∃ v, e = .returned v ∧ s.post enc P fn false true false false W args v W' := by
  have hW' := hW
  obtain ⟨p, q, hA, hV, rfl, hfz, hnd⟩ := hW
  rw [hvars] at hV
  obtain ⟨rfl, rfl⟩ := trodVars_none hV
  refine (law_contract hfs hlaw hty hA fun j t v ht hv => hok j t v (by simpa using ht) (by simpa using hv)).mono fun e W' ⟨he, bel⟩ => ?_
  refine ⟨_, he, ds, [], _, [], p, [], hW', ?_, ?_, ?_, bel.frame _, fun h => by cases h⟩
  · rw [List.append_nil, hsfn ds (trodAll_len _ _ _ _ hA), hres]
    exact trodAll_mk1 (RowKit.shut_bool htb true)
  · rw [List.append_nil, hsfn ds (trodAll_len _ _ _ _ hA)]
    exact trodAll_below hlay bel _ _ _ _ hread hA
  · rw [List.append_nil, hsfn ds (trodAll_len _ _ _ _ hA), hvars]
    rfl
end
end Go.Fw
namespace Go.Fw
open Go

/-! ### Numbers of 32 bits, as plain numbers -/
theorem bv32 (a : Nat) : (BitVec.ofInt 32 (a : Int)) = BitVec.ofNat 32 a := by
  apply BitVec.eq_of_toNat_eq
  simp

theorem iand_nat {a b : Nat} (ha : a < 4294967296) (hb : b < 4294967296) : iand .u32 (a : Int) (b : Int) = ((a &&& b : Nat) : Int) := by
  have h : a &&& b ≤ a := Nat.and_le_left
  have e : iand .u32 (a : Int) (b : Int) = IntKind.u32.wrap (((BitVec.ofInt 32 (a : Int)) &&& (BitVec.ofInt 32 (b : Int))).toNat : Int) := rfl
  rw [e, bv32, bv32, BitVec.toNat_and, BitVec.toNat_ofNat, BitVec.toNat_ofNat, Nat.mod_eq_of_lt (by omega), Nat.mod_eq_of_lt (by omega)]
  exact IntWalk.u32_in _ ⟨by omega, by omega⟩

theorem ior_nat {a b : Nat} (ha : a < 4294967296) (hb : b < 4294967296) : ior .u32 (a : Int) (b : Int) = ((a ||| b : Nat) : Int) := by
  have h : a ||| b < 2 ^ 32 := Nat.or_lt_two_pow (by simpa using ha) (by simpa using hb)
  have e : ior .u32 (a : Int) (b : Int) = IntKind.u32.wrap (((BitVec.ofInt 32 (a : Int)) ||| (BitVec.ofInt 32 (b : Int))).toNat : Int) := rfl
  rw [e, bv32, bv32, BitVec.toNat_or, BitVec.toNat_ofNat, BitVec.toNat_ofNat, Nat.mod_eq_of_lt (by omega), Nat.mod_eq_of_lt (by omega)]
  exact IntWalk.u32_in _ ⟨by omega, by omega⟩

theorem ixor_nat {a b : Nat} (ha : a < 4294967296) (hb : b < 4294967296) : ixor .u32 (a : Int) (b : Int) = ((a ^^^ b : Nat) : Int) := by
  have h : a ^^^ b < 2 ^ 32 := Nat.xor_lt_two_pow (by simpa using ha) (by simpa using hb)
  have e : ixor .u32 (a : Int) (b : Int) = IntKind.u32.wrap (((BitVec.ofInt 32 (a : Int)) ^^^ (BitVec.ofInt 32 (b : Int))).toNat : Int) := rfl
  rw [e, bv32, bv32, BitVec.toNat_xor, BitVec.toNat_ofNat, BitVec.toNat_ofNat, Nat.mod_eq_of_lt (by omega), Nat.mod_eq_of_lt (by omega)]
  exact IntWalk.u32_in _ ⟨by omega, by omega⟩

theorem iandNot_nat {a b : Nat} (ha : a < 4294967296) (hb : b < 4294967296) : iandNot .u32 (a : Int) (b : Int) = ((a &&& (4294967295 - b) : Nat) : Int) := by
  have h : a &&& (4294967295 - b) ≤ a := Nat.and_le_left
  have e : iandNot .u32 (a : Int) (b : Int) = IntKind.u32.wrap (((BitVec.ofInt 32 (a : Int)) &&& ~~~(BitVec.ofInt 32 (b : Int))).toNat : Int) := rfl
  rw [e, bv32, bv32, BitVec.toNat_and, BitVec.toNat_not, BitVec.toNat_ofNat, BitVec.toNat_ofNat, Nat.mod_eq_of_lt (by omega), Nat.mod_eq_of_lt (by omega)]
  rw [show 2 ^ 32 - 1 - b = 4294967295 - b by omega]
  exact IntWalk.u32_in _ ⟨by omega, by omega⟩

theorem ishr_nat (a s : Nat) (hs : s ≤ 32) : ishr .u32 (a : Int) (s : Int) = ((a >>> s : Nat) : Int) := by
  simp only [ishr, IntKind.bits, Int.toNat_natCast, Nat.min_eq_left hs, Nat.shiftRight_eq_div_pow]
  rw [Int.fdiv_eq_ediv_of_nonneg _ (Int.pow_nonneg (by decide))]
  simp

theorem ishl_nat {a s : Nat} (hs : s ≤ 32) (h : a <<< s < 4294967296) : ishl .u32 (a : Int) (s : Int) = ((a <<< s : Nat) : Int) := by
  simp only [ishl, IntKind.bits, Int.toNat_natCast, Nat.min_eq_left hs]
  rw [Nat.shiftLeft_eq] at h ⊢
  rw [show (a : Int) * 2 ^ s = ((a * 2 ^ s : Nat) : Int) by simp]
  exact IntWalk.u32_in _ ⟨by omega, by omega⟩

theorem nat_of_u32 {x : Int} (h : IntKind.u32.has x) : ∃ n : Nat, x = (n : Int) ∧ n < 4294967296 := by
  have h1 : IntKind.u32.min ≤ x ∧ x ≤ IntKind.u32.max := h
  have h2 : IntKind.u32.min = 0 := rfl
  have h3 : IntKind.u32.max = 4294967295 := rfl
  exact ⟨x.toNat, by omega, by omega⟩
theorem i64_of {x : Int} (h : IntKind.i64.has x) : -9223372036854775808 ≤ x ∧ x ≤ 9223372036854775807 := by
  have h1 : IntKind.i64.min ≤ x ∧ x ≤ IntKind.i64.max := h
  have h2 : IntKind.i64.min = -9223372036854775808 := rfl
  have h3 : IntKind.i64.max = 9223372036854775807 := rfl
  omega
end Go.Fw
namespace Go.Fw
open Go

/-! ### What a computation comes to, whenever the fuel is enough -/
def Wp {α : Type} (x : Nat → Nat → Option α) (Q : α → Prop) : Prop := ∃ y N, (∀ K k, N ≤ K → N ≤ k → x K k = some y) ∧ Q y

section
variable {α β : Type} {P Q : α → Prop} {R : β → Prop}

theorem Wp.ret {y : α} (h : Q y) : Wp (fun _ _ => some y) Q := ⟨y, 0, fun _ _ _ _ => rfl, h⟩

theorem Wp.bind {x : Nat → Nat → Option α} {g : Nat → Nat → α → Option β} (h : Wp x fun y => Wp (fun K k => g K k y) R) : Wp (fun K k => (x K k).bind (g K k)) R := by
  obtain ⟨y, N, h1, z, M, h2, h3⟩ := h
  refine ⟨z, N + M, fun K k hK hk => ?_, h3⟩
  show (x K k).bind (g K k) = some z
  rw [h1 K k (by omega) (by omega)]
  exact h2 K k (by omega) (by omega)

theorem Wp.mono {x : Nat → Nat → Option α} (h : Wp x P) (hPQ : ∀ y, P y → Q y) : Wp x Q := by
  obtain ⟨y, N, h1, h2⟩ := h
  exact ⟨y, N, h1, hPQ y h2⟩

theorem Wp.call {x : Nat → Nat → Option α} {g : Nat → Nat → α → Option β} (h : Wp x P) (h2 : ∀ y, P y → Wp (fun K k => g K k y) R) : Wp (fun K k => (x K k).bind (g K k)) R := (h.mono h2).bind

/-- a call whose result is known -/
theorem Wp.callE {x : Nat → Nat → Option α} {g : Nat → Nat → α → Option β} {y : α} (h : Wp x fun z => z = y) (h2 : Wp (fun K k => g K k y) R) : Wp (fun K k => (x K k).bind (g K k)) R :=
  h.call fun z hz => by subst hz; exact h2

theorem Wp.and {x : Nat → Nat → Option α} (h : Wp x P) (h' : Wp x Q) : Wp x fun y => P y ∧ Q y := by
  obtain ⟨y, N, h1, h2⟩ := h
  obtain ⟨z, M, h3, h4⟩ := h'
  have := h1 (N + M) (N + M) (by omega) (by omega)
  rw [h3 (N + M) (N + M) (by omega) (by omega)] at this
  cases this
  exact ⟨_, N, h1, h2, h4⟩

theorem Wp.ite {c : Prop} [Decidable c] {a b : Nat → Nat → Option α} (h1 : c → Wp a Q) (h2 : ¬ c → Wp b Q) : Wp (fun K k => if c then a K k else b K k) Q := by
  by_cases h : c
  · simpa only [if_pos h] using h1 h
  · simpa only [if_neg h] using h2 h

theorem Wp.pos {c : Prop} [Decidable c] {a b : Nat → Nat → Option α} (h : c) (h1 : Wp a Q) : Wp (fun K k => if c then a K k else b K k) Q := Wp.ite (fun _ => h1) (fun h2 => absurd h h2)
theorem Wp.neg {c : Prop} [Decidable c] {a b : Nat → Nat → Option α} (h : ¬ c) (h1 : Wp b Q) : Wp (fun K k => if c then a K k else b K k) Q := Wp.ite (fun h2 => absurd h2 h) (fun _ => h1)

/-- on a decided proposition -/
theorem Wp.ited {p : Prop} [Decidable p] {a b : Nat → Nat → Option α} (h1 : p → Wp a Q) (h2 : ¬ p → Wp b Q) : Wp (fun K k => if decide p = true then a K k else b K k) Q :=
  Wp.ite (fun h => h1 (of_decide_eq_true h)) (fun h => h2 (fun hp => h (decide_eq_true hp)))
theorem Wp.posd {p : Prop} [Decidable p] {a b : Nat → Nat → Option α} (h : p) (h1 : Wp a Q) : Wp (fun K k => if decide p = true then a K k else b K k) Q := Wp.ited (fun _ => h1) (fun h2 => absurd h h2)
theorem Wp.negd {p : Prop} [Decidable p] {a b : Nat → Nat → Option α} (h : ¬ p) (h1 : Wp b Q) : Wp (fun K k => if decide p = true then a K k else b K k) Q := Wp.ited (fun h2 => absurd h2 h) (fun _ => h1)
/-- on a denied one -/
theorem Wp.iten {p : Prop} [Decidable p] {a b : Nat → Nat → Option α} (h1 : ¬ p → Wp a Q) (h2 : p → Wp b Q) : Wp (fun K k => if (!decide p) = true then a K k else b K k) Q :=
  Wp.ite (fun h => h1 (by simpa using h)) (fun h => h2 (by simpa using h))
theorem Wp.posn {p : Prop} [Decidable p] {a b : Nat → Nat → Option α} (h : ¬ p) (h1 : Wp a Q) : Wp (fun K k => if (!decide p) = true then a K k else b K k) Q := Wp.iten (fun _ => h1) (fun h2 => absurd h2 h)
theorem Wp.negn {p : Prop} [Decidable p] {a b : Nat → Nat → Option α} (h : p) (h1 : Wp b Q) : Wp (fun K k => if (!decide p) = true then a K k else b K k) Q := Wp.iten (fun h2 => absurd h h2) (fun _ => h1)
/-- on a truth value -/
theorem Wp.iteb {b : Bool} {x y : Nat → Nat → Option α} (h1 : b = true → Wp x Q) (h2 : b = false → Wp y Q) : Wp (fun K k => if b = true then x K k else y K k) Q :=
  Wp.ite h1 (fun h => h2 (by simpa using h))
theorem Wp.itebn {b : Bool} {x y : Nat → Nat → Option α} (h1 : b = false → Wp x Q) (h2 : b = true → Wp y Q) : Wp (fun K k => if (!b) = true then x K k else y K k) Q :=
  Wp.ite (fun h => h1 (by simpa using h)) (fun h => h2 (by simpa using h))

/-- one round of a loop -/
theorem Wp.step {x : Nat → Nat → Option α} (h : Wp (fun K k => x K (k + 1)) Q) : Wp x Q := by
  obtain ⟨y, N, h1, h2⟩ := h
  refine ⟨y, N + 1, fun K k hK hk => ?_, h2⟩
  obtain ⟨j, rfl⟩ : ∃ j, k = j + 1 := ⟨k - 1, by omega⟩
  exact h1 K j (by omega) (by omega)

/-- a loop is called -/
theorem Wp.diag {x : Nat → Nat → Option α} (h : Wp x Q) : Wp (fun K _ => x K K) Q := by
  obtain ⟨y, N, h1, h2⟩ := h
  exact ⟨y, N, fun K _ hK _ => h1 K K hK hK, h2⟩

/-- the loop's own fuel does not matter to a call -/
theorem Wp.fix {x : Nat → Option α} (h : Wp (fun K _ => x K) Q) : Wp (fun K _ => x K) Q := h

theorem Wp.of_add {x : Nat → Option α} {y : α} (c : Nat) (h : ∀ n, x (n + c) = some y) (hQ : Q y) : Wp (fun K _ => x K) Q :=
  ⟨y, c, fun K _ hK _ => by rw [show K = (K - c) + c by omega]; exact h _, hQ⟩
theorem Wp.of_add2 {x : Nat → Nat → Option α} {y : α} (c : Nat) (h : ∀ n k, x (n + c) (k + c) = some y) (hQ : Q y) : Wp x Q :=
  ⟨y, c, fun K k hK hk => by rw [show K = (K - c) + c by omega, show k = (k - c) + c by omega]; exact h _ _, hQ⟩

theorem Wp.out {x : Nat → Option α} (h : Wp (fun K _ => x K) Q) : ∃ K y, x K = some y ∧ Q y := by
  obtain ⟨y, N, h1, h2⟩ := h
  exact ⟨N, y, h1 N N (Nat.le_refl _) (Nat.le_refl _), h2⟩
theorem Wp.outE {x : Nat → Option α} {y : α} (h : Wp (fun K _ => x K) fun z => z = y) : ∃ K, x K = some y := by
  obtain ⟨K, z, h1, rfl⟩ := h.out
  exact ⟨K, h1⟩
/-- the same result, as an equation -/
theorem Wp.eq {x : Nat → Nat → Option α} (h : Wp x Q) : ∃ y, Q y ∧ Wp x fun z => z = y := by
  obtain ⟨y, N, h1, h2⟩ := h
  exact ⟨y, h2, y, N, h1, rfl⟩
end

/-! ### The same with a third fuel, for loops inside of a recursion -/
def W3 {α : Type} (x : Nat → Nat → Nat → Option α) (Q : α → Prop) : Prop := ∃ y N, (∀ K j k, N ≤ K → N ≤ j → N ≤ k → x K j k = some y) ∧ Q y

section
variable {α β : Type} {P Q : α → Prop} {R : β → Prop}
theorem W3.ret {y : α} (h : Q y) : W3 (fun _ _ _ => some y) Q := ⟨y, 0, fun _ _ _ _ _ _ => rfl, h⟩
theorem W3.mono {x : Nat → Nat → Nat → Option α} (h : W3 x P) (hPQ : ∀ y, P y → Q y) : W3 x Q := by
  obtain ⟨y, N, h1, h2⟩ := h
  exact ⟨y, N, h1, hPQ y h2⟩
theorem W3.bind {x : Nat → Nat → Nat → Option α} {g : Nat → Nat → Nat → α → Option β} (h : W3 x fun y => W3 (fun K j k => g K j k y) R) : W3 (fun K j k => (x K j k).bind (g K j k)) R := by
  obtain ⟨y, N, h1, z, M, h2, h3⟩ := h
  refine ⟨z, N + M, fun K j k hK hj hk => ?_, h3⟩
  show (x K j k).bind (g K j k) = some z
  rw [h1 K j k (by omega) (by omega) (by omega)]
  exact h2 K j k (by omega) (by omega) (by omega)
theorem W3.call {x : Nat → Nat → Nat → Option α} {g : Nat → Nat → Nat → α → Option β} (h : W3 x P) (h2 : ∀ y, P y → W3 (fun K j k => g K j k y) R) : W3 (fun K j k => (x K j k).bind (g K j k)) R := (h.mono h2).bind
theorem W3.ite {c : Prop} [Decidable c] {a b : Nat → Nat → Nat → Option α} (h1 : c → W3 a Q) (h2 : ¬ c → W3 b Q) : W3 (fun K j k => if c then a K j k else b K j k) Q := by
  by_cases h : c
  · simpa only [if_pos h] using h1 h
  · simpa only [if_neg h] using h2 h
theorem W3.ited {p : Prop} [Decidable p] {a b : Nat → Nat → Nat → Option α} (h1 : p → W3 a Q) (h2 : ¬ p → W3 b Q) : W3 (fun K j k => if decide p = true then a K j k else b K j k) Q :=
  W3.ite (fun h => h1 (of_decide_eq_true h)) (fun h => h2 (fun hp => h (decide_eq_true hp)))
theorem W3.posd {p : Prop} [Decidable p] {a b : Nat → Nat → Nat → Option α} (h : p) (h1 : W3 a Q) : W3 (fun K j k => if decide p = true then a K j k else b K j k) Q := W3.ited (fun _ => h1) (fun h2 => absurd h h2)
theorem W3.negd {p : Prop} [Decidable p] {a b : Nat → Nat → Nat → Option α} (h : ¬ p) (h1 : W3 b Q) : W3 (fun K j k => if decide p = true then a K j k else b K j k) Q := W3.ited (fun h2 => absurd h2 h) (fun _ => h1)
theorem W3.iteb {b : Bool} {x y : Nat → Nat → Nat → Option α} (h1 : b = true → W3 x Q) (h2 : b = false → W3 y Q) : W3 (fun K j k => if b = true then x K j k else y K j k) Q :=
  W3.ite h1 (fun h => h2 (by simpa using h))
theorem W3.step {x : Nat → Nat → Nat → Option α} (h : W3 (fun K j k => x K j (k + 1)) Q) : W3 x Q := by
  obtain ⟨y, N, h1, h2⟩ := h
  refine ⟨y, N + 1, fun K j k hK hj hk => ?_, h2⟩
  obtain ⟨i, rfl⟩ : ∃ i, k = i + 1 := ⟨k - 1, by omega⟩
  exact h1 K j i (by omega) (by omega) (by omega)
theorem W3.lift {x : Nat → Nat → Option α} (h : Wp x Q) : W3 (fun K j _ => x K j) Q := by
  obtain ⟨y, N, h1, h2⟩ := h
  exact ⟨y, N, fun K j _ hK hj _ => h1 K j hK hj, h2⟩
theorem W3.diag {x : Nat → Nat → Nat → Option α} (h : W3 x Q) : Wp (fun K j => x K j K) Q := by
  obtain ⟨y, N, h1, h2⟩ := h
  exact ⟨y, N, fun K j hK hj => h1 K j K hK hj hK, h2⟩
end

/-! ### Numbers -/
theorem wrapN (n : Nat) (h : n ≤ 9223372036854775807) : IntKind.i64.wrap (n : Int) = (n : Int) := IntWalk.i64_in _ ⟨by omega, by omega⟩
theorem wrapI {x : Int} (h1 : -9223372036854775808 ≤ x) (h2 : x ≤ 9223372036854775807) : IntKind.i64.wrap x = x := IntWalk.i64_in _ ⟨by omega, by omega⟩
theorem wrapS (n : Nat) (h : n < 9223372036854775807) : IntKind.i64.wrap ((n : Int) + 1) = ((n + 1 : Nat) : Int) := by
  rw [show (n : Int) + 1 = ((n + 1 : Nat) : Int) by simp]
  exact wrapN _ (by omega)
theorem wrapA (n m : Nat) (h : n + m ≤ 9223372036854775807) : IntKind.i64.wrap ((n : Int) + (m : Int)) = ((n + m : Nat) : Int) := by
  rw [show (n : Int) + (m : Int) = ((n + m : Nat) : Int) by simp]
  exact wrapN _ (by omega)
theorem wrapP (n : Nat) (h0 : 1 ≤ n) (h : n ≤ 9223372036854775807) : IntKind.i64.wrap ((n : Int) - 1) = ((n - 1 : Nat) : Int) := by
  rw [show (n : Int) - 1 = ((n - 1 : Nat) : Int) by omega]
  exact wrapN _ (by omega)
theorem wrapM (n m : Nat) (h0 : m ≤ n) (h : n ≤ 9223372036854775807) : IntKind.i64.wrap ((n : Int) - (m : Int)) = ((n - m : Nat) : Int) := by
  rw [show (n : Int) - (m : Int) = ((n - m : Nat) : Int) by omega]
  exact wrapN _ (by omega)

/-! ### Reading, plainly -/
theorem rdl_int (k : IntKind) (l : List Int) (i : Nat) : rdl (.int k) l i = l.getD i (0 : Int) := rfl
theorem rdl_bool (l : List Bool) (i : Nat) : rdl .bool l i = l.getD i false := rfl
theorem rdl_slice (g : GTy) (l : List (List g.denote)) (i : Nat) : rdl (.slice g) l i = l.getD i [] := rfl
theorem beq_bool (a b : Bool) : GTy.beq .bool a b = (a == b) := rfl

/-! ### Lists of numbers -/
def numl (l : List Nat) : List Int := l.map (fun n : Nat => (n : Int))
@[simp] theorem numl_length (l : List Nat) : (numl l).length = l.length := by simp [numl]
@[simp] theorem numl_nil : numl [] = [] := rfl
theorem numl_append (l m : List Nat) : numl (l ++ m) = numl l ++ numl m := by simp [numl]
theorem numl_snoc (l : List Nat) (n : Nat) : numl l ++ [(n : Int)] = numl (l ++ [n]) := by simp [numl]
theorem numl_single (n : Nat) : numl [n] = [(n : Int)] := rfl
theorem rdl_numl (k : IntKind) (l : List Nat) (i : Nat) : rdl (.int k) (numl l) i = ((l.getD i 0 : Nat) : Int) := by
  simp only [rdl, numl, List.getD_eq_getElem?_getD, List.getElem?_map]
  cases l[i]? <;> rfl
theorem numl_of {l : List Int} (h : ∀ y ∈ l, IntKind.u32.has y) : ∃ m : List Nat, l = numl m ∧ m.length = l.length ∧ ∀ y ∈ m, y < 4294967296 := by
  induction l with
  | nil => exact ⟨[], rfl, rfl, by simp⟩
  | cons a l ih =>
    obtain ⟨m, rfl, h1, h2⟩ := ih fun y hy => h y (List.mem_cons_of_mem _ hy)
    obtain ⟨n, rfl, hn⟩ := nat_of_u32 (h a (List.mem_cons_self ..))
    exact ⟨n :: m, rfl, by simp, fun y hy => by
      rcases List.mem_cons.1 hy with rfl | hy
      · exact hn
      · exact h2 y hy⟩
end Go.Fw
namespace Go.Fw
open Go

/-- a slice, or its address is nil and the list is empty -/
theorem repT_slice {G : Gh} {w : World} {e : GTy} {l : List e.denote} {v : Value} (h : RepT G w (.val (.slice e) l) v) : ∃ ad c, v = .slice ad l.length c ∧ (ad = none → l = []) := by
  have h' : RepC w G.fz (.slice e) l [v] := by simpa [RepT, ValOf, RepG, AVal.isAgg, GTy.isAgg] using h
  obtain ⟨ad, c, h1, _, _, h4⟩ := h'
  simp only [List.cons.injEq, and_true] at h1
  refine ⟨ad, c, h1, fun h0 => ?_⟩
  rcases Nat.eq_zero_or_pos (List.length l) with h5 | h5
  · exact List.eq_nil_of_length_eq_zero h5
  · obtain ⟨b, o, h6, _⟩ := h4 h5
    rw [h0] at h6; simp at h6

theorem run_sliceNil {P : Program} {t te : TypeId} (ht : P.underlying t = some (.slice te)) (ad : Option Addr) (n c : Nat) (w : World) :
    (binOp .eql t (.slice ad n c) (.slice none 0 0)).run P w = .ok (.bool ad.isNone) w := by
  refine (binOp_rest (P := P) (t := t) (by simp) (by simp) (by simp) (by simp) ?_).1
  have h : ∀ d : Nat, (Op.equalIn (d + 1) t (.slice ad n c) (.slice none 0 0)).run P w = .ok ad.isNone w := fun d => by
    cases ad <;> simp [Op.equalIn, run_underlying ht]
  exact h 9999

/-- 'if s == nil { A }; C', where A and C return, and return the same of the empty list -/
theorem nil_thm {P : Program} {id : Nat} {t te t' : TypeId} {s0 t3 t4 : Nat} {A C : Code} {e : GTy} {outs : List Out} {asg : List Nat} {nt : Nat} {f fA fC : slotsX [(s0, TA.v (.slice e))] × objsX [] → Option (outsX outs)} {o1 o2 : Oper}
    (ht : P.underlying t = some (.slice te)) (h1 : o1.op = .move (.tmp s0)) (hd1 : o1.dst = some t3) (hg1 : o1.guard = none)
    (h2 : o2.op = .binOp .eql t (.tmp t3) (.const (.slice none 0 0)) t') (hd2 : o2.dst = some t4) (hg2 : o2.guard = none)
    (hne : s0 ≠ t3 ∧ s0 ≠ t4 ∧ t3 ≠ t4 ∧ t3 < nt ∧ t4 < nt)
    (hA : PcOk P A { slots := [(s0, TA.v (.slice e))], objs := [], outs := outs, asg := asg, nt := nt, fn := fA })
    (hC : PcOk P C { slots := [(s0, TA.v (.slice e))], objs := [], outs := outs, asg := asg, nt := nt, fn := fC })
    (hret : ∀ o ∈ outs, o.ex = .ret) (hasg : t3 ∈ asg ∧ t4 ∈ asg)
    (hfA : ∀ x y, f x = some y → x.1.1 = ([] : List e.denote) → fA x = some y) (hfC : ∀ x y, f x = some y → fC x = some y) :
    PcOk P (.seq (.seq (.region id #[o1, o2] false) (.cond (.tmp t4) A .skip)) C) { slots := [(s0, TA.v (.slice e))], objs := [], outs := outs, asg := asg, nt := nt, fn := f } where
  asg := fun x hx => by
    simp only [dsts, List.mem_append, List.mem_filterMap] at hx
    rcases hx with (⟨o, ho, h⟩ | hx | hx) | hx
    · simp only [List.mem_cons, List.not_mem_nil, or_false] at ho
      rcases ho with rfl | rfl
      · rw [hd1] at h; injection h with h; rw [← h]; exact hasg.1
      · rw [hd2] at h; injection h with h; rw [← h]; exact hasg.2
    · exact hA.asg x hx
    · exact absurd hx (by simp)
    · exact hC.asg x hx
  snd := by
    intro x y hxy G w a htr hd hs
    have hv := htr.slot (s0, (TA.v (.slice e)).mk (fun i => i) x.1.1) (by exact List.mem_cons_self ..)
    obtain ⟨ad, c, hv, hnil⟩ := repT_slice (l := x.1.1) hv
    simp only at hv hs
    obtain ⟨n1, n2, n3, n4, n5⟩ := hne
    -- the state behind the test
    obtain ⟨a2, ha2⟩ : ∃ a2, a2 = (a.put (some t3) (Value.slice ad (List.length x.1.1) c)).put (some t4) (.bool ad.isNone) := ⟨_, rfl⟩
    have hsz : a2.tmps.size = a.tmps.size := by rw [ha2, put_size, put_size]
    have hsame : ∀ u, u ≠ t3 → u ≠ t4 → a2.tmps.getD u undef = a.tmps.getD u undef := fun u hu1 hu2 => by
      rw [ha2, put_other (by simpa using Ne.symm hu2), put_other (by simpa using Ne.symm hu1)]
    have hdef : a2.defers = [] := by rw [ha2]; exact hd
    have hb : a2.eval (.tmp t4) = .bool ad.isNone := by
      rw [ha2]
      show ((a.put (some t3) _).tmps.setIfInBounds t4 _).getD t4 undef = _
      exact getD_set_self (by rw [put_size]; omega)
    have htr2 : TRep G w (slotsMk (fun i => i) [(s0, TA.v (.slice e))] x.1) (objsMk (fun i => i) 0 [] x.2) (fun u => a2.tmps.getD u undef) 0 := by
      refine ⟨fun q hq => ?_, htr.obj, htr.wf, htr.fresh⟩
      have hq' : q = (s0, (TA.v (.slice e)).mk (fun i => i) x.1.1) := by
        rcases List.mem_cons.1 hq with h | h
        · exact h
        · exact absurd h (by simp [slotsMk])
      have := htr.slot q hq
      rw [hq'] at this ⊢
      simp only at this ⊢
      rw [hsame s0 n1 n2]; exact this
    -- what the codes leave
    have fin : ∀ {K : Code} {g}, PcOk P K { slots := [(s0, TA.v (.slice e))], objs := [], outs := outs, asg := asg, nt := nt, fn := g } → g x = some y → (∀ u, u ∉ dsts (.seq (.seq (.region id #[o1, o2] false) (.cond (.tmp t4) A .skip)) C) → u ∉ dsts K ∧ u ≠ t3 ∧ u ≠ t4) →
        K.wp P (fun e' a' w' => e' = .ret ∧ ∃ o yo G', OutSel outs y o yo ∧ e' = o.ex.to ∧ OutRel o yo G w G' w' (fun u => a'.tmps.getD u undef) ∧ a'.defers = [] ∧ a'.tmps.size = a.tmps.size ∧ ∀ u, u ∉ dsts (.seq (.seq (.region id #[o1, o2] false) (.cond (.tmp t4) A .skip)) C) → a'.tmps.getD u undef = a.tmps.getD u undef) a2 w := by
      intro K g hK hg hu
      refine wp_mono (hK.snd x y hg G w a2 htr2 hdef (by simp only; omega)) fun e' a' w' hh => ?_
      obtain ⟨o, yo, G', k1, k2, k3, k4, k5, k6⟩ := hh
      refine ⟨by rw [k2, hret o (outSel_mem k1)]; rfl, o, yo, G', k1, k2, k3, k4, by omega, fun u hu' => ?_⟩
      obtain ⟨q1, q2, q3⟩ := hu u hu'
      rw [k6 u q1, hsame u q2 q3]
    have hd3 : ∀ u, u ∉ dsts (.seq (.seq (.region id #[o1, o2] false) (.cond (.tmp t4) A .skip)) C) → u ≠ t3 ∧ u ≠ t4 ∧ u ∉ dsts A ∧ u ∉ dsts C := fun u hu => by
      simp only [dsts, List.mem_append, List.mem_filterMap, not_or] at hu
      obtain ⟨⟨k1, k2, _⟩, k3⟩ := hu
      refine ⟨fun h => k1 ⟨o1, by simp, by rw [hd1, h]⟩, fun h => k1 ⟨o2, by simp, by rw [hd2, h]⟩, k2, k3⟩
    refine wp_seq (wp_seq (wp_region_list ?_))
    refine wpList_step fun K hK => ?_
    simp only [Region.wanted, hg1, if_true]
    refine wp_val (v := Value.slice ad (List.length x.1.1) c) (w' := w) ?_ (hK _ _ ?_)
    · simp only [execOp, h1]
      rw [show a.eval (.tmp s0) = a.tmps.getD s0 undef from rfl, hv]
      rfl
    refine wpList_step fun K hK => ?_
    simp only [Region.wanted, hg2, if_true]
    refine wp_val (v := .bool ad.isNone) (w' := w) ?_ (hK _ _ ?_)
    · have e1 : (a.put o1.dst (Value.slice ad (List.length x.1.1) c)).eval (.tmp t3) = Value.slice ad (List.length x.1.1) c := by
        rw [hd1]
        exact getD_set_self (by omega)
      simp only [execOp, h2, e1]
      have hrun : (do eqGuard .eql t (.tmp t3) (.const (.slice none 0 0)) (Value.slice ad (List.length x.1.1) c) (.slice none 0 0); binOp .eql t (Value.slice ad (List.length x.1.1) c) (.slice none 0 0) : Sem Value).run P w = .ok (.bool ad.isNone) w := by
        rw [Sem.run_bind, run_eqGuard_of (by simp) (by simp)]
        exact run_sliceNil ht _ _ _ _
      rw [show (a.put o1.dst (Value.slice ad (List.length x.1.1) c)).eval (.const (.slice none 0 0)) = .slice none 0 0 from rfl, Sem.run_bind, hrun]
      rfl
    refine wpList_nil ?_
    rw [hd1, hd2, ← ha2]
    show (Code.cond (.tmp t4) A .skip).wp P _ a2 w
    refine wp_cond_split hb (fun h0 => ?_) (fun h0 => ?_)
    · have hn : ad = none := by cases ad <;> simp_all
      refine wp_mono (fin hA (hfA x y hxy (hnil hn)) fun u hu => ⟨(hd3 u hu).2.2.1, (hd3 u hu).1, (hd3 u hu).2.1⟩) fun e' a' w' hh => ?_
      obtain ⟨rfl, hh⟩ := hh
      exact hh
    · refine wp_skip ?_
      refine wp_mono (fin hC (hfC x y hxy) fun u hu => ⟨(hd3 u hu).2.2.2, (hd3 u hu).1, (hd3 u hu).2.1⟩) fun e' a' w' hh => hh.2
end Go.Fw
