/- The interpreter over typed plain data, and its soundness: part C. Nothing of the program stands here. -/
import Derived.Test.YtafndpkfoajpnaaFwB
namespace Go.Fw
open Go

/-! ### Updates -/
theorem upd_same {α : Type} (f : Nat → α) (i : Nat) (v : α) : upd f i v i = v := by simp [upd]
theorem upd_other {α : Type} (f : Nat → α) {i j : Nat} (v : α) (h : j ≠ i) : upd f i v j = f j := by simp [upd, h]
theorem upds_cons {α : Type} (f : Nat → α) (i : Nat) (v : α) (r : List (Nat × α)) : upds f ((i, v) :: r) = upds (upd f i v) r := rfl
theorem upds_append {α : Type} (f : Nat → α) (l m : List (Nat × α)) : upds f (l ++ m) = upds (upds f l) m := by
  induction l generalizing f with
  | nil => rfl
  | cons p l ih => simp only [List.cons_append, upds]; exact ih _
theorem upds_not {α : Type} (f : Nat → α) (l : List (Nat × α)) (j : Nat) (h : ∀ v, (j, v) ∉ l) : upds f l j = f j := by
  induction l generalizing f with
  | nil => rfl
  | cons p l ih =>
    simp only [upds]
    rw [ih _ (fun v hv => h v (List.mem_cons_of_mem _ hv)), upd_other]
    rintro rfl; exact h p.2 (by simp)
/-- only objects that die -/
theorem upds_dead {f : Nat → AObj} {l : List (Nat × AObj)} (h : ∀ p ∈ l, p.2 = .dead) (j : Nat) : upds f l j = f j ∨ upds f l j = .dead := by
  induction l generalizing f with
  | nil => exact .inl rfl
  | cons p l ih =>
    have ih := ih (f := upd f p.1 p.2) (fun q hq => h q (List.mem_cons_of_mem _ hq))
    simp only [upds]
    rcases ih with h1 | h1
    · rw [h1]
      by_cases hj : j = p.1
      · subst hj; rw [upd_same, h p (by simp)]; exact .inr rfl
      · rw [upd_other _ _ hj]; exact .inl rfl
    · exact .inr h1

/-! ### A new block -/
structure Pushed (w w1 : World) (o : Obj) : Prop where
  os : w1.os = w.os
  tape : w1.tape = w.tape
  output : w1.output = w.output
  heap : w1.heap = w.heap.push o

theorem Pushed.alloc (w : World) (o : Obj) : Pushed w (w.alloc o) o := ⟨rfl, rfl, rfl, rfl⟩
theorem Pushed.drewAlloc (w : World) (o : Obj) : Pushed w (w.drew.alloc o) o := ⟨rfl, rfl, rfl, rfl⟩

theorem Pushed.new {w w1 : World} {o : Obj} (h : Pushed w w1 o) : w1.heap[w.heap.size]? = some o := by rw [h.heap]; simp
theorem Pushed.old {w w1 : World} {o : Obj} (h : Pushed w w1 o) {b : Nat} (hb : b < w.heap.size) : w1.heap[b]? = w.heap[b]? := by
  rw [h.heap, Array.getElem?_push, if_neg (by omega)]

def Gh.new (G : Gh) (b id : Nat) (k : Kd) (nd : Nat → Option (Nat × Nat × Nat × Nat)) : Gh :=
  { ow := upd G.ow b (.own [id]), kd := upd G.kd id (some k), nd := fun j g => if j = id then (if g = 0 then nd else fun _ => none) else G.nd j g }

theorem Pushed.ext {G : Gh} {w w1 : World} {o : Obj} (h : Pushed w w1 o) {id : Nat} (hid : G.kd id = none) (hwf : ∀ id, G.kd id = none → ∀ g i, G.nd id g i = none) (k : Kd) (nd : Nat → Option (Nat × Nat × Nat × Nat)) :
    Ext G w (G.new w.heap.size id k nd) w1 := by
  refine ⟨h.os, h.tape, h.output, by rw [h.heap]; simp, fun j k' hk => ?_, fun j g i x hx => ?_, fun b hb ho => ⟨h.old hb, ?_⟩⟩
  · simp only [Gh.new]; rw [upd_other]; exact hk
    rintro rfl; rw [hid] at hk; simp at hk
  · simp only [Gh.new]; rw [if_neg]; exact hx
    rintro rfl; rw [hwf _ hid] at hx; simp at hx
  · simp only [Gh.new]; rw [upd_other]; omega

/-- a new object in a new block; some objects die -/
theorem Post.fresh_new {G : Gh} {w w1 : World} {s : St} {a : Act} {base : Nat} {o : Obj} (hr : Rel G w s a) (hf : G.kd base = none) (h : Pushed w w1 o) (k : Kd)
    (nd : Nat → Option (Nat × Nat × Nat × Nat)) (dead : List (Nat × AObj)) (hdead : ∀ p ∈ dead, p.2 = .dead) (v : AVal) (val : Value) (nobj : AObj)
    (hv : RepT (G.new w.heap.size base k nd) w1 v val) (hobj : RepO (G.new w.heap.size base k nd) w1 base nobj) :
    Post G w s.objs base { v, w := dead ++ [(base, nobj)] } val w1 (G.new w.heap.size base k nd) := by
  have hext := h.ext hf hr.wf k nd
  refine ⟨hext, hv, fun id => ?_, fun id hk g i => ?_, fun id k' hk => ?_⟩
  · rw [upds_append]
    simp only [upds]
    by_cases hid : id = base
    · subst hid; rw [upd_same]; exact hobj
    · rw [upd_other _ _ hid]
      have hold : RepO (G.new w.heap.size base k nd) w1 id (s.objs id) :=
        RepO.frame hext (fun g i => by simp [Gh.new, hid]) (fun b r hb ho => ⟨h.old hb, by simp only [Gh.new]; rw [upd_other]; omega⟩) (hr.obj id)
      rcases upds_dead hdead id with h1 | h1
      · rw [h1]; exact hold
      · rw [h1]; exact trivial
  · simp only [Gh.new] at hk ⊢
    by_cases hid : id = base
    · subst hid; rw [upd_same] at hk; simp at hk
    · rw [upd_other _ _ hid] at hk; rw [if_neg hid]; exact hr.wf id hk g i
  · simp only [Gh.new] at hk
    by_cases hid : id = base
    · subst hid; exact .inr ⟨Nat.le_refl _, by omega⟩
    · rw [upd_other _ _ hid] at hk; exact .inl hk

/-! ### Zero values -/
theorem zero_has (k : IntKind) : k.has 0 := by cases k <;> (unfold IntKind.has; decide)

theorem zMatch_c {w : World} {fz : Nat → Prop} : ∀ (g : GTy) (cs r : List Value), g.seen = true → zMatch g cs = some r → ∃ c1, cs = c1 ++ r ∧ RepC w fz g g.zero c1
  | .int k, cs, r, _, h => by
    unfold zMatch at h
    split at h
    · rename_i k' n r'
      split at h
      · rename_i hk
        simp at h; subst h
        obtain ⟨rfl, rfl⟩ := hk
        exact ⟨[.int k' 0], rfl, rfl, zero_has k'⟩
      · simp at h
    · simp at h
  | .bool, cs, r, _, h => by
    unfold zMatch at h
    split at h
    · simp at h; subst h; exact ⟨[.bool false], rfl, rfl⟩
    · simp at h
  | .str, cs, r, _, h => by
    unfold zMatch at h
    split at h
    · rename_i s r'
      split at h
      · rename_i hs
        simp at h; subst h
        have : s = ByteArray.empty := by
          obtain ⟨⟨l⟩⟩ := s
          simp at hs; subst hs; rfl
        subst this
        exact ⟨[.string ByteArray.empty], rfl, rfl⟩
      · simp at h
    · simp at h
  | .unit, cs, r, _, h => by simp [zMatch] at h; subst h; exact ⟨[], rfl, rfl⟩
  | .opq, _, _, hs, _ => by simp [GTy.seen] at hs
  | .slice e, cs, r, _, h => by
    unfold zMatch at h
    split at h
    · simp at h; subst h; exact ⟨[.slice none 0 0], rfl, repC_nil e⟩
    · simp at h
  | .pair a b, cs, r, hs, h => by
    simp only [GTy.seen, Bool.and_eq_true] at hs
    simp only [zMatch] at h
    cases ha : zMatch a cs with
    | none => simp [ha] at h
    | some r1 =>
      simp [ha] at h
      obtain ⟨c1, rfl, h1⟩ := zMatch_c (w := w) (fz := fz) a cs r1 hs.1 ha
      obtain ⟨c2, rfl, h2⟩ := zMatch_c (w := w) (fz := fz) b r1 r hs.2 h
      exact ⟨c1 ++ c2, by simp, c1, c2, rfl, h1, h2⟩

theorem flat_seen : ∀ (g : GTy), g.flat = true → g.seen = true
  | .int _, _ => rfl
  | .bool, _ => rfl
  | .str, _ => rfl
  | .unit, _ => rfl
  | .opq, h => by simp [GTy.flat] at h
  | .slice _, _ => rfl
  | .pair a b, h => by
    simp only [GTy.flat, GTy.seen, Bool.and_eq_true] at h ⊢
    exact ⟨flat_seen a h.1, flat_seen b h.2⟩

theorem zMatch_g {G : Gh} {w : World} : ∀ (g : GTy) (cs r : List Value), zMatch g cs = some r → ∃ c1, cs = c1 ++ r ∧ RepG G w (zeroA g) false c1 ∧ (zeroA g).shape g = true
  | .int k, cs, r, h => let ⟨c1, h1, h2⟩ := zMatch_c (w := w) (fz := G.fz) (.int k) cs r rfl h; ⟨c1, h1, ⟨rfl, h2⟩, by simp [zeroA, AVal.shape]⟩
  | .bool, cs, r, h => let ⟨c1, h1, h2⟩ := zMatch_c (w := w) (fz := G.fz) .bool cs r rfl h; ⟨c1, h1, ⟨rfl, h2⟩, by simp [zeroA, AVal.shape]⟩
  | .str, cs, r, h => let ⟨c1, h1, h2⟩ := zMatch_c (w := w) (fz := G.fz) .str cs r rfl h; ⟨c1, h1, ⟨rfl, h2⟩, by simp [zeroA, AVal.shape]⟩
  | .unit, cs, r, h => let ⟨c1, h1, h2⟩ := zMatch_c (w := w) (fz := G.fz) .unit cs r rfl h; ⟨c1, h1, ⟨rfl, h2⟩, by simp [zeroA, AVal.shape]⟩
  | .opq, cs, r, h => by
    unfold zMatch at h
    split at h
    · rename_i v r'
      split at h
      · rename_i hv
        simp at h; subst h
        exact ⟨[v], rfl, ⟨rfl, v, rfl, hv⟩, by simp [zeroA, AVal.shape]⟩
      · simp at h
    · simp at h
  | .slice e, cs, r, h => by
    unfold zMatch at h
    split at h
    · simp at h; subst h; exact ⟨[.slice none 0 0], rfl, ⟨rfl, rfl⟩, by simp [zeroA, AVal.shape]⟩
    · simp at h
  | .pair a b, cs, r, h => by
    simp only [zeroA]
    split
    · rename_i hfl
      obtain ⟨c1, h1, h2⟩ := zMatch_c (w := w) (fz := G.fz) (.pair a b) cs r (flat_seen _ hfl) h
      exact ⟨c1, h1, ⟨rfl, h2⟩, by simp [AVal.shape]⟩
    · simp only [zMatch] at h
      cases ha : zMatch a cs with
      | none => simp [ha] at h
      | some r1 =>
        simp [ha] at h
        obtain ⟨c1, rfl, h1, h1'⟩ := zMatch_g (G := G) (w := w) a cs r1 ha
        obtain ⟨c2, rfl, h2, h2'⟩ := zMatch_g (G := G) (w := w) b r1 r h
        exact ⟨c1 ++ c2, by simp, ⟨c1, c2, rfl, h1, h2⟩, by simp [AVal.shape, h1', h2']⟩

/-- the zero value of a type of the table -/
theorem ty_zero {P : Program} {g : GTy} {t : TypeId} (h : tyOk P g t = true) : ∃ i z, P.info? t = some i ∧ i.size = g.size ∧ i.bytes ≤ 16384 ∧ i.zero = some z ∧
    zMatch g z.cells.toList = some [] ∧ (g.isAgg = true → z = .agg z.cells) ∧ (g.isAgg = false → ∃ v, z = v ∧ z.cells = #[v]) := by
  obtain ⟨i, z, h1, h2, h3, h4, h5, h6⟩ := infoOk_info (infoOk_of h)
  refine ⟨i, z, h1, h2, h3, h4, h6, fun ha => ?_, fun ha => ?_⟩
  · cases z <;> simp [ha] at h5 ⊢ <;> first | rfl | contradiction
  · cases z <;> simp [ha] at h5 ⊢ <;> rfl

section
variable {P : Program} {E : Env} {o : Oper}

theorem ownB_new {G : Gh} {w w1 : World} {c : Array Value} {T : TypeId} {id : Nat} {k : Kd} {nd : Nat → Option (Nat × Nat × Nat × Nat)} (h : Pushed w w1 (.cells c T)) {n : Nat} (hn : n ≤ c.size) :
    OwnB (G.new w.heap.size id k nd) w1 w.heap.size [id] n := ⟨upd_same _ _ _, c, T, h.new, hn⟩

theorem cellsAt_new {w w1 : World} {c : Array Value} {T : TypeId} (h : Pushed w w1 (.cells c T)) {o : Nat} {cs : List Value} (hc : ∀ j v, cs[j]? = some v → c[o + j]? = some v) : CellsAt w1 w.heap.size o cs := by
  intro j v hj
  rw [cell_of_row w1 w.heap.size (o + j) c T (0, 0) h.new]
  exact hc j v hj

theorem sound_alloc (hE : EnvTy P E) {t : TypeId} (h : o.op = .alloc t) : Sound P E o := by
  intro G w s a base r hr hf he next Q hn
  simp only [opM, h] at he
  cases hty : E.ty t with
  | none => simp [hty, M.ev] at he
  | some g =>
    simp [hty, M.ev] at he; subst he
    obtain ⟨i, z, h1, h2, h3, h4, h5, h6, h7⟩ := ty_zero (hE.ty t g hty)
    have hp := Pushed.alloc w (.cells z.cells t)
    refine wp_val (v := .pointer (some ⟨w.heap.size, 0, none⟩)) (w' := w.alloc (.cells z.cells t)) ?_
      (hn _ _ _ (Post.fresh_new hr (hf base (Nat.le_refl _) (by omega)) hp (.box g w.heap.size) (fun _ => none) [] (by simp) _ _ _ ?_ ?_))
    · simp [execOp, h, Instr.alloc, zeroValue, typeInfo, h1, h4, newVar, newRow]
    · exact ⟨rfl, g, w.heap.size, upd_same _ _ _, typeAt_nil g, by rw [offT_nil]⟩
    · obtain ⟨c1, hc1, hc2, hc3⟩ := zMatch_g (G := G.new w.heap.size base (.box g w.heap.size) (fun _ => none)) (w := w.alloc (.cells z.cells t)) g _ _ h5
      simp at hc1; subst hc1
      have hl := (shape_len g _ _ hc3 hc2).1
      refine ⟨w.heap.size, z.cells.toList, upd_same _ _ _, ownB_new hp (by simp at hl; omega), cellsAt_new hp (by simp), hc2, hc3⟩

theorem sound_box {t : TypeId} {x : Operand} (h : o.op = .box t x) : Sound P E o := by
  intro G w s a base r hr hf he next Q hn
  simp only [opM, h] at he
  cases hty : E.ty t with
  | none => simp [hty, M.ev] at he
  | some g =>
    simp only [hty] at he
    split at he
    · rename_i hsh
      simp [M.ev] at he; subst he
      have hx := evalA_rep hr x
      obtain ⟨hrep, hlen, _⟩ := repT_cells hsh hx
      have hp := Pushed.alloc w (.cells (a.eval x).cells t)
      have hext := hp.ext (hf base (Nat.le_refl _) (by omega)) hr.wf (.box g w.heap.size) (fun _ => none)
      refine wp_val (v := .pointer (some ⟨w.heap.size, 0, none⟩)) (w' := w.alloc (.cells (a.eval x).cells t)) ?_
        (hn _ _ _ (Post.fresh_new hr (hf base (Nat.le_refl _) (by omega)) hp (.box g w.heap.size) (fun _ => none) [] (by simp) _ _ _ ?_ ?_))
      · simp [execOp, h, Instr.box, newVar, newRow]
      · exact ⟨rfl, g, w.heap.size, upd_same _ _ _, typeAt_nil g, by rw [offT_nil]⟩
      · exact ⟨w.heap.size, (a.eval x).cells.toList, upd_same _ _ _, ownB_new hp (by simp at hlen; omega), cellsAt_new hp (by simp), hext.repG _ _ _ hrep, hsh⟩
    · simp [M.ev] at he

end
end Go.Fw
namespace Go.Fw
open Go

section
variable {P : Program} {E : Env} {o : Oper}

/-! ### A block of the call's own, written -/
theorem setRow_ext {G : Gh} {w : World} {b : Nat} {l : List Nat} (hb : G.ow b = .own l) (c' : Array Value) : Ext G w G (w.setRow b c') :=
  ⟨rfl, rfl, rfl, by simp, fun _ _ h => h, fun _ _ _ _ h => h, fun k hk ho => ⟨heap_setRow_other (by rintro rfl; exact ho l hb), rfl⟩⟩

/-- one object is written in place -/
theorem Post.set_one {G : Gh} {w : World} {s : St} {a : Act} {base id b : Nat} {r : List Nat} (hr : Rel G w s a) (hb : G.ow b = .own (id :: r)) (c' : Array Value) (nobj : AObj)
    (hobj : RepO G (w.setRow b c') id nobj) : Post G w s.objs base { v := .none, w := [(id, nobj)] } undef (w.setRow b c') G := by
  have hext := setRow_ext (w := w) hb c'
  refine ⟨hext, trivial, fun j => ?_, hr.wf, fun j k hk => .inl hk⟩
  simp only [upds]
  by_cases hj : j = id
  · subst hj; rw [upd_same]; exact hobj
  · rw [upd_other _ _ hj]
    refine RepO.frame hext (fun _ _ => rfl) (fun b' r' hb' ho => ⟨heap_setRow_other ?_, rfl⟩) (hr.obj j)
    rintro rfl
    rw [hb] at ho; simp at ho; exact hj ho.1.symm

theorem cell_row {w : World} {b j : Nat} {c : Array Value} {T : TypeId} {fr : Nat × Nat} (h : w.heap[b]? = some (.cells c T fr)) : w.cell? ⟨b, j, none⟩ = c.toList[j]? := by
  rw [cell_of_row w b j c T fr h]; simp

theorem cellsAt_iff {w : World} {b o : Nat} {c : Array Value} {T : TypeId} {fr : Nat × Nat} {cs : List Value} (h : w.heap[b]? = some (.cells c T fr)) :
    CellsAt w b o cs ↔ ∀ j v, cs[j]? = some v → c.toList[o + j]? = some v := by
  constructor
  · intro hc j v hj; rw [← cell_row h]; exact hc j v hj
  · intro hc j v hj; rw [cell_row h]; exact hc j v hj

theorem getElem?_lt {α : Type} {l : List α} {j : Nat} {v : α} (h : l[j]? = some v) : j < l.length := by
  rcases Nat.lt_or_ge j l.length with hh | hh
  · exact hh
  · simp [List.getElem?_eq_none hh] at h

/-- the whole block from o0 on, one part laid anew -/
theorem cells_lay {w w1 : World} {b o0 off : Nat} {c : Array Value} {T : TypeId} {cs vs : List Value} (h : w.heap[b]? = some (.cells c T (0, 0))) (h1 : w1.heap[b]? = some (.cells (lay c.toList (o0 + off) vs).toArray T (0, 0)))
    (hfit : off + vs.length ≤ cs.length) (hc : CellsAt w b o0 cs) : CellsAt w1 b o0 (lay cs off vs) := by
  rw [cellsAt_iff h] at hc
  rw [cellsAt_iff h1]
  intro j v hj
  have hcl : ∀ j, j < cs.length → o0 + j < c.toList.length := by
    intro j hj'
    exact getElem?_lt (hc j cs[j] (List.getElem?_eq_getElem hj'))
  have hjl : j < cs.length := by
    have := getElem?_lt hj; rwa [size_lay hfit] at this
  have hfit2 : o0 + off + vs.length ≤ c.toList.length := by
    rcases Nat.eq_zero_or_pos (off + vs.length) with h0 | h0
    · have := hcl j hjl; omega
    · have := hcl (off + vs.length - 1) (by omega); omega
  rw [lay_get hfit] at hj
  show (lay c.toList (o0 + off) vs)[o0 + j]? = some v
  rw [lay_get hfit2]
  by_cases hin : off ≤ j ∧ j < off + vs.length
  · rw [if_pos hin] at hj
    rw [if_pos ⟨by omega, by omega⟩, ← hj]; congr 1; omega
  · rw [if_neg hin] at hj
    rw [if_neg (by omega)]; exact hc j v hj

/-- what lies beside the part is as it was -/
theorem cells_beside {w w1 : World} {b o0 at_ : Nat} {c : Array Value} {T : TypeId} {cs vs : List Value} (h : w.heap[b]? = some (.cells c T (0, 0))) (h1 : w1.heap[b]? = some (.cells (lay c.toList at_ vs).toArray T (0, 0)))
    (hfit : at_ + vs.length ≤ c.size) (hc : CellsAt w b o0 cs) (hap : o0 + cs.length ≤ at_ ∨ at_ + vs.length ≤ o0) : CellsAt w1 b o0 cs := by
  rw [cellsAt_iff h] at hc
  rw [cellsAt_iff h1]
  intro j v hj
  have := getElem?_lt hj
  show (lay c.toList at_ vs)[o0 + j]? = some v
  rw [lay_get (by simpa using hfit), if_neg (by omega)]
  exact hc j v hj

/-- an element of a row laid anew -/
theorem rowAt_set {α : Type} {w w1 : World} {b off sz i p : Nat} {c : Array Value} {T : TypeId} {vs : List Value} {R : α → List Value → Prop} {l : List α} {y : α}
    (h : w.heap[b]? = some (.cells c T (0, 0))) (h1 : w1.heap[b]? = some (.cells (lay c.toList (off + i * sz + p) vs).toArray T (0, 0)))
    (hlen : ∀ x cs, R x cs → cs.length = sz) (hfit : p + vs.length ≤ sz) (hi : i < l.length) (hsz : off + i * sz + p + vs.length ≤ c.size)
    (hrow : RowAt w sz b off R l) (hy : ∀ cs, CellsAt w b (off + i * sz) cs → R l[i] cs → R y (lay cs p vs)) : RowAt w1 sz b off R (l.set i y) := by
  intro j x hx
  by_cases hj : j = i
  · subst hj
    rw [List.getElem?_set_self hi] at hx
    simp at hx; subst hx
    obtain ⟨cs, hc, hr⟩ := hrow j l[j] (List.getElem?_eq_getElem hi)
    exact ⟨_, cells_lay h h1 (by rw [hlen _ _ hr]; exact hfit) hc, hy cs hc hr⟩
  · rw [List.getElem?_set_ne (by omega)] at hx
    obtain ⟨cs, hc, hr⟩ := hrow j x hx
    refine ⟨cs, cells_beside h h1 hsz hc ?_, hr⟩
    rw [hlen _ _ hr]
    rcases Nat.lt_or_gt_of_ne hj with hlt | hgt
    · left
      have : (j + 1) * sz ≤ i * sz := Nat.mul_le_mul_right _ hlt
      rw [Nat.add_mul] at this; omega
    · right
      have : (i + 1) * sz ≤ j * sz := Nat.mul_le_mul_right _ hgt
      rw [Nat.add_mul] at this; omega

theorem setElem_some {objs : Nat → AObj} {t e : GTy} {x z : e.denote} {fs : List Nat} {v : AVal} (h : (setElem t e x fs v).ev objs = some z) :
    ∃ y : t.denote, (coerce t v).ev objs = some (y, []) ∧ putT t y e fs x = some z := by
  unfold setElem at h
  obtain ⟨y, h1, h2⟩ := ev_some h
  split at h2
  · rename_i hem
    split at h2
    · rename_i z' hz
      injection (show some _ = some z from h2) with h2; subst h2
      refine ⟨y.1, ?_, hz⟩
      rw [h1]; congr 1
      obtain ⟨y1, y2⟩ := y
      simp at hem; simp [hem]
    · simp [M.ev] at h2
  · simp [M.ev] at h2

theorem fzV_nil {G : Gh} {w : World} {t : GTy} {x : t.denote} {cs : List Value} (h : RepC w (G.fzV []) t x cs) : RepC w G.fz t x cs :=
  h.more fun b hb => by
    rcases hb with hb | ⟨_, _, hm, _⟩
    · exact hb
    · simp at hm

/-- a list of the call's own is laid into a list of lists -/
theorem put_row2 {G : Gh} {w : World} {s : St} {a : Act} {base id i g b off c : Nat} {e : GTy} {l : List (List e.denote)} {x : List e.denote} {hole : Option Nat} {len' b' off' c' : Nat} {v : Value} {more : List (Nat × AObj)}
    (hr : Rel G w s a) (hobj : s.objs id = .row2 e l g hole) (hk : G.kd id = some (.row2 e l.length b off c)) (hi : i < l.length) (hole' : ∀ j, hole = some j → j = i)
    (hh : HdrIs e.size len' b' off' c' none v) (hlen : len' = x.length) (hnew : 0 < c' → ∃ id2 r, id2 ≠ id ∧ OwnB G w b' (id2 :: r) (off' + c' * e.size) ∧ RowAt w e.size b' off' (RepC w G.fz e) x ∧ more = [(id2, .dead)])
    (hmore : ∀ p ∈ more, p.2 = .dead ∧ p.1 ≠ id) :
    ∃ ca T, w.heap[b]? = some (.cells ca T (0, 0)) ∧ off + i < ca.size ∧ ∃ G', Post G w s.objs base { v := .none, w := (id, .row2 e (l.set i x) (g + 1) none) :: more } undef (w.setRow b (lay ca.toList (off + i) [v]).toArray) G' := by
  have ho := hr.obj id
  rw [hobj] at ho
  obtain ⟨b1, off1, c1, hk1, hl1, hl2, hgn, hown⟩ := ho
  rw [hk] at hk1; simp at hk1; obtain ⟨rfl, rfl, rfl⟩ := hk1
  obtain ⟨⟨how, ca, T, hb, hsz⟩, hrow⟩ := hown (by omega)
  refine ⟨ca, T, hb, by omega, ?_⟩
  have hb1 := heap_setRow (w := w) (c' := (lay ca.toList (off + i) [v]).toArray) hb
  let G' : Gh := { ow := if 0 < c' then upd G.ow b' (.own [id, i]) else G.ow, kd := G.kd, nd := fun j gg k => if j = id ∧ gg = g + 1 then (if k = i then some (len', b', off', c') else G.nd id g k) else G.nd j gg k }
  refine ⟨G', ?_⟩
  have hbb : ∀ k l', G.ow k = .own l' → l' ≠ [id] → (w.setRow b (lay ca.toList (off + i) [v]).toArray).heap[k]? = w.heap[k]? := by
    intro k l' hk' hne
    refine heap_setRow_other ?_
    rintro rfl
    rw [how] at hk'; simp at hk'; exact hne hk'.symm
  have how' : ∀ k l', G.ow k = .own l' → (∀ id2 r, id2 ≠ id → 0 < c' → more = [(id2, .dead)] → l' ≠ id2 :: r) → G'.ow k = .own l' := by
    intro k l' hk' hne
    simp only [G']
    split
    · rename_i hc
      obtain ⟨id2, r, hne2, ⟨hob, _⟩, _, hm⟩ := hnew hc
      by_cases hkb : k = b'
      · subst hkb; rw [hob] at hk'; simp at hk'; exact absurd hk'.symm (hne id2 r hne2 hc hm)
      · rw [upd_other _ _ hkb]; exact hk'
    · exact hk'
  have hext : Ext G w G' (w.setRow b (lay ca.toList (off + i) [v]).toArray) := by
    refine ⟨rfl, rfl, rfl, by simp, fun _ _ h => h, fun j gg k y hy => ?_, fun k hk' ho => ⟨heap_setRow_other (by rintro rfl; exact ho _ how), ?_⟩⟩
    · simp only [G']
      split
      · rename_i hj
        obtain ⟨rfl, rfl⟩ := hj
        rw [hgn (g + 1) k (by omega)] at hy; simp at hy
      · exact hy
    · simp only [G']
      split
      · rename_i hc
        obtain ⟨id2, r, _, ⟨hob, _⟩, _⟩ := hnew hc
        rw [upd_other]
        rintro rfl; exact ho _ hob
      · rfl
  refine ⟨hext, trivial, fun j => ?_, fun j hj gg k => ?_, fun j k hj => .inl hj⟩
  · -- the objects
    have hmj : ∀ (f : Nat → AObj), upds f more j = f j ∨ upds f more j = .dead := fun f => upds_dead (fun p hp => (hmore p hp).1) j
    simp only [upds]
    by_cases hj : j = id
    · subst hj
      have hnm : upds (upd s.objs j (.row2 e (l.set i x) (g + 1) none)) more j = .row2 e (l.set i x) (g + 1) none := by
        rw [upds_not _ _ _ (fun v hv => (hmore _ hv).2 rfl), upd_same]
      rw [hnm]
      refine ⟨b, off, c, by simpa using hk, by simpa using hl1, hl2, fun g' k hg' => ?_, fun _ => ⟨⟨how' b [j] how (fun id2 r hne _ _ => by simp; intro h; exact absurd h.symm hne), _, T, hb1, ?_⟩, fun k y hy => ?_⟩⟩
      · simp only [G']; rw [if_neg (by omega)]; exact hgn g' k (by omega)
      · rw [List.size_toArray, size_lay (by simp; omega)]; simpa using hsz
      · by_cases hki : k = i
        · subst hki
          rw [List.getElem?_set_self hi] at hy
          simp at hy; subst hy
          refine ⟨len', b', off', c', by simp [G'], hlen, fun _ => ⟨v, ?_, hh, fun hc => ?_⟩⟩
          · rw [cell_row hb1]
            show (lay ca.toList (off + k) [v])[off + k]? = some v
            rw [lay_get (by simp; omega), if_pos ⟨Nat.le_refl _, by simp⟩]; simp
          · obtain ⟨id2, r, hne2, ⟨hob, ca2, T2, hb2, hsz2⟩, hrow2, _⟩ := hnew hc
            have hh2 := hbb b' _ hob (by simp; intro h; exact absurd h hne2)
            refine ⟨⟨?_, ca2, T2, hh2.trans hb2, hsz2⟩, hrow2.mono hh2 fun x cs hx => hext.repC hx⟩
            simp only [G', if_pos hc]; rw [upd_same]
        · rw [List.getElem?_set_ne (by omega)] at hy
          obtain ⟨len4, b4, off4, c4, hnd4, hlen4, hin4⟩ := hrow k y hy
          refine ⟨len4, b4, off4, c4, by simp [G', hki, hnd4], hlen4, fun _ => ?_⟩
          obtain ⟨v4, hc4, hh4, hi4⟩ := hin4 (fun hho => hki (hole' k hho))
          refine ⟨v4, ?_, hh4, fun hc => ?_⟩
          · rw [cell_row hb1]
            show (lay ca.toList (off + i) [v])[off + k]? = some v4
            rw [lay_get (by simp; omega), if_neg (by simp; omega)]
            rw [cell_row hb] at hc4; exact hc4
          · obtain ⟨⟨ho4, ca4, T4, hb4, hs4⟩, hr4⟩ := hi4 hc
            have hk4 := hbb b4 _ ho4 (by simp)
            exact ⟨⟨how' b4 _ ho4 (fun id2 r hne _ _ => by simp; intro h; exact absurd h.symm hne), ca4, T4, hk4.trans hb4, hs4⟩, hr4.mono hk4 fun x cs hx => hext.repC hx⟩
    · rcases hmj (upd s.objs id (.row2 e (l.set i x) (g + 1) none)) with h1 | h1
      · by_cases hdead : ∃ v, (j, v) ∈ more
        · obtain ⟨v', hv'⟩ := hdead
          by_cases hd : upds (upd s.objs id (.row2 e (l.set i x) (g + 1) none)) more j = .dead
          · rw [hd]; exact trivial
          · exfalso
            -- more is the one dead object or what is dead
            have : ∀ (f : Nat → AObj) (m : List (Nat × AObj)), (∀ p ∈ m, p.2 = .dead) → (j, v') ∈ m → upds f m j = .dead := by
              intro f m
              induction m generalizing f with
              | nil => intro _ h; simp at h
              | cons p m ih =>
                intro hd' hm
                simp only [upds]
                rcases List.mem_cons.1 hm with rfl | hm
                · rcases upds_dead (f := upd f j v') (l := m) (fun q hq => hd' q (List.mem_cons_of_mem _ hq)) j with h2 | h2
                  · rw [h2, upd_same]; exact hd' _ (List.mem_cons_self ..)
                  · exact h2
                · exact ih _ (fun q hq => hd' q (List.mem_cons_of_mem _ hq)) hm
            exact hd (this _ more (fun p hp => (hmore p hp).1) hv')
        · rw [h1, upd_other _ _ hj]
          refine RepO.frame hext (fun gg k => by simp [G', hj]) (fun b5 r5 hb5 ho5 => ⟨hbb b5 _ ho5 (by simp; intro h; exact absurd h hj), ?_⟩) (hr.obj j)
          rw [ho5]
          refine how' b5 _ ho5 (fun id2 r hne hc hm => ?_)
          intro he
          simp at he
          obtain ⟨rfl, _⟩ := he
          exact hdead ⟨.dead, by rw [hm]; simp⟩
      · rw [h1]; exact trivial
  · simp only [G']
    rw [if_neg]
    · exact hr.wf j hj gg k
    · rintro ⟨rfl, _⟩
      have hj' : G.kd j = none := hj
      rw [hk] at hj'; simp at hj'

theorem sound_store (hE : EnvTy P E) {t : TypeId} {x y : Operand} (h : o.op = .store t x y) : Sound P E o := by
  intro G w s a base r hr hf he next Q hn
  simp only [opM, h] at he
  cases hty : E.ty t with
  | none => simp [hty, M.ev] at he
  | some g =>
    simp only [hty] at he
    have hta := hE.ty t g hty
    have hx := evalA_rep hr x
    have hy := evalA_rep hr y
    -- the store itself
    have step : ∀ (b off : Nat) (c : Array Value) (T : TypeId), a.eval x = .pointer (some ⟨b, off, none⟩) → w.heap[b]? = some (.cells c T (0, 0)) → (a.eval y).cells.toList.length = g.size → off + g.size ≤ c.size →
        (∀ u ∈ (a.eval y).cells.toList, u.oneCell' = true) → (∀ G', Post G w s.objs base r undef (w.setRow b (lay c.toList off (a.eval y).cells.toList).toArray) G' → o.wp P a w next Q) := by
      intro b off c T hv hb hl hfit h1 G' hpost
      refine wp_skp ?_ (hn _ _ G' hpost)
      have := run_storeVar (P := P) hta hb hl hfit h1
      simp [execOp, h, hv, Instr.storeAt, Instr.sureAddr, this]
    unfold storeM at he
    split at he
    · -- into a variable
      rename_i id fs t' hxa
      rw [hxa] at hx
      split at he
      · rename_i hc
        simp only [Bool.and_eq_true, decide_eq_true_eq] at hc
        obtain ⟨rfl, hsh⟩ := hc
        simp only [M.ev] at he
        split at he
        · rename_i t0 v0 hobj
          simp [setW, M.ev] at he; subst he
          have ho := hr.obj id
          rw [hobj] at ho
          obtain ⟨b', cs, hk', ⟨how, c, T, hb, hsz⟩, hcells, hrep, hshape⟩ := ho
          obtain ⟨_, t1, b, hk, htt, hv⟩ := hx
          rw [hk] at hk'; simp at hk'; obtain ⟨rfl, rfl⟩ := hk'
          simp at hv
          obtain ⟨hyr, hyl, hy1⟩ := repT_cells hsh hy
          have hfits := typeAt_fits t1 t' fs htt
          have hcl := (shape_len t1 v0 cs hshape hrep).1
          refine step b _ c T hv hb hyl (by omega) hy1 G (Post.set_one hr how _ _ ?_)
          have hb1 := heap_setRow (w := w) (c' := (lay c.toList (offT t1 fs) (a.eval y).cells.toList).toArray) hb
          have hext := setRow_ext (w := w) how (lay c.toList (offT t1 fs) (a.eval y).cells.toList).toArray
          obtain ⟨h3, h4⟩ := setA_spec (evalA s.tmps y) _ t' hsh hyr t1 v0 fs cs hshape hrep htt
          refine ⟨b, lay cs (offT t1 fs) (a.eval y).cells.toList, hk, ⟨how, _, T, hb1, ?_⟩, ?_, hext.repG _ _ _ h4, h3⟩
          · rw [List.size_toArray, size_lay (by rw [hyl]; simpa using (show offT t1 fs + t'.size ≤ c.size by omega))]; simpa using hsz
          · have := cells_lay (w1 := w.setRow b (lay c.toList (offT t1 fs) (a.eval y).cells.toList).toArray) (o0 := 0) (off := offT t1 fs) (vs := (a.eval y).cells.toList) hb (by simpa using hb1) (by rw [hyl, hcl]; exact hfits) hcells
            exact this
        · simp [M.ev] at he
      · simp [M.ev] at he
    · -- into an element
      rename_i id i fs t' hxa
      rw [hxa] at hx
      split at he
      · rename_i htt'; subst htt'
        simp only [M.ev] at he
        split at he
        · rename_i e l hobj
          obtain ⟨z, hz, he⟩ := ev_some he
          simp [setW, M.ev] at he; subst he
          obtain ⟨yv, hco, hput⟩ := setElem_some hz
          have hyv := coerceT hr.obj hy hco
          have hyr := fzV_nil (hyv.cells (fun cs hc => RepC.one _ _ _ hc))
          have hyl := RepC.len _ _ _ hyr
          have ho := hr.obj id
          rw [hobj] at ho
          obtain ⟨b', off', c', hk', hl1, hl2, hown⟩ := ho
          obtain ⟨_, hx⟩ := hx
          rcases hx with ⟨e2, len, b, off, c, hk, hi, htt, hv⟩ | ⟨e2, len, b, off, c, hk, _⟩
          · rw [hk] at hk'; simp at hk'; obtain ⟨rfl, rfl, rfl, rfl, rfl⟩ := hk'
            obtain ⟨⟨how, ca, T, hb, hsz⟩, hrow⟩ := hown (by omega)
            simp at hv
            have hfits := typeAt_fits e2 t' fs htt
            have hmul : (i + 1) * e2.size ≤ c * e2.size := Nat.mul_le_mul_right _ (by omega)
            rw [Nat.add_mul] at hmul
            refine step b _ ca T hv hb hyl (by omega) (RepC.one _ _ _ hyr) G (Post.set_one hr how _ _ ?_)
            have hb1 := heap_setRow (w := w) (c' := (lay ca.toList (off + i * e2.size + offT e2 fs) (a.eval y).cells.toList).toArray) hb
            have hext := setRow_ext (w := w) how (lay ca.toList (off + i * e2.size + offT e2 fs) (a.eval y).cells.toList).toArray
            refine ⟨b, off, c, by simpa using hk, by simpa using hl1, hl2, fun _ => ⟨⟨how, _, T, hb1, ?_⟩, ?_⟩⟩
            · rw [List.size_toArray, size_lay (by rw [hyl]; simpa using (show off + i * e2.size + offT e2 fs + t'.size ≤ ca.size by omega))]; simpa using hsz
            · refine RowAt.mono (w := w.setRow b _) rfl (fun x cs hx => hext.repC hx) (rowAt_set hb hb1 (fun x cs hx => RepC.len _ _ _ hx) (by rw [hyl]; exact hfits) hi (by rw [hyl]; omega) hrow fun cs hc hrc => ?_)
              have hrd : rdl e2 l i = l[i] := by simp [rdl, List.getD, List.getElem?_eq_getElem hi]
              rw [hrd] at hput
              exact putT_spec t' yv _ hyr e2 fs l[i] z cs hrc htt hput
          · rw [hk] at hk'; simp at hk'
        · -- a list is laid into a list of lists
          rename_i e l g' hole hobj
          have ho := hr.obj id
          rw [hobj] at ho
          obtain ⟨b', off', c', hk', hl1, hl2, hgn, hown⟩ := ho
          obtain ⟨_, hx⟩ := hx
          rcases hx with ⟨e2, len, b, off, c, hk, _⟩ | ⟨e2, len, b, off, c, hk, hi, hfs, htt, hv⟩
          · rw [hk] at hk'; simp at hk'
          rw [hk] at hk'; simp at hk'; obtain ⟨rfl, rfl, rfl, rfl, rfl⟩ := hk'
          subst hfs; subst htt
          simp only at he
          simp at hv
          -- both ways end alike
          have fin : ∀ (x : List e2.denote) (more : List (Nat × AObj)) (len' b' off' c' : Nat), (match hole with
                | none => (.ret { v := .none, w := (id, .row2 e2 (l.set i x) (g' + 1) none) :: more } : M Res)
                | some j => .ite (decide (i = j)) (.ret { v := .none, w := (id, .row2 e2 (l.set i x) (g' + 1) none) :: more }) .fail).ev s.objs = some r →
              (∃ v, a.eval y = v ∧ HdrIs e2.size len' b' off' c' none v) → len' = x.length →
              (0 < c' → ∃ id2 r, id2 ≠ id ∧ OwnB G w b' (id2 :: r) (off' + c' * e2.size) ∧ RowAt w e2.size b' off' (RepC w G.fz e2) x ∧ more = [(id2, .dead)]) → (∀ p ∈ more, p.2 = .dead ∧ p.1 ≠ id) → o.wp P a w next Q := by
            intro x more len' b' off' c' he ⟨v, hyv, hh⟩ hlen hnew hmore
            have hh' : (∀ j, hole = some j → j = i) ∧ r = { v := .none, w := (id, .row2 e2 (l.set i x) (g' + 1) none) :: more } := by
              cases hole with
              | none => injection (show some _ = some r from he) with he; exact ⟨by simp, he.symm⟩
              | some j =>
                rcases ev_ite he with ⟨hij, he⟩ | ⟨_, he⟩
                · injection (show some _ = some r from he) with he
                  have := of_decide_eq_true hij
                  exact ⟨by simp; omega, he.symm⟩
                · simp [M.ev] at he
            obtain ⟨h1, rfl⟩ := hh'
            obtain ⟨ca, T, hb, hsz, G', hpost⟩ := put_row2 (base := base) hr hobj hk hi h1 hh hlen hnew hmore
            have hone : v.cells.toList = [v] := by obtain ⟨ad, rfl, _⟩ := hh; rfl
            have hv1 : ∀ u ∈ [v], u.oneCell' = true := by obtain ⟨ad, rfl, _⟩ := hh; simp [Value.oneCell']
            refine step b _ ca T hv hb (by rw [hyv, hone]; rfl) (show off + i + 1 ≤ ca.size by omega) (by rw [hyv, hone]; exact hv1) G' ?_
            rw [hyv, hone]; exact hpost
          split at he
          · rename_i hya
            rw [hya] at hy
            obtain ⟨_, hyv⟩ := hy
            simp at hyv
            exact fin [] [] 0 0 0 0 he ⟨_, hyv, none, rfl, Nat.le_refl _, Nat.le_refl _, Nat.zero_le _, fun h => absurd h (Nat.lt_irrefl 0)⟩ rfl (fun h => absurd h (Nat.lt_irrefl 0)) (by simp)
          · rename_i id2 win hya
            rw [hya] at hy
            split at he
            · simp [M.ev] at he
            · rename_i hne
              simp only [M.ev] at he
              split at he
              · rename_i e3 l3 hobj3
                split at he
                · rename_i hee; subst hee
                  have ho3 := hr.obj id2
                  rw [hobj3] at ho3
                  obtain ⟨b3, off3, c3, hk3, hl3, hl4, hown3⟩ := ho3
                  obtain ⟨_, v, hyv, hh⟩ := hy
                  simp at hyv
                  rcases hh with ⟨e4, len4, b4, off4, c4, hk4, hh⟩ | ⟨e4, len4, b4, off4, c4, hk4, hh⟩
                  · rw [hk4] at hk3; simp at hk3; obtain ⟨rfl, rfl, rfl, rfl, rfl⟩ := hk3
                    obtain ⟨ad, rfl, hw1, hw2, hw3, hw4⟩ := hh
                    refine fin (view l3 win) [(id2, .dead)] (winNum l3.length win) b4 (off4 + winOff win * e4.size) (c4 - winOff win) he ⟨_, hyv, ad, ?_, ?_, ?_, ?_, ?_⟩ (view_len l3 win hw1).symm (fun hc => ?_) (by simp [hne])
                    · simp [winNum, winOff]
                    · simp [winNum, winOff]
                    · omega
                    · simp only [maxL] at *; omega
                    · intro hc
                      have hc' : 0 < c4 - winOff win := hc
                      show ad = some ⟨b4, off4 + winOff win * e4.size + 0 * e4.size, none⟩
                      rw [Nat.zero_mul, Nat.add_zero]; exact hw4 (by omega)
                    · obtain ⟨⟨how3, ca3, T3, hb3, hsz3⟩, hrow3⟩ := hown3 (by omega)
                      refine ⟨id2, [], hne, ⟨how3, ca3, T3, hb3, ?_⟩, hrow3.view win, rfl⟩
                      have : (winOff win + (c4 - winOff win)) * e4.size = c4 * e4.size := by congr 1; omega
                      rw [Nat.add_mul] at this; omega
                  · rw [hk4] at hk3; simp at hk3
                · simp [M.ev] at he
              · simp [M.ev] at he
          · simp [M.ev] at he
        · simp [M.ev] at he
      · simp [M.ev] at he
    · -- into an element of an element
      rename_i id g' i j fs t' hxa
      rw [hxa] at hx
      split at he
      · rename_i htt'; subst htt'
        simp only [M.ev] at he
        split at he
        · rename_i e l g2 hobj
          split at he
          · rename_i hg; subst hg
            obtain ⟨z, hz, he⟩ := ev_some he
            simp [setW, M.ev] at he
            obtain ⟨yv, hco, hput⟩ := setElem_some hz
            have hyv := coerceT hr.obj hy hco
            have hyr := fzV_nil (hyv.cells (fun cs hc => RepC.one _ _ _ hc))
            have hyl := RepC.len _ _ _ hyr
            have ho := hr.obj id
            rw [hobj] at ho
            obtain ⟨b', off', c', hk', hl1, hl2, hgn, hown⟩ := ho
            obtain ⟨_, e2, len, b, off, c, hk, hi, len2, b2, off2, c2, hnd, hj, htt, hv⟩ := hx
            rw [hk] at hk'; simp at hk'; obtain ⟨rfl, rfl, rfl, rfl, rfl⟩ := hk'
            obtain ⟨hownb, hrow⟩ := hown (by omega)
            have hget : l[i]? = some l[i] := List.getElem?_eq_getElem hi
            have hrd : rdl (.slice e2) l i = l[i] := by simp [rdl, List.getD, hget]
            rw [hrd] at hput he
            subst he
            obtain ⟨len3, b3, off3, c3, hnd3, hlen, hin⟩ := hrow i _ hget
            rw [hnd] at hnd3; simp at hnd3; obtain ⟨rfl, rfl, rfl, rfl⟩ := hnd3
            obtain ⟨hv0, hcell, hhdr, hin⟩ := hin (by simp)
            have hhdr' := hhdr
            obtain ⟨_, _, _, hcap, _, _⟩ := hhdr
            obtain ⟨⟨how, ca, T, hb, hsz⟩, hrow2⟩ := hin (by omega)
            simp at hv
            have hjl : j < (l[i] : List e2.denote).length := by omega
            have hfits := typeAt_fits e2 t' fs htt
            have hmul : (j + 1) * e2.size ≤ c2 * e2.size := Nat.mul_le_mul_right _ (by omega)
            rw [Nat.add_mul] at hmul
            refine step b2 _ ca T hv hb hyl (by omega) (RepC.one _ _ _ hyr) G (Post.set_one (r := [i]) hr how _ _ ?_)
            have hb1 := heap_setRow (w := w) (c' := (lay ca.toList (off2 + j * e2.size + offT e2 fs) (a.eval y).cells.toList).toArray) hb
            have hext := setRow_ext (w := w) how (lay ca.toList (off2 + j * e2.size + offT e2 fs) (a.eval y).cells.toList).toArray
            have hother : ∀ k l', G.ow k = .own l' → l' ≠ [id, i] → (w.setRow b2 (lay ca.toList (off2 + j * e2.size + offT e2 fs) (a.eval y).cells.toList).toArray).heap[k]? = w.heap[k]? := by
              intro k l' hk' hne
              refine heap_setRow_other ?_
              rintro rfl
              rw [how] at hk'; simp at hk'; exact hne hk'.symm
            refine ⟨b, off, c, by simpa using hk, by simpa using hl1, hl2, hgn, fun _ => ⟨hownb.keep ⟨hother b [id] hownb.1 (by simp), rfl⟩, fun i' x' hx' => ?_⟩⟩
            have hbk := hother b [id] hownb.1 (by simp)
            by_cases hii : i' = i
            · subst hii
              rw [List.getElem?_set_self hi] at hx'
              simp at hx'; subst hx'
              refine ⟨len2, b2, off2, c2, hnd, by simpa using hlen, fun _ => ⟨hv0, (cell_of_heap hbk).trans hcell, hhdr', fun _ => ⟨⟨how, _, T, hb1, ?_⟩, ?_⟩⟩⟩
              · rw [List.size_toArray, size_lay (by rw [hyl]; simpa using (show off2 + j * e2.size + offT e2 fs + t'.size ≤ ca.size by omega))]; simpa using hsz
              · refine RowAt.mono (w := w.setRow b2 _) rfl (fun x cs hx => hext.repC hx) (rowAt_set hb hb1 (fun x cs hx => RepC.len _ _ _ hx) (by rw [hyl]; exact hfits) hjl (by rw [hyl]; omega) hrow2 fun cs hc hrc => ?_)
                have hrd2 : rdl e2 l[i'] j = (l[i'] : List e2.denote)[j] := by simp [rdl, List.getD, List.getElem?_eq_getElem hjl]
                rw [hrd2] at hput
                exact putT_spec t' yv _ hyr e2 fs _ z cs hrc htt hput
            · rw [List.getElem?_set_ne (by omega)] at hx'
              obtain ⟨len4, b4, off4, c4, hnd4, hlen4, hin4⟩ := hrow i' x' hx'
              refine ⟨len4, b4, off4, c4, hnd4, hlen4, fun hh => ?_⟩
              obtain ⟨v4, hc4, hh4, hi4⟩ := hin4 hh
              refine ⟨v4, (cell_of_heap hbk).trans hc4, hh4, fun hc => ?_⟩
              obtain ⟨ho4, hr4⟩ := hi4 hc
              have hk4 := hother b4 [id, i'] ho4.1 (by simp [hii])
              exact ⟨ho4.keep ⟨hk4, rfl⟩, hr4.mono hk4 fun x cs hx => hext.repC hx⟩
          · simp [M.ev] at he
        · simp [M.ev] at he
      · simp [M.ev] at he
    · simp [M.ev] at he

end
end Go.Fw
namespace Go.Fw
open Go

section
variable {P : Program} {E : Env} {o : Oper}

/-! ### make -/
theorem made_get {z : Array Value} {n sz i j : Nat} (hz : z.size = sz) (hj : j < sz) (hi : i * sz + j < n) : (madeCells z n)[i * sz + j]? = z[j]? := by
  have h1 : (i * sz + j) % sz = j := by rw [Nat.add_comm, Nat.add_mul_mod_self_right, Nat.mod_eq_of_lt hj]
  simp only [madeCells]
  rw [Array.getElem?_map, Array.getElem?_range, if_pos hi]
  simp only [Option.map_some, hz, h1]
  rw [Array.getElem?_eq_getElem (by omega), getElem!_pos z j (by omega)]

theorem rowAt_zero {w w1 : World} {e : GTy} {z : Array Value} {n : Nat} {T : TypeId} {fz : Nat → Prop} (hs : e.seen = true) (hz : zMatch e z.toList = some []) (hsz : z.size = e.size) (c : Nat) (hn : n ≤ c)
    (hp : Pushed w w1 (.cells (madeCells z (c * e.size)) T)) : RowAt w1 e.size w.heap.size 0 (RepC w1 fz e) (List.replicate n e.zero) := by
  intro i x hx
  have hi : i < n := by have := getElem?_lt hx; simpa using this
  rw [List.getElem?_replicate, if_pos hi] at hx
  simp at hx; subst hx
  obtain ⟨c1, hc1, hr⟩ := zMatch_c (w := w1) (fz := fz) e z.toList [] hs hz
  simp at hc1
  refine ⟨c1, cellsAt_new hp fun j v hj => ?_, hr⟩
  rw [← hc1] at hj
  have hjl := getElem?_lt hj
  simp at hjl
  have : (i + 1) * e.size ≤ c * e.size := Nat.mul_le_mul_right _ (by omega)
  rw [Nat.add_mul] at this
  rw [Nat.zero_add, made_get hsz (by omega) (by omega)]
  simpa using hj

theorem makeM_some {objs : Nat → AObj} {ty : Option GTy} {n c : AVal} {base : Nat} {r : Res} (h : (makeM ty n c base).ev objs = some r) :
    ∃ (e : GTy) (k k' : IntKind) (ni ci : Int), ty = some (.slice e) ∧ n = .val (.int k) ni ∧ c = .val (.int k') ci ∧ (0 ≤ ni ∧ ni ≤ ci ∧ ci ≤ 4294967296) ∧
      ((∃ e1, e = .slice e1 ∧ r = { v := .hdr base none, w := [] ++ [(base, .row2 e1 (List.replicate ni.toNat []) 0 none)] }) ∨
       (e.seen = true ∧ r = { v := .hdr base none, w := [] ++ [(base, .row e (List.replicate ni.toNat e.zero))] })) := by
  unfold makeM at h
  split at h
  · rename_i e
    split at h
    · rename_i k ni
      split at h
      · rename_i k' ci
        rcases ev_ite h with ⟨hc, h⟩ | ⟨_, h⟩
        · have hc := of_decide_eq_true hc
          refine ⟨e, k, k', ni, ci, rfl, rfl, rfl, hc, ?_⟩
          split at h
          · rename_i e1 _
            injection (show some _ = some r from h) with h
            exact .inl ⟨e1, rfl, h.symm⟩
          · split at h
            · rename_i hs
              injection (show some _ = some r from h) with h
              exact .inr ⟨hs, h.symm⟩
            · simp [M.ev] at h
        · simp [M.ev] at h
      · simp [M.ev] at h
    · simp [M.ev] at h
  · simp [M.ev] at h

theorem sound_make (hE : EnvTy P E) {t : TypeId} {n c : Operand} (h : o.op = .makeSlice t n c) : Sound P E o := by
  intro G w s a base r hr hf he next Q hn
  simp only [opM, h] at he
  obtain ⟨e, k, k', ni, ci, hty, hna, hca, ⟨h0, h1, h2⟩, he⟩ := makeM_some he
  have hnv := evalA_rep hr n
  have hcv := evalA_rep hr c
  rw [hna] at hnv
  rw [hca] at hcv
  obtain ⟨hnv, _⟩ := repT_int hnv
  obtain ⟨hcv, _⟩ := repT_int hcv
  obtain ⟨te, hu, hte⟩ := ty_slice (hE.ty t _ hty)
  obtain ⟨i, z, hi1, hi2, hi3, hi4, hi5, hi6, hi7⟩ := ty_zero hte
  have hbytes : (i.bytes : Int) * ci ≤ 281474976710656 := by
    have h3 : (i.bytes : Int) ≤ 16384 := by omega
    have h4 : (i.bytes : Int) * ci ≤ 16384 * 4294967296 := Int.mul_le_mul h3 h2 (by omega) (by omega)
    omega
  have hrun := run_make (P := P) w t te i z hu hi1 hi4 k k' ni ci h0 h1 hbytes (by omega)
  have hp := Pushed.alloc w (.cells (madeCells z.cells (ci.toNat * i.size)) te)
  have hrun' : (execOp a.eval o).run P w = .ok (.value (.slice (some ⟨w.heap.size, 0, none⟩) ni.toNat ci.toNat)) (w.alloc (.cells (madeCells z.cells (ci.toNat * i.size)) te)) := by
    simp only [execOp, h, hnv, hcv]
    rw [Sem.run_bind, hrun]; rfl
  have hzsz : z.cells.size = e.size := by
    obtain ⟨c1, hc1, hc2, hc3⟩ := zMatch_g (G := G) (w := w) e _ _ hi5
    simp at hc1
    have := (shape_len e _ _ hc3 hc2).1
    rw [← hc1] at this; simpa using this
  rw [hi2] at hp hrun'
  have hnc : ni.toNat ≤ ci.toNat := by omega
  rcases he with ⟨e1, rfl, rfl⟩ | ⟨hseen, rfl⟩
  · refine wp_val hrun' (hn _ _ _ (Post.fresh_new hr (hf base (Nat.le_refl _) (by omega)) hp (.row2 e1 ni.toNat w.heap.size 0 ci.toNat) (fun _ => some (0, 0, 0, 0)) [] (by simp) _ _ _ ?_ ?_))
    · exact ⟨rfl, _, rfl, .inr ⟨e1, ni.toNat, w.heap.size, 0, ci.toNat, upd_same _ _ _, some ⟨w.heap.size, 0, none⟩, rfl, by simp [winOff, winNum], hnc, by simp only [maxL]; omega, by simp [winOff]⟩⟩
    · refine ⟨w.heap.size, 0, ci.toNat, by simp [Gh.new, upd_same], by simpa using hnc, by simp only [maxL]; omega, fun g' i hg => by simp only [Gh.new, if_true]; rw [if_neg (by omega)], fun hc => ⟨ownB_new hp (by simp [size_madeCells, GTy.size]), fun i x hx => ?_⟩⟩
      have hi : i < ni.toNat := by have := getElem?_lt hx; simpa using this
      rw [List.getElem?_replicate, if_pos hi] at hx
      simp at hx; subst hx
      refine ⟨0, 0, 0, 0, by simp [Gh.new], rfl, fun _ => ⟨.slice none 0 0, ?_, ⟨none, rfl, Nat.le_refl _, Nat.le_refl _, Nat.zero_le _, fun h => absurd h (Nat.lt_irrefl 0)⟩, fun h => absurd h (Nat.lt_irrefl 0)⟩⟩
      · have hz5 : z.cells = #[.slice none 0 0] := by
          obtain ⟨v, _, hv⟩ := hi7 rfl
          rw [hv] at hi5 ⊢
          simp only [zMatch] at hi5
          split at hi5
          · rename_i hcs; simp at hcs; rw [hcs.1]
          · simp at hi5
        have hm := made_get (z := z.cells) (n := ci.toNat * 1) (sz := 1) (i := i) (j := 0) (by rw [hz5]; rfl) (by omega) (by omega)
        have := cellsAt_new (o := i) (cs := [Value.slice none 0 0]) hp (fun j v hj => by
          cases j with
          | zero => simp at hj; subst hj; simpa [GTy.size, hz5] using hm
          | succ j => simp at hj)
        have := this 0 _ rfl
        simpa using this
  · refine wp_val hrun' (hn _ _ _ (Post.fresh_new hr (hf base (Nat.le_refl _) (by omega)) hp (.row e ni.toNat w.heap.size 0 ci.toNat) (fun _ => none) [] (by simp) _ _ _ ?_ ?_))
    · exact ⟨rfl, _, rfl, .inl ⟨e, ni.toNat, w.heap.size, 0, ci.toNat, upd_same _ _ _, some ⟨w.heap.size, 0, none⟩, rfl, by simp [winOff, winNum], hnc, by simp only [maxL]; omega, by simp [winOff]⟩⟩
    · refine ⟨w.heap.size, 0, ci.toNat, by simp [Gh.new, upd_same], by simpa using hnc, by simp only [maxL]; omega, fun hc => ⟨ownB_new hp (by simp [size_madeCells]), ?_⟩⟩
      exact rowAt_zero hseen hi5 hzsz ci.toNat hnc hp

end
end Go.Fw
namespace Go.Fw
open Go

section
variable {P : Program} {E : Env} {o : Oper}

theorem sound_makeFunc {f : FuncId} {first caps : Array Operand} (h : o.op = .makeFunc (.func f) first caps) : Sound P E o := by
  intro G w s a base r hr hf he next Q hn
  simp only [opM, h] at he
  split at he
  · rename_i hc
    simp only [Bool.and_eq_true, List.isEmpty_iff, List.all_eq_true] at hc
    obtain ⟨h1, h2⟩ := hc
    obtain rfl := retV_some he
    refine wp_val (v := .func (.func f) #[] (caps.map a.eval)) (w' := w) ?_ (hn _ _ G (Post.same hr ⟨rfl, _, rfl, ?_⟩))
    · have : first = #[] := by apply Array.ext'; simpa using h1
      simp [execOp, h, Instr.makeFunc, this]
    · rw [Array.toList_map]
      exact repCaps hr caps.toList (fun x hx v hv => by have := h2 x hx; simp [hv] at this) (fun x hx hv => by have := h2 x hx; simp [hv] at this)
  · simp [M.ev] at he

/-! ### Literals -/
theorem fold_lay (off : Nat) : ∀ (vs : List Value) (k : Nat) (cells : Array Value), off + k + vs.length ≤ cells.size →
    (List.foldl (fun (cs : Array Value) (x : Value × Nat) => cs.setIfInBounds (off + x.2) x.1) cells (vs.zipIdx k)).toList = lay cells.toList (off + k) vs
  | [], k, cells, _ => by simp [lay]
  | v :: vs, k, cells, h => by
    simp only [List.zipIdx_cons, List.foldl_cons]
    rw [fold_lay off vs (k + 1) _ (by simp at h ⊢; omega)]
    apply List.ext_getElem?
    intro j
    simp only [List.length_cons] at h
    rw [lay_get (by simp; omega), lay_get (by simp; omega)]
    simp only [Array.toList_setIfInBounds, List.length_cons]
    by_cases h1 : off + k = j
    · subst h1
      rw [if_neg (by omega), if_pos ⟨Nat.le_refl _, by omega⟩, List.getElem?_set_self (by simp; omega)]
      simp
    · rw [List.getElem?_set_ne h1]
      by_cases h2 : off + (k + 1) ≤ j ∧ j < off + (k + 1) + vs.length
      · rw [if_pos h2, if_pos ⟨by omega, by omega⟩, show j - (off + k) = (j - (off + (k + 1))) + 1 by omega]
        simp
      · rw [if_neg h2, if_neg (by omega)]

theorem fold_lay' (off : Nat) (vs : Array Value) (cells : Array Value) (h : off + vs.size ≤ cells.size) :
    (vs.zipIdx.foldl (fun cs (x : Value × Nat) => cs.setIfInBounds (off + x.2) x.1) cells).toList = lay cells.toList off vs.toList := by
  rw [← Array.foldl_toList, Array.toList_zipIdx, fold_lay off vs.toList 0 cells (by simpa using h)]
  simp

/-- rows of parts -/
theorem fill_row (sz : Nat) : ∀ (vs : List Value) (k : Nat) (cells : Array Value), (k + vs.length) * sz ≤ cells.size → (∀ v ∈ vs, v.cells.size = sz) →
    ∃ cells' : Array Value, Instr.fill (fun i => some (i * sz, sz)) cells ((vs.zipIdx k).map fun p => (p.2, p.1)) = some cells' ∧ cells'.size = cells.size ∧
      (∀ p, p < k * sz → cells'[p]? = cells[p]?) ∧ ∀ i v, vs[i]? = some v → ∀ j u, v.cells.toList[j]? = some u → cells'[(k + i) * sz + j]? = some u
  | [], k, cells, _, _ => ⟨cells, rfl, rfl, fun _ _ => rfl, fun i v h => by simp at h⟩
  | v :: vs, k, cells, h, hs => by
    have hv := hs v (by simp)
    have hkm : (k + 1 + vs.length) * sz ≤ cells.size := by
      have e : k + (v :: vs).length = k + 1 + vs.length := by simp; omega
      rw [e] at h; exact h
    have hk1 : (k + 1) * sz ≤ (k + 1 + vs.length) * sz := Nat.mul_le_mul_right _ (by omega)
    have hk2 : (k + 1) * sz = k * sz + sz := by rw [Nat.add_mul]; omega
    have hfit : k * sz + v.cells.size ≤ cells.size := by omega
    have hl := fold_lay' (k * sz) v.cells cells hfit
    generalize hc1 : v.cells.zipIdx.foldl (fun cs (x : Value × Nat) => cs.setIfInBounds (k * sz + x.2) x.1) cells = cells1 at hl
    have hsz1 : cells1.size = cells.size := by
      have := congrArg List.length hl
      rw [size_lay (by simpa using hfit)] at this
      simpa using this
    obtain ⟨cells', h1, h2, h3, h4⟩ := fill_row sz vs (k + 1) cells1 (by rw [hsz1]; exact hkm) (fun u hu => hs u (List.mem_cons_of_mem _ hu))
    refine ⟨cells', ?_, h2.trans hsz1, fun p hp => ?_, fun i u hi j x hx => ?_⟩
    · simp only [List.zipIdx_cons, List.map_cons, Instr.fill]
      rw [if_neg (by simp; omega), hc1]
      exact h1
    · rw [h3 p (by omega), ← Array.getElem?_toList, hl, lay_get (by simpa using hfit), if_neg (by omega), Array.getElem?_toList]
    · cases i with
      | zero =>
        simp at hi; subst hi
        have hj := getElem?_lt hx
        simp at hj
        rw [Nat.add_zero, h3 _ (by omega), ← Array.getElem?_toList, hl, lay_get (by simpa using hfit), if_pos ⟨by omega, by simp; omega⟩]
        rw [show k * sz + j - k * sz = j by omega]; exact hx
      | succ i =>
        simp at hi
        have := h4 i u hi j x hx
        rw [show k + 1 + i = k + (i + 1) by omega] at this
        exact this

theorem parts_zip : ∀ (ps : List (Nat × Operand)) (k : Nat) (f : Operand → Value), (∀ i p, ps[i]? = some p → p.1 = k + i) → ps.map (fun p => (p.1, f p.2)) = ((ps.map fun p => f p.2).zipIdx k).map fun p => (p.2, p.1)
  | [], _, _, _ => rfl
  | p :: ps, k, f, h => by
    have h0 := h 0 p rfl
    simp only [List.map_cons, List.zipIdx_cons]
    rw [parts_zip ps (k + 1) f (fun i q hq => by have := h (i + 1) q (by simpa using hq); omega)]
    simp at h0; rw [h0]

/-- the parts of a plain list -/
theorem listParts_some {objs : Nat → AObj} {e : GTy} : ∀ (ps : List (Nat × AVal)) (k : Nat) (l : List e.denote), (listParts e ps k).ev objs = some l →
    l.length = ps.length ∧ ∀ i p, ps[i]? = some p → p.1 = k + i ∧ ∃ x, l[i]? = some x ∧ (coerce e p.2).ev objs = some (x, [])
  | [], k, l, h => by
    injection (show some _ = some l from h) with h; subst h
    exact ⟨rfl, fun i p hp => by simp at hp⟩
  | p :: ps, k, l, h => by
    simp only [listParts] at h
    split at h
    · rename_i hp
      obtain ⟨x, h1, h⟩ := ev_some h
      split at h
      · rename_i hem
        obtain ⟨l', h2, h⟩ := ev_some h
        injection (show some _ = some l from h) with h; subst h
        obtain ⟨h3, h4⟩ := listParts_some ps (k + 1) l' h2
        refine ⟨by simp [h3], fun i q hq => ?_⟩
        cases i with
        | zero =>
          simp at hq; subst hq
          refine ⟨by omega, x.1, rfl, ?_⟩
          rw [h1]; obtain ⟨x1, x2⟩ := x; simp at hem; simp [hem]
        | succ i =>
          simp at hq
          obtain ⟨h5, y, h6, h7⟩ := h4 i q hq
          exact ⟨by omega, y, by simpa using h6, h7⟩
      · simp [M.ev] at h
    · simp [M.ev] at h

theorem elem_iff {a : Nat} {l : List Nat} : l.elem a = true ↔ a ∈ l := by simp

/-- the parts of a list of lists: nil, or lists of the call's own, each once -/
theorem listParts2_some {objs : Nat → AObj} {e : GTy} : ∀ (ps : List (Nat × AVal)) (k : Nat) (l : List (List e.denote) × List Nat), (listParts2 e ps k).ev objs = some l →
    l.1.length = ps.length ∧ (∀ (i : Nat) (p : Nat × AVal), ps[i]? = some p → p.1 = k + i ∧ ((p.2 = .nilS ∧ l.1[i]? = some []) ∨ ∃ id win l', p.2 = .hdr id win ∧ objs id = .row e l' ∧ l.1[i]? = some (view l' win) ∧ id ∈ l.2)) ∧
    (distinct l.2 = true → ∀ (i j : Nat) (p q : Nat × AVal) (id : Nat) (w1 w2 : Option (Nat × Nat)), ps[i]? = some p → ps[j]? = some q → p.2 = .hdr id w1 → q.2 = .hdr id w2 → i = j)
  | [], k, l, h => by
    injection (show some _ = some l from h) with h; subst h
    exact ⟨rfl, fun i p hp => by simp at hp, fun _ i j p q id w1 w2 hp => by simp at hp⟩
  | p :: ps, k, l, h => by
    simp only [listParts2] at h
    split at h
    · rename_i hp
      obtain ⟨x, h1, h⟩ := ev_some h
      obtain ⟨l', h2, h⟩ := ev_some h
      injection (show some _ = some l from h) with h; subst h
      obtain ⟨h3, h4, h5⟩ := listParts2_some ps (k + 1) l' h2
      have hx : (p.2 = .nilS ∧ x = ([], [])) ∨ ∃ id win l1, p.2 = .hdr id win ∧ objs id = .row e l1 ∧ x = (view l1 win, [id]) := by
        split at h1
        · rename_i hps; injection (show some _ = some x from h1) with h1; exact .inl ⟨hps, h1.symm⟩
        · rename_i id win hps
          simp only [M.ev] at h1
          split at h1
          · rename_i e' l1 hobj
            split at h1
            · rename_i hee; subst hee
              injection (show some _ = some x from h1) with h1
              exact .inr ⟨id, win, l1, hps, hobj, h1.symm⟩
            · simp [M.ev] at h1
          · simp [M.ev] at h1
        · simp [M.ev] at h1
      refine ⟨by simp [h3], fun i q hq => ?_, fun hd i j q q' id w1 w2 hq hq' hqi hqi' => ?_⟩
      · cases i with
        | zero =>
          simp at hq; subst hq
          refine ⟨by omega, ?_⟩
          rcases hx with ⟨h6, rfl⟩ | ⟨id, win, l1, h6, h7, rfl⟩
          · exact .inl ⟨h6, rfl⟩
          · exact .inr ⟨id, win, l1, h6, h7, rfl, by simp⟩
        | succ i =>
          simp at hq
          obtain ⟨h6, h7⟩ := h4 i q hq
          refine ⟨by omega, ?_⟩
          rcases h7 with ⟨h8, h9⟩ | ⟨id, win, l1, h8, h9, h10, h11⟩
          · exact .inl ⟨h8, by simpa using h9⟩
          · exact .inr ⟨id, win, l1, h8, h9, by simpa using h10, List.mem_append_right _ h11⟩
      · have hd' : distinct l'.2 = true ∧ (∀ id, x.2 = [id] → id ∉ l'.2) := by
          rcases hx with ⟨_, rfl⟩ | ⟨id', win, l1, _, _, rfl⟩
          · exact ⟨by simpa using hd, by simp⟩
          · simp only [List.cons_append, List.nil_append, distinct, Bool.and_eq_true, Bool.not_eq_true', ← Bool.not_eq_true, elem_iff] at hd
            refine ⟨hd.2, fun id h => ?_⟩
            simp at h; subst h; exact hd.1
        have inTail : ∀ (i : Nat) (q : Nat × AVal) (w1 : Option (Nat × Nat)), ps[i]? = some q → q.2 = .hdr id w1 → id ∈ l'.2 := by
          intro i q w1 hq hqi
          obtain ⟨_, h7⟩ := h4 i q hq
          rcases h7 with ⟨h8, _⟩ | ⟨id', win, l1, h8, _, _, h11⟩
          · rw [hqi] at h8; simp at h8
          · rw [hqi] at h8; simp at h8; rw [h8.1]; exact h11
        have headId : ∀ w1, p.2 = .hdr id w1 → x.2 = [id] := by
          intro w1 hp1
          rcases hx with ⟨h6, _⟩ | ⟨id', win, l1, h6, _, rfl⟩
          · rw [hp1] at h6; simp at h6
          · rw [hp1] at h6; simp at h6; simp [h6.1]
        cases i with
        | zero =>
          simp at hq; subst hq
          cases j with
          | zero => rfl
          | succ j =>
            simp at hq'
            exact absurd (inTail j q' w2 hq' hqi') (hd'.2 id (headId w1 hqi))
        | succ i =>
          simp at hq
          cases j with
          | zero =>
            simp at hq'; subst hq'
            exact absurd (inTail i q w1 hq hqi) (hd'.2 id (headId w2 hqi'))
          | succ j =>
            simp at hq'
            rw [h5 hd'.1 i j q q' id w1 w2 hq hq' hqi hqi']
    · simp [M.ev] at h

/-- lists of the call's own become the rows of a new list: the blocks' new names -/
def relab (base : Nat) (pos : Nat → Option Nat) : Lb → Lb
  | .own (id :: r) => match pos id with
    | some i => .own (base :: i :: r)
    | none => .own (id :: r)
  | x => x

theorem sound_buildSlice (hE : EnvTy P E) {t : TypeId} {n : Nat} {ps : Array (Nat × Operand)} (h : o.op = .buildSlice t n ps) : Sound P E o := by
  intro G w s a base r hr hf he next Q hn
  simp only [opM, h] at he
  unfold buildSliceM at he
  split at he
  · rename_i hlen
    simp at hlen
    -- the run, the parts' sizes known
    have run : ∀ (e : GTy) (te : TypeId), P.underlying t = some (.slice te) → tyOk P e te = true → n ≤ 65536 → e.size ≤ 256 → (∀ (i : Nat) (p : Nat × Operand), ps.toList[i]? = some p → p.1 = i) → (∀ p ∈ ps.toList, (a.eval p.2).cells.size = e.size) →
        ∃ cells : Array Value, (execOp a.eval o).run P w = .ok (.value (.slice (some ⟨w.heap.size, 0, none⟩) n n)) (w.alloc (.cells cells te)) ∧ cells.size = n * e.size ∧
          ∀ (i : Nat) (p : Nat × Operand), ps.toList[i]? = some p → ∀ (j : Nat) (u : Value), (a.eval p.2).cells.toList[j]? = some u → cells[i * e.size + j]? = some u := by
      intro e te hu hte hnb hsb hidx hsz
      obtain ⟨i0, z, hi1, hi2, hi3, hi4, hi5, hi6, hi7⟩ := ty_zero hte
      have hbig : n * e.size ≤ 65536 * 256 := Nat.mul_le_mul hnb hsb
      generalize hc0 : ((Array.range (n * e.size)).map ((if n * e.size = 0 then #[] else z.cells)[· % (if n * e.size = 0 then #[] else z.cells).size]!)) = cells0
      have hs0 : cells0.size = n * e.size := by rw [← hc0]; simp
      obtain ⟨cells, h1, h2, _, h4⟩ := fill_row e.size (ps.toList.map fun p => a.eval p.2) 0 cells0 (by simp [hs0, hlen]) (by
        intro v hv; simp at hv; obtain ⟨q, p, hp, rfl⟩ := hv; exact hsz (q, p) (by simpa using hp))
      refine ⟨cells, ?_, h2.trans hs0, fun i p hp j u hj => ?_⟩
      · have hz := parts_zip ps.toList 0 a.eval (fun i p hp => by rw [hidx i p hp]; omega)
        have hps : (ps.map fun x => (x.1, a.eval x.2)).toList = ps.toList.map fun p => (p.1, a.eval p.2) := by simp
        simp only [execOp, h]
        rw [Sem.run_bind]
        unfold Instr.buildSlice
        simp only [Sem.run_bind, run_underlying hu, Result.andThen_ok, run_sizeOf hte]
        rw [if_neg (by omega)]
        by_cases h0 : n * e.size = 0
        · rw [if_pos h0]
          simp only [if_pos h0] at hc0
          simp only [Sem.run_bind, Sem.run_pure, Result.andThen_ok, hc0, hps, hz, h1]
          simp [newRow]
        · rw [if_neg h0]
          simp only [if_neg h0] at hc0
          have hzv : (zeroValue te).run P w = .ok z w := by simp [zeroValue, typeInfo, hi1, hi4]
          simp only [Sem.run_bind, Sem.run_pure, Result.andThen_ok, hzv, hc0, hps, hz, h1]
          simp [newRow]
      · have := h4 i (a.eval p.2) (by simp [hp]) j u hj
        simpa using this
    split at he
    · -- lists of lists
      rename_i e hty
      split at he
      · rename_i hb1
        obtain ⟨l, hl, he⟩ := ev_some he
        split at he
        · rename_i hdis
          injection (show some _ = some r from he) with he; subst he
          obtain ⟨te, hu, hte⟩ := ty_slice (hE.ty t _ hty)
          obtain ⟨hll, hparts, huniq⟩ := listParts2_some _ 0 l hl
          have huniq := huniq hdis
          -- each part: its value, what it reads as, where it lies
          have hpart : ∀ (i : Nat) (p : Nat × Operand), ps.toList[i]? = some p → p.1 = i ∧ ∃ (x : List e.denote) (len' b' off' c' : Nat), l.1[i]? = some x ∧ HdrIs e.size len' b' off' c' none (a.eval p.2) ∧ len' = x.length ∧
              (0 < c' → ∃ id win, evalA s.tmps p.2 = .hdr id win ∧ id ∈ l.2 ∧ OwnB G w b' [id] (off' + c' * e.size) ∧ RowAt w e.size b' off' (RepC w G.fz e) x) := by
            intro i p hp
            obtain ⟨h1, h2⟩ := hparts i (p.1, evalA s.tmps p.2) (by simp [hp])
            refine ⟨by simpa using h1, ?_⟩
            have hv := evalA_rep hr p.2
            rcases h2 with ⟨h3, h4⟩ | ⟨id, win, l3, h3, hobj3, h4, h5⟩
            · simp only at h3
              rw [h3] at hv
              obtain ⟨_, hv⟩ := hv
              simp at hv
              exact ⟨[], 0, 0, 0, 0, h4, ⟨none, hv, Nat.le_refl _, Nat.le_refl _, Nat.zero_le _, fun h => absurd h (Nat.lt_irrefl 0)⟩, rfl, fun h => absurd h (Nat.lt_irrefl 0)⟩
            · simp only at h3
              rw [h3] at hv
              have ho3 := hr.obj id
              rw [hobj3] at ho3
              obtain ⟨b3, off3, c3, hk3, hl3, hl4, hown3⟩ := ho3
              obtain ⟨_, v, hyv, hh⟩ := hv
              simp at hyv
              rcases hh with ⟨e4, len4, b4, off4, c4, hk4, hh⟩ | ⟨e4, len4, b4, off4, c4, hk4, hh⟩
              · rw [hk4] at hk3; simp at hk3; obtain ⟨rfl, rfl, rfl, rfl, rfl⟩ := hk3
                obtain ⟨ad, rfl, hw1, hw2, hw3, hw4⟩ := hh
                refine ⟨view l3 win, winNum l3.length win, b4, off4 + winOff win * e4.size, c4 - winOff win, h4, ⟨ad, ?_, ?_, ?_, ?_, ?_⟩, (view_len l3 win hw1).symm, fun hc => ?_⟩
                · simp [winNum, winOff, hyv]
                · simp [winNum, winOff]
                · omega
                · simp only [maxL] at *; omega
                · intro hc
                  have hc' : 0 < c4 - winOff win := hc
                  show ad = some ⟨b4, off4 + winOff win * e4.size + 0 * e4.size, none⟩
                  rw [Nat.zero_mul, Nat.add_zero]; exact hw4 (by omega)
                · obtain ⟨⟨how3, ca3, T3, hb3, hsz3⟩, hrow3⟩ := hown3 (by omega)
                  refine ⟨id, win, h3, h5, ⟨how3, ca3, T3, hb3, ?_⟩, hrow3.view win⟩
                  have : (winOff win + (c4 - winOff win)) * e4.size = c4 * e4.size := by congr 1; omega
                  rw [Nat.add_mul] at this; omega
              · rw [hk4] at hk3; simp at hk3
          obtain ⟨cells, hrun, hcs, hcells⟩ := run (.slice e) te hu hte hb1 (by simp [GTy.size]) (fun i p hp => (hpart i p hp).1) (fun p hp => by
            obtain ⟨i, hi⟩ := List.getElem?_of_mem hp
            obtain ⟨_, _, _, _, _, _, _, ⟨ad, hv, _⟩, _⟩ := hpart i p hi
            rw [hv]; rfl)
          have hp := Pushed.alloc w (.cells cells te)
          have hln : l.1.length = n := by simp at hll; omega
          have hfb := hf base (Nat.le_refl _) (by omega)
          -- where an object goes
          have hpos : ∃ pos : Nat → Option Nat, (∀ id, id ∉ l.2 → pos id = none) ∧ ∀ (i : Nat) (p : Nat × Operand) (id : Nat) (win : Option (Nat × Nat)), ps.toList[i]? = some p → evalA s.tmps p.2 = .hdr id win → id ∈ l.2 → pos id = some i := by
            classical
            refine ⟨fun id => if h : id ∈ l.2 ∧ ∃ i : Nat, ∃ p : Nat × Operand, ∃ win, ps.toList[i]? = some p ∧ evalA s.tmps p.2 = .hdr id win then some (Classical.choose h.2) else none, fun id hid => dif_neg fun h => hid h.1, fun i p id win h1 h2 h3 => ?_⟩
            have h : id ∈ l.2 ∧ ∃ i : Nat, ∃ p : Nat × Operand, ∃ win, ps.toList[i]? = some p ∧ evalA s.tmps p.2 = .hdr id win := ⟨h3, i, p, win, h1, h2⟩
            refine (dif_pos h).trans ?_
            obtain ⟨p', win', h4, h5⟩ := Classical.choose_spec h.2
            rw [huniq (Classical.choose h.2) i (p'.1, evalA s.tmps p'.2) (p.1, evalA s.tmps p.2) id win' win (by rw [List.getElem?_map, h4]; rfl) (by rw [List.getElem?_map, h1]; rfl) h5 h2]
          obtain ⟨pos, hpos1, hpos2⟩ := hpos
          have hdata : ∃ nd : Nat → Option (Nat × Nat × Nat × Nat), ∀ (i : Nat) (p : Nat × Operand), ps.toList[i]? = some p → ∃ (x : List e.denote) (len' b' off' c' : Nat), nd i = some (len', b', off', c') ∧ l.1[i]? = some x ∧ HdrIs e.size len' b' off' c' none (a.eval p.2) ∧ len' = x.length ∧
              (0 < c' → ∃ id win, evalA s.tmps p.2 = .hdr id win ∧ id ∈ l.2 ∧ OwnB G w b' [id] (off' + c' * e.size) ∧ RowAt w e.size b' off' (RepC w G.fz e) x) := by
            refine Classical.axiomOfChoice (r := fun i d => ∀ (p : Nat × Operand), ps.toList[i]? = some p → ∃ (x : List e.denote) (len' b' off' c' : Nat), d = some (len', b', off', c') ∧ l.1[i]? = some x ∧ HdrIs e.size len' b' off' c' none (a.eval p.2) ∧ len' = x.length ∧
              (0 < c' → ∃ id win, evalA s.tmps p.2 = .hdr id win ∧ id ∈ l.2 ∧ OwnB G w b' [id] (off' + c' * e.size) ∧ RowAt w e.size b' off' (RepC w G.fz e) x)) fun i => ?_
            cases hpi : ps.toList[i]? with
            | none => exact ⟨none, fun p hp => by simp at hp⟩
            | some p0 =>
              obtain ⟨_, x, len', b', off', c', q⟩ := hpart i p0 hpi
              exact ⟨some (len', b', off', c'), fun p hp => by injection hp with hp; subst hp; exact ⟨x, len', b', off', c', rfl, q⟩⟩
          obtain ⟨nd, hnd⟩ := hdata
          let G' : Gh := { ow := upd (fun k => relab base pos (G.ow k)) w.heap.size (.own [base]), kd := upd G.kd base (some (.row2 e n w.heap.size 0 n)), nd := fun j g => if j = base then (if g = 0 then nd else fun _ => none) else G.nd j g }
          have hkeep : ∀ k, k < w.heap.size → (∀ l', G.ow k ≠ .own l') → G'.ow k = G.ow k := by
            intro k hk ho
            simp only [G']
            rw [upd_other _ _ (by omega)]
            generalize G.ow k = x at ho
            cases x with
            | own l' => exact absurd rfl (ho l')
            | frz => rfl
            | out => rfl
          have hext : Ext G w G' (w.alloc (.cells cells te)) := by
            refine ⟨rfl, rfl, rfl, by simp, fun j k' hk => ?_, fun j g i x hx => ?_, fun b hb ho => ⟨hp.old hb, hkeep b hb ho⟩⟩
            · simp only [G']; rw [upd_other]; exact hk
              rintro rfl; rw [hfb] at hk; simp at hk
            · simp only [G']; rw [if_neg]; exact hx
              rintro rfl; rw [hr.wf _ hfb] at hx; simp at hx
          refine wp_val hrun (hn _ _ G' ⟨hext, ?_, fun id => ?_, fun id hk g i => ?_, fun id k' hk => ?_⟩)
          · exact ⟨rfl, _, rfl, .inr ⟨e, n, w.heap.size, 0, n, by simp [G', upd_same], some ⟨w.heap.size, 0, none⟩, rfl, by simp [winOff, winNum], Nat.le_refl _, by simp only [maxL]; omega, by simp [winOff]⟩⟩
          · rw [upds_append]
            simp only [upds]
            by_cases hid : id = base
            · subst hid; rw [upd_same]
              refine ⟨w.heap.size, 0, n, by simp [G', upd_same, hln], by omega, by simp only [maxL]; omega, fun g' i hg => by simp only [G', if_true]; rw [if_neg (by omega)], fun hc => ⟨⟨by simp [G', upd_same], cells, te, hp.new, by simp [hcs, GTy.size]⟩, fun i x hx => ?_⟩⟩
              have hi := getElem?_lt hx
              have hpi : i < ps.toList.length := by simp; omega
              obtain ⟨y, len', b', off', c', hn1, hy, hh, hlen', hown⟩ := hnd i ps.toList[i] (List.getElem?_eq_getElem hpi)
              rw [hx] at hy; simp at hy; subst hy
              refine ⟨len', b', off', c', by simp [G', hn1], hlen', fun _ => ⟨_, ?_, hh, fun hc' => ?_⟩⟩
              · have hone : (a.eval (ps.toList[i]).2).cells.toList = [a.eval (ps.toList[i]).2] := by obtain ⟨ad, hv, _⟩ := hh; rw [hv]; rfl
                have := cellsAt_new (o := i) (cs := [a.eval (ps.toList[i]).2]) hp (fun j v hj => by
                  have h1 := hcells i ps.toList[i] (List.getElem?_eq_getElem hpi) j v (by rw [hone]; exact hj)
                  simpa [GTy.size] using h1) 0 _ rfl
                simpa using this
              · obtain ⟨id2, win2, h1, h2, ⟨h3, ca3, T3, hb3, hs3⟩, h4⟩ := hown hc'
                have hlt : b' < w.heap.size := OwnB.lt ⟨h3, ca3, T3, hb3, hs3⟩
                have hpp := hpos2 i ps.toList[i] id2 win2 (List.getElem?_eq_getElem hpi) h1 h2
                refine ⟨⟨?_, ca3, T3, (hp.old hlt).trans hb3, hs3⟩, h4.mono (hp.old hlt) fun x cs hx => hext.repC hx⟩
                simp only [G']
                rw [upd_other _ _ (by omega), h3]
                simp [relab, hpp]
            · rw [upd_other _ _ hid]
              by_cases hdd : id ∈ l.2
              · have : ∀ (f : Nat → AObj) (m : List Nat), id ∈ m → upds f (m.map fun id => (id, AObj.dead)) id = .dead := by
                  intro f m
                  induction m generalizing f with
                  | nil => intro h; simp at h
                  | cons q m ih =>
                    intro hm
                    simp only [List.map_cons, upds]
                    by_cases hmm : id ∈ m
                    · exact ih _ hmm
                    · have : id = q := by simpa [hmm] using hm
                      subst this
                      rw [upds_not, upd_same]
                      intro v hv; simp at hv; obtain ⟨q, h1, h2, _⟩ := hv; exact hmm (h2 ▸ h1)
                rw [this _ _ hdd]; exact trivial
              · rw [upds_not _ _ _ (by intro v hv; simp at hv; obtain ⟨q, h1, h2, _⟩ := hv; exact hdd (h2 ▸ h1))]
                refine RepO.frame hext (fun g i => by simp [G', hid]) (fun b r hb ho => ⟨hp.old hb, ?_⟩) (hr.obj id)
                simp only [G']
                rw [upd_other _ _ (by omega), ho]
                simp [relab, hpos1 id hdd]
          · simp only [G'] at hk ⊢
            by_cases hid : id = base
            · subst hid; rw [upd_same] at hk; simp at hk
            · rw [upd_other _ _ hid] at hk; rw [if_neg hid]; exact hr.wf id hk g i
          · simp only [G'] at hk
            by_cases hid : id = base
            · subst hid; exact .inr ⟨Nat.le_refl _, by omega⟩
            · rw [upd_other _ _ hid] at hk; exact .inl hk
        · simp [M.ev] at he
      · simp [M.ev] at he
    · -- plain lists
      rename_i e hne hty
      split at he
      · rename_i hb
        obtain ⟨hb1, hb2⟩ := hb
        obtain ⟨l, hl, he⟩ := ev_some he
        injection (show some _ = some r from he) with he; subst he
        obtain ⟨te, hu, hte⟩ := ty_slice (hE.ty t _ hty)
        obtain ⟨hll, hparts⟩ := listParts_some _ 0 l hl
        have hpart : ∀ (i : Nat) (p : Nat × Operand), ps.toList[i]? = some p → p.1 = i ∧ ∃ x, l[i]? = some x ∧ RepC w G.fz e x (a.eval p.2).cells.toList := by
          intro i p hp
          obtain ⟨h1, x, h2, h3⟩ := hparts i (p.1, evalA s.tmps p.2) (by simp [hp])
          refine ⟨by simpa using h1, x, h2, ?_⟩
          have := coerceT hr.obj (evalA_rep hr p.2) h3
          exact fzV_nil (this.cells fun cs hc => RepC.one _ _ _ hc)
        obtain ⟨cells, hrun, hcs, hcells⟩ := run e te hu hte hb1 hb2 (fun i p hp => (hpart i p hp).1) (fun p hp => by
          obtain ⟨i, hi⟩ := List.getElem?_of_mem hp
          obtain ⟨_, x, _, hx⟩ := hpart i p hi
          have := RepC.len _ _ _ hx; simpa using this)
        have hp := Pushed.alloc w (.cells cells te)
        have hln : l.length = n := by simp at hll; omega
        have hext := hp.ext (hf base (Nat.le_refl _) (by omega)) hr.wf (.row e n w.heap.size 0 n) (fun _ => none)
        refine wp_val hrun (hn _ _ _ (Post.fresh_new hr (hf base (Nat.le_refl _) (by omega)) hp (.row e n w.heap.size 0 n) (fun _ => none) [] (by simp) _ _ _ ?_ ?_))
        · exact ⟨rfl, _, rfl, .inl ⟨e, n, w.heap.size, 0, n, upd_same _ _ _, some ⟨w.heap.size, 0, none⟩, rfl, by simp [winOff, winNum], Nat.le_refl _, by simp only [maxL]; omega, by simp [winOff]⟩⟩
        · refine ⟨w.heap.size, 0, n, by simp [Gh.new, upd_same, hln], by omega, by simp only [maxL]; omega, fun hc => ⟨ownB_new hp (by omega), fun i x hx => ?_⟩⟩
          have hi := getElem?_lt hx
          have hpi : i < ps.toList.length := by simp; omega
          obtain ⟨_, y, hy, hrep⟩ := hpart i ps.toList[i] (List.getElem?_eq_getElem hpi)
          rw [hx] at hy; simp at hy; subst hy
          refine ⟨_, cellsAt_new hp fun j v hj => ?_, hext.repC hrep⟩
          rw [Nat.zero_add]
          exact hcells i ps.toList[i] (List.getElem?_eq_getElem hpi) j v hj
      · simp [M.ev] at he
    · simp [M.ev] at he
  · simp [M.ev] at he

end
end Go.Fw
namespace Go.Fw
open Go

section
variable {P : Program} {E : Env} {o : Oper}

theorem places_flds : ∀ (g : GTy) (off : Nat) (fs : List Field), fldsOk P g off fs = true → ∃ places : List (Nat × Nat), fs.mapM (fun f => (P.info? f.type).map fun i => (f.offset, i.size)) = some places ∧
    ∀ n u, fldTy g n = some u → places[n]? = some (off + offT g [n], u.size)
  | .unit, off, fs, h => by
    simp only [fldsOk, List.isEmpty_iff] at h; subst h
    exact ⟨[], rfl, fun n u hu => by simp [fldTy] at hu⟩
  | .pair a b, off, fs, h => by
    cases fs with
    | nil => simp [fldsOk] at h
    | cons f r =>
      simp only [fldsOk, Bool.and_eq_true, beq_iff_eq] at h
      obtain ⟨⟨h1, h2⟩, h3⟩ := h
      obtain ⟨pl, h4, h5⟩ := places_flds b (off + a.size) r h3
      obtain ⟨i, h6, h7, _⟩ := ty_info h2
      refine ⟨(f.offset, i.size) :: pl, ?_, fun n u hu => ?_⟩
      · simp [List.mapM_cons, h6, h4]
      · cases n with
        | zero => simp [fldTy] at hu; subst hu; simp [h1, h7, offT, offT_nil]
        | succ n =>
          simp only [fldTy] at hu
          simp only [List.getElem?_cons_succ, h5 n u hu, offT]
          congr 2; omega
  | .int _, _, _, h => by simp [fldsOk] at h
  | .bool, _, _, h => by simp [fldsOk] at h
  | .str, _, _, h => by simp [fldsOk] at h
  | .opq, _, _, h => by simp [fldsOk] at h
  | .slice _, _, _, h => by simp [fldsOk] at h

theorem fill_struct {G : Gh} {w : World} {objs : Nat → AObj} {t : GTy} {place : Nat → Option (Nat × Nat)} (hp : ∀ n u, fldTy t n = some u → place n = some (offT t [n], u.size)) {α : Type} (A : α → AVal) (V : α → Value)
    (hAV : ∀ x, RepT G w (A x) (V x)) : ∀ (parts : List (Nat × α)) (v v' : AVal) (cells : Array Value), v.shape t = true → RepG G w v false cells.toList →
      (setParts t (parts.map fun p => (p.1, A p.2)) v).ev objs = some v' →
      ∃ cells' : Array Value, Instr.fill place cells (parts.map fun p => (p.1, V p.2)) = some cells' ∧ RepG G w v' false cells'.toList ∧ v'.shape t = true
  | [], v, v', cells, hs, hr, h => by
    injection (show some _ = some v' from h) with h; subst h
    exact ⟨cells, rfl, hr, hs⟩
  | p :: parts, v, v', cells, hs, hr, h => by
    simp only [List.map_cons, setParts] at h
    cases hf : fldTy t p.1 with
    | none => simp [hf, M.ev] at h
    | some u =>
      simp only [hf] at h
      split at h
      · rename_i hsh
        obtain ⟨h1, h2, _⟩ := repT_cells hsh (hAV p.2)
        have hta : typeAt t [p.1] = some u := by rw [typeAt_cons, hf]; simp [typeAt_nil]
        have hfits := typeAt_fits t u [p.1] hta
        have hcl := (shape_len t v _ hs hr).1
        obtain ⟨h3, h4⟩ := setA_spec (A p.2) _ u hsh h1 t v [p.1] _ hs hr hta
        have hsz : (V p.2).cells.size = u.size := by simpa using h2
        have hcsz : cells.size = t.size := by simpa using hcl
        have hl := fold_lay' (offT t [p.1]) (V p.2).cells cells (by omega)
        generalize hc1 : (V p.2).cells.zipIdx.foldl (fun cs (x : Value × Nat) => cs.setIfInBounds (offT t [p.1] + x.2) x.1) cells = cells1 at hl
        rw [← hl] at h4
        obtain ⟨cells', h5, h6⟩ := fill_struct hp A V hAV parts _ v' cells1 h3 h4 h
        refine ⟨cells', ?_, h6⟩
        simp only [List.map_cons, Instr.fill, hp p.1 u hf]
        rw [if_neg (by simp; omega), hc1]
        exact h5
      · simp [M.ev] at h

theorem sound_build (hE : EnvTy P E) {t : TypeId} {ps : Array (Nat × Operand)} (h : o.op = .build t ps) : Sound P E o := by
  intro G w s a base r hr hf he next Q hn
  simp only [opM, h] at he
  obtain ⟨v, h1, rfl⟩ := andRetV he
  unfold buildM at h1
  split at h1
  · rename_i g hty
    split at h1
    · rename_i hagg
      have hta := hE.ty t g hty
      obtain ⟨i, z, hi1, hi2, hi3, hi4, hi5, hi6, hi7⟩ := ty_zero hta
      obtain ⟨c1, hc1, hc2, hc3⟩ := zMatch_g (G := G) (w := w) g _ _ hi5
      simp at hc1; subst hc1
      have hpl : ∃ fs places, P.underlying t = some (.struct fs) ∧ fs.toList.mapM (fun f => (P.info? f.type).map fun i => (f.offset, i.size)) = some places ∧ ∀ n u, fldTy g n = some u → places[n]? = some (offT g [n], u.size) := by
        cases g <;> simp [GTy.isAgg] at hagg
        · simp only [tyOk, Bool.and_eq_true] at hta
          obtain ⟨_, hta⟩ := hta
          split at hta
          · rename_i fs hus
            have : fs.toList = [] := by simpa using hta
            exact ⟨fs, [], hus, by rw [this]; rfl, fun n u hu => by simp [fldTy] at hu⟩
          · simp at hta
        · rename_i p q
          simp only [tyOk, Bool.and_eq_true] at hta
          obtain ⟨_, hta⟩ := hta
          split at hta
          · rename_i fs hus
            split at hta
            · rename_i f rr hfs
              simp only [Bool.and_eq_true, beq_iff_eq] at hta
              obtain ⟨⟨h1, h2⟩, h3⟩ := hta
              have : fldsOk P (.pair p q) 0 (f :: rr) = true := by simp [fldsOk, h1, h2, h3]
              obtain ⟨places, h4, h5⟩ := places_flds (P := P) (.pair p q) 0 (f :: rr) this
              exact ⟨fs, places, hus, by rw [hfs]; exact h4, fun n u hu => by simpa using h5 n u hu⟩
            · simp at hta
          · simp at hta
      obtain ⟨fs, places, hus, hmap, hplace⟩ := hpl
      obtain ⟨cells', h5, h6, h7⟩ := fill_struct (place := (places.toArray[·]?)) (fun n u hu => by simpa using hplace n u hu) (evalA s.tmps) a.eval (evalA_rep hr) ps.toList _ v z.cells hc3 hc2 h1
      refine wp_val (v := .agg cells') (w' := w) ?_ (hn _ _ G (Post.same hr ?_))
      · have hb : P.built t (ps.map fun x => (x.1, a.eval x.2)).toList = some cells' := by
          unfold Program.built
          rw [hi1, hus]
          simp only [hi4, hmap]
          rw [← h5]; simp
        simp only [execOp, h]
        rw [Sem.run_bind, run_build w t _ cells' hb]
        rfl
      · refine repT_mk h7 h6 fun R hR => ?_
        simp only [ValOf, hagg, if_true]
        exact ⟨cells', rfl, hR⟩
    · simp [M.ev] at h1
  · simp [M.ev] at h1

/-! ### min and max -/
theorem minMax_spec {G : Gh} {w : World} {objs : Nat → AObj} (mx : Bool) (k : IntKind) : ∀ (xs : List AVal) (vs : List Value) (a : Int) (v : AVal), AllR (RepT G w) xs vs → k.has a → (minMax.go mx k a xs).ev objs = some v →
    ∃ n, v = .val (.int k) n ∧ k.has n ∧ (vs.foldlM (if mx then Builtin.max2 else Builtin.min2) (.int k a)).run P w = .ok (.int k n) w
  | [], [], a, v, _, ha, h => by
    injection (show some _ = some v from h) with h; subst h
    exact ⟨a, rfl, ha, rfl⟩
  | [], _ :: _, _, _, h, _, _ => h.elim
  | _ :: _, [], _, _, h, _, _ => h.elim
  | x :: xs, u :: vs, a, v, hall, ha, h => by
    unfold minMax.go at h
    split at h
    · rename_i heq; simp at heq
    · rename_i k' b r heq
      simp at heq; obtain ⟨rfl, rfl⟩ := heq
      split at h
      · rename_i hk; subst hk
        obtain ⟨h1, h2⟩ := hall
        obtain ⟨rfl, hb⟩ := repT_int h1
        have hab : k.has (if mx then (if b > a then b else a) else (if b < a then b else a)) := by
          cases mx <;> simp <;> split <;> assumption
        obtain ⟨n, h3, h4, h5⟩ := minMax_spec mx k _ vs _ v h2 hab h
        refine ⟨n, h3, h4, ?_⟩
        rw [List.foldlM_cons, Sem.run_bind]
        cases mx
        · simp only [Bool.false_eq_true, if_false] at h5 ⊢
          simp only [Builtin.min2, Sem.run_pure, Result.andThen_ok]
          exact h5
        · simp only [if_true] at h5 ⊢
          simp only [Builtin.max2, Sem.run_pure, Result.andThen_ok]
          exact h5
      · simp [M.ev] at h
    · simp [M.ev] at h

theorem allR_args {G : Gh} {w : World} {s : St} {a : Act} (hr : Rel G w s a) : ∀ (xs : List Operand), AllR (RepT G w) (xs.map (evalA s.tmps)) (xs.map a.eval)
  | [] => trivial
  | x :: xs => ⟨evalA_rep hr x, allR_args hr xs⟩

theorem sound_minMax {mx : Bool} {xs : Array Operand} {ts : Array TypeId} (h : o.op = .call { callee := .builtin (if mx then .max else .min), args := xs, argTypes := ts }) : Sound P E o := by
  intro G w s a base r hr hf he next Q hn
  have hall := allR_args hr xs.toList
  have he' : ((minMax mx (xs.toList.map (evalA s.tmps))).andThen retV).ev s.objs = some r := by
    cases mx <;> simpa [opM, h, builtinM] using he
  obtain ⟨v, h1, rfl⟩ := andRetV he'
  unfold minMax at h1
  split at h1
  · rename_i k n rest heq
    rw [heq] at hall
    cases hxs : xs.toList.map a.eval with
    | nil => rw [hxs] at hall; exact hall.elim
    | cons u us =>
      rw [hxs] at hall
      obtain ⟨hu, hus⟩ := hall
      obtain ⟨rfl, hk⟩ := repT_int hu
      obtain ⟨m, rfl, hm, hrun⟩ := minMax_spec (P := P) mx k rest us n v hus hk h1
      refine wp_val (v := .int k m) (w' := w) ?_ (hn _ _ G (Post.same hr (mkT_int hm)))
      have hl : (xs.map a.eval).toList = .int k n :: us := by rw [Array.toList_map]; exact hxs
      cases mx
      · simp only [Bool.false_eq_true, if_false] at h hrun
        simp only [execOp, h, resolve, Sem.run_bind, Sem.run_pure, Result.andThen_ok, invoke, builtin, Builtin.min_, hl]
        rw [hrun]; rfl
      · simp only [if_true] at h hrun
        simp only [execOp, h, resolve, Sem.run_bind, Sem.run_pure, Result.andThen_ok, invoke, builtin, Builtin.max_, hl]
        rw [hrun]; rfl
  · simp [M.ev] at h1

end
end Go.Fw
namespace Go.Fw
open Go

section
variable {P : Program} {E : Env} {o : Oper}

/-- a row's cells, and what they are good for -/
theorem rowAt_cells {α : Type} {w : World} {sz b : Nat} {R : α → List Value → Prop} (hlen : ∀ x cs, R x cs → cs.length = sz ∧ ∀ u ∈ cs, u.oneCell' = true) : ∀ (l : List α) (off : Nat), RowAt w sz b off R l →
    ∃ news : List Value, news.length = l.length * sz ∧ (∀ u ∈ news, u.oneCell' = true) ∧ CellsAt w b off news ∧ ∀ (w' : World) (b' off' : Nat), CellsAt w' b' off' news → RowAt w' sz b' off' R l
  | [], off, _ => ⟨[], by simp, by simp, fun j v hj => by simp at hj, fun w' b' off' _ i x hx => by simp at hx⟩
  | x :: l, off, h => by
    obtain ⟨cs, hc, hr⟩ := h 0 x rfl
    obtain ⟨hl, h1⟩ := hlen x cs hr
    obtain ⟨news, h2, h3, h4, h5⟩ := rowAt_cells hlen l (off + sz) (fun i y hy => by
      obtain ⟨ds, hd, hd'⟩ := h (i + 1) y (by simpa using hy)
      refine ⟨ds, ?_, hd'⟩
      rw [Nat.add_mul] at hd
      rw [show off + sz + i * sz = off + (i * sz + 1 * sz) by omega]; exact hd)
    refine ⟨cs ++ news, by simp [hl, h2, Nat.add_mul]; omega, fun u hu => ?_, fun j v hj => ?_, fun w' b' off' hc' i y hy => ?_⟩
    · rcases List.mem_append.1 hu with hu | hu
      · exact h1 u hu
      · exact h3 u hu
    · by_cases hjl : j < cs.length
      · rw [List.getElem?_append_left hjl] at hj
        have := hc j v hj; simpa using this
      · rw [List.getElem?_append_right (by omega)] at hj
        have := h4 _ v hj
        rw [show off + sz + (j - cs.length) = off + j by omega] at this
        exact this
    · cases i with
      | zero =>
        simp at hy; subst hy
        refine ⟨cs, fun j v hj => ?_, hr⟩
        have := hc' j v (by rw [List.getElem?_append_left (getElem?_lt hj)]; exact hj)
        simpa using this
      | succ i =>
        simp at hy
        obtain ⟨ds, hd, hd'⟩ := h5 w' b' (off' + sz) (fun j v hj => by
          have := hc' (cs.length + j) v (by rw [List.getElem?_append_right (by omega)]; simpa using hj)
          rw [show off' + sz + j = off' + (cs.length + j) by omega]; exact this) i y hy
        refine ⟨ds, ?_, hd'⟩
        rw [Nat.add_mul, show off' + (i * sz + 1 * sz) = off' + sz + i * sz by omega]; exact hd

theorem rowAt_append {α : Type} {w : World} {sz b off : Nat} {R : α → List Value → Prop} {l m : List α} (h : RowAt w sz b off R l) (h' : RowAt w sz b (off + l.length * sz) R m) : RowAt w sz b off R (l ++ m) := by
  intro i x hx
  by_cases hi : i < l.length
  · rw [List.getElem?_append_left hi] at hx; exact h i x hx
  · rw [List.getElem?_append_right (by omega)] at hx
    obtain ⟨cs, hc, hr⟩ := h' _ x hx
    refine ⟨cs, ?_, hr⟩
    have e : off + l.length * sz + (i - l.length) * sz = off + i * sz := by
      rw [Nat.add_assoc, ← Nat.add_mul]; congr 2; omega
    rw [e] at hc; exact hc

theorem cellsAt_append {w : World} {b o : Nat} {cs ds : List Value} (h : CellsAt w b o (cs ++ ds)) : CellsAt w b o cs ∧ CellsAt w b (o + cs.length) ds := by
  constructor
  · intro j v hj; exact h j v (by rw [List.getElem?_append_left (getElem?_lt hj)]; exact hj)
  · intro j v hj
    have := h (cs.length + j) v (by rw [List.getElem?_append_right (by omega)]; simpa using hj)
    rw [Nat.add_assoc]; exact this

/-- what may be read of a slice's header -/
def Reads (w : World) (sz : Nat) (v : Value) (n : Nat) (cs : List Value) : Prop :=
  ∃ ad c, v = .slice ad n c ∧ n ≤ c ∧ cs.length = n * sz ∧ (0 < n → ∃ b off, ad = some ⟨b, off, none⟩ ∧ CellsAt w b off cs)

theorem run_firstCells {w w1 : World} {sz n : Nat} {v : Value} {cs : List Value} (h : Reads w sz v n cs) (hw : w1.heap = w.heap) : (Builtin.firstCells sz n v).run P w1 = .ok cs.toArray w1 := by
  obtain ⟨ad, c, rfl, _, hl, hc⟩ := h
  cases ad with
  | none =>
    have hn : n = 0 := by
      rcases Nat.eq_zero_or_pos n with h | h
      · exact h
      · obtain ⟨b, off, h1, _⟩ := hc h; simp at h1
    subst hn
    simp at hl; subst hl
    simp [Builtin.firstCells]
  | some ad =>
    have := run_loadCells_list (P := P) w1 ad cs (fun j u hj => by
      have hpos : 0 < n := by
        rcases Nat.eq_zero_or_pos n with h | h
        · subst h; simp at hl; subst hl; simp at hj
        · exact h
      obtain ⟨b, off, h1, h2⟩ := hc hpos
      simp at h1; subst h1
      rw [Addr.add_mid, World.cell?_of_block (w := w) (by rw [hw])]
      exact h2 j u hj)
    rw [hl] at this
    simp [Builtin.firstCells, this]

/-- append, run -/
theorem run_append {t t2 : TypeId} {e e2 : GTy} (ht : tyOk P (.slice e) t = true) (ht2 : tyOk P (.slice e2) t2 = true) {w : World} {ad : Option Addr} {n c m : Nat} {vx : Value} {olds news : List Value} {ty : TypeId}
    (ho : Reads w e.size (.slice ad n c) n olds) (hx : Reads w e.size vx m news) (h1 : ∀ u ∈ news, u.oneCell' = true) (hnm : n + m ≤ 4294967296)
    (hblk : 0 < c → ∃ b off ca T, ad = some ⟨b, off, none⟩ ∧ w.heap[b]? = some (.cells ca T (0, 0)) ∧ off + c * e.size ≤ ca.size) :
    ∃ val w', (Builtin.append_ #[t, t2] ty #[.slice ad n c, vx]).run P w = .ok val w' ∧
      ((n + m ≤ c ∧ val = .slice ad (n + m) c ∧ (c = 0 → w' = w) ∧ ∀ b off ca T, 0 < c → ad = some ⟨b, off, none⟩ → w.heap[b]? = some (.cells ca T (0, 0)) → w' = w.setRow b (lay ca.toList (off + n * e.size) news).toArray) ∨
       (c < n + m ∧ ∃ cap arr te, val = .slice (some ⟨w.heap.size, 0, none⟩) (n + m) cap ∧ n + m ≤ cap ∧ cap ≤ maxL ∧ Pushed w w' (.cells arr te) ∧ arr.size = cap * e.size ∧ ∀ (j : Nat) (v : Value), (olds ++ news)[j]? = some v → arr[j]? = some v)) := by
  obtain ⟨te, hu, hte⟩ := ty_slice ht
  obtain ⟨te2, hu2, _⟩ := ty_slice ht2
  obtain ⟨i, z, hi1, hi2, hi3, hi4, hi5, _, _⟩ := ty_zero hte
  have hsz : (sizeOf te).run P w = .ok e.size w := run_sizeOf hte w
  have hfx := run_firstCells (P := P) (w1 := w) hx rfl
  have hfx' := run_firstCells (P := P) (w1 := w.drew) hx rfl
  have hfo' := run_firstCells (P := P) (w1 := w.drew) ho rfl
  have hx0 := hx
  obtain ⟨adx, cx, rfl, hmc, hnl, _⟩ := hx
  obtain ⟨_, _, h2, hnc, hol, _⟩ := ho
  injection h2 with h3 h4 h5; subst h3; subst h5
  by_cases hfit : n + m ≤ c
  · by_cases hc0 : c = 0
    · have hm0 : m = 0 := by omega
      have hn0 : n = 0 := by omega
      subst hm0; subst hn0; subst hc0
      have hne : news = [] := by simpa using hnl
      subst hne
      refine ⟨.slice ad 0 0, w, ?_, .inl ⟨by omega, rfl, fun _ => rfl, fun _ _ _ _ h => absurd h (Nat.lt_irrefl 0)⟩⟩
      cases ad <;> simp [Builtin.append_, run_underlying hu, run_underlying hu2, hsz, Builtin.lenOf, hfx, storeCells]
    · obtain ⟨b, off, ca, T, rfl, hb, hfc⟩ := hblk (by omega)
      have hmul : (n + m) * e.size ≤ c * e.size := Nat.mul_le_mul_right _ hfit
      rw [Nat.add_mul] at hmul
      have hst := run_storeCells_at P b (off + n * e.size) T news 0 ca w hb (by rw [hnl]; omega) h1
      refine ⟨.slice (some ⟨b, off, none⟩) (n + m) c, w.setRow b (lay ca.toList (off + n * e.size) news).toArray, ?_, .inl ⟨hfit, rfl, fun h => absurd h hc0, fun b' off' ca' T' _ h1 h2 => ?_⟩⟩
      · simp [Builtin.append_, run_underlying hu, run_underlying hu2, hsz, Builtin.lenOf, hfit, hfx, Addr.add_mid, hst, lay]
      · simp at h1; obtain ⟨rfl, rfl⟩ := h1
        rw [hb] at h2; simp at h2; obtain ⟨rfl, _⟩ := h2; rfl
  · have hlt : c < n + m := by omega
    have hb2 : (n + m) * i.bytes ≤ 4294967296 * 16384 := Nat.mul_le_mul hnm hi3
    have h48 := growslice_fits (bytes := i.bytes) hlt (by omega)
    have hn : ¬ (n + m ≤ c) := hfit
    have h63' : ¬ (9223372036854775807 < ((n : Int) + (m : Int))) := by omega
    have h48' : ¬ (281474976710656 < Builtin.nextslicecap (n + m) c * i.bytes) := by omega
    refine ⟨.slice (some ⟨w.heap.size, 0, none⟩) (n + m) (grownCap w (n + m) c te), w.drew.alloc (.cells (olds.toArray ++ news.toArray ++ Builtin.zeroCells z.cells (grownCap w (n + m) c te - (n + m))) te), ?_, .inr ⟨hlt, grownCap w (n + m) c te, olds.toArray ++ news.toArray ++ Builtin.zeroCells z.cells (grownCap w (n + m) c te - (n + m)), te, rfl, grownCap_ge _ _ _ _, ?_, Pushed.drewAlloc _ _, ?_, ?_⟩⟩
    · simp [Builtin.append_, run_underlying hu, run_underlying hu2, hsz, typeInfo, zeroValue, hi1, hi4, Builtin.lenOf, hn, h63', h48', Question.forced, hfx', hfo', newRow, grownCap]
      congr 2
      apply Array.ext'
      simp [List.append_assoc]
    · have := grownCap_le_maxLen w (n + m) c te (by unfold maxLen; omega)
      simpa [maxL, maxLen] using this
    · have hzs : z.cells.size = e.size := by
        obtain ⟨c1, hc1, hc2, hc3⟩ := zMatch_g (G := ⟨fun _ => .out, fun _ => none, fun _ _ _ => none⟩) (w := w) e z.cells.toList [] hi5
        simp at hc1
        have := (shape_len e _ _ hc3 hc2).1
        rw [← hc1] at this; simpa using this
      have hge := grownCap_ge w (n + m) c te
      simp only [Array.size_append, List.size_toArray, size_zeroCells, hzs, hol, hnl]
      rw [← Nat.add_mul, ← Nat.add_mul]; congr 1; omega
    · intro j v hj
      rw [Array.getElem?_append_left (by
        have := getElem?_lt hj
        simpa using this)]
      rw [← Array.getElem?_toList]
      simpa using hj

end
end Go.Fw
namespace Go.Fw
open Go

section
variable {P : Program} {E : Env} {o : Oper}

theorem repC_flat_row {w : World} {fz fz' : Nat → Prop} {e : GTy} (h : e.flat = true ∨ ∀ b, fz b → fz' b) {x : e.denote} {cs : List Value} (hc : RepC w fz e x cs) : RepC w fz' e x cs := by
  rcases h with h | h
  · exact repC_flat_ok e x cs h hc
  · exact hc.more h

/-- plain values behind a list: the object that is born -/
theorem append_plain {G : Gh} {w : World} {s : St} {a : Act} {base id n c : Nat} {r : List Nat} {e e2 : GTy} {old ys : List e.denote} {ad : Option Addr} {vx : Value} {t t2 ty : TypeId} {more : List (Nat × AObj)} {fz' : Nat → Prop}
    (hr : Rel G w s a) (hfb : G.kd base = none) (ht : tyOk P (.slice e) t = true) (ht2 : tyOk P (.slice e2) t2 = true) (hn : n = old.length) (hnc : n ≤ c) (hcm : c ≤ maxL)
    (hs : 0 < c → ∃ b off, ad = some ⟨b, off, none⟩ ∧ OwnB G w b (id :: r) (off + c * e.size) ∧ RowAt w e.size b off (RepC w G.fz e) old)
    (hx : RepC w fz' (.slice e) ys [vx]) (hfl : e.flat = true ∨ ∀ b, fz' b → G.fz b) (hroom : n + ys.length ≤ 4294967296)
    (hmore : (more = [] ∧ c = 0) ∨ ∃ o, more = [(id, o)] ∧ id ≠ base ∧ (∀ G' w', Ext G w G' w' → (∀ g i, G'.nd id g i = G.nd id g i) → (∀ k l', G.ow k = .own l' → l' ≠ id :: r → k < w.heap.size → w'.heap[k]? = w.heap[k]? ∧ G'.ow k = G.ow k) → RepO G' w' id o)) :
    ∃ val w', (Builtin.append_ #[t, t2] ty #[.slice ad n c, vx]).run P w = .ok val w' ∧ ∃ G', Post G w s.objs base { v := .hdr base none, w := more ++ [(base, .row e (old ++ ys))] } val w' G' := by
  -- the cells of what is appended
  have hxr : ∃ news, Reads w e.size vx ys.length news ∧ (∀ u ∈ news, u.oneCell' = true) ∧ ∀ (w' : World) (b' off' : Nat), CellsAt w' b' off' news → RowAt w' e.size b' off' (RepC w G.fz e) ys := by
    obtain ⟨adx, cx, hvx, hlx, _, hbx⟩ := hx
    simp at hvx
    by_cases h0 : 0 < ys.length
    · obtain ⟨bx, ox, rfl, _, _, hrow⟩ := hbx h0
      obtain ⟨news, h1, h2, h3, h4⟩ := rowAt_cells (fun x cs hxx => ⟨RepC.len _ _ _ hxx, RepC.one _ _ _ hxx⟩) ys ox (hrow.mono rfl fun x cs hxx => repC_flat_row hfl hxx)
      exact ⟨news, ⟨_, cx, hvx, hlx, h1, fun _ => ⟨bx, ox, rfl, h3⟩⟩, h2, h4⟩
    · have : ys.length = 0 := by omega
      exact ⟨[], ⟨adx, cx, hvx, hlx, by simp [this], fun h => absurd h h0⟩, by simp, fun w' b' off' _ i x hi => by have := getElem?_lt hi; omega⟩
  obtain ⟨news, hrx, hn1, hnews⟩ := hxr
  have hor : ∃ olds, Reads w e.size (.slice ad n c) n olds ∧ ∀ (w' : World) (b' off' : Nat), CellsAt w' b' off' olds → RowAt w' e.size b' off' (RepC w G.fz e) old := by
    by_cases h0 : 0 < n
    · obtain ⟨b, off, rfl, _, hrow⟩ := hs (by omega)
      obtain ⟨olds, h1, h2, h3, h4⟩ := rowAt_cells (fun x cs hxx => ⟨RepC.len _ _ _ hxx, RepC.one _ _ _ hxx⟩) old off hrow
      exact ⟨olds, ⟨_, c, rfl, hnc, by rw [h1, hn], fun _ => ⟨b, off, rfl, h3⟩⟩, h4⟩
    · have : n = 0 := by omega
      exact ⟨[], ⟨ad, c, rfl, hnc, by simp [this], fun h => absurd h h0⟩, fun w' b' off' _ i x hi => by have := getElem?_lt hi; omega⟩
  obtain ⟨olds, hro, holds⟩ := hor
  obtain ⟨val, w', hrun, hres⟩ := run_append (P := P) (ty := ty) ht ht2 hro hrx hn1 hroom (fun hc => by
    obtain ⟨b, off, h1, ⟨_, ca, T, h2, h3⟩, _⟩ := hs hc
    exact ⟨b, off, ca, T, h1, h2, h3⟩)
  refine ⟨val, w', hrun, ?_⟩
  have hidb : ∀ j o, (j, o) ∈ more → j = id ∧ id ≠ base := by
    intro j o hj
    rcases hmore with ⟨rfl, _⟩ | ⟨o', rfl, hne, _⟩
    · simp at hj
    · simp at hj; exact ⟨hj.1, hne⟩
  -- the objects, once the new ghost is known
  have fin : ∀ (G' : Gh) (b off c' : Nat), Ext G w G' w' → (∀ j g i, j ≠ base → G'.nd j g i = G.nd j g i) → (∀ j, j ≠ base → G'.kd j = G.kd j) → G'.kd base = some (.row e (n + ys.length) b off c') →
      (∀ k l', G.ow k = .own l' → (0 < c → l' ≠ id :: r) → k < w.heap.size → w'.heap[k]? = w.heap[k]? ∧ G'.ow k = G.ow k) → n + ys.length ≤ c' → c' ≤ maxL →
      (0 < c' → val = .slice (some ⟨b, off, none⟩) (n + ys.length) c' ∧ OwnB G' w' b [base] (off + c' * e.size) ∧ CellsAt w' b off (olds ++ news)) → (c' = 0 → ∃ ad', val = .slice ad' 0 0) →
      Post G w s.objs base { v := .hdr base none, w := more ++ [(base, .row e (old ++ ys))] } val w' G' := by
    intro G' b off c' hext hnd hkd hkb hkeep hle hcm' hown h0
    have hlen : (old ++ ys).length = n + ys.length := by simp [hn]
    refine ⟨hext, ⟨rfl, val, rfl, .inl ⟨e, n + ys.length, b, off, c', hkb, ?_⟩⟩, fun j => ?_, fun j hj g i => ?_, fun j k hj => ?_⟩
    · by_cases hc : 0 < c'
      · obtain ⟨hv, _⟩ := hown hc
        exact ⟨some ⟨b, off, none⟩, by rw [hv]; simp [winNum, winOff], by simp [winNum, winOff], hle, hcm', by simp [winOff]⟩
      · obtain ⟨ad', hv⟩ := h0 (by omega)
        refine ⟨ad', ?_, by simp [winNum, winOff], hle, hcm', fun h => ?_⟩
        · have e1 : n + ys.length = 0 := by omega
          have e2 : c' = 0 := by omega
          rw [hv]; simp only [winNum, winOff]; rw [e1, e2]
        · simp [winOff] at h; omega
    · rw [upds_append]
      simp only [upds]
      by_cases hj : j = base
      · subst hj; rw [upd_same]
        refine ⟨b, off, c', by rw [hkb, hlen], by omega, hcm', fun hc => ?_⟩
        obtain ⟨_, h2, h3⟩ := hown hc
        obtain ⟨h4, h5⟩ := cellsAt_append h3
        have hol : olds.length = old.length * e.size := by
          obtain ⟨_, _, h6, _, h7, _⟩ := hro; rw [h7, hn]
        refine ⟨h2, RowAt.mono (w := w') rfl (fun x cs hxx => hxx) (rowAt_append ?_ ?_)⟩
        · exact (holds w' b off h4).mono rfl fun x cs hxx => hext.repC hxx
        · rw [← hol]; exact (hnews w' b _ h5).mono rfl fun x cs hxx => hext.repC hxx
      · rw [upd_other _ _ hj]
        rcases hmore with ⟨rfl, hc0⟩ | ⟨o', rfl, hne, hspec⟩
        · simp only [upds]
          exact RepO.frame hext (fun g i => hnd j g i hj) (fun b' r' hb' ho => hkeep b' _ ho (fun h => absurd h (by omega)) hb') (hr.obj j)
        · simp only [upds]
          by_cases hji : j = id
          · subst hji; rw [upd_same]
            exact hspec G' w' hext (fun g i => hnd j g i hj) (fun k l' hk hl hkk => hkeep k l' hk (fun _ => hl) hkk)
          · rw [upd_other _ _ hji]
            exact RepO.frame hext (fun g i => hnd j g i hj) (fun b' r' hb' ho => hkeep b' _ ho (fun _ h => hji (by simp at h; exact h.1)) hb') (hr.obj j)
    · by_cases hjb : j = base
      · subst hjb; rw [hkb] at hj; simp at hj
      · rw [hkd j hjb] at hj; rw [hnd j g i hjb]; exact hr.wf j hj g i
    · by_cases hjb : j = base
      · subst hjb; exact .inr ⟨Nat.le_refl _, by omega⟩
      · rw [hkd j hjb] at hj; exact .inl hj
  rcases hres with ⟨hfit, hv, hw0, hwset⟩ | ⟨hlt, cap, arr, te, hv, hge, hcapm, hp, hasz, harr⟩
  · by_cases hc : 0 < c
    · -- in place
      obtain ⟨b, off, rfl, ⟨how, ca, T, hb, hsz⟩, hrow⟩ := hs hc
      have hw' := hwset b off ca T hc rfl hb
      subst hw'
      have hb1 := heap_setRow (w := w) (c' := (lay ca.toList (off + n * e.size) news).toArray) hb
      let G' : Gh := { ow := upd G.ow b (.own [base]), kd := upd G.kd base (some (.row e (n + ys.length) b off c)), nd := G.nd }
      have hext : Ext G w G' (w.setRow b (lay ca.toList (off + n * e.size) news).toArray) := by
        refine ⟨rfl, rfl, rfl, by simp, fun j k hk => ?_, fun j g i x hx => hx, fun k hk ho => ?_⟩
        · simp only [G']; rw [upd_other]; exact hk
          rintro rfl; rw [hfb] at hk; simp at hk
        · have hne : k ≠ b := by rintro rfl; exact ho _ how
          exact ⟨heap_setRow_other hne, by simp only [G']; rw [upd_other _ _ hne]⟩
      refine ⟨G', fin G' b off c hext (fun _ _ _ _ => rfl) (fun j hj => by simp only [G']; rw [upd_other _ _ hj]) (by simp [G', upd_same]) (fun k l' hk hl hkk => ?_) hfit hcm (fun _ => ⟨hv, ⟨by simp [G', upd_same], _, T, hb1, ?_⟩, ?_⟩) (fun h => absurd h (by omega))⟩
      · have hne : k ≠ b := by
          rintro rfl; rw [how] at hk; simp at hk; exact hl hc hk.symm
        exact ⟨heap_setRow_other hne, by simp only [G']; rw [upd_other _ _ hne]⟩
      · obtain ⟨_, _, _, _, hnl, _⟩ := hrx
        have hmul : (n + ys.length) * e.size ≤ c * e.size := Nat.mul_le_mul_right _ hfit
        rw [Nat.add_mul] at hmul
        rw [List.size_toArray, size_lay (by rw [hnl]; simp; omega)]; simpa using hsz
      · obtain ⟨_, _, _, _, hnl, _⟩ := hrx
        obtain ⟨ad0, c0, heq0, _, hol, hoc⟩ := hro
        injection heq0 with e0 _ _; subst e0
        have hmul : (n + ys.length) * e.size ≤ c * e.size := Nat.mul_le_mul_right _ hfit
        rw [Nat.add_mul] at hmul
        rw [cellsAt_iff hb1]
        intro j v hj
        show (lay ca.toList (off + n * e.size) news)[off + j]? = some v
        rw [lay_get (by rw [hnl]; simp; omega)]
        by_cases hjo : j < olds.length
        · rw [List.getElem?_append_left hjo] at hj
          rw [if_neg (by omega)]
          obtain ⟨b', off', h1, h2⟩ := hoc (by
            rcases Nat.eq_zero_or_pos n with h | h
            · rw [h] at hol; simp at hol; subst hol; simp at hjo
            · exact h)
          simp at h1; obtain ⟨rfl, rfl⟩ := h1
          rw [cellsAt_iff hb] at h2
          exact h2 j v hj
        · rw [List.getElem?_append_right (by omega)] at hj
          have := getElem?_lt hj
          rw [if_pos ⟨by omega, by omega⟩, show off + j - (off + n * e.size) = j - olds.length by omega]; exact hj
    · -- nothing at all
      have hc0 : c = 0 := by omega
      have := hw0 hc0
      subst this
      have hn0 : n + ys.length = 0 := by omega
      let G' : Gh := { ow := G.ow, kd := upd G.kd base (some (.row e (n + ys.length) 0 0 0)), nd := G.nd }
      have hext : Ext G w' G' w' := by
        refine ⟨rfl, rfl, rfl, Nat.le_refl _, fun j k hk => ?_, fun j g i x hx => hx, fun k hk ho => ⟨rfl, rfl⟩⟩
        show upd G.kd base _ j = some k
        rw [upd_other]; exact hk
        rintro rfl; rw [hfb] at hk; simp at hk
      exact ⟨G', fin G' 0 0 0 hext (fun _ _ _ _ => rfl) (fun j hj => by simp only [G']; rw [upd_other _ _ hj]) (by simp [G', upd_same]) (fun k l' hk hl hkk => ⟨rfl, rfl⟩) (by omega) (Nat.zero_le _) (fun h => absurd h (Nat.lt_irrefl 0)) (fun _ => ⟨ad, by rw [hv, hn0, hc0]⟩)⟩
  · -- a new block
    have hpos : 0 < n + ys.length := by omega
    have hext := hp.ext hfb hr.wf (.row e (n + ys.length) w.heap.size 0 cap) (fun _ => none)
    refine ⟨G.new w.heap.size base (.row e (n + ys.length) w.heap.size 0 cap) (fun _ => none), fin _ w.heap.size 0 cap hext (fun j g i hj => by simp [Gh.new, hj]) (fun j hj => by simp only [Gh.new]; rw [upd_other _ _ hj]) (by simp [Gh.new, upd_same]) (fun k l' hk hl hkk => ⟨hp.old hkk, by simp only [Gh.new]; rw [upd_other _ _ (by omega)]⟩) hge hcapm (fun _ => ⟨hv, ownB_new hp (by omega), ?_⟩) (fun h => absurd h (by omega))⟩
    exact cellsAt_new hp fun j v hj => by rw [Nat.zero_add]; exact harr j v hj

end
end Go.Fw
