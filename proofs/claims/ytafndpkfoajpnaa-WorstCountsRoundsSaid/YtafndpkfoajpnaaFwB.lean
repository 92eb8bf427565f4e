/- The interpreter over typed plain data, and its soundness: part B. Nothing of the program stands here. -/
import Derived.Test.YtafndpkfoajpnaaFwA
import Derived.Laws.Slices
namespace Go.Fw
open Go

section
variable {P : Program} {E : Env} {o : Oper}

theorem sound_move {x : Operand} (h : o.op = .move x) : Sound P E o := by
  intro G w s a base r hr hf he next Q hn
  simp only [opM, h] at he
  obtain ⟨v, h1, rfl⟩ := andRetV he
  obtain ⟨rfl, _⟩ := nz_some h1
  exact wp_val (by simp [execOp, h]) (hn _ _ G (Post.same hr (evalA_rep hr x)))

theorem sound_assign {x : Operand} (h : o.op = .assign x) : Sound P E o := by
  intro G w s a base r hr hf he next Q hn
  simp only [opM, h] at he
  obtain ⟨v, h1, rfl⟩ := andRetV he
  obtain ⟨rfl, _⟩ := nz_some h1
  exact wp_val (by simp [execOp, h]) (hn _ _ G (Post.same hr (evalA_rep hr x)))

theorem sound_pick {c x y : Operand} (h : o.op = .pick c x y) : Sound P E o := by
  intro G w s a base r hr hf he next Q hn
  simp only [opM, h] at he
  have hc := evalA_rep hr c
  split at he
  · rename_i t ht
    rw [ht] at hc
    have hb := repT_bool hc
    rcases ev_ite he with ⟨rfl, he⟩ | ⟨rfl, he⟩
    · obtain ⟨v, h1, rfl⟩ := andRetV he
      obtain ⟨rfl, _⟩ := nz_some h1
      exact wp_val (by simp [execOp, h, hb, asBool]) (hn _ _ G (Post.same hr (evalA_rep hr x)))
    · obtain ⟨v, h1, rfl⟩ := andRetV he
      obtain ⟨rfl, _⟩ := nz_some h1
      exact wp_val (by simp [execOp, h, hb, asBool]) (hn _ _ G (Post.same hr (evalA_rep hr y)))
  · simp [M.ev] at he

theorem sound_unOp {op : UnOp} {t : TypeId} {x : Operand} (h : o.op = .unOp op t x) : Sound P E o := by
  intro G w s a base r hr hf he next Q hn
  simp only [opM, h] at he
  obtain ⟨v, h1, rfl⟩ := andRetV he
  have hx := evalA_rep hr x
  unfold unM at h1
  split at h1
  · rename_i k n hk
    rw [hk] at hx
    obtain ⟨hv, hh⟩ := repT_int hx
    cases op <;> simp [M.ev] at h1 <;> subst h1
    · exact wp_val (v := .int k (k.wrap (0 - n))) (by simp [execOp, h, hv, Op.unary, Op.intArith]) (hn _ _ G (Post.same hr (by simpa using mkT_int (wrap_has k (0 - n)))))
    · exact wp_val (v := .int k (ixor k (if k.signed then -1 else k.max) n)) (by simp only [execOp, h, hv]; simp only [Op.unary]; rfl) (hn _ _ G (Post.same hr (mkT_int (wrap_has _ _))))
  · rename_i b hk
    rw [hk] at hx
    have hv := repT_bool hx
    cases op <;> simp [M.ev] at h1 <;> subst h1
    exact wp_val (v := .bool (!b)) (by simp [execOp, h, hv, Op.unary]) (hn _ _ G (Post.same hr mkT_bool))
  · simp [M.ev] at h1

theorem run_eqGuard_of {op : BinOp} {t : TypeId} {x y : Operand} {u v : Value} {w : World} (h : ∀ c, u ≠ .agg c) (h' : u ≠ .nilIface) : (eqGuard op t x y u v).run P w = .ok () w := by
  unfold eqGuard
  cases op <;> simp <;> (split <;> first | rfl | (exact absurd rfl h') | (exact absurd rfl (h _)))

theorem part_spec {g : GTy} {t : TypeId} (h : tyOk P g t = true) {w : World} {c1 c2 c3 : List Value} (hl : c2.length = g.size) :
    ∃ v, (part t (c1 ++ c2 ++ c3).toArray c1.length).run P w = .ok v w ∧ ∀ R : List Value → Prop, R c2 → ValOf g.isAgg R v := by
  unfold part
  rw [Sem.run_bind, run_isAgg h]
  cases hg : g.isAgg with
  | true =>
    refine ⟨.agg c2.toArray, ?_, fun R hr => ⟨_, rfl, by simpa using hr⟩⟩
    simp only [Result.andThen_ok, if_true, Sem.run_bind, run_sizeOf h, Sem.run_pure]
    congr 2
    apply Array.ext'
    simp [← hl]
  | false =>
    have h1 := size_notAgg g hg
    rw [h1] at hl
    match c2, hl with
    | [v], _ =>
      refine ⟨v, ?_, fun R hr => by simpa [ValOf] using hr⟩
      simp

mutual
theorem eq_spec : ∀ (g : GTy) (t : TypeId) (x y : g.denote) (u v : Value) (w w1 w2 : World) (fz1 fz2 : Nat → Prop) (d : Nat), tyOk P g t = true → eqOk P g t = true → g.dep ≤ d →
    ValOf g.isAgg (RepC w1 fz1 g x) u → ValOf g.isAgg (RepC w2 fz2 g y) v → (Op.equalIn d t u v).run P w = .ok (g.beq x y) w
  | .int k, t, x, y, u, v, w, w1, w2, fz1, fz2, d, ht, he, hd, hu, hv => by
    obtain ⟨d, rfl⟩ : ∃ m, d = m + 1 := ⟨d - 1, by simp [GTy.dep] at hd; omega⟩
    simp only [ValOf, GTy.isAgg] at hu hv
    have h1 := hu.1; have h2 := hv.1
    simp at h1 h2; subst h1; subst h2
    simp only [tyOk, Bool.and_eq_true] at ht
    obtain ⟨_, ht⟩ := ht
    split at ht
    · rename_i k' hk
      rw [run_equalIn_int w d t k k' x y hk]
      simp only [GTy.beq]
      congr
    · simp at ht
  | .bool, t, x, y, u, v, w, w1, w2, fz1, fz2, d, ht, he, hd, hu, hv => by
    obtain ⟨d, rfl⟩ : ∃ m, d = m + 1 := ⟨d - 1, by simp [GTy.dep] at hd; omega⟩
    simp only [ValOf, GTy.isAgg] at hu hv
    have h1 : [u] = [.bool x] := hu
    have h2 : [v] = [.bool y] := hv
    simp at h1 h2; subst h1; subst h2
    simp only [tyOk, Bool.and_eq_true] at ht
    obtain ⟨_, ht⟩ := ht
    split at ht
    · rename_i hk
      rw [run_equalIn_bool w d t x y hk]
      rfl
    · simp at ht
  | .str, t, x, y, u, v, w, w1, w2, fz1, fz2, d, ht, he, hd, hu, hv => by
    obtain ⟨d, rfl⟩ : ∃ m, d = m + 1 := ⟨d - 1, by simp [GTy.dep] at hd; omega⟩
    simp only [ValOf, GTy.isAgg] at hu hv
    have h1 : [u] = [.string x] := hu
    have h2 : [v] = [.string y] := hv
    simp at h1 h2; subst h1; subst h2
    simp only [tyOk, Bool.and_eq_true] at ht
    obtain ⟨_, ht⟩ := ht
    split at ht
    · rename_i hk
      rw [run_equalIn_string w d t x y hk, ← beq_toListBytes]
      rfl
    · simp at ht
  | .unit, t, x, y, u, v, w, w1, w2, fz1, fz2, d, ht, he, hd, hu, hv => by simp [eqOk] at he
  | .opq, t, x, y, u, v, w, w1, w2, fz1, fz2, d, ht, he, hd, hu, hv => by simp [eqOk] at he
  | .slice _, t, x, y, u, v, w, w1, w2, fz1, fz2, d, ht, he, hd, hu, hv => by simp [eqOk] at he
  | .pair a b, t, x, y, u, v, w, w1, w2, fz1, fz2, d, ht, he, hd, hu, hv => by
    obtain ⟨d, rfl⟩ : ∃ m, d = m + 1 := ⟨d - 1, by simp [GTy.dep] at hd; omega⟩
    simp only [ValOf, GTy.isAgg, if_true] at hu hv
    obtain ⟨cu, rfl, c1, c2, hcu, hu1, hu2⟩ := hu
    obtain ⟨cv, rfl, d1, d2, hcv, hv1, hv2⟩ := hv
    simp only [tyOk, eqOk, Bool.and_eq_true] at ht he
    obtain ⟨_, ht⟩ := ht
    obtain ⟨⟨_, hst⟩, he⟩ := he
    split at ht
    · rename_i fs hus
      have hfo : P.fieldsOf t = fs := by simp [Program.fieldsOf, hus]
      rw [hus] at he
      rw [run_equalIn_struct w d t cu cv (by rw [hfo]; exact hus) (by simpa using hst), hfo]
      simp only at he
      split at ht
      · rename_i f r hfs
        rw [hfs] at he ⊢
        simp only [Bool.and_eq_true, decide_eq_true_eq, beq_iff_eq] at ht he
        obtain ⟨⟨ho, hta⟩, htb⟩ := ht
        obtain ⟨⟨hname, hea⟩, heb⟩ := he
        have hl1 := RepC.len _ _ _ hu1
        have hl2 := RepC.len _ _ _ hv1
        have ecu : cu = ([] ++ c1 ++ c2).toArray := by apply Array.ext'; simp [hcu]
        have ecv : cv = ([] ++ d1 ++ d2).toArray := by apply Array.ext'; simp [hcv]
        simp only [Op.eqFields, hname, ne_eq, not_false_eq_true, if_true, Sem.run_bind, ho]
        obtain ⟨pu, hpu, hpu'⟩ := part_spec hta (w := w) (c1 := []) (c3 := c2) hl1
        obtain ⟨pv, hpv, hpv'⟩ := part_spec hta (w := w) (c1 := []) (c3 := d2) hl2
        rw [ecu]
        rw [show (0 : Nat) = ([] : List Value).length from rfl, hpu]
        simp only [Result.andThen_ok]
        rw [ecv, hpv]
        simp only [Result.andThen_ok]
        rw [eq_spec a f.type x.1 y.1 pu pv w w1 w2 fz1 fz2 d hta hea (by simp only [GTy.dep] at hd; omega) (hpu' _ hu1) (hpv' _ hv1)]
        simp only [Result.andThen_ok]
        have ih := eqFlds_spec b r x.2 y.2 c1 c2 d1 d2 w w1 w2 fz1 fz2 d (a.size) hl1 hl2 htb heb (by simp only [GTy.dep] at hd; omega) hu2 hv2
        simp only [List.nil_append]
        cases hb : a.beq x.1 y.1
        · simp [GTy.beq, hb]
        · simp [GTy.beq, hb, ih]
      · simp at ht
    · simp at ht
theorem eqFlds_spec : ∀ (g : GTy) (fs : List Field) (x y : g.denote) (c1 c2 d1 d2 : List Value) (w w1 w2 : World) (fz1 fz2 : Nat → Prop) (d off : Nat), c1.length = off → d1.length = off →
    fldsOk P g off fs = true → eqFldsOk P g fs = true → g.dep ≤ d + 1 →
    RepC w1 fz1 g x c2 → RepC w2 fz2 g y d2 → (Op.eqFields d (c1 ++ c2).toArray (d1 ++ d2).toArray fs).run P w = .ok (g.beq x y) w
  | .unit, fs, x, y, c1, c2, d1, d2, w, w1, w2, fz1, fz2, d, off, h1, h2, ht, he, hd, hu, hv => by
    simp only [eqFldsOk, List.isEmpty_iff] at he
    subst he
    simp [Op.eqFields, GTy.beq]
  | .pair a b, fs, x, y, c1, c2, d1, d2, w, w1, w2, fz1, fz2, d, off, h1, h2, ht, he, hd, hu, hv => by
    obtain ⟨e1, e2, rfl, hu1, hu2⟩ := hu
    obtain ⟨f1, f2, rfl, hv1, hv2⟩ := hv
    cases fs with
    | nil => simp [fldsOk] at ht
    | cons f r =>
      simp only [fldsOk, eqFldsOk, Bool.and_eq_true, decide_eq_true_eq, beq_iff_eq] at ht he
      obtain ⟨⟨ho, hta⟩, htb⟩ := ht
      obtain ⟨⟨hname, hea⟩, heb⟩ := he
      have hl1 := RepC.len _ _ _ hu1
      have hl2 := RepC.len _ _ _ hv1
      simp only [Op.eqFields, hname, ne_eq, not_false_eq_true, if_true, Sem.run_bind, ho]
      obtain ⟨pu, hpu, hpu'⟩ := part_spec hta (w := w) (c1 := c1) (c3 := e2) hl1
      obtain ⟨pv, hpv, hpv'⟩ := part_spec hta (w := w) (c1 := d1) (c3 := f2) hl2
      rw [← h1, ← List.append_assoc, hpu]
      simp only [Result.andThen_ok]
      rw [h1, ← h2, ← List.append_assoc, hpv]
      simp only [Result.andThen_ok]
      rw [eq_spec a f.type x.1 y.1 pu pv w w1 w2 fz1 fz2 d hta hea (by simp only [GTy.dep] at hd; omega) (hpu' _ hu1) (hpv' _ hv1)]
      simp only [Result.andThen_ok]
      have ih := eqFlds_spec b r x.2 y.2 (c1 ++ e1) e2 (d1 ++ f1) f2 w w1 w2 fz1 fz2 d (off + a.size) (by simp [h1, hl1]) (by simp [h2, hl2]) htb heb (by simp only [GTy.dep] at hd; omega) hu2 hv2
      cases hb : a.beq x.1 y.1
      · simp [GTy.beq, hb]
      · simp only [Bool.not_true, Bool.false_eq_true, if_false, ih]
        simp [GTy.beq, hb]
  | .int _, fs, x, y, c1, c2, d1, d2, w, w1, w2, fz1, fz2, d, off, h1, h2, ht, he, hd, hu, hv => by simp [fldsOk] at ht
  | .bool, fs, x, y, c1, c2, d1, d2, w, w1, w2, fz1, fz2, d, off, h1, h2, ht, he, hd, hu, hv => by simp [fldsOk] at ht
  | .str, fs, x, y, c1, c2, d1, d2, w, w1, w2, fz1, fz2, d, off, h1, h2, ht, he, hd, hu, hv => by simp [fldsOk] at ht
  | .opq, fs, x, y, c1, c2, d1, d2, w, w1, w2, fz1, fz2, d, off, h1, h2, ht, he, hd, hu, hv => by simp [fldsOk] at ht
  | .slice _, fs, x, y, c1, c2, d1, d2, w, w1, w2, fz1, fz2, d, off, h1, h2, ht, he, hd, hu, hv => by simp [fldsOk] at ht
end

end
end Go.Fw
namespace Go.Fw
open Go

section
variable {P : Program} {E : Env} {o : Oper}

theorem repC_flat_ok {w : World} {fz fz' : Nat → Prop} : ∀ (t : GTy) (x : t.denote) (cs : List Value), t.flat = true → RepC w fz t x cs → RepC w fz' t x cs
  | .int _, _, _, _, h => h
  | .bool, _, _, _, h => h
  | .str, _, _, _, h => h
  | .unit, _, _, _, h => h
  | .opq, _, _, h, _ => by simp [GTy.flat] at h
  | .slice _, _, _, h, _ => by simp [GTy.flat] at h
  | .pair a b, x, cs, h, hc => by
    simp only [GTy.flat, Bool.and_eq_true] at h
    obtain ⟨c1, c2, rfl, h1, h2⟩ := hc
    exact ⟨c1, c2, rfl, repC_flat_ok a _ _ h.1 h1, repC_flat_ok b _ _ h.2 h2⟩

theorem coerce_agg {objs : Nat → AObj} {t : GTy} {v : AVal} {r : t.denote × List Nat} (he : (coerce t v).ev objs = some r) : v.isAgg = t.isAgg ∧ v ≠ .none ∧ ∀ l, v ≠ .tup l := by
  cases v
  case val t' x =>
    have : t' = t := by
      cases t <;> simp only [coerce] at he <;> (split at he <;> first | assumption | simp [M.ev] at he)
    subst this
    simp [AVal.isAgg]
  all_goals (cases t <;> simp [coerce, M.ev] at he <;> simp [AVal.isAgg, GTy.isAgg])

/-- a value that is read as plain data, as a whole -/
theorem coerceT {G : Gh} {w : World} {objs : Nat → AObj} (ho : ∀ id, RepO G w id (objs id)) {t : GTy} {v : AVal} {x : t.denote} {ids : List Nat} {u : Value}
    (hr : RepT G w v u) (he : (coerce t v).ev objs = some (x, ids)) : ValOf t.isAgg (RepC w (G.fzV ids) t x) u := by
  have key : ∀ R : List Value → Prop, ValOf v.isAgg R u → v.isAgg = t.isAgg → ValOf t.isAgg R u := fun R h e => e ▸ h
  have hag := coerce_agg he
  have hu : ValOf v.isAgg (RepG G w v false) u := by
    cases v <;> first | exact hr | exact absurd rfl hag.2.1 | exact absurd rfl (hag.2.2 _)
  exact key _ (hu.mono fun cs hc => coerce_spec ho t v x ids cs hc he) hag.1

theorem binOp_rest {P : Program} {t : TypeId} {u v : Value} {w : World} {b : Bool} (h1 : ∀ k a, u ≠ .int k a) (h2 : ∀ k a, u ≠ .float k a) (h3 : ∀ k a c, u ≠ .complex k a c) (h4 : ∀ s, u ≠ .string s)
    (h : (Op.equalIn 10000 t u v).run P w = .ok b w) : (binOp .eql t u v).run P w = .ok (.bool b) w ∧ (binOp .neq t u v).run P w = .ok (.bool !b) w := by
  have he : (Op.equal t u v).run P w = .ok b w := h
  cases u <;> first
    | exact absurd rfl (h1 _ _)
    | exact absurd rfl (h2 _ _)
    | exact absurd rfl (h3 _ _ _)
    | exact absurd rfl (h4 _)
    | (constructor <;> (unfold binOp; simp [he]))

theorem sound_binOp (hE : EnvTy P E) {op : BinOp} {t u : TypeId} {x y : Operand} (h : o.op = .binOp op t x y u) : Sound P E o := by
  intro G w s a base r hr hf he next Q hn
  simp only [opM, h] at he
  obtain ⟨v, h1, rfl⟩ := andRetV he
  have hx := evalA_rep hr x
  have hy := evalA_rep hr y
  generalize hxa : evalA s.tmps x = ax at h1 hx
  generalize hya : evalA s.tmps y = ay at h1 hy
  generalize hxv : a.eval x = vx at hx
  generalize hyv : a.eval y = vy at hy
  -- what must be shown: the value
  suffices hs : ∃ val, (do eqGuard op t x y vx vy; binOp op t vx vy : Sem Value).run P w = .ok val w ∧ RepT G w v val by
    obtain ⟨val, hrun, hv⟩ := hs
    refine wp_val (v := val) (w' := w) ?_ (hn _ _ G (Post.same hr hv))
    simp only [execOp, h, hxv, hyv]
    rw [Sem.run_bind, hrun]
    rfl
  unfold binM at h1
  split at h1
  · -- numbers
    rename_i k n
    split at h1
    · rename_i k' m
      obtain ⟨rfl, hxh⟩ := repT_int hx
      obtain ⟨rfl, hyh⟩ := repT_int hy
      have hg := fun op => run_eqGuard_of (P := P) (op := op) (t := t) (x := x) (y := y) (u := .int k n) (v := .int k' m) (w := w) (by simp) (by simp)
      have shift : ∀ op', (op' = .shl ∨ op' = .shr) → (shiftInt op' k n m).ev s.objs = some v → ∃ val, (binOp op' t (.int k n) (.int k' m)).run P w = .ok val w ∧ RepT G w v val := by
        intro op' hop hsh
        unfold shiftInt at hsh
        rcases ev_ite hsh with ⟨_, hsh⟩ | ⟨hm, hsh⟩
        · simp [M.ev] at hsh
        · have hm' : ¬ m < 0 := by simpa using hm
          rcases hop with rfl | rfl
          · simp [M.ev] at hsh; subst hsh
            exact ⟨_, by simp [binOp, Op.shift, hm']; rfl, mkT_int (wrap_has _ _)⟩
          · simp [M.ev] at hsh; subst hsh
            exact ⟨_, by simp [binOp, Op.shift, hm']; rfl, mkT_int (fdiv_has hxh _)⟩
      by_cases hsh : op = .shl ∨ op = .shr
      · have : ∃ val, (binOp op t (.int k n) (.int k' m)).run P w = .ok val w ∧ RepT G w v val := by
          rcases hsh with rfl | rfl
          · exact shift _ (.inl rfl) h1
          · exact shift _ (.inr rfl) h1
        obtain ⟨val, hv1, hv2⟩ := this
        exact ⟨val, by rw [Sem.run_bind, hg op]; exact hv1, hv2⟩
      · have h1' : (if k = k' then binInt op k n m else .fail : M AVal).ev s.objs = some v := by
          cases op <;> first | exact h1 | exact absurd (Or.inl rfl) hsh | exact absurd (Or.inr rfl) hsh
        split at h1'
        · rename_i hk; subst hk
          obtain ⟨_, val, hv1, hv2⟩ := binInt_spec (P := P) (w := w) hxh hyh h1'
          refine ⟨val, by rw [Sem.run_bind, hg op]; exact hv1 t, ?_⟩
          rcases hv2 with ⟨n, rfl, rfl, hn⟩ | ⟨b, rfl, rfl⟩
          · exact mkT_int hn
          · exact mkT_bool
        · simp [M.ev] at h1'
    · simp [M.ev] at h1
  · -- strings
    rename_i p
    split at h1
    · rename_i q
      obtain rfl := repT_str hx
      obtain rfl := repT_str hy
      have hg := fun op => run_eqGuard_of (P := P) (op := op) (t := t) (x := x) (y := y) (u := .string p) (v := .string q) (w := w) (by simp) (by simp)
      have heq := beq_toListBytes p q
      split at h1
      · simp [M.ev] at h1; subst h1
        refine ⟨.bool (p == q), ?_, mkT_bool⟩
        rw [Sem.run_bind, hg]
        simp [binOp, Op.stringOp, heq]
      · simp [M.ev] at h1; subst h1
        refine ⟨.bool (!(p == q)), ?_, mkT_bool⟩
        rw [Sem.run_bind, hg]
        simp [binOp, Op.stringOp, heq]
      · rcases ev_ite h1 with ⟨hsz, h1⟩ | ⟨_, h1⟩
        · simp [M.ev] at h1; subst h1
          have hsz' : p.size + q.size ≤ 4294967296 := by simpa using hsz
          refine ⟨.string (p ++ q), ?_, mkT_str⟩
          rw [Sem.run_bind, hg]
          have : ¬ (IntKind.i64.max < ((p.size + q.size : Nat) : Int)) := by
            have : IntKind.i64.max = 9223372036854775807 := by decide
            omega
          simp only [Result.andThen_ok, binOp, Op.stringOp]
          rw [if_neg this]
          rfl
        · simp [M.ev] at h1
      · simp [M.ev] at h1
    · simp [M.ev] at h1
  · -- other values: only '==' and '!='
    rename_i hni hns
    cases hty : E.ty t with
    | none => simp [hty, M.ev] at h1
    | some g =>
      simp only [hty] at h1
      split at h1
      · rename_i heq
        obtain ⟨ra, ha, h1⟩ := ev_some h1
        obtain ⟨rb, hb, h1⟩ := ev_some h1
        obtain ⟨he1, he2⟩ := hE.eqt t g heq hty
        have hta := hE.ty t g hty
        have hu := coerceT hr.obj hx ha
        have hv := coerceT hr.obj hy hb
        have hrun := eq_spec (P := P) g t ra.1 rb.1 vx vy w w w _ _ 10000 hta he1 (by omega) hu hv
        -- vx is an agg or a bool
        have hguard : op = .eql ∨ op = .neq → (eqGuard op t x y vx vy).run P w = .ok () w := by
          intro _
          cases hga : g.isAgg with
          | true =>
            rw [hga] at hu hv
            obtain ⟨cu, rfl, _⟩ := hu
            obtain ⟨cv, rfl, _⟩ := hv
            have : P.eqGuardType P.depth t = false := by
              cases g <;> simp [GTy.isAgg] at hga
              · simp [eqOk] at he1
              · simp only [eqOk, Bool.and_eq_true] at he1
                simpa using he1.1.1
            exact run_eqGuard_agg w op t x y cu cv this
          | false =>
            rw [hga] at hu
            refine run_eqGuard_of (fun c => ?_) ?_
            · rintro rfl
              have hu' : RepC w (G.fzV ra.2) g ra.1 [Value.agg c] := hu
              have := RepC.one _ _ _ hu' (.agg c) (by simp)
              simp [Value.oneCell'] at this
            · rintro rfl
              have hu' : RepC w (G.fzV ra.2) g ra.1 [Value.nilIface] := hu
              cases g <;> simp [GTy.isAgg, eqOk] at hga he1
              · have := hu'.1; simp at this
              · have h3 : [Value.nilIface] = [.bool ra.1] := hu'; simp at h3
              · have h3 : [Value.nilIface] = [.string ra.1] := hu'; simp at h3
        have hnum : (∀ k a, vx ≠ .int k a) ∧ (∀ k a, vx ≠ .float k a) ∧ (∀ k a c, vx ≠ .complex k a c) ∧ (∀ s, vx ≠ .string s) := by
          cases hga : g.isAgg with
          | true => rw [hga] at hu; obtain ⟨cu, rfl, _⟩ := hu; simp
          | false =>
            rw [hga] at hu
            have hu' : RepC w (G.fzV ra.2) g ra.1 [vx] := hu
            cases g <;> simp [GTy.isAgg, eqOk] at hga he1
            · -- an int: then the abstract value is a val, excluded
              exfalso
              cases ax <;> simp [coerce, M.ev] at ha
              rename_i t' z
              split at ha <;> simp [M.ev] at ha
              rename_i ht; subst ht
              exact hni _ _ rfl
            · have h3 : [vx] = [.bool ra.1] := hu'
              simp at h3; subst h3; simp
            · exfalso
              cases ax <;> simp [coerce, M.ev] at ha
              rename_i t' z
              split at ha <;> simp [M.ev] at ha
              rename_i ht; subst ht
              exact hns _ rfl
        obtain ⟨hr1, hr2⟩ := binOp_rest (P := P) (t := t) (v := vy) hnum.1 hnum.2.1 hnum.2.2.1 hnum.2.2.2 hrun
        split at h1
        · simp [M.ev] at h1; subst h1
          exact ⟨_, by rw [Sem.run_bind, hguard (.inl rfl)]; exact hr1, mkT_bool⟩
        · simp [M.ev] at h1; subst h1
          exact ⟨_, by rw [Sem.run_bind, hguard (.inr rfl)]; exact hr2, mkT_bool⟩
        · simp [M.ev] at h1
      · simp [M.ev] at h1

end
end Go.Fw
namespace Go.Fw
open Go

section
variable {P : Program} {E : Env} {o : Oper}

theorem ty_int {k : IntKind} {t : TypeId} (h : tyOk P (.int k) t = true) : P.underlying t = some (.int k) := by
  simp only [tyOk, Bool.and_eq_true] at h
  obtain ⟨_, h⟩ := h
  split at h
  · rename_i k' hk; simp at h; subst h; exact hk
  · simp at h
theorem ty_str {t : TypeId} (h : tyOk P .str t = true) : P.underlying t = some .string := by
  simp only [tyOk, Bool.and_eq_true] at h
  obtain ⟨_, h⟩ := h
  split at h
  · assumption
  · simp at h
theorem ty_slice {e : GTy} {t : TypeId} (h : tyOk P (.slice e) t = true) : ∃ te, P.underlying t = some (.slice te) ∧ tyOk P e te = true := by
  simp only [tyOk, Bool.and_eq_true] at h
  obtain ⟨_, h⟩ := h
  split at h
  · rename_i te hk; exact ⟨te, hk, h⟩
  · simp at h

theorem ty_und {g : GTy} {t : TypeId} (h : tyOk P g t = true) : ∃ d, P.underlying t = some d := by
  cases g <;> simp only [tyOk, Bool.and_eq_true] at h <;> (obtain ⟨_, h⟩ := h; split at h <;> first | exact ⟨_, by assumption⟩ | simp at h)

/-- the fields of a struct -/
theorem flds_get : ∀ (g : GTy) (off : Nat) (fs : List Field) (n : Nat) (u : GTy), fldsOk P g off fs = true → fldTy g n = some u →
    ∃ f, fs[n]? = some f ∧ f.offset = off + offT g [n] ∧ tyOk P u f.type = true
  | .pair a b, off, fs, n, u, h, hf => by
    cases fs with
    | nil => simp [fldsOk] at h
    | cons f r =>
      simp only [fldsOk, Bool.and_eq_true, beq_iff_eq] at h
      obtain ⟨⟨h1, h2⟩, h3⟩ := h
      cases n with
      | zero => simp [fldTy] at hf; subst hf; exact ⟨f, rfl, by simp [offT, offT_nil, h1], h2⟩
      | succ n =>
        simp only [fldTy] at hf
        obtain ⟨f', h4, h5, h6⟩ := flds_get b (off + a.size) r n u h3 hf
        exact ⟨f', by simpa using h4, by rw [h5]; simp [offT]; omega, h6⟩
  | .int _, _, _, _, _, _, hf => by simp [fldTy] at hf
  | .bool, _, _, _, _, _, hf => by simp [fldTy] at hf
  | .str, _, _, _, _, _, hf => by simp [fldTy] at hf
  | .unit, _, _, _, _, _, hf => by simp [fldTy] at hf
  | .opq, _, _, _, _, _, hf => by simp [fldTy] at hf
  | .slice _, _, _, _, _, _, hf => by simp [fldTy] at hf

theorem ty_fld {g u : GTy} {t : TypeId} {n : Nat} (h : tyOk P g t = true) (hf : fldTy g n = some u) :
    ∃ fs f, P.underlying t = some (.struct fs) ∧ fs[n]? = some f ∧ f.offset = offT g [n] ∧ tyOk P u f.type = true := by
  cases g <;> simp [fldTy] at hf
  case pair a b =>
    simp only [tyOk, Bool.and_eq_true] at h
    obtain ⟨_, h⟩ := h
    split at h
    · rename_i fs hus
      split at h
      · rename_i f r hfs
        simp only [Bool.and_eq_true, beq_iff_eq] at h
        obtain ⟨⟨h1, h2⟩, h3⟩ := h
        have : fldsOk P (.pair a b) 0 (f :: r) = true := by simp [fldsOk, h1, h2, h3]
        obtain ⟨f', h4, h5, h6⟩ := flds_get (P := P) (.pair a b) 0 (f :: r) n u this hf
        refine ⟨fs, f', hus, ?_, by simpa using h5, h6⟩
        rw [← Array.getElem?_toList, hfs]; exact h4
      · simp at h
    · simp at h

theorem sound_convert (hE : EnvTy P E) {s d : TypeId} {x : Operand} (h : o.op = .convert s d x) : Sound P E o := by
  intro G w st a base r hr hf he next Q hn
  simp only [opM, h] at he
  obtain ⟨v, h1, rfl⟩ := andRetV he
  have hx := evalA_rep hr x
  unfold convM at h1
  split at h1
  · rename_i sg hsg
    obtain ⟨sd, hsd⟩ := ty_und (hE.ty s _ hsg)
    split at h1
    · rename_i k hd
      split at h1
      · rename_i k' n hxa
        rw [hxa] at hx
        obtain ⟨hv, hh⟩ := repT_int hx
        simp [M.ev] at h1; subst h1
        refine wp_val (v := .int k (k.wrap n)) (w' := w) ?_ (hn _ _ G (Post.same hr (mkT_int (wrap_has _ _))))
        have hu := ty_int (hE.ty d _ hd)
        simp only [execOp, h, hv]
        simp only [convert, Sem.run_bind, run_underlying hsd, run_underlying hu, Result.andThen_ok]
        cases sd <;> simp [Conv.intToInt]
      · simp [M.ev] at h1
    · rename_i hd
      split at h1
      · rename_i str hxa
        rw [hxa] at hx
        have hv := repT_str hx
        simp [M.ev] at h1; subst h1
        refine wp_val (v := .string str) (w' := w) ?_ (hn _ _ G (Post.same hr mkT_str))
        have hu := ty_str (hE.ty d _ hd)
        have hus := ty_str (hE.ty s _ hsg)
        simp [execOp, h, hv, convert, run_underlying hu, run_underlying hus]
      · simp [M.ev] at h1
    · simp [M.ev] at h1
  · simp [M.ev] at h1

theorem sound_nilCheck {x : Operand} (h : o.op = .nilCheck x) : Sound P E o := by
  intro G w s a base r hr hf he next Q hn
  simp only [opM, h] at he
  have hx := evalA_rep hr x
  split at he
  · rename_i id fs t hxa
    rw [hxa] at hx
    obtain rfl := retV_some he
    obtain ⟨_, t0, b, hk, ht, hv⟩ := hx
    simp at hv
    exact wp_val (by simp [execOp, h, hv]) (hn _ _ G (Post.same hr ⟨rfl, t0, b, hk, ht, rfl⟩))
  · rename_i id i fs t hxa
    rw [hxa] at hx
    obtain rfl := retV_some he
    have hx2 : RepT G w (.eptr id i fs t) (a.eval x) := hx
    obtain ⟨_, hx⟩ := hx
    rcases hx with ⟨e, len, b, off, c, hk, hi, ht, hv⟩ | ⟨e, len, b, off, c, hk, hi, h1, h2, hv⟩
    · simp at hv
      rw [hv] at hx2
      exact wp_val (by simp [execOp, h, hv]) (hn _ _ G (Post.same hr hx2))
    · simp at hv
      rw [hv] at hx2
      exact wp_val (by simp [execOp, h, hv]) (hn _ _ G (Post.same hr hx2))
  · rename_i t y hxa
    rw [hxa] at hx
    obtain rfl := retV_some he
    have hx2 : RepT G w (.fptr t y) (a.eval x) := hx
    obtain ⟨_, b, o', cs', hv, _⟩ := hx
    simp at hv
    rw [hv] at hx2
    exact wp_val (by simp [execOp, h, hv]) (hn _ _ G (Post.same hr hx2))
  · rename_i f c hxa
    rw [hxa] at hx
    obtain rfl := retV_some he
    have hx2 : RepT G w (.clo f c) (a.eval x) := hx
    obtain ⟨_, vals, hv, _⟩ := hx
    simp at hv
    rw [hv] at hx2
    exact wp_val (by simp [execOp, h, hv]) (hn _ _ G (Post.same hr hx2))
  · simp [M.ev] at he

theorem repCaps {G : Gh} {w : World} {s : St} {a : Act} (hr : Rel G w s a) : ∀ (l : List Operand), (∀ x ∈ l, ∀ v, evalA s.tmps x = .tup v → False) → (∀ x ∈ l, evalA s.tmps x ≠ .none) →
    RepG G w (l.foldr (fun c r => .cons (evalA s.tmps c) r) .nil) true (l.map a.eval)
  | [], _, _ => rfl
  | x :: l, h1, h2 => by
    refine ⟨_, _, rfl, ?_, repCaps hr l (fun y hy => h1 y (List.mem_cons_of_mem _ hy)) (fun y hy => h2 y (List.mem_cons_of_mem _ hy))⟩
    have hx := evalA_rep hr x
    have a1 := h1 x (by simp)
    have a2 := h2 x (by simp)
    generalize evalA s.tmps x = ax at hx a1 a2
    cases ax <;> first | exact hx | exact absurd rfl a2 | exact (a1 _ rfl).elim

theorem fld_tup {G : Gh} {w : World} : ∀ (l : AVal) (n : Nat) (vs : List Value), RepG G w l true vs → l.fld n ≠ .none → ∃ v, vs[n]? = some v ∧ RepT G w (l.fld n) v
  | .cons a b, n, vs, h, hn => by
    obtain ⟨v, vs, rfl, h1, h2⟩ := h
    cases n with
    | zero =>
      refine ⟨v, rfl, ?_⟩
      simp only [AVal.fld]
      cases a <;> first | exact h1 | exact trivial | (simp [ValOf, AVal.isAgg, RepG] at h1)
    | succ n =>
      simp only [AVal.fld] at hn ⊢
      obtain ⟨u, h3, h4⟩ := fld_tup b n vs h2 hn
      exact ⟨u, by simpa using h3, h4⟩
  | .val t x, _, _, h, _ => by simp [RepG] at h
  | .none, _, _, h, _ => h.elim
  | .nilS, _, _, h, _ => by simp [RepG] at h
  | .hdr .., _, _, h, _ => by simp [RepG] at h
  | .hdr2 .., _, _, h, _ => by simp [RepG] at h
  | .ptr .., _, _, h, _ => by simp [RepG] at h
  | .eptr .., _, _, h, _ => by simp [RepG] at h
  | .eptr2 .., _, _, h, _ => by simp [RepG] at h
  | .fptr .., _, _, h, _ => by simp [RepG] at h
  | .nil, n, vs, h, hn => by simp [AVal.fld] at hn
  | .tup _, _, _, h, _ => h.elim
  | .clo .., _, _, h, _ => by simp [RepG] at h
  | .mref _, _, _, h, _ => by simp [RepG] at h
  | .opq, _, _, h, _ => by simp [RepG] at h

theorem sound_extract {t : Operand} {i : Nat} (h : o.op = .extract t i) : Sound P E o := by
  intro G w s a base r hr hf he next Q hn
  simp only [opM, h] at he
  have hx := evalA_rep hr t
  split at he
  · rename_i l hxa
    rw [hxa] at hx
    obtain ⟨v, h1, rfl⟩ := andRetV he
    obtain ⟨rfl, hv⟩ := nz_some h1
    obtain ⟨vs, hvs, hl⟩ := hx
    obtain ⟨u, hu, hu'⟩ := fld_tup l i _ hl hv
    have hu2 : vs[i]? = some u := by simpa using hu
    exact wp_val (by simp [execOp, h, hvs, Instr.extract, hu2]) (hn _ _ G (Post.same hr hu'))
  · simp [M.ev] at he

theorem sound_load (hE : EnvTy P E) {t : TypeId} {x : Operand} (h : o.op = .load t x) : Sound P E o := by
  intro G w s a base r hr hf he next Q hn
  simp only [opM, h] at he
  cases hty : E.ty t with
  | none => simp [hty, M.ev] at he
  | some g =>
    simp only [hty] at he
    obtain ⟨v, h1, he⟩ := ev_some he
    split at he
    · rename_i hshape
      obtain rfl := retV_some he
      have hta := hE.ty t g hty
      have hx := evalA_rep hr x
      -- enough: an address, and the cells there
      suffices hs : ∃ b o' cs, a.eval x = .pointer (some ⟨b, o', none⟩) ∧ CellsAt w b o' cs ∧ RepG G w v false cs by
        obtain ⟨b, o', cs, hv, hc, hrep⟩ := hs
        obtain ⟨u, hu, hu'⟩ := run_loadVar hta hc (shape_len g v cs hshape hrep).1
        refine wp_val (v := u) (w' := w) ?_ (hn _ _ G (Post.same hr (repT_mk hshape hrep hu')))
        simp [execOp, h, hv, Instr.loadAt, Instr.sureAddr, hu]
      unfold loadM at h1
      split at h1
      · -- a box
        rename_i id fs t' hxa
        rw [hxa] at hx
        obtain ⟨_, t0, b, hk, htt, hv⟩ := hx
        simp only [M.ev] at h1
        split at h1
        · rename_i t1 v1 hobj
          have ho := hr.obj id
          rw [hobj] at ho
          obtain ⟨b', cs, hk', hown, hc, hrep, hsh⟩ := ho
          rw [hk] at hk'; simp at hk'; obtain ⟨rfl, rfl⟩ := hk'
          simp [M.ev] at h1; subst h1
          obtain ⟨c2, hseg, hr2, _⟩ := path_spec fs t0 t' v1 cs hsh hrep htt
          simp at hv
          refine ⟨b, offT t0 fs, c2, hv, ?_, hr2⟩
          have := hseg.cells hc
          simpa using this
        · simp [M.ev] at h1
      · -- an element
        rename_i id i fs t' hxa
        rw [hxa] at hx
        simp only [M.ev] at h1
        split at h1
        · rename_i e l hobj
          have ho := hr.obj id
          rw [hobj] at ho
          obtain ⟨b', off', c', hk', h2, h3, h4⟩ := ho
          obtain ⟨_, hx⟩ := hx
          rcases hx with ⟨e2, len, b, off, c, hk, hi, htt, hv⟩ | ⟨e2, len, b, off, c, hk, _⟩
          · rw [hk] at hk'; simp at hk'; obtain ⟨rfl, rfl, rfl, rfl, rfl⟩ := hk'
            obtain ⟨_, hrow⟩ := h4 (by omega)
            have hget : l[i]? = some l[i] := List.getElem?_eq_getElem hi
            obtain ⟨cs, hc, hrep⟩ := hrow i _ hget
            have hrd : rdl e2 l i = l[i] := by simp [rdl, List.getD, hget]
            simp [M.ev] at h1; subst h1
            rw [hrd]
            obtain ⟨c2, hseg, hr2, _⟩ := path_spec (G := G) fs e2 t' (.val e2 l[i]) cs (shape_of_val _ _) ⟨rfl, hrep⟩ htt
            simp at hv
            exact ⟨b, off + i * e2.size + offT e2 fs, c2, hv, hseg.cells hc, hr2⟩
          · rw [hk] at hk'; simp at hk'
        · rename_i e l g' hole hobj
          have ho := hr.obj id
          rw [hobj] at ho
          obtain ⟨b', off', c', hk', h2, h3, hgg, h4⟩ := ho
          obtain ⟨_, hx⟩ := hx
          split at h1
          · simp [M.ev] at h1; subst h1
            rcases hx with ⟨e2, len, b, off, c, hk, _⟩ | ⟨e2, len, b, off, c, hk, hi, _, htt, hv⟩
            · rw [hk] at hk'; simp at hk'
            · rw [hk] at hk'; simp at hk'; obtain ⟨rfl, rfl, rfl, rfl, rfl⟩ := hk'
              obtain ⟨hown, hrow⟩ := h4 (by omega)
              have hget : l[i]? = some l[i] := List.getElem?_eq_getElem hi
              obtain ⟨len', b2, off2, c2, hnd, hlen, hcell⟩ := hrow i _ hget
              obtain ⟨v', hc', hh, _⟩ := hcell (by simp)
              simp at hv
              refine ⟨b, off + i, [v'], hv, fun j u hj => ?_, rfl, v', rfl, e2, l.length, b, off, c, hk, hi, len', b2, off2, c2, hnd, hh⟩
              cases j with
              | zero => simp at hj; subst hj; simpa using hc'
              | succ j => simp at hj
          · simp [M.ev] at h1
        · simp [M.ev] at h1
      · -- an element of an element
        rename_i id g' i j fs t' hxa
        rw [hxa] at hx
        simp only [M.ev] at h1
        split at h1
        · rename_i e l g2 hobj
          have ho := hr.obj id
          rw [hobj] at ho
          obtain ⟨b', off', c', hk', h2, h3, hgg, h4⟩ := ho
          obtain ⟨_, e2, len, b, off, c, hk, hi, len', b2, off2, c2, hnd, hj, htt, hv⟩ := hx
          rw [hk] at hk'; simp at hk'; obtain ⟨rfl, rfl, rfl, rfl, rfl⟩ := hk'
          split at h1
          · rename_i hg; subst hg
            obtain ⟨hown, hrow⟩ := h4 (by omega)
            have hget : l[i]? = some l[i] := List.getElem?_eq_getElem hi
            obtain ⟨len3, b3, off3, c3, hnd3, hlen, hcell⟩ := hrow i _ hget
            rw [hnd] at hnd3; simp at hnd3; obtain ⟨rfl, rfl, rfl, rfl⟩ := hnd3
            obtain ⟨v', hc', ⟨_, _, _, hcap, _, _⟩, hin⟩ := hcell (by simp)
            obtain ⟨_, hrow2⟩ := hin (by omega)
            have hget2 : (l[i] : List e2.denote)[j]? = some (l[i] : List e2.denote)[j] := List.getElem?_eq_getElem (by omega)
            obtain ⟨cs, hc, hrep⟩ := hrow2 j _ hget2
            have hrd : rdl (.slice e2) l i = l[i] := by simp [rdl, List.getD, hget]
            have hrd2 : rdl e2 l[i] j = (l[i] : List e2.denote)[j] := by simp [rdl, List.getD, hget2]
            simp [M.ev] at h1; subst h1
            rw [hrd, hrd2]
            obtain ⟨c4, hseg, hr2, _⟩ := path_spec (G := G) fs e2 t' (.val e2 (l[i] : List e2.denote)[j]) cs (shape_of_val _ _) ⟨rfl, hrep⟩ htt
            simp at hv
            exact ⟨b2, off2 + j * e2.size + offT e2 fs, c4, hv, hseg.cells hc, hr2⟩
          · simp [M.ev] at h1
        · simp [M.ev] at h1
      · -- frozen
        rename_i t' y hxa
        rw [hxa] at hx
        obtain ⟨_, b, o', cs', hv, _, _, hc, hrep⟩ := hx
        simp [M.ev] at h1; subst h1
        simp at hv
        exact ⟨b, o', cs', hv, hc, rfl, hrep⟩
      · simp [M.ev] at h1
    · simp [M.ev] at he

end
end Go.Fw
namespace Go.Fw
open Go

section
variable {P : Program} {E : Env} {o : Oper}

theorem run_fieldPlace {u : GTy} {f : Field} (h : tyOk P u f.type = true) (hs : u.size ≠ 0) (w : World) (b off : Nat) : (fieldPlace ⟨b, off, none⟩ f).run P w = .ok ⟨b, off + f.offset, none⟩ w := by
  unfold fieldPlace
  simp [run_sizeOf h, hs, Addr.add_mid]

theorem typeAt_snoc : ∀ (fs : List Nat) (t0 t u : GTy) (f : Nat), typeAt t0 fs = some t → fldTy t f = some u → typeAt t0 (fs ++ [f]) = some u ∧ offT t0 (fs ++ [f]) = offT t0 fs + offT t [f]
  | [], t0, t, u, f, h, hf => by
    rw [typeAt_nil] at h; simp at h; subst h
    simp only [List.nil_append, offT_nil, Nat.zero_add, and_true]
    rw [typeAt_cons, hf]; simp [typeAt_nil]
  | n :: fs, t0, t, u, f, h, hf => by
    rw [typeAt_cons] at h
    cases h1 : fldTy t0 n with
    | none => simp [h1] at h
    | some t1 =>
      simp [h1] at h
      obtain ⟨h2, h3⟩ := typeAt_snoc fs t1 t u f h hf
      refine ⟨by rw [List.cons_append, typeAt_cons, h1]; exact h2, ?_⟩
      rw [List.cons_append, offT_cons t0 t1 n _ h1, offT_cons t0 t1 n fs h1, h3]; omega

theorem sound_fieldAddr (hE : EnvTy P E) {t : TypeId} {x : Operand} {f : Nat} (h : o.op = .fieldAddr t x f) : Sound P E o := by
  intro G w s a base r hr hf he next Q hn
  simp only [opM, h] at he
  cases hty : E.ty t with
  | none => simp [hty, M.ev] at he
  | some g =>
    simp only [hty] at he
    obtain ⟨v, h1, rfl⟩ := andRetV he
    have hta := hE.ty t g hty
    have hx := evalA_rep hr x
    -- the field's place
    have place : ∀ (u : GTy) (b off : Nat), fldTy g f = some u → u.size ≠ 0 → a.eval x = .pointer (some ⟨b, off, none⟩) →
        (execOp a.eval o).run P w = .ok (.value (.pointer (some ⟨b, off + offT g [f], none⟩))) w := by
      intro u b off hfu hsz hv
      obtain ⟨fs, fd, hus, hget, hoff, htu⟩ := ty_fld hta hfu
      simp only [execOp, h, hv, Instr.fieldAt, Sem.run_bind, run_underlying hus, Result.andThen_ok, hget, Instr.sureAddr, Sem.run_pure]
      rw [run_fieldPlace htu hsz]
      simp [hoff]
    unfold addrFld at h1
    split at h1
    · rename_i id fs t' hxa
      rw [hxa] at hx
      split at h1
      · rename_i ht; subst ht
        cases hfu : fldTy t' f with
        | none => simp [hfu, M.ev] at h1
        | some u =>
          simp only [hfu] at h1
          split at h1
          · simp [M.ev] at h1
          · rename_i hsz
            simp [M.ev] at h1; subst h1
            obtain ⟨_, t0, b, hk, htt, hv⟩ := hx
            simp at hv
            obtain ⟨h2, h3⟩ := typeAt_snoc fs t0 t' u f htt hfu
            refine wp_val (place u b _ hfu hsz hv) (hn _ _ G (Post.same hr ⟨rfl, t0, b, hk, h2, ?_⟩))
            simp [h3]
      · simp [M.ev] at h1
    · rename_i id i fs t' hxa
      rw [hxa] at hx
      split at h1
      · rename_i ht; subst ht
        cases hfu : fldTy t' f with
        | none => simp [hfu, M.ev] at h1
        | some u =>
          simp only [hfu] at h1
          split at h1
          · simp [M.ev] at h1
          · rename_i hsz
            simp [M.ev] at h1; subst h1
            obtain ⟨_, hx⟩ := hx
            rcases hx with ⟨e, len, b, off, c, hk, hi, htt, hv⟩ | ⟨e, len, b, off, c, hk, hi, _, h2, hv⟩
            · simp at hv
              obtain ⟨h2, h3⟩ := typeAt_snoc fs e t' u f htt hfu
              refine wp_val (place u b _ hfu hsz hv) (hn _ _ G (Post.same hr ⟨rfl, .inl ⟨e, len, b, off, c, hk, hi, h2, ?_⟩⟩))
              simp [h3, Nat.add_assoc]
            · subst h2; simp [fldTy] at hfu
      · simp [M.ev] at h1
    · rename_i id g' i j fs t' hxa
      rw [hxa] at hx
      split at h1
      · rename_i ht; subst ht
        cases hfu : fldTy t' f with
        | none => simp [hfu, M.ev] at h1
        | some u =>
          simp only [hfu] at h1
          split at h1
          · simp [M.ev] at h1
          · rename_i hsz
            simp [M.ev] at h1; subst h1
            obtain ⟨_, e, len, b, off, c, hk, hi, len', b', off', c', hnd, hj, htt, hv⟩ := hx
            simp at hv
            obtain ⟨h2, h3⟩ := typeAt_snoc fs e t' u f htt hfu
            refine wp_val (place u b' _ hfu hsz hv) (hn _ _ G (Post.same hr ⟨rfl, e, len, b, off, c, hk, hi, len', b', off', c', hnd, hj, h2, ?_⟩))
            simp [h3, Nat.add_assoc]
      · simp [M.ev] at h1
    · rename_i t' y hxa
      rw [hxa] at hx
      split at h1
      · rename_i ht; subst ht
        split at h1
        · rename_i u z hfz
          split at h1
          · simp [M.ev] at h1
          · rename_i hsz
            simp [M.ev] at h1; subst h1
            obtain ⟨_, b, o', cs', hv, hfr, hb, hc, hrep⟩ := hx
            simp at hv
            have hfu : fldTy t' f = some u := by
              cases hfu : fldTy t' f with
              | none =>
                exfalso
                have key : ∀ (t' : GTy) (y : t'.denote) (f : Nat), fldTy t' f = none → fldT t' y f = .none := by
                  intro t'
                  induction t' with
                  | pair a b iha ihb =>
                    intro y f hh
                    cases f with
                    | zero => simp [fldTy] at hh
                    | succ f => simp only [fldTy] at hh; simp only [fldT]; exact ihb _ _ hh
                  | _ => intro y f _; rfl
                rw [key t' y f hfu] at hfz; simp at hfz
              | some u' =>
                obtain ⟨y', h2, _⟩ := fldT_spec t' u' y f cs' hrep hfu
                rw [hfz] at h2; simp at h2; rw [h2.1]
            obtain ⟨y', h2, c2, hseg, hrep2⟩ := fldT_spec t' u y f cs' hrep hfu
            rw [hfz] at h2; simp at h2; subst h2
            refine wp_val (place u b _ hfu hsz hv) (hn _ _ G (Post.same hr ⟨rfl, b, _, c2, rfl, hfr, hb, hseg.cells hc, hrep2⟩))
        · simp [M.ev] at h1
      · simp [M.ev] at h1
    · simp [M.ev] at h1

theorem sound_field (hE : EnvTy P E) {t : TypeId} {x : Operand} {f : Nat} (h : o.op = .field t x f) : Sound P E o := by
  intro G w s a base r hr hf he next Q hn
  simp only [opM, h] at he
  cases hty : E.ty t with
  | none => simp [hty, M.ev] at he
  | some g =>
    simp only [hty] at he
    have hta := hE.ty t g hty
    have hx := evalA_rep hr x
    split at he
    · rename_i hsh
      obtain ⟨v, h1, rfl⟩ := andRetV he
      obtain ⟨rfl, hv⟩ := nz_some h1
      obtain ⟨hrep, hlen, _⟩ := repT_cells hsh hx
      cases hfu : fldTy g f with
      | none =>
        exfalso; apply hv
        have key : ∀ (g : GTy) (v : AVal) (f : Nat), v.shape g = true → fldTy g f = none → v.fld f = .none := by
          intro g
          induction g with
          | pair p q ihp ihq =>
            intro v f hs hh
            cases f with
            | zero => simp [fldTy] at hh
            | succ f =>
              simp only [fldTy] at hh
              cases v <;> simp [AVal.shape] at hs
              case val t' y =>
                subst hs
                simp only [AVal.fld, fldT]
                have := ihq (.val q y.2) f (shape_of_val _ _) hh
                simpa [AVal.fld] using this
              case cons y z => simp only [AVal.fld]; exact ihq z f hs.2 hh
          | _ =>
            intro v f hs hh
            cases v <;> simp [AVal.shape] at hs <;> first | rfl | (subst hs; rfl)
        exact key g _ f hsh hfu
      | some u =>
        obtain ⟨c2, hseg, hr2, hs2⟩ := fld_spec g u _ f _ hsh hrep hfu
        obtain ⟨fs, fd, hus, hget, hoff, htu⟩ := ty_fld hta hfu
        obtain ⟨c1, c3, hcs, hc1⟩ := hseg
        have hagg : g.isAgg = true := by cases g <;> simp [fldTy] at hfu <;> rfl
        have hvx : ∃ cells : Array Value, a.eval x = .agg cells := by
          have hx' : ValOf (evalA s.tmps x).isAgg (RepG G w (evalA s.tmps x) false) (a.eval x) := by
            generalize evalA s.tmps x = ax at hx hsh hv
            cases ax <;> first | exact hx | (exact absurd rfl hv) | (cases g <;> simp [AVal.shape] at hsh)
          have ha : (evalA s.tmps x).isAgg = true := by rw [(shape_len g _ _ hsh hrep).2.2, hagg]
          rw [ha] at hx'
          obtain ⟨cells, hc, _⟩ := hx'
          exact ⟨cells, hc⟩
        obtain ⟨cells, hcells⟩ := hvx
        rw [hcells] at hcs
        obtain ⟨pv, hpv, hpv'⟩ := part_spec htu (w := w) (c1 := c1) (c3 := c3) (shape_len u _ _ hs2 hr2).1
        have hce : cells = (c1 ++ c2 ++ c3).toArray := by apply Array.ext'; simpa [Value.cells] using hcs
        refine wp_val (v := pv) (w' := w) ?_ (hn _ _ G (Post.same hr (repT_mk hs2 hr2 hpv')))
        simp only [execOp, h, hcells, Instr.field, Sem.run_bind, run_underlying hus, Result.andThen_ok, hget, asAgg, Sem.run_pure, hoff, ← hc1]
        rw [hce, hpv]
        rfl
    · simp [M.ev] at he

end
end Go.Fw
namespace Go.Fw
open Go

section
variable {P : Program} {E : Env} {o : Oper}

theorem winAt_eq (win : Option (Nat × Nat)) (i : Nat) : winAt win i = i + winOff win := by
  match win with
  | none => simp [winAt, winOff]
  | some (o, n) => simp [winAt, winOff]
theorem winLen_eq {α : Type} (win : Option (Nat × Nat)) (l : List α) : winLen win l = winNum l.length win := by
  match win with
  | none => rfl
  | some (o, n) => rfl

theorem inB_some {objs : Nat → AObj} {i : Int} {n : Nat} {x : M AVal} {v : AVal} (h : (inB i n x).ev objs = some v) : 0 ≤ i ∧ i < n ∧ x.ev objs = some v := by
  unfold inB at h
  rcases ev_ite h with ⟨h1, h2⟩ | ⟨_, h2⟩
  · have := of_decide_eq_true h1; exact ⟨this.1, this.2, h2⟩
  · simp [M.ev] at h2

/-- indexing a slice's header -/
theorem run_indexAddr {e : GTy} {t : TypeId} (ht : tyOk P (.slice e) t = true) {b off n c : Nat} {k : IntKind} {i : Int} (h0 : 0 ≤ i) (h1 : i < n) (w : World) :
    (Instr.indexAt t (.slice (some ⟨b, off, none⟩) n c) (.int k i)).run P w = .ok (.pointer (some ⟨b, off + i.toNat * e.size, none⟩)) w := by
  obtain ⟨te, hu, hte⟩ := ty_slice ht
  simp [Instr.indexAt, asIntOf, run_underlying hu, h0, h1, run_sizeOf hte, Addr.add_mid]

theorem sound_indexAddr (hE : EnvTy P E) {t : TypeId} {x ix : Operand} (h : o.op = .indexAddr t x ix) : Sound P E o := by
  intro G w s a base r hr hf he next Q hn
  simp only [opM, h] at he
  split at he
  · rename_i e hty
    obtain ⟨v, h1, rfl⟩ := andRetV he
    have hta := hE.ty t _ hty
    have hx := evalA_rep hr x
    have hi := evalA_rep hr ix
    unfold indexAddrM at h1
    split at h1
    · rename_i k i hia
      rw [hia] at hi
      obtain ⟨hiv, _⟩ := repT_int hi
      have step : ∀ (b off n c : Nat), a.eval x = .slice (some ⟨b, off, none⟩) n c → 0 ≤ i → i < n → RepT G w v (.pointer (some ⟨b, off + i.toNat * e.size, none⟩)) → o.wp P a w next Q := by
        intro b off n c hv h2 h3 hrep
        refine wp_val (w' := w) ?_ (hn _ _ G (Post.same hr hrep))
        simp only [execOp, h, hv, hiv]
        rw [Sem.run_bind, run_indexAddr hta h2 h3]
        rfl
      split at h1
      · -- frozen
        rename_i e' l hxa
        rw [hxa] at hx
        split at h1
        · rename_i hee; subst hee
          obtain ⟨h2, h3, h1⟩ := inB_some h1
          simp [M.ev] at h1; subst h1
          have hx' := repT_val hx
          simp only [ValOf, GTy.isAgg] at hx'
          obtain ⟨ad, c, hv, hlc, _, hb⟩ := hx'
          obtain ⟨b, off, rfl, hfr, hb, hrow⟩ := hb (by omega)
          simp at hv
          have hlt : i.toNat < l.length := by omega
          have hget : l[i.toNat]? = some l[i.toNat] := List.getElem?_eq_getElem hlt
          obtain ⟨cs, hc, hrep⟩ := hrow _ _ hget
          have hrd : rdl e' l i.toNat = l[i.toNat] := by simp [rdl, List.getD, hget]
          refine step b off _ c hv h2 (by simpa using h3) ⟨rfl, b, _, cs, rfl, hfr, hb, hc, ?_⟩
          rw [hrd]; exact hrep
        · simp [M.ev] at h1
      · -- a row of the call's own
        rename_i id win hxa
        rw [hxa] at hx
        simp only [M.ev] at h1
        split at h1
        · rename_i e' l hobj
          have ho := hr.obj id
          rw [hobj] at ho
          obtain ⟨b', off', c', hk', _⟩ := ho
          split at h1
          · rename_i hee; subst hee
            obtain ⟨h2, h3, h1⟩ := inB_some h1
            simp [M.ev] at h1; subst h1
            obtain ⟨_, v, hv, hh⟩ := hx
            simp at hv
            rcases hh with ⟨e2, len, b, off, c, hk, hh⟩ | ⟨e2, len, b, off, c, hk, hh⟩
            · rw [hk] at hk'; simp at hk'; obtain ⟨rfl, rfl, rfl, rfl, rfl⟩ := hk'
              obtain ⟨ad, rfl, hw1, hw2, hw3, hw4⟩ := hh
              rw [winLen_eq] at h3
              have hcap : winOff win < c := by omega
              refine step b _ _ _ (by rw [hv, hw4 hcap]) h2 h3 ⟨rfl, .inl ⟨e2, l.length, b, off, c, hk, ?_, typeAt_nil _, ?_⟩⟩
              · rw [winAt_eq]; omega
              · rw [winAt_eq, offT_nil]; simp; rw [Nat.add_mul]; omega
            · rw [hk] at hk'; simp at hk'
          · simp [M.ev] at h1
        · rename_i e' l g hole hobj
          have ho := hr.obj id
          rw [hobj] at ho
          obtain ⟨b', off', c', hk', _⟩ := ho
          split at h1
          · rename_i hee; subst hee
            obtain ⟨h2, h3, h1⟩ := inB_some h1
            simp [M.ev] at h1; subst h1
            obtain ⟨_, v, hv, hh⟩ := hx
            simp at hv
            rcases hh with ⟨e2, len, b, off, c, hk, hh⟩ | ⟨e2, len, b, off, c, hk, hh⟩
            · rw [hk] at hk'; simp at hk'
            · rw [hk] at hk'; simp at hk'; obtain ⟨rfl, rfl, rfl, rfl, rfl⟩ := hk'
              obtain ⟨ad, rfl, hw1, hw2, hw3, hw4⟩ := hh
              rw [winLen_eq] at h3
              have hcap : winOff win < c := by omega
              refine step b _ _ _ (by rw [hv, hw4 hcap]) h2 h3 ⟨rfl, .inr ⟨e2, l.length, b, off, c, hk, ?_, rfl, rfl, ?_⟩⟩
              · rw [winAt_eq]; omega
              · rw [winAt_eq]; simp [GTy.size]; omega
          · simp [M.ev] at h1
        · simp [M.ev] at h1
      · -- a row within a row
        rename_i id g i' win hxa
        rw [hxa] at hx
        simp only [M.ev] at h1
        split at h1
        · rename_i e' l g' hobj
          have ho := hr.obj id
          rw [hobj] at ho
          obtain ⟨b', off', c', hk', hl1, hl2, _, hrow⟩ := ho
          split at h1
          · rename_i hee; obtain ⟨rfl, rfl⟩ := hee
            obtain ⟨h2, h3, h1⟩ := inB_some h1
            simp [M.ev] at h1; subst h1
            obtain ⟨_, v, hv, e2, len, b, off, c, hk, hlt, len2, b2, off2, c2, hnd, hh⟩ := hx
            simp at hv
            rw [hk] at hk'; simp at hk'; obtain ⟨rfl, rfl, rfl, rfl, rfl⟩ := hk'
            obtain ⟨_, hrow⟩ := hrow (by omega)
            have hget : l[i']? = some l[i'] := List.getElem?_eq_getElem hlt
            obtain ⟨len3, b3, off3, c3, hnd3, hlen, _⟩ := hrow i' _ hget
            rw [hnd] at hnd3; simp at hnd3; obtain ⟨rfl, rfl, rfl, rfl⟩ := hnd3
            have hrd : rdl (.slice e2) l i' = l[i'] := by simp [rdl, List.getD, hget]
            rw [hrd, winLen_eq, ← hlen] at h3
            obtain ⟨ad, rfl, hw1, hw2, hw3, hw4⟩ := hh
            have hcap : winOff win < c2 := by omega
            refine step b2 _ _ _ (by rw [hv, hw4 hcap]) h2 h3 ⟨rfl, e2, l.length, b, off, c, hk, hlt, len2, b2, off2, c2, hnd, ?_, typeAt_nil _, ?_⟩
            · rw [winAt_eq]; omega
            · rw [winAt_eq, offT_nil]; simp; rw [Nat.add_mul]; omega
          · simp [M.ev] at h1
        · simp [M.ev] at h1
      · simp [M.ev] at h1
    · simp [M.ev] at h1
  · simp [M.ev] at he

theorem u8_has (n : UInt8) : IntKind.u8.has (n.toNat : Int) := by
  have := n.toNat_lt
  unfold IntKind.has
  have h0 : IntKind.u8.min = 0 := by decide
  have h1 : IntKind.u8.max = 255 := by decide
  rw [h0, h1]; omega

theorem sound_index (hE : EnvTy P E) {t : TypeId} {x ix : Operand} (h : o.op = .index t x ix) : Sound P E o := by
  intro G w s a base r hr hf he next Q hn
  simp only [opM, h] at he
  split at he
  · rename_i hty
    obtain ⟨v, h1, rfl⟩ := andRetV he
    have hta := hE.ty t _ hty
    have hx := evalA_rep hr x
    have hi := evalA_rep hr ix
    unfold indexM at h1
    split at h1
    · rename_i k i hia
      rw [hia] at hi
      obtain ⟨hiv, _⟩ := repT_int hi
      split at h1
      · rename_i str hxa
        rw [hxa] at hx
        have hxv := repT_str hx
        obtain ⟨h2, h3, h1⟩ := inB_some h1
        injection (show some _ = some v from h1) with h1; subst h1
        have hlt : i.toNat < str.size := by omega
        have hget : str[i.toNat]? = some (str.data.toList.getD i.toNat 0) := by
          have : str[i.toNat]? = str.data[i.toNat]? := rfl
          rw [this]
          have hlt' : i.toNat < str.data.size := hlt
          rw [List.getD, Array.getElem?_toList, Array.getElem?_eq_getElem hlt']
          rfl
        refine wp_val (v := .int .u8 ((str.data.toList.getD i.toNat 0).toNat : Int)) (w' := w) ?_ (hn _ _ G (Post.same hr (mkT_int (u8_has _))))
        simp only [execOp, h, hxv, hiv, Instr.index, asIntOf, Sem.run_bind, Sem.run_pure, Result.andThen_ok, run_underlying (ty_str hta), h2, if_true, hget]
      · simp [M.ev] at h1
    · simp [M.ev] at h1
  · simp [M.ev] at he

theorem nat_has {n : Nat} (h : n ≤ 9223372036854775807) : IntKind.i64.has (n : Int) := by
  unfold IntKind.has
  have h0 : IntKind.i64.min = -9223372036854775808 := by decide
  have h1 : IntKind.i64.max = 9223372036854775807 := by decide
  rw [h0, h1]; omega

theorem sound_len (hE : EnvTy P E) {x : Operand} {ts : Array TypeId} {t : TypeId} (hts : ts.toList = [t]) (h : o.op = .call { callee := .builtin .len, args := #[x], argTypes := ts }) : Sound P E o := by
  intro G w s a base r hr hf he next Q hn
  simp only [opM, h, builtinM, List.map_cons, List.map_nil, hts] at he
  obtain ⟨v, h1, rfl⟩ := andRetV he
  have hx := evalA_rep hr x
  have hts0 : ts[0]? = some t := by rw [← Array.getElem?_toList, hts]; rfl
  -- what must be shown
  suffices hs : ∃ n : Nat, v = .val (.int .i64) (n : Int) ∧ n ≤ 9223372036854775807 ∧ (Builtin.len_ ts o.type #[a.eval x]).run P w = .ok (.int .i64 n) w by
    obtain ⟨n, rfl, hn', hrun⟩ := hs
    refine wp_val (v := .int .i64 n) (w' := w) ?_ (hn _ _ G (Post.same hr (mkT_int (nat_has hn'))))
    simp [execOp, h, resolve, invoke, builtin, hrun]
  have slc : ∀ (te : TypeId) (ad : Option Addr) (n c : Nat), P.underlying t = some (.slice te) → a.eval x = .slice ad n c → (Builtin.len_ ts o.type #[a.eval x]).run P w = .ok (.int .i64 n) w := by
    intro te ad n c hu hv
    simp [Builtin.len_, hts0, hv, run_underlying hu, goInt]
  unfold lenM at h1
  split at h1
  · rename_i e hty
    obtain ⟨te, hu, _⟩ := ty_slice (hE.ty t _ hty)
    split at h1
    · rename_i e' l hxa
      rw [hxa] at hx
      have hx' := repT_val hx
      simp only [ValOf, GTy.isAgg] at hx'
      obtain ⟨ad, c, hv, hlc, hcm, _⟩ := hx'
      simp at hv
      simp [M.ev] at h1; subst h1
      exact ⟨l.length, rfl, by simp only [maxL] at hcm; have : l.length ≤ c := hlc; omega, slc te _ _ _ hu hv⟩
    · rename_i hxa
      rw [hxa] at hx
      obtain ⟨_, hv⟩ := hx
      simp at hv
      simp [M.ev] at h1; subst h1
      exact ⟨0, rfl, by omega, slc te _ _ _ hu hv⟩
    · rename_i id win hxa
      rw [hxa] at hx
      obtain ⟨_, v', hv, hh⟩ := hx
      simp at hv
      split at h1
      · rename_i o' n' 
        simp [M.ev] at h1; subst h1
        rcases hh with ⟨e2, len, b, off, c, hk, ad, rfl, hw1, hw2, hw3, _⟩ | ⟨e2, len, b, off, c, hk, ad, rfl, hw1, hw2, hw3, _⟩
        · exact ⟨n', rfl, by simp only [winNum, winOff, maxL] at *; omega, slc te _ _ _ hu hv⟩
        · exact ⟨n', rfl, by simp only [winNum, winOff, maxL] at *; omega, slc te _ _ _ hu hv⟩
      · simp only [M.ev] at h1
        have ho := hr.obj id
        split at h1
        · rename_i e' l hobj
          rw [hobj] at ho
          obtain ⟨b', off', c', hk', _⟩ := ho
          simp [M.ev] at h1; subst h1
          rcases hh with ⟨e2, len, b, off, c, hk, ad, rfl, hw1, hw2, hw3, _⟩ | ⟨e2, len, b, off, c, hk, ad, rfl, hw1, hw2, hw3, _⟩
          · rw [hk] at hk'; simp at hk'; obtain ⟨rfl, rfl, rfl, rfl, rfl⟩ := hk'
            exact ⟨_, rfl, by simp only [winNum, winOff, maxL] at *; omega, slc te _ _ _ hu hv⟩
          · rw [hk] at hk'; simp at hk'
        · rename_i e' l g hole hobj
          rw [hobj] at ho
          obtain ⟨b', off', c', hk', _⟩ := ho
          simp [M.ev] at h1; subst h1
          rcases hh with ⟨e2, len, b, off, c, hk, ad, rfl, hw1, hw2, hw3, _⟩ | ⟨e2, len, b, off, c, hk, ad, rfl, hw1, hw2, hw3, _⟩
          · rw [hk] at hk'; simp at hk'
          · rw [hk] at hk'; simp at hk'; obtain ⟨rfl, rfl, rfl, rfl, rfl⟩ := hk'
            exact ⟨_, rfl, by simp only [winNum, winOff, maxL] at *; omega, slc te _ _ _ hu hv⟩
        · simp [M.ev] at h1
    · rename_i id g i' win hxa
      rw [hxa] at hx
      simp only [M.ev] at h1
      have ho := hr.obj id
      split at h1
      · rename_i e' l g' hobj
        rw [hobj] at ho
        obtain ⟨b', off', c', hk', hl1, hl2, _, hrow⟩ := ho
        obtain ⟨_, v', hv, e2, len, b, off, c, hk, hlt, len2, b2, off2, c2, hnd, hh⟩ := hx
        rw [hk] at hk'; simp at hk'; obtain ⟨rfl, rfl, rfl, rfl, rfl⟩ := hk'
        split at h1
        · rename_i hg; subst hg
          simp [M.ev] at h1; subst h1
          simp at hv
          obtain ⟨_, hrow⟩ := hrow (by omega)
          have hget : l[i']? = some l[i'] := List.getElem?_eq_getElem hlt
          obtain ⟨len3, b3, off3, c3, hnd3, hlen, _⟩ := hrow i' _ hget
          rw [hnd] at hnd3; simp at hnd3; obtain ⟨rfl, rfl, rfl, rfl⟩ := hnd3
          have hrd : rdl (.slice e2) l i' = l[i'] := by simp [rdl, List.getD, hget]
          obtain ⟨ad, rfl, hw1, hw2, hw3, hw4⟩ := hh
          rw [hrd, winLen_eq, ← hlen]
          exact ⟨_, rfl, by simp only [maxL] at *; omega, slc te _ _ _ hu hv⟩
        · simp [M.ev] at h1
      · simp [M.ev] at h1
    · simp [M.ev] at h1
  · rename_i hty
    have hu := ty_str (hE.ty t _ hty)
    split at h1
    · rename_i str hxa
      rw [hxa] at hx
      have hv := repT_str hx
      rcases ev_ite h1 with ⟨hsz, h1⟩ | ⟨_, h1⟩
      · simp [M.ev] at h1; subst h1
        refine ⟨str.size, rfl, by simpa using hsz, ?_⟩
        simp [Builtin.len_, hts0, hv, run_underlying hu, goInt]
      · simp [M.ev] at h1
    · simp [M.ev] at h1
  · split at h1
    · rename_i hmp
      split at h1
      · rename_i id hxa
        rw [hxa] at hx
        obtain ⟨_, b, hk, hv⟩ := hx
        simp at hv
        simp only [M.ev] at h1
        have ho := hr.obj id
        split at h1
        · rename_i k' v' m hobj
          rw [hobj] at ho
          obtain ⟨b', hk', how, es, cl, hb, hall⟩ := ho
          rw [hk] at hk'; simp at hk'; subst hk'
          rcases ev_ite h1 with ⟨hsz, h1⟩ | ⟨_, h1⟩
          · simp [M.ev] at h1; subst h1
            have hmt : ∃ k v, E.mty t = some (k, v) := by
              cases hm : E.mty t with
              | none => simp [hm] at hmp
              | some p => exact ⟨p.1, p.2, rfl⟩
            obtain ⟨k, v, hm⟩ := hmt
            obtain ⟨tk, tv, hu, _, _⟩ := hE.mty t k v hm
            have hlen : m.length = es.size := by
              have : ∀ {α β : Type} {R : α → β → Prop} (l : List α) (l' : List β), AllR R l l' → l.length = l'.length := by
                intro α β R l
                induction l with
                | nil => intro l' h; cases l' with
                  | nil => rfl
                  | cons => exact h.elim
                | cons a l ih => intro l' h; cases l' with
                  | nil => exact h.elim
                  | cons b l' => simp [ih l' h.2]
              simpa using this _ _ hall
            refine ⟨m.length, rfl, by simpa using hsz, ?_⟩
            simp [Builtin.len_, hts0, hv, run_underlying hu, goInt, getObj, Sem.run, hb, hlen]
          · simp [M.ev] at h1
        · simp [M.ev] at h1
      · simp [M.ev] at h1
    · simp [M.ev] at h1

end
end Go.Fw
namespace Go.Fw
open Go

section
variable {P : Program} {E : Env} {o : Oper}

theorem winOff_some (o n : Nat) : winOff (some (o, n)) = o := rfl
theorem winNum_some (len o n : Nat) : winNum len (some (o, n)) = n := rfl

theorem optInt_some {G : Gh} {w : World} {s : St} {a : Act} (hr : Rel G w s a) {x : Option Operand} {i : Option Int} (h : optInt (evalA s.tmps) x = some i) :
    match i with | none => x.map a.eval = none | some n => ∃ k, x.map a.eval = some (.int k n) := by
  cases x with
  | none => simp [optInt] at h; subst h; rfl
  | some y =>
    simp only [optInt] at h
    have hy := evalA_rep hr y
    split at h
    · rename_i k n hya
      rw [hya] at hy
      simp at h; subst h
      exact ⟨k, by simp [(repT_int hy).1]⟩
    · simp at h

/-- the bounds of a slice expression, run -/
theorem run_bounds (isS : Bool) (len cap : Nat) (hlc : len ≤ cap) (lo hi : Option Int) (vlo vhi : Option Value) (w : World)
    (hlo : match lo with | none => vlo = none | some n => ∃ k, vlo = some (.int k n)) (hhi : match hi with | none => vhi = none | some n => ∃ k, vhi = some (.int k n))
    (h1 : match hi with | none => True | some b => 0 ≤ b ∧ b ≤ len) (h2 : match lo with | none => True | some a => 0 ≤ a ∧ a ≤ (match hi with | none => (len : Int) | some b => b)) :
    (Instr.sliceBounds isS len cap vlo vhi none).run P w = .ok ((match lo with | none => 0 | some a => a.toNat), (match hi with | none => len | some b => b.toNat), cap) w := by
  unfold Instr.sliceBounds
  cases hi with
  | none =>
    simp at hhi; subst hhi
    cases lo with
    | none => simp at hlo; subst hlo; simp
    | some a =>
      obtain ⟨k, rfl⟩ := hlo
      simp at h2
      simp [run_sliceBound, h2]
  | some b =>
    obtain ⟨kb, rfl⟩ := hhi
    simp at h1
    have hb : b ≤ (cap : Int) := by omega
    cases lo with
    | none => simp at hlo; subst hlo; simp [run_sliceBound, h1, hb]
    | some a =>
      obtain ⟨k, rfl⟩ := hlo
      simp at h2
      have e : (max b 0) = b := by omega
      simp [run_sliceBound, h1, h2, hb, e]

theorem sound_slice (hE : EnvTy P E) {t : TypeId} {x : Operand} {lo hi : Option Operand} (h : o.op = .slice t x lo hi none) : Sound P E o := by
  intro G w s a base r hr hf he next Q hn
  simp only [opM, h] at he
  split at he
  · rename_i il ih hil hih
    obtain ⟨v, h1, rfl⟩ := andRetV he
    have hx := evalA_rep hr x
    have hlo := optInt_some hr hil
    have hhi := optInt_some hr hih
    unfold sliceM at h1
    split at h1
    · -- slices
      rename_i e0 hty
      obtain ⟨te, hu, hte⟩ := ty_slice (hE.ty t _ hty)
      have step : ∀ (ad : Option Addr) (n c lo' hi' : Nat), n ≤ c → (Instr.sliceBounds true n c (lo.map a.eval) (hi.map a.eval) none).run P w = .ok (lo', hi', c) w → a.eval x = .slice ad n c →
          RepT G w v (.slice (if c = lo' then ad else ad.map (·.add (lo' * e0.size))) (hi' - lo') (c - lo')) → o.wp P a w next Q := by
        intro ad n c lo' hi' hnc hb hv hrep
        refine wp_val (w' := w) ?_ (hn _ _ G (Post.same hr hrep))
        simp only [execOp, h, hv]
        rw [Sem.run_bind]
        simp [Instr.sliceAt, Instr.slice, run_underlying hu, hb, run_sizeOf hte]
      split at h1
      · rename_i e l hxa
        rw [hxa] at hx
        split at h1
        · rename_i hes
          have hx' := repT_val hx
          simp only [ValOf, GTy.isAgg] at hx'
          obtain ⟨ad, c, hv, hlc, hcm, hblk⟩ := hx'
          simp at hv
          have hlc' : l.length ≤ c := hlc
          -- the window of a frozen list
          have fin : ∀ (lo' n' : Nat) (l' : List e.denote), lo' + n' ≤ l.length → l'.length = n' → (∀ i y, l'[i]? = some y → l[lo' + i]? = some y) →
              RepT G w (.val (.slice e) l') (.slice (if c = lo' then ad else ad.map (·.add (lo' * e0.size))) n' (c - lo')) := by
            intro lo' n' l' hle hl' hget
            refine ⟨rfl, (if c = lo' then ad else ad.map (·.add (lo' * e0.size))), c - lo', ?_, ?_, ?_, fun hpos => ?_⟩
            · rw [hl']
            · rw [hl']; omega
            · simp only [maxL] at *; omega
            · have hpos' : 0 < l'.length := hpos
              obtain ⟨b, off, rfl, hfr, hbs, hrow⟩ := hblk (show 0 < l.length by omega)
              refine ⟨b, off + lo' * e.size, ?_, hfr, hbs, fun i y hy => ?_⟩
              · rw [if_neg (by omega)]; simp [Addr.add_mid, hes]
              · obtain ⟨cs, hc, hrep⟩ := hrow _ y (hget i y hy)
                refine ⟨cs, ?_, hrep⟩
                rw [Nat.add_mul, ← Nat.add_assoc] at hc; exact hc
          unfold cutL at h1
          split at h1
          · -- none none
            injection (show some _ = some v from h1) with h1; subst h1
            have hb := run_bounds (P := P) true l.length c hlc' none none _ _ w hlo hhi trivial trivial
            exact step ad _ c 0 l.length hlc' hb hv (by simpa using fin 0 l.length l (by omega) rfl (by simp))
          · rename_i b
            rcases ev_ite h1 with ⟨hc1, h1⟩ | ⟨_, h1⟩
            · have hc1 := of_decide_eq_true hc1
              injection (show some _ = some v from h1) with h1; subst h1
              have hb := run_bounds (P := P) true l.length c hlc' none (some b) _ _ w hlo hhi hc1 trivial
              have hget : ∀ i y, (l.take b.toNat)[i]? = some y → l[0 + i]? = some y := by
                intro i y hy
                rw [List.getElem?_take] at hy
                split at hy <;> simp_all
              have hf2 := fin 0 b.toNat (l.take b.toNat) (by omega) (by simp; omega) hget
              exact step ad _ c 0 b.toNat hlc' hb hv (by simpa using hf2)
            · simp [M.ev] at h1
          · rename_i b
            rcases ev_ite h1 with ⟨hc1, h1⟩ | ⟨_, h1⟩
            · have hc1 := of_decide_eq_true hc1
              injection (show some _ = some v from h1) with h1; subst h1
              have hb := run_bounds (P := P) true l.length c hlc' (some b) none _ _ w hlo hhi trivial hc1
              refine step ad _ c b.toNat l.length hlc' hb hv (fin b.toNat (l.length - b.toNat) (l.drop b.toNat) (by omega) (by simp) ?_)
              intro i y hy
              rwa [List.getElem?_drop] at hy
            · simp [M.ev] at h1
          · rename_i p q
            rcases ev_ite h1 with ⟨hc1, h1⟩ | ⟨_, h1⟩
            · have hc1 := of_decide_eq_true hc1
              rcases ev_ite h1 with ⟨hc2, h1⟩ | ⟨_, h1⟩
              · have hc2 := of_decide_eq_true hc2
                injection (show some _ = some v from h1) with h1; subst h1
                have hb := run_bounds (P := P) true l.length c hlc' (some p) (some q) _ _ w hlo hhi hc1 hc2
                refine step ad _ c p.toNat q.toNat hlc' hb hv (fin p.toNat (q.toNat - p.toNat) ((l.take q.toNat).drop p.toNat) (by omega) (by simp; omega) ?_)
                intro i y hy
                rw [List.getElem?_drop, List.getElem?_take] at hy
                split at hy <;> simp_all
              · simp [M.ev] at h1
            · simp [M.ev] at h1
        · simp [M.ev] at h1
      · -- rows of the call's own
        rename_i id win hxa
        rw [hxa] at hx
        obtain ⟨_, v', hv, hh⟩ := hx
        simp at hv
        simp only [M.ev] at h1
        have ho := hr.obj id
        -- a window of a window
        have fin : ∀ (sz len b off c : Nat) (k : Option (Nat × Nat) → M AVal) (hk : ∀ w', (k w').ev s.objs = some (.hdr id w')), HdrIs sz len b off c win v' → sz = e0.size →
            (∀ win' u, HdrIs sz len b off c win' u → RepT G w (.hdr id win') u) → (cut win (winNum len win) il ih k).ev s.objs = some v → o.wp P a w next Q := by
          intro sz len b off c k hk hh hsz hT h1
          obtain ⟨ad, rfl, hw1, hw2, hw3, hw4⟩ := hh
          have hlc' : winNum len win ≤ c - winOff win := by omega
          have fin2 : ∀ (lo' n' : Nat), lo' + n' ≤ winNum len win → RepT G w (.hdr id (some (winAt win lo', n'))) (.slice (if c - winOff win = lo' then ad else ad.map (·.add (lo' * e0.size))) n' (c - winOff win - lo')) := by
            intro lo' n' hle
            refine hT _ _ ⟨(if c - winOff win = lo' then ad else ad.map (·.add (lo' * e0.size))), ?_, ?_, hw2, hw3, fun hlt => ?_⟩
            · simp only [winNum_some, winOff_some, winAt_eq]; congr 1; omega
            · simp only [winNum_some, winOff_some, winAt_eq]; omega
            · simp only [winOff_some, winAt_eq] at hlt ⊢
              rw [if_neg (by omega), hw4 (by omega)]
              simp [Addr.add_mid, hsz, Nat.add_mul]; omega
          unfold cut at h1
          split at h1
          · rw [hk] at h1; simp at h1; subst h1
            have hb := run_bounds (P := P) true (winNum len win) (c - winOff win) hlc' none none _ _ w hlo hhi trivial trivial
            refine step ad _ _ 0 _ hlc' hb hv ?_
            have : (if c - winOff win = 0 then ad else ad.map (·.add (0 * e0.size))) = ad := by
              split
              · rfl
              · cases ad <;> simp [Addr.add]
            simp only [Nat.sub_zero]
            rw [this]
            exact hT win _ ⟨ad, rfl, hw1, hw2, hw3, hw4⟩
          · rename_i q _
            rcases ev_ite h1 with ⟨hc1, h1⟩ | ⟨_, h1⟩
            · have hc1 := of_decide_eq_true hc1
              rw [hk] at h1; simp at h1; subst h1
              have hb := run_bounds (P := P) true (winNum len win) (c - winOff win) hlc' none (some q) _ _ w hlo hhi hc1 trivial
              exact step ad _ _ 0 q.toNat hlc' hb hv (by simpa using fin2 0 q.toNat (by omega))
            · simp [M.ev] at h1
          · rename_i p _
            rcases ev_ite h1 with ⟨hc1, h1⟩ | ⟨_, h1⟩
            · have hc1 := of_decide_eq_true hc1
              rw [hk] at h1; simp at h1; subst h1
              have hb := run_bounds (P := P) true (winNum len win) (c - winOff win) hlc' (some p) none _ _ w hlo hhi trivial hc1
              exact step ad _ _ p.toNat _ hlc' hb hv (fin2 p.toNat _ (by omega))
            · simp [M.ev] at h1
          · rename_i p q _
            rcases ev_ite h1 with ⟨hc1, h1⟩ | ⟨_, h1⟩
            · have hc1 := of_decide_eq_true hc1
              rcases ev_ite h1 with ⟨hc2, h1⟩ | ⟨_, h1⟩
              · have hc2 := of_decide_eq_true hc2
                rw [hk] at h1; simp at h1; subst h1
                have hb := run_bounds (P := P) true (winNum len win) (c - winOff win) hlc' (some p) (some q) _ _ w hlo hhi hc1 hc2
                exact step ad _ _ p.toNat q.toNat hlc' hb hv (fin2 p.toNat _ (by omega))
              · simp [M.ev] at h1
            · simp [M.ev] at h1
        split at h1
        · rename_i e l hobj
          rw [hobj] at ho
          obtain ⟨b', off', c', hk', _⟩ := ho
          split at h1
          · rename_i hsz
            rcases hh with ⟨e2, len, b, off, c, hk, hh⟩ | ⟨e2, len, b, off, c, hk, hh⟩
            · rw [hk] at hk'; simp at hk'; obtain ⟨rfl, rfl, rfl, rfl, rfl⟩ := hk'
              rw [winLen_eq] at h1
              exact fin e2.size l.length b off c _ (fun _ => rfl) hh hsz (fun win' u hu => ⟨rfl, u, rfl, .inl ⟨e2, l.length, b, off, c, hk, hu⟩⟩) h1
            · rw [hk] at hk'; simp at hk'
          · simp [M.ev] at h1
        · rename_i e l g hole hobj
          rw [hobj] at ho
          obtain ⟨b', off', c', hk', _⟩ := ho
          split at h1
          · rename_i hsz
            rcases hh with ⟨e2, len, b, off, c, hk, hh⟩ | ⟨e2, len, b, off, c, hk, hh⟩
            · rw [hk] at hk'; simp at hk'
            · rw [hk] at hk'; simp at hk'; obtain ⟨rfl, rfl, rfl, rfl, rfl⟩ := hk'
              rw [winLen_eq] at h1
              exact fin 1 l.length b off c _ (fun _ => rfl) hh hsz.symm (fun win' u hu => ⟨rfl, u, rfl, .inr ⟨e2, l.length, b, off, c, hk, hu⟩⟩) h1
          · simp [M.ev] at h1
        · simp [M.ev] at h1
      · simp [M.ev] at h1
    · -- strings
      rename_i hty
      have hu := ty_str (hE.ty t _ hty)
      split at h1
      · rename_i str hxa
        rw [hxa] at hx
        have hv := repT_str hx
        have step : ∀ (lo' hi' : Nat), (Instr.sliceBounds false str.size str.size (lo.map a.eval) (hi.map a.eval) none).run P w = .ok (lo', hi', str.size) w → v = .val .str (str.extract lo' hi') → o.wp P a w next Q := by
          intro lo' hi' hb hv'
          subst hv'
          refine wp_val (v := .string (str.extract lo' hi')) (w' := w) ?_ (hn _ _ G (Post.same hr mkT_str))
          simp only [execOp, h, hv]
          rw [Sem.run_bind]
          simp [Instr.sliceAt, Instr.slice, run_underlying hu, hb]
        split at h1
        · injection (show some _ = some v from h1) with h1; subst h1
          have hb := run_bounds (P := P) false str.size str.size (Nat.le_refl _) none none _ _ w hlo hhi trivial trivial
          refine step 0 str.size hb ?_
          congr 1
          simp
        · rename_i b
          rcases ev_ite h1 with ⟨hc1, h1⟩ | ⟨_, h1⟩
          · have hc1 := of_decide_eq_true hc1
            injection (show some _ = some v from h1) with h1; subst h1
            exact step 0 b.toNat (run_bounds (P := P) false str.size str.size (Nat.le_refl _) none (some b) _ _ w hlo hhi hc1 trivial) rfl
          · simp [M.ev] at h1
        · rename_i b
          rcases ev_ite h1 with ⟨hc1, h1⟩ | ⟨_, h1⟩
          · have hc1 := of_decide_eq_true hc1
            injection (show some _ = some v from h1) with h1; subst h1
            exact step b.toNat str.size (run_bounds (P := P) false str.size str.size (Nat.le_refl _) (some b) none _ _ w hlo hhi trivial hc1) rfl
          · simp [M.ev] at h1
        · rename_i p q
          rcases ev_ite h1 with ⟨hc1, h1⟩ | ⟨_, h1⟩
          · have hc1 := of_decide_eq_true hc1
            rcases ev_ite h1 with ⟨hc2, h1⟩ | ⟨_, h1⟩
            · have hc2 := of_decide_eq_true hc2
              injection (show some _ = some v from h1) with h1; subst h1
              exact step p.toNat q.toNat (run_bounds (P := P) false str.size str.size (Nat.le_refl _) (some p) (some q) _ _ w hlo hhi hc1 hc2) rfl
            · simp [M.ev] at h1
          · simp [M.ev] at h1
      · simp [M.ev] at h1
    · simp [M.ev] at h1
  · simp [M.ev] at he

end
end Go.Fw
