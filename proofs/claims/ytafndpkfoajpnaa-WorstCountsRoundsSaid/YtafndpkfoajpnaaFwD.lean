/- The interpreter over typed plain data, and its soundness: part D. Nothing of the program stands here. -/
import Derived.Test.YtafndpkfoajpnaaFwC
import Derived.Laws.CopyOwn
namespace Go.Fw
open Go

section
variable {P : Program} {E : Env} {o : Oper}

/-- the headers of a list of lists -/
structure Heads (G : Gh) (w : World) (e : GTy) (id g : Nat) (l : List (List e.denote)) (v : Value) (c : Nat) (ad : Option Addr) (heads : List Value) : Prop where
  v : v = .slice ad l.length c
  le : l.length ≤ c
  cm : c ≤ maxL
  len : heads.length = l.length
  blk : 0 < c → ∃ b off, ad = some ⟨b, off, none⟩ ∧ OwnB G w b [id] (off + c) ∧ CellsAt w b off heads
  one : ∀ u ∈ heads, u.oneCell' = true
  at_ : ∀ (i : Nat) (x : List e.denote), l[i]? = some x → ∃ hv len' b' off' c', heads[i]? = some hv ∧ G.nd id g i = some (len', b', off', c') ∧ len' = x.length ∧ HdrIs e.size len' b' off' c' none hv ∧
    (0 < c' → OwnB G w b' [id, i] (off' + c' * e.size) ∧ RowAt w e.size b' off' (RepC w G.fz e) x)

theorem heads_of {G : Gh} {w : World} {e : GTy} {id g : Nat} {l : List (List e.denote)} {v : Value} (ho : RepO G w id (.row2 e l g none)) (hv : RepT G w (.hdr id none) v) : ∃ c ad heads, Heads G w e id g l v c ad heads := by
  obtain ⟨b, off, c, hk, h1, h2, h3, h4⟩ := ho
  obtain ⟨_, v', hvv, hh⟩ := hv
  simp at hvv; subst hvv
  rcases hh with ⟨e2, len, b2, off2, c2, hk2, hh⟩ | ⟨e2, len, b2, off2, c2, hk2, hh⟩
  · rw [hk] at hk2; simp at hk2
  · rw [hk] at hk2; simp at hk2; obtain ⟨rfl, rfl, rfl, rfl, rfl⟩ := hk2
    obtain ⟨ad, rfl, _, hw2, hw3, hw4⟩ := hh
    have hcz : ∃ heads : List Value, heads.length = l.length ∧ (0 < c → CellsAt w b off heads) ∧ (∀ u ∈ heads, u.oneCell' = true) ∧ ∀ (i : Nat) (x : List e.denote), l[i]? = some x → ∃ hv len' b' off' c', heads[i]? = some hv ∧ G.nd id g i = some (len', b', off', c') ∧ len' = x.length ∧ HdrIs e.size len' b' off' c' none hv ∧
        (0 < c' → OwnB G w b' [id, i] (off' + c' * e.size) ∧ RowAt w e.size b' off' (RepC w G.fz e) x) := by
      by_cases hc : 0 < c
      · obtain ⟨_, hrow⟩ := h4 hc
        have hget : ∀ i, i < l.length → ∃ hv, w.cell? ⟨b, off + i, none⟩ = some hv ∧ hv.oneCell' = true := by
          intro i hi
          obtain ⟨_, _, _, _, _, _, hin⟩ := hrow i l[i] (List.getElem?_eq_getElem hi)
          obtain ⟨hv, h5, ⟨_, rfl, _⟩, _⟩ := hin (by simp)
          exact ⟨_, h5, rfl⟩
        have hex : ∀ n, n ≤ l.length → ∃ heads : List Value, heads.length = n ∧ (∀ u ∈ heads, u.oneCell' = true) ∧ ∀ (i : Nat) (hv : Value), heads[i]? = some hv → w.cell? ⟨b, off + i, none⟩ = some hv := by
          intro n
          induction n with
          | zero => intro _; exact ⟨[], rfl, by simp, fun i hv h => by simp at h⟩
          | succ n ih =>
            intro hn
            obtain ⟨heads, h5, h6, h7⟩ := ih (by omega)
            obtain ⟨hv, h8, h9⟩ := hget n (by omega)
            refine ⟨heads ++ [hv], by simp [h5], fun u hu => ?_, fun i u hi => ?_⟩
            · rcases List.mem_append.1 hu with hu | hu
              · exact h6 u hu
              · simp at hu; subst hu; exact h9
            · by_cases hin : i < heads.length
              · rw [List.getElem?_append_left hin] at hi; exact h7 i u hi
              · rw [List.getElem?_append_right (by omega)] at hi
                have := getElem?_lt hi
                simp at this
                have e1 : i = n := by omega
                subst e1
                rw [show i - heads.length = 0 by omega] at hi
                simp at hi; subst hi; exact h8
        obtain ⟨heads, h5, h6, h7⟩ := hex l.length (Nat.le_refl _)
        refine ⟨heads, h5, fun _ j v hj => h7 j v hj, h6, fun i x hx => ?_⟩
        obtain ⟨len', b', off', c', h8, h9, hin⟩ := hrow i x hx
        obtain ⟨hv, h10, h11, h12⟩ := hin (by simp)
        have hi : i < heads.length := by rw [h5]; exact getElem?_lt hx
        have := h7 i heads[i] (List.getElem?_eq_getElem hi)
        rw [h10] at this; simp at this
        exact ⟨hv, len', b', off', c', by rw [List.getElem?_eq_getElem hi, this], h8, h9, h11, h12⟩
      · have : l.length = 0 := by omega
        exact ⟨[], by simp [this], fun h => absurd h hc, by simp, fun i x hx => by have := getElem?_lt hx; omega⟩
    obtain ⟨heads, h5, h6, h7, h8⟩ := hcz
    refine ⟨c, ad, heads, ?_, h1, h2, h5, fun hc => ⟨b, off, ?_, (h4 hc).1, h6 hc⟩, h7, h8⟩
    · simp [winNum, winOff]
    · have := hw4 (by simpa [winOff] using hc); simpa [winOff] using this

/-- the blocks' new names, where two lists of lists become one -/
def lab2 (io : Option Nat) (id2 base n : Nat) : Lb → Lb
  | .own (j :: i :: r) => if io = some j then .own (base :: i :: r) else if j = id2 then .own (base :: (n + i) :: r) else .own (j :: i :: r)
  | x => x

theorem append_lists {G : Gh} {w : World} {s : St} {a : Act} {base id2 n c g g2 c2 : Nat} {io : Option Nat} {e e2 : GTy} {old ys : List (List e.denote)} {ad ad2 : Option Addr} {vx : Value} {t t2 ty : TypeId} {olds news : List Value}
    (hr : Rel G w s a) (hfb : G.kd base = none) (ht : tyOk P (.slice (.slice e)) t = true) (ht2 : tyOk P (.slice e2) t2 = true)
    (hold : match io with | some id => id ≠ id2 ∧ id ≠ base ∧ n = old.length ∧ Heads G w e id g old (.slice ad n c) c ad olds | none => old = [] ∧ n = 0 ∧ c = 0 ∧ olds = [])
    (hnew : Heads G w e id2 g2 ys vx c2 ad2 news) (hb2 : id2 ≠ base) (hroom : n + ys.length ≤ 4294967296) :
    ∃ val w', (Builtin.append_ #[t, t2] ty #[.slice ad n c, vx]).run P w = .ok val w' ∧ ∃ G', Post G w s.objs base { v := .hdr base none, w := ((match io with | some id => [(id, .dead)] | none => []) ++ [(id2, .dead)]) ++ [(base, .row2 e (old ++ ys) 0 none)] } val w' G' := by
  have hnl : n = old.length ∧ olds.length = old.length ∧ n ≤ c ∧ c ≤ maxL := by
    cases io with
    | none => obtain ⟨rfl, rfl, rfl, rfl⟩ := hold; exact ⟨rfl, rfl, Nat.le_refl _, Nat.zero_le _⟩
    | some id => obtain ⟨_, _, h1, h2⟩ := hold; exact ⟨h1, h2.len, by rw [h1]; exact h2.le, h2.cm⟩
  obtain ⟨hn, hol, hnc, hcm⟩ := hnl
  have hblk : 0 < c → ∃ id b off, io = some id ∧ ad = some ⟨b, off, none⟩ ∧ OwnB G w b [id] (off + c) ∧ CellsAt w b off olds := by
    intro hc
    cases io with
    | none => obtain ⟨_, _, rfl, _⟩ := hold; omega
    | some id =>
      obtain ⟨_, _, _, h2⟩ := hold
      obtain ⟨b, off, h3, h4, h5⟩ := h2.blk hc
      exact ⟨id, b, off, rfl, h3, h4, h5⟩
  have hro : Reads w (GTy.slice e).size (.slice ad n c) n olds := ⟨ad, c, rfl, hnc, by simp [GTy.size, hol, hn], fun hp => by
    obtain ⟨_, b, off, _, h1, _, h2⟩ := hblk (by omega)
    exact ⟨b, off, h1, h2⟩⟩
  have hrx : Reads w (GTy.slice e).size vx ys.length news := ⟨ad2, c2, hnew.v, hnew.le, by simp [GTy.size, hnew.len], fun hp => by
    obtain ⟨b, off, h1, _, h2⟩ := hnew.blk (by have := hnew.le; omega)
    exact ⟨b, off, h1, h2⟩⟩
  obtain ⟨val, w', hrun, hres⟩ := run_append (P := P) (ty := ty) ht ht2 hro hrx hnew.one hroom (fun hc => by
    obtain ⟨_, b, off, _, h1, ⟨_, ca, T, h2, h3⟩, _⟩ := hblk hc
    exact ⟨b, off, ca, T, h1, h2, by simpa [GTy.size] using h3⟩)
  refine ⟨val, w', hrun, ?_⟩
  have hnlen : news.length = ys.length := hnew.len
  -- the new ghost: by where the headers are now
  have fin : ∀ (ow1 : Nat → Lb) (b off c' : Nat), (∀ k, k < w.heap.size → (∀ l', G.ow k ≠ .own l') → ow1 k = G.ow k) → (∀ k l', G.ow k = .own l' → 2 ≤ l'.length → k < w.heap.size → ow1 k = lab2 io id2 base n (G.ow k)) →
      (∀ k j, G.ow k = .own [j] → io ≠ some j → k < w.heap.size → ow1 k = .own [j]) → (∀ k l', G.ow k = .own l' → (∀ j, io = some j → l' ≠ [j]) → k < w.heap.size → w'.heap[k]? = w.heap[k]?) →
      (w'.os = w.os ∧ w'.tape = w.tape ∧ w'.output = w.output ∧ w.heap.size ≤ w'.heap.size) → (∀ k, k < w.heap.size → (∀ l', G.ow k ≠ .own l') → w'.heap[k]? = w.heap[k]?) → n + ys.length ≤ c' → c' ≤ maxL →
      (0 < c' → val = .slice (some ⟨b, off, none⟩) (n + ys.length) c' ∧ ow1 b = .own [base] ∧ (∃ ca T, w'.heap[b]? = some (.cells ca T (0, 0)) ∧ off + c' ≤ ca.size) ∧ CellsAt w' b off (olds ++ news)) → (c' = 0 → ∃ ad', val = .slice ad' 0 0) →
      ∃ G', Post G w s.objs base { v := .hdr base none, w := ((match io with | some id => [(id, .dead)] | none => []) ++ [(id2, .dead)]) ++ [(base, .row2 e (old ++ ys) 0 none)] } val w' G' := by
    intro ow1 b off c' how0 how2 how1 hheap ⟨hos, htape, hout, hsize⟩ hheap0 hle hcm' hown h0
    let G' : Gh := { ow := ow1, kd := upd G.kd base (some (.row2 e (n + ys.length) b off c')), nd := fun j gg k => if j = base then (if gg = 0 then (if k < n then (match io with | some id => G.nd id g k | none => none) else G.nd id2 g2 (k - n)) else none) else G.nd j gg k }
    have hext : Ext G w G' w' := by
      refine ⟨hos, htape, hout, hsize, fun j k hk => ?_, fun j gg i x hx => ?_, fun k hk ho => ⟨hheap0 k hk ho, how0 k hk ho⟩⟩
      · show upd G.kd base _ j = some k
        rw [upd_other]; exact hk
        rintro rfl; rw [hfb] at hk; simp at hk
      · simp only [G']; rw [if_neg]; exact hx
        rintro rfl; rw [hr.wf _ hfb] at hx; simp at hx
    have hlen : (old ++ ys).length = n + ys.length := by simp [hn]
    refine ⟨G', hext, ⟨rfl, val, rfl, .inr ⟨e, n + ys.length, b, off, c', upd_same _ _ _, ?_⟩⟩, fun j => ?_, fun j hj gg i => ?_, fun j k hj => ?_⟩
    · by_cases hc : 0 < c'
      · obtain ⟨hv, _⟩ := hown hc
        exact ⟨some ⟨b, off, none⟩, by rw [hv]; simp [winNum, winOff], by simp [winNum, winOff], hle, hcm', by simp [winOff]⟩
      · obtain ⟨ad', hv⟩ := h0 (by omega)
        refine ⟨ad', ?_, by simp [winNum, winOff], hle, hcm', fun h => ?_⟩
        · have e1 : n + ys.length = 0 := by omega
          have e2 : c' = 0 := by omega
          rw [hv]; simp only [winNum, winOff]; rw [e1, e2]
        · simp [winOff] at h; omega
    · rw [upds_append]
      simp only [upds]
      by_cases hj : j = base
      · subst hj; rw [upd_same]
        refine ⟨b, off, c', by simp only [G', upd_same, hlen], by omega, hcm', fun g' i hg => by simp only [G', if_true]; rw [if_neg (by omega)], fun hc => ?_⟩
        obtain ⟨_, h2, ⟨ca, T, h3, h3'⟩, h4⟩ := hown hc
        refine ⟨⟨h2, ca, T, h3, h3'⟩, fun i x hx => ?_⟩
        by_cases hi : i < old.length
        · -- an old one
          rw [List.getElem?_append_left hi] at hx
          cases io with
          | none => obtain ⟨rfl, _⟩ := hold; simp at hi
          | some id =>
            obtain ⟨hne, hnb, _, hh⟩ := hold
            obtain ⟨hv, len', b', off', c5, h5, h6, h7, h8, h9⟩ := hh.at_ i x hx
            refine ⟨len', b', off', c5, ?_, h7, fun _ => ⟨hv, ?_, h8, fun hc5 => ?_⟩⟩
            · simp only [G', if_true]; rw [if_pos (by omega)]; exact h6
            · exact h4 i hv (by rw [List.getElem?_append_left (by omega)]; exact h5)
            · obtain ⟨ho5, hr5⟩ := h9 hc5
              have hlt := ho5.lt
              obtain ⟨ho5, ca5, T5, hb5, hs5⟩ := ho5
              have hk5 := hheap b' _ ho5 (by simp) hlt
              refine ⟨⟨?_, ca5, T5, hk5.trans hb5, hs5⟩, hr5.mono hk5 fun x cs hxx => hext.repC hxx⟩
              show ow1 b' = _
              rw [how2 b' _ ho5 (by simp) hlt, ho5]; simp [lab2]
        · -- a new one
          rw [List.getElem?_append_right (by omega)] at hx
          obtain ⟨hv, len', b', off', c5, h5, h6, h7, h8, h9⟩ := hnew.at_ _ x hx
          refine ⟨len', b', off', c5, ?_, h7, fun _ => ⟨hv, ?_, h8, fun hc5 => ?_⟩⟩
          · simp only [G', if_true]; rw [if_neg (by omega), hn]; exact h6
          · exact h4 i hv (by rw [List.getElem?_append_right (by omega), hol]; exact h5)
          · obtain ⟨ho5, hr5⟩ := h9 hc5
            have hlt := ho5.lt
            obtain ⟨ho5, ca5, T5, hb5, hs5⟩ := ho5
            have hk5 := hheap b' _ ho5 (by simp) hlt
            refine ⟨⟨?_, ca5, T5, hk5.trans hb5, hs5⟩, hr5.mono hk5 fun x cs hxx => hext.repC hxx⟩
            show ow1 b' = _
            have hio : io ≠ some id2 := by
              cases io with
              | none => simp
              | some id => obtain ⟨hne, _⟩ := hold; simpa using hne
            rw [how2 b' _ ho5 (by simp) hlt, ho5]; simp [lab2, hio]; omega
      · rw [upd_other _ _ hj]
        by_cases hdead : io = some j ∨ j = id2
        · have : upds s.objs ((match io with | some id => [(id, AObj.dead)] | none => []) ++ [(id2, .dead)]) j = .dead := by
            rw [upds_append]
            simp only [upds]
            by_cases h2 : j = id2
            · subst h2; rw [upd_same]
            · rw [upd_other _ _ h2]
              rcases hdead with rfl | h3
              · simp only [upds]; rw [upd_same]
              · exact absurd h3 h2
          rw [this]; exact trivial
        · have hd1 : io ≠ some j := fun h => hdead (.inl h)
          have hd2 : j ≠ id2 := fun h => hdead (.inr h)
          have : upds s.objs ((match io with | some id => [(id, AObj.dead)] | none => []) ++ [(id2, .dead)]) j = s.objs j := by
            rw [upds_append]
            simp only [upds]
            rw [upd_other _ _ hd2]
            cases io with
            | none => rfl
            | some id => simp only [upds]; rw [upd_other]; rintro rfl; exact hd1 rfl
          rw [this]
          refine RepO.frame hext (fun gg i => by simp [G', hj]) (fun b' r' hb' ho => ⟨?_, ?_⟩) (hr.obj j)
          · refine hheap b' _ ho ?_ hb'
            intro j' hj' hh; simp at hh; rw [← hh.1] at hj'; exact hd1 hj'
          · show ow1 b' = G.ow b'
            cases r' with
            | nil => rw [how1 b' j ho hd1 hb', ho]
            | cons i r' => rw [how2 b' _ ho (by simp) hb', ho]; simp [lab2, hd1, hd2]
    · have hj' : upd G.kd base (some (.row2 e (n + ys.length) b off c')) j = none := hj
      by_cases hjb : j = base
      · subst hjb; rw [upd_same] at hj'; simp at hj'
      · rw [upd_other _ _ hjb] at hj'; simp only [G']; rw [if_neg hjb]; exact hr.wf j hj' gg i
    · have hj' : upd G.kd base (some (.row2 e (n + ys.length) b off c')) j = some k := hj
      by_cases hjb : j = base
      · subst hjb; exact .inr ⟨Nat.le_refl _, by omega⟩
      · rw [upd_other _ _ hjb] at hj'; exact .inl hj'
  have hlab1 : ∀ x : Lb, (∀ l', x ≠ .own l') → lab2 io id2 base n x = x := by
    intro x hx; cases x with
    | own l' => exact absurd rfl (hx l')
    | frz => rfl
    | out => rfl
  rcases hres with ⟨hfit, hv, hw0, hwset⟩ | ⟨hlt, cap, arr, te, hv, hge, hcapm, hp, hasz, harr⟩
  · by_cases hc : 0 < c
    · -- in place
      obtain ⟨id, b, off, rfl, rfl, ⟨how, ca, T, hb, hsz⟩, hoc⟩ := hblk hc
      have hw' := hwset b off ca T hc rfl hb
      subst hw'
      have hb1 := heap_setRow (w := w) (c' := (lay ca.toList (off + n * (GTy.slice e).size) news).toArray) hb
      refine fin (upd (fun k => lab2 (some id) id2 base n (G.ow k)) b (.own [base])) b off c (fun k hk ho => ?_) (fun k l' hk hl hkk => ?_) (fun k j hk hj hkk => ?_) (fun k l' hk hl hkk => ?_) ⟨rfl, rfl, rfl, by simp⟩ (fun k hk ho => ?_) hfit hcm (fun _ => ⟨hv, upd_same _ _ _, ⟨_, T, hb1, ?_⟩, ?_⟩) (fun h => absurd h (by omega))
      · rw [upd_other _ _ (by rintro rfl; exact ho _ how)]; exact hlab1 _ ho
      · rw [upd_other]; rintro rfl; rw [how] at hk; simp at hk; subst hk; simp at hl
      · rw [upd_other]
        · simp only [hk]; rfl
        · rintro rfl; rw [how] at hk; simp at hk; subst hk; exact hj rfl
      · exact heap_setRow_other (by rintro rfl; rw [how] at hk; simp at hk; exact hl id rfl hk.symm)
      · exact heap_setRow_other (by rintro rfl; exact ho _ how)
      · rw [List.size_toArray, size_lay (by simp [GTy.size, hnlen]; omega)]; simpa using hsz
      · rw [cellsAt_iff hb] at hoc
        rw [cellsAt_iff hb1]
        intro j v hj
        show (lay ca.toList (off + n * (GTy.slice e).size) news)[off + j]? = some v
        simp only [GTy.size, Nat.mul_one]
        rw [lay_get (by simp [hnlen]; omega)]
        by_cases hjo : j < olds.length
        · rw [List.getElem?_append_left hjo] at hj
          rw [if_neg (by omega)]
          exact hoc j v hj
        · rw [List.getElem?_append_right (by omega)] at hj
          have := getElem?_lt hj
          rw [if_pos ⟨by omega, by omega⟩, show off + j - (off + n) = j - olds.length by omega]; exact hj
    · have hc0 : c = 0 := by omega
      have := hw0 hc0
      subst this
      have hn0 : n + ys.length = 0 := by omega
      exact fin (fun k => lab2 io id2 base n (G.ow k)) 0 0 0 (fun k hk ho => hlab1 _ ho) (fun k l' hk hl hkk => rfl) (fun k j hk hj hkk => by simp only [hk]; rfl) (fun k l' hk hl hkk => rfl) ⟨rfl, rfl, rfl, Nat.le_refl _⟩ (fun k hk ho => rfl) (by omega) (Nat.zero_le _) (fun h => absurd h (Nat.lt_irrefl 0)) (fun _ => ⟨ad, by rw [hv, hn0, hc0]⟩)
  · refine fin (upd (fun k => lab2 io id2 base n (G.ow k)) w.heap.size (.own [base])) w.heap.size 0 cap (fun k hk ho => ?_) (fun k l' hk hl hkk => ?_) (fun k j hk hj hkk => ?_) (fun k l' hk hl hkk => hp.old hkk) ⟨hp.os, hp.tape, hp.output, by rw [hp.heap]; simp⟩ (fun k hk ho => hp.old hk) hge hcapm (fun _ => ⟨hv, upd_same _ _ _, ⟨arr, te, hp.new, ?_⟩, ?_⟩) (fun h => absurd h (by omega))
    · rw [upd_other _ _ (by omega)]; exact hlab1 _ ho
    · rw [upd_other _ _ (by omega)]
    · rw [upd_other _ _ (by omega)]; simp only [hk]; rfl
    · simp [hasz, GTy.size]
    · exact cellsAt_new hp fun j v hj => by rw [Nat.zero_add]; exact harr j v hj

end
end Go.Fw
namespace Go.Fw
open Go

section
variable {P : Program} {E : Env} {o : Oper}

theorem room_some {objs : Nat → AObj} {n : Nat} {r : M Res} {q : Res} (h : (room n r).ev objs = some q) : n ≤ 4294967296 ∧ r.ev objs = some q := by
  unfold room at h
  rcases ev_ite h with ⟨h1, h2⟩ | ⟨_, h2⟩
  · exact ⟨of_decide_eq_true h1, h2⟩
  · simp [M.ev] at h2

theorem appendPlain_some {objs : Nat → AObj} {e : GTy} {base : Nat} {x : AVal} {old : List e.denote} {more : List (Nat × AObj)} {r : Res} (h : (appendPlain e base x old more).ev objs = some r) :
    ∃ (ys : List e.denote) (ids : List Nat), (coerce (.slice e) x).ev objs = some (ys, ids) ∧ (e.flat = true ∨ ids = []) ∧ old.length + ys.length ≤ 4294967296 ∧ r = { v := .hdr base none, w := more ++ [(base, .row e (old ++ ys))] } := by
  unfold appendPlain at h
  obtain ⟨y, h1, h⟩ := ev_some h
  split at h
  · rename_i hf
    obtain ⟨h2, h⟩ := room_some h
    injection (show some _ = some r from h) with h
    refine ⟨y.1, y.2, h1, ?_, h2, h.symm⟩
    simpa using hf
  · simp [M.ev] at h

theorem appendLists_some {objs : Nat → AObj} {e : GTy} {base : Nat} {x : AVal} {no : List Nat} {old : List (List e.denote)} {more : List (Nat × AObj)} {r : Res} (h : (appendLists e base x no old more).ev objs = some r) :
    ∃ id2 ys g2, x = .hdr id2 none ∧ id2 ∉ no ∧ objs id2 = .row2 e ys g2 none ∧ old.length + ys.length ≤ 4294967296 ∧ r = { v := .hdr base none, w := (more ++ [(id2, .dead)]) ++ [(base, .row2 e (old ++ ys) 0 none)] } := by
  unfold appendLists at h
  split at h
  · rename_i id2
    split at h
    · simp [M.ev] at h
    · rename_i hno
      simp only [M.ev] at h
      split at h
      · rename_i e' ys g2 hobj
        split at h
        · rename_i hee; subst hee
          obtain ⟨h2, h⟩ := room_some h
          injection (show some _ = some r from h) with h
          exact ⟨id2, ys, g2, rfl, by simpa using hno, hobj, h2, h.symm⟩
        · simp [M.ev] at h
      · simp [M.ev] at h
  · simp [M.ev] at h

theorem kd_ne {G : Gh} {id base : Nat} {k : Kd} (h : G.kd id = some k) (hf : G.kd base = none) : id ≠ base := by
  rintro rfl; rw [h] at hf; simp at hf

theorem sound_append (hE : EnvTy P E) {x y : Operand} {t t2 : TypeId} {ts : Array TypeId} (hts : ts.toList = [t, t2]) (h : o.op = .call { callee := .builtin .append, args := #[x, y], argTypes := ts }) : Sound P E o := by
  intro G w s a base r hr hf he next Q hn
  have hfb := hf base (Nat.le_refl _) (by omega)
  have hts0 : ts = #[t, t2] := by apply Array.ext'; simpa using hts
  simp only [opM, h, builtinM, List.map_cons, List.map_nil, hts] at he
  have he : (appendM (E.ty t) (E.ty t2) (evalA s.tmps x) (evalA s.tmps y) base).ev s.objs = some r := he
  have hx := evalA_rep hr x
  have hy := evalA_rep hr y
  -- what must be shown
  suffices hs : ∃ val w', (Builtin.append_ #[t, t2] o.type #[a.eval x, a.eval y]).run P w = .ok val w' ∧ ∃ G', Post G w s.objs base r val w' G' by
    obtain ⟨val, w', hrun, G', hpost⟩ := hs
    refine wp_val (v := val) (w' := w') ?_ (hn _ _ G' hpost)
    simp [execOp, h, resolve, invoke, builtin, hts0, hrun]
  unfold appendM at he
  split at he
  · rename_i e e2 hty hty2
    have ht := hE.ty t _ hty
    have ht2 := hE.ty t2 _ hty2
    -- the appended list, plain
    have plainY : ∀ (e : GTy) (ys : List e.denote) (ids : List Nat), (coerce (.slice e) (evalA s.tmps y)).ev s.objs = some (ys, ids) → RepC w (G.fzV ids) (.slice e) ys [a.eval y] := by
      intro e ys ids hc
      have := coerceT hr.obj hy hc
      simpa [ValOf, GTy.isAgg] using this
    have flY : ∀ (e : GTy) (ids : List Nat), (e.flat = true ∨ ids = []) → e.flat = true ∨ ∀ b, G.fzV ids b → G.fz b := by
      intro e ids hh
      rcases hh with hh | rfl
      · exact .inl hh
      · exact .inr fun b hb => by
          rcases hb with hb | ⟨_, _, hm, _⟩
          · exact hb
          · simp at hm
    split at he
    · -- to nil
      rename_i hxa
      rw [hxa] at hx
      obtain ⟨_, hxv⟩ := hx
      simp at hxv
      rw [hxv]
      split at he
      · rename_i e1
        obtain ⟨id2, ys, g2, hya, _, hobj, hroom, rfl⟩ := appendLists_some he
        rw [hya] at hy
        have ho := hr.obj id2
        rw [hobj] at ho
        obtain ⟨c2, ad2, news, hh⟩ := heads_of ho hy
        obtain ⟨_, _, _, hk, _⟩ := ho
        exact append_lists (io := none) (g := 0) hr hfb ht ht2 ⟨rfl, rfl, rfl, rfl⟩ hh (kd_ne hk hfb) (by simpa using hroom)
      · rename_i e1 hne
        obtain ⟨ys, ids, hco, hfl, hroom, rfl⟩ := appendPlain_some he
        exact append_plain (id := 0) (r := []) hr hfb ht ht2 rfl (Nat.le_refl _) (Nat.zero_le _) (fun h => absurd h (Nat.lt_irrefl 0)) (plainY _ ys ids hco) (flY _ ids hfl) (by simpa using hroom) (.inl ⟨rfl, rfl⟩)
    · -- to a list of the call's own
      rename_i id win hxa
      rw [hxa] at hx
      simp only [M.ev] at he
      have ho := hr.obj id
      split at he
      · rename_i e' l hobj
        rw [hobj] at ho
        split at he
        · rename_i hee; subst hee
          obtain ⟨ys, ids, hco, hfl, hroom, rfl⟩ := appendPlain_some he
          obtain ⟨b', off', c', hk', h1, h2, hown⟩ := ho
          obtain ⟨_, v, hxv, hh⟩ := hx
          simp at hxv
          rcases hh with ⟨e3, len, b, off, c, hk, hh⟩ | ⟨e3, len, b, off, c, hk, hh⟩
          · rw [hk] at hk'; simp at hk'; obtain ⟨rfl, rfl, rfl, rfl, rfl⟩ := hk'
            obtain ⟨ad, rfl, hw1, hw2, hw3, hw4⟩ := hh
            rw [hxv]
            have hvl := view_len l win hw1
            refine append_plain (id := id) (r := []) hr hfb ht ht2 hvl.symm (by omega) (by simp only [maxL] at *; omega) (fun hc => ?_) (plainY _ ys ids hco) (flY _ ids hfl) (by rw [← hvl]; exact hroom) (.inr ⟨.dead, rfl, kd_ne hk hfb, fun _ _ _ _ _ => trivial⟩)
            obtain ⟨⟨how, ca, T, hb, hsz⟩, hrow⟩ := hown (by omega)
            refine ⟨b, off + winOff win * e3.size, hw4 (by omega), ⟨how, ca, T, hb, ?_⟩, hrow.view win⟩
            have : (winOff win + (c - winOff win)) * e3.size = c * e3.size := by congr 1; omega
            rw [Nat.add_mul] at this; omega
          · rw [hk] at hk'; simp at hk'
        · simp [M.ev] at he
      · rename_i e' l g hobj
        rw [hobj] at ho
        split at he
        · split at he
          · rename_i hee; subst hee
            obtain ⟨id2, ys, g2, hya, hno, hobj2, hroom, rfl⟩ := appendLists_some he
            rw [hya] at hy
            have ho2 := hr.obj id2
            rw [hobj2] at ho2
            obtain ⟨c2, ad2, news, hh2⟩ := heads_of ho2 hy
            obtain ⟨c, ad, olds, hh⟩ := heads_of ho hx
            obtain ⟨_, _, _, hk, _⟩ := ho
            obtain ⟨_, _, _, hk2, _⟩ := ho2
            have hv := hh.v
            rw [hv]
            exact append_lists (io := some id) hr hfb ht ht2 ⟨by simp at hno; exact fun h => hno h.symm, kd_ne hk hfb, rfl, by rw [← hv]; exact hh⟩ hh2 (kd_ne hk2 hfb) hroom
          · simp [M.ev] at he
        · simp [M.ev] at he
      · simp [M.ev] at he
    · -- to a list within a list of lists
      rename_i id g i hxa
      rw [hxa] at hx
      simp only [M.ev] at he
      have ho := hr.obj id
      split at he
      · rename_i e' l g' hobj
        rw [hobj] at ho
        split at he
        · rename_i hee; subst hee
          split at he
          · rename_i hg; subst hg
            obtain ⟨ys, ids, hco, hfl, hroom, rfl⟩ := appendPlain_some he
            obtain ⟨b', off', c', hk', h1, h2, hgn, hown⟩ := ho
            obtain ⟨_, v, hxv, e3, len, b, off, c, hk, hi, len2, b2, off2, c2, hnd, hh⟩ := hx
            simp at hxv
            rw [hk] at hk'; simp at hk'; obtain ⟨rfl, rfl, rfl, rfl, rfl⟩ := hk'
            obtain ⟨hob, hrow⟩ := hown (by omega)
            have hget : l[i]? = some l[i] := List.getElem?_eq_getElem hi
            have hrd : rdl (.slice e3) l i = l[i] := by simp [rdl, List.getD, hget]
            rw [hrd] at hroom ⊢
            obtain ⟨len3, b3, off3, c3, hnd3, hlen, hin⟩ := hrow i _ hget
            rw [hnd] at hnd3; simp at hnd3; obtain ⟨rfl, rfl, rfl, rfl⟩ := hnd3
            obtain ⟨v0, hcell, hh0, hin⟩ := hin (by simp)
            obtain ⟨ad, rfl, hw1, hw2, hw3, hw4⟩ := hh
            rw [hxv]
            simp only [winOff, winNum, Nat.sub_zero, Nat.zero_add, Nat.zero_mul, Nat.add_zero] at hw1 hw4 ⊢
            refine append_plain (id := id) (r := [i]) hr hfb ht ht2 hlen hw2 hw3 (fun hc => ?_) (plainY _ ys ids hco) (flY _ ids hfl) (by rw [hlen]; exact hroom) (.inr ⟨_, rfl, kd_ne hk hfb, fun G' w' hext hnds hkeep => ?_⟩)
            · obtain ⟨ho4, hr4⟩ := hin hc
              exact ⟨b2, off2, hw4 hc, ho4, hr4⟩
            · refine ⟨b, off, c, hext.kd _ _ hk, h1, h2, fun g' j hg' => by rw [hnds]; exact hgn g' j hg', fun _ => ?_⟩
              have hkb := hkeep b [id] hob.1 (by simp) hob.lt
              refine ⟨hob.keep hkb, fun j xj hxj => ?_⟩
              obtain ⟨len4, b4, off4, c4, hnd4, hlen4, hin4⟩ := hrow j xj hxj
              refine ⟨len4, b4, off4, c4, hext.nd _ _ _ _ hnd4, hlen4, fun hji => ?_⟩
              obtain ⟨v4, hc4, hh4, hi4⟩ := hin4 (by simp)
              refine ⟨v4, (cell_of_heap hkb.1).trans hc4, hh4, fun hc => ?_⟩
              obtain ⟨ho5, hr5⟩ := hi4 hc
              have hk5 := hkeep b4 [id, j] ho5.1 (by simp; intro h; exact hji (by rw [h])) ho5.lt
              exact ⟨ho5.keep hk5, hr5.mono hk5.1 fun x cs hxx => hext.repC hxx⟩
          · simp [M.ev] at he
        · simp [M.ev] at he
      · simp [M.ev] at he
    · simp [M.ev] at he
  · simp [M.ev] at he

end
end Go.Fw
namespace Go.Fw
open Go

section
variable {P : Program} {E : Env} {o : Oper}

theorem eqOk_seen : ∀ (k : GTy) (t : TypeId), eqOk P k t = true → k ≠ .unit ∧ (k.isAgg = false → (∃ i, k = .int i) ∨ k = .bool ∨ k = .str)
  | .int i, _, _ => ⟨by simp, fun _ => .inl ⟨i, rfl⟩⟩
  | .bool, _, _ => ⟨by simp, fun _ => .inr (.inl rfl)⟩
  | .str, _, _ => ⟨by simp, fun _ => .inr (.inr rfl)⟩
  | .unit, _, h => by simp [eqOk] at h
  | .opq, _, h => by simp [eqOk] at h
  | .slice _, _, h => by simp [eqOk] at h
  | .pair _ _, _, _ => ⟨by simp, fun h => by simp [GTy.isAgg] at h⟩

/-- types whose values are their cells -/
def GTy.cellwise : GTy → Bool
  | .int _ => true
  | .bool => true
  | .str => true
  | .unit => true
  | .pair a b => a.cellwise && b.cellwise
  | _ => false

mutual
theorem eqOk_cw : ∀ (k : GTy) (t : TypeId), eqOk P k t = true → k.cellwise = true
  | .int _, _, _ => rfl
  | .bool, _, _ => rfl
  | .str, _, _ => rfl
  | .unit, _, h => by simp [eqOk] at h
  | .opq, _, h => by simp [eqOk] at h
  | .slice _, _, h => by simp [eqOk] at h
  | .pair a b, t, h => by
    simp only [eqOk, Bool.and_eq_true] at h
    obtain ⟨_, h⟩ := h
    split at h
    · split at h
      · rename_i f r _
        simp only [Bool.and_eq_true] at h
        simp only [GTy.cellwise, Bool.and_eq_true]
        exact ⟨eqOk_cw a f.type h.1.2, eqFldsOk_cw b r h.2⟩
      · simp at h
    · simp at h
theorem eqFldsOk_cw : ∀ (k : GTy) (fs : List Field), eqFldsOk P k fs = true → k.cellwise = true
  | .unit, _, _ => rfl
  | .pair a b, fs, h => by
    cases fs with
    | nil => simp [eqFldsOk] at h
    | cons f r =>
      simp only [eqFldsOk, Bool.and_eq_true] at h
      simp only [GTy.cellwise, Bool.and_eq_true]
      exact ⟨eqOk_cw a f.type h.1.2, eqFldsOk_cw b r h.2⟩
  | .int _, _, h => by simp [eqFldsOk] at h
  | .bool, _, h => by simp [eqFldsOk] at h
  | .str, _, h => by simp [eqFldsOk] at h
  | .opq, _, h => by simp [eqFldsOk] at h
  | .slice _, _, h => by simp [eqFldsOk] at h
end

theorem cw_flat : ∀ (k : GTy), k.cellwise = true → k.flat = true
  | .int _, _ => rfl
  | .bool, _ => rfl
  | .str, _ => rfl
  | .unit, _ => rfl
  | .opq, h => by simp [GTy.cellwise] at h
  | .slice _, h => by simp [GTy.cellwise] at h
  | .pair a b, h => by
    simp only [GTy.cellwise, GTy.flat, Bool.and_eq_true] at h ⊢
    exact ⟨cw_flat a h.1, cw_flat b h.2⟩

theorem cw_unique {w w' : World} {fz fz' : Nat → Prop} : ∀ (k : GTy) (x : k.denote) (cs ds : List Value), k.cellwise = true → RepC w fz k x cs → RepC w' fz' k x ds → cs = ds
  | .int _, x, cs, ds, _, h1, h2 => h1.1.trans h2.1.symm
  | .bool, x, cs, ds, _, h1, h2 => Eq.trans (show cs = [.bool x] from h1) (Eq.symm h2)
  | .str, x, cs, ds, _, h1, h2 => Eq.trans (show cs = [.string x] from h1) (Eq.symm h2)
  | .unit, x, cs, ds, _, h1, h2 => Eq.trans (show cs = [] from h1) (Eq.symm h2)
  | .opq, _, _, _, h, _, _ => by simp [GTy.cellwise] at h
  | .slice _, _, _, _, h, _, _ => by simp [GTy.cellwise] at h
  | .pair a b, x, cs, ds, h, h1, h2 => by
    simp only [GTy.cellwise, Bool.and_eq_true] at h
    obtain ⟨c1, c2, rfl, h3, h4⟩ := h1
    obtain ⟨d1, d2, rfl, h5, h6⟩ := h2
    rw [cw_unique a _ _ _ h.1 h3 h5, cw_unique b _ _ _ h.2 h4 h6]

theorem bytes_beq (a b : ByteArray) : (a == b) = true ↔ a = b := by
  rw [beq_toListBytes, ByteArray.toList_eq, ByteArray.toList_eq]
  obtain ⟨⟨x⟩⟩ := a
  obtain ⟨⟨y⟩⟩ := b
  constructor
  · intro h
    have : x = y := by simpa using h
    rw [this]
  · intro h
    injection h with h
    injection h with h
    subst h; simp

theorem cw_beq : ∀ (k : GTy) (x y : k.denote), k.cellwise = true → (k.beq x y = true ↔ x = y)
  | .int _, x, y, _ => by simp [GTy.beq]
  | .bool, x, y, _ => by simp [GTy.beq]
  | .str, x, y, _ => by simp only [GTy.beq]; exact bytes_beq x y
  | .unit, x, y, _ => by simp [GTy.beq]
  | .opq, _, _, h => by simp [GTy.cellwise] at h
  | .slice _, _, _, h => by simp [GTy.cellwise] at h
  | .pair a b, x, y, h => by
    simp only [GTy.cellwise, Bool.and_eq_true] at h
    simp only [GTy.beq, Bool.and_eq_true, cw_beq a _ _ h.1, cw_beq b _ _ h.2]
    constructor
    · rintro ⟨h1, h2⟩; exact Prod.ext h1 h2
    · rintro rfl; exact ⟨rfl, rfl⟩

theorem sameBits_cells : ∀ (k : GTy) (x : k.denote) (cs : List Value) {w : World} {fz : Nat → Prop} (n : Nat), k.cellwise = true → RepC w fz k x cs → (cs.zip cs).all (fun p => Instr.sameBits n p.1 p.2) = true
  | .int k, x, cs, w, fz, n, _, h => by rw [h.1]; cases n <;> simp [Instr.sameBits]
  | .bool, x, cs, w, fz, n, _, h => by rw [show cs = [.bool x] from h]; cases n <;> simp [Instr.sameBits]
  | .str, x, cs, w, fz, n, _, h => by rw [show cs = [.string x] from h]; cases n <;> simp [Instr.sameBits, (bytes_beq x x).2 rfl]
  | .unit, x, cs, w, fz, n, _, h => by rw [show cs = [] from h]; simp
  | .opq, _, _, _, _, _, h, _ => by simp [GTy.cellwise] at h
  | .slice _, _, _, _, _, _, h, _ => by simp [GTy.cellwise] at h
  | .pair a b, x, cs, w, fz, n, h, hc => by
    simp only [GTy.cellwise, Bool.and_eq_true] at h
    obtain ⟨c1, c2, rfl, h1, h2⟩ := hc
    rw [List.zip_append rfl, List.all_append, sameBits_cells a _ _ n h.1 h1, sameBits_cells b _ _ n h.2 h2]; rfl

theorem sameBits_refl {k : GTy} {x : k.denote} {u : Value} {w : World} {fz : Nat → Prop} (hk : k.cellwise = true) (h : ValOf k.isAgg (RepC w fz k x) u) : Instr.sameBits 10000 u u = true := by
  unfold ValOf at h
  split at h
  · obtain ⟨cells, rfl, hc⟩ := h
    have := sameBits_cells k x _ 9999 hk hc
    show (cells.size == cells.size && _) = true
    simp only [beq_self_eq_true, Bool.true_and]
    exact this
  · have := sameBits_cells k x _ 10000 hk h
    simpa using this

theorem valOf_unique {k : GTy} {x : k.denote} {u v : Value} {w w' : World} {fz fz' : Nat → Prop} (hk : k.cellwise = true) (h : ValOf k.isAgg (RepC w fz k x) u) (h' : ValOf k.isAgg (RepC w' fz' k x) v) : u = v := by
  unfold ValOf at h h'
  split at h
  · rename_i ha
    rw [if_pos ha] at h'
    obtain ⟨c, rfl, hc⟩ := h
    obtain ⟨d, rfl, hd⟩ := h'
    have := cw_unique k x _ _ hk hc hd
    congr 1; exact Array.ext' this
  · rename_i ha
    rw [if_neg ha] at h'
    have := cw_unique k x _ _ hk h h'
    simpa using this

/-! ### Keys -/
mutual
theorem checkKey_spec : ∀ (g : GTy) (t : TypeId) (x : g.denote) (u : Value) (w w1 : World) (fz1 : Nat → Prop) (d : Nat) (em : Bool), tyOk P g t = true → eqOk P g t = true → g.dep ≤ d →
    ValOf g.isAgg (RepC w1 fz1 g x) u → (Instr.checkKey em d t u).run P w = .ok () w
  | .int k, t, x, u, w, w1, fz1, d, em, ht, he, hd, hu => by
    obtain ⟨d, rfl⟩ : ∃ m, d = m + 1 := ⟨d - 1, by simp [GTy.dep] at hd; omega⟩
    simp [Instr.checkKey, run_underlying (ty_int ht)]
  | .bool, t, x, u, w, w1, fz1, d, em, ht, he, hd, hu => by
    obtain ⟨d, rfl⟩ : ∃ m, d = m + 1 := ⟨d - 1, by simp [GTy.dep] at hd; omega⟩
    simp only [tyOk, Bool.and_eq_true] at ht
    obtain ⟨_, ht⟩ := ht
    split at ht
    · rename_i hk; simp [Instr.checkKey, run_underlying hk]
    · simp at ht
  | .str, t, x, u, w, w1, fz1, d, em, ht, he, hd, hu => by
    obtain ⟨d, rfl⟩ : ∃ m, d = m + 1 := ⟨d - 1, by simp [GTy.dep] at hd; omega⟩
    simp [Instr.checkKey, run_underlying (ty_str ht)]
  | .unit, t, x, u, w, w1, fz1, d, em, ht, he, hd, hu => by simp [eqOk] at he
  | .opq, t, x, u, w, w1, fz1, d, em, ht, he, hd, hu => by simp [eqOk] at he
  | .slice _, t, x, u, w, w1, fz1, d, em, ht, he, hd, hu => by simp [eqOk] at he
  | .pair a b, t, x, u, w, w1, fz1, d, em, ht, he, hd, hu => by
    obtain ⟨d, rfl⟩ : ∃ m, d = m + 1 := ⟨d - 1, by simp [GTy.dep] at hd; omega⟩
    simp only [ValOf, GTy.isAgg, if_true] at hu
    obtain ⟨cu, rfl, c1, c2, hcu, hu1, hu2⟩ := hu
    simp only [tyOk, eqOk, Bool.and_eq_true] at ht he
    obtain ⟨_, ht⟩ := ht
    obtain ⟨_, he⟩ := he
    split at ht
    · rename_i fs hus
      rw [hus] at he
      simp only at he
      split at ht
      · rename_i f r hfs
        rw [hfs] at he
        simp only [Bool.and_eq_true, decide_eq_true_eq, beq_iff_eq] at ht he
        obtain ⟨⟨ho, hta⟩, htb⟩ := ht
        obtain ⟨⟨hname, hea⟩, heb⟩ := he
        have hl1 := RepC.len _ _ _ hu1
        have ecu : cu = ([] ++ c1 ++ c2).toArray := by apply Array.ext'; simp [hcu]
        simp only [Instr.checkKey, Sem.run_bind, run_underlying hus, Result.andThen_ok]
        rw [← Array.forIn_toList, hfs]
        simp only [List.forIn_cons]
        obtain ⟨pu, hpu, hpu'⟩ := part_spec hta (w := w) (c1 := []) (c3 := c2) hl1
        have hck := checkKey_spec a f.type x.1 pu w w1 fz1 d em hta hea (by simp only [GTy.dep] at hd; omega) (hpu' _ hu1)
        have hp0 : (part f.type cu f.offset).run P w = .ok pu w := by rw [ecu, ho]; exact hpu
        simp only [hname, ne_eq, not_false_eq_true, if_true, Sem.run_bind, hp0, Result.andThen_ok, hck, Sem.run_pure]
        have ih := checkFlds_spec b r x.2 c1 c2 w w1 fz1 d (a.size) em hl1 htb heb (by simp only [GTy.dep] at hd; omega) hu2
        rw [show (c1 ++ c2).toArray = cu by rw [ecu]; simp] at ih
        rw [ih]; rfl
      · simp at ht
    · simp at ht
theorem checkFlds_spec : ∀ (g : GTy) (fs : List Field) (x : g.denote) (c1 c2 : List Value) (w w1 : World) (fz1 : Nat → Prop) (d off : Nat) (em : Bool), c1.length = off →
    fldsOk P g off fs = true → eqFldsOk P g fs = true → g.dep ≤ d + 1 → RepC w1 fz1 g x c2 →
    ((forIn fs PUnit.unit fun f (_ : PUnit) =>
        if ¬ f.name = "_" then do
          let p ← part f.type (c1 ++ c2).toArray f.offset
          Instr.checkKey em d f.type p
          pure (ForInStep.yield PUnit.unit)
        else pure (ForInStep.yield PUnit.unit) : Sem PUnit)).run P w = .ok PUnit.unit w
  | .unit, fs, x, c1, c2, w, w1, fz1, d, off, em, h1, ht, he, hd, hu => by
    simp only [eqFldsOk, List.isEmpty_iff] at he
    subst he
    simp
  | .pair a b, fs, x, c1, c2, w, w1, fz1, d, off, em, h1, ht, he, hd, hu => by
    obtain ⟨e1, e2, rfl, hu1, hu2⟩ := hu
    cases fs with
    | nil => simp [fldsOk] at ht
    | cons f r =>
      simp only [fldsOk, eqFldsOk, Bool.and_eq_true, decide_eq_true_eq, beq_iff_eq] at ht he
      obtain ⟨⟨ho, hta⟩, htb⟩ := ht
      obtain ⟨⟨hname, hea⟩, heb⟩ := he
      have hl1 := RepC.len _ _ _ hu1
      obtain ⟨pu, hpu, hpu'⟩ := part_spec hta (w := w) (c1 := c1) (c3 := e2) hl1
      have hck := checkKey_spec a f.type x.1 pu w w1 fz1 d em hta hea (by simp only [GTy.dep] at hd; omega) (hpu' _ hu1)
      have hp0 : (part f.type (c1 ++ (e1 ++ e2)).toArray f.offset).run P w = .ok pu w := by rw [ho, ← h1, ← List.append_assoc]; exact hpu
      simp only [List.forIn_cons, hname, ne_eq, not_false_eq_true, if_true, Sem.run_bind, hp0, Result.andThen_ok, hck, Sem.run_pure]
      have ih := checkFlds_spec b r x.2 (c1 ++ e1) e2 w w1 fz1 d (off + a.size) em (by simp [h1, hl1]) htb heb (by simp only [GTy.dep] at hd; omega) hu2
      rw [List.append_assoc] at ih
      exact ih
  | .int _, fs, x, c1, c2, w, w1, fz1, d, off, em, h1, ht, he, hd, hu => by simp [fldsOk] at ht
  | .bool, fs, x, c1, c2, w, w1, fz1, d, off, em, h1, ht, he, hd, hu => by simp [fldsOk] at ht
  | .str, fs, x, c1, c2, w, w1, fz1, d, off, em, h1, ht, he, hd, hu => by simp [fldsOk] at ht
  | .opq, fs, x, c1, c2, w, w1, fz1, d, off, em, h1, ht, he, hd, hu => by simp [fldsOk] at ht
  | .slice _, fs, x, c1, c2, w, w1, fz1, d, off, em, h1, ht, he, hd, hu => by simp [fldsOk] at ht
end

end
end Go.Fw
namespace Go.Fw
open Go

section
variable {P : Program} {E : Env} {o : Oper}

def mfind (k : GTy) {v : Type} : List (k.denote × v) → k.denote → Option Nat
  | [], _ => none
  | p :: r, x => if k.beq x p.1 then some 0 else (mfind k r x).map (· + 1)

theorem mget_find (k : GTy) {v : Type} : ∀ (m : List (k.denote × v)) (x : k.denote), mget k m x = (mfind k m x).bind fun i => (m[i]?).map (·.2)
  | [], _ => rfl
  | p :: r, x => by
    simp only [mget, mfind]
    split
    · simp
    · rw [mget_find k r x]
      cases mfind k r x <;> simp

theorem mput_find (k : GTy) {v : Type} : ∀ (m : List (k.denote × v)) (x : k.denote) (y : v), mput k m x y = match mfind k m x with | some i => m.set i (x, y) | none => m ++ [(x, y)]
  | [], _, _ => rfl
  | p :: r, x, y => by
    simp only [mput, mfind]
    split
    · simp
    · rw [mput_find k r x y]
      cases mfind k r x <;> simp

theorem mfind_lt (k : GTy) {v : Type} : ∀ (m : List (k.denote × v)) (x : k.denote) (i : Nat), mfind k m x = some i → ∃ p, m[i]? = some p ∧ k.beq x p.1 = true
  | [], _, _, h => by simp [mfind] at h
  | p :: r, x, i, h => by
    simp only [mfind] at h
    split at h
    · rename_i hb; simp at h; subst h; exact ⟨p, rfl, hb⟩
    · cases hm : mfind k r x with
      | none => simp [hm] at h
      | some j =>
        simp [hm] at h; subst h
        obtain ⟨q, h1, h2⟩ := mfind_lt k r x j hm
        exact ⟨q, by simpa using h1, h2⟩

theorem allR_get {α β : Type} {R : α → β → Prop} : ∀ (l : List α) (m : List β), AllR R l m → ∀ (i : Nat) (a : α), l[i]? = some a → ∃ b, m[i]? = some b ∧ R a b
  | [], _, _, i, a, h => by simp at h
  | _ :: _, [], h, _, _, _ => h.elim
  | a :: l, b :: m, h, i, x, hx => by
    cases i with
    | zero => simp at hx; subst hx; exact ⟨b, rfl, h.1⟩
    | succ i => simpa using allR_get l m h.2 i x (by simpa using hx)

theorem allR_len {α β : Type} {R : α → β → Prop} : ∀ (l : List α) (m : List β), AllR R l m → l.length = m.length
  | [], [], _ => rfl
  | [], _ :: _, h => h.elim
  | _ :: _, [], h => h.elim
  | _ :: l, _ :: m, h => by simp [allR_len l m h.2]

theorem allR_set {α β : Type} {R : α → β → Prop} {a : α} {b : β} (h : R a b) : ∀ (l : List α) (m : List β) (i : Nat), AllR R l m → AllR R (l.set i a) (m.set i b)
  | [], [], _, _ => trivial
  | [], _ :: _, _, h => h.elim
  | _ :: _, [], _, h => h.elim
  | _ :: _, _ :: _, 0, h' => ⟨h, h'.2⟩
  | _ :: l, _ :: m, i + 1, h' => ⟨h'.1, allR_set h l m i h'.2⟩

theorem allR_snoc {α β : Type} {R : α → β → Prop} {a : α} {b : β} (h : R a b) : ∀ (l : List α) (m : List β), AllR R l m → AllR R (l ++ [a]) (m ++ [b])
  | [], [], _ => ⟨h, trivial⟩
  | [], _ :: _, h => h.elim
  | _ :: _, [], h => h.elim
  | _ :: l, _ :: m, h' => ⟨h'.1, allR_snoc h l m h'.2⟩

/-- a key is found -/
theorem find_spec {k v : GTy} {tk : TypeId} (ht : tyOk P k tk = true) (he : eqOk P k tk = true) (hd : k.dep ≤ 10000) {w : World} {fz fz' : Nat → Prop} {x : k.denote} {u : Value} (hu : ValOf k.isAgg (RepC w fz' k x) u) :
    ∀ (m : List (k.denote × v.denote)) (es : List MapEntry), AllR (Ent w fz k v) m es → (Instr.findKey tk u es).run P w = .ok ((mfind k m x).bind fun i => (es[i]?).map fun e => (i, e.val)) w := by
  intro m es hall
  obtain ⟨kind, hkind⟩ := ty_und ht
  unfold Instr.findKey
  rw [Sem.run_bind, run_underlying hkind]
  simp only [Result.andThen_ok]
  -- the two searches
  have ask : ∀ (m : List (k.denote × v.denote)) (es : List MapEntry) (i : Nat), AllR (Ent w fz k v) m es → (Instr.findAsking tk u es i).run P w = .ok ((mfind k m x).bind fun j => (es[j]?).map fun e => (i + j, e.val)) w := by
    intro m
    induction m with
    | nil => intro es i h; cases es with
      | nil => rfl
      | cons => exact h.elim
    | cons p m ih => intro es i h; cases es with
      | nil => exact h.elim
      | cons e es =>
        obtain ⟨⟨h1, h2⟩, h3⟩ := h
        have heq := eq_spec (P := P) k tk x p.1 u e.key w w w fz' fz 10000 ht he hd hu h1
        have heq' : (Op.equal tk u e.key).run P w = .ok (k.beq x p.1) w := heq
        simp only [Instr.findAsking, Sem.run_bind, heq', Result.andThen_ok, mfind]
        cases hb : k.beq x p.1
        · simp only [Bool.false_eq_true, if_false]
          rw [ih es (i + 1) h3]
          cases mfind k m x with
          | none => rfl
          | some j => simp [Nat.add_assoc, Nat.add_comm 1 j]
        · simp
  have now : ∀ (m : List (k.denote × v.denote)) (es : List MapEntry) (i : Nat), AllR (Ent w fz k v) m es → ∀ r, Instr.findNow kind u es i = some r → r = (mfind k m x).bind fun j => (es[j]?).map fun e => (i + j, e.val) := by
    intro m
    induction m with
    | nil => intro es i h r hr; cases es with
      | nil => simp [Instr.findNow] at hr; subst hr; rfl
      | cons => exact h.elim
    | cons p m ih => intro es i h r hr; cases es with
      | nil => exact h.elim
      | cons e es =>
        obtain ⟨⟨h1, h2⟩, h3⟩ := h
        have hs : Instr.sameNow kind u e.key = some (k.beq x p.1) ∨ Instr.sameNow kind u e.key = none := by
          cases hag : k.isAgg with
          | true =>
            rw [hag] at hu
            obtain ⟨cu, rfl, _⟩ := hu
            right
            cases kind <;> rfl
          | false =>
            rw [hag] at hu h1
            obtain ⟨_, hk⟩ := eqOk_seen k tk he
            rcases hk hag with ⟨ik, rfl⟩ | rfl | rfl
            · have hu' := hu.1; have h1' := h1.1
              simp at hu' h1'; subst hu'; rw [h1']
              have := ty_int ht; rw [hkind] at this; simp at this; subst this
              left; simp only [Instr.sameNow, if_true, GTy.beq]; congr
            · have hu' : [u] = [.bool x] := hu
              have h1' : [e.key] = [.bool p.1] := h1
              simp at hu' h1'; subst hu'; rw [h1']
              simp only [tyOk, Bool.and_eq_true] at ht
              obtain ⟨_, ht⟩ := ht
              rw [hkind] at ht
              split at ht
              · rename_i heq; injection heq with heq; subst heq
                left; rfl
              · simp at ht
            · have hu' : [u] = [.string x] := hu
              have h1' : [e.key] = [.string p.1] := h1
              simp at hu' h1'; subst hu'; rw [h1']
              have := ty_str ht; rw [hkind] at this; simp at this; subst this
              left; rfl
        simp only [Instr.findNow] at hr
        rcases hs with hs | hs
        · rw [hs] at hr
          simp only [mfind]
          cases hb : k.beq x p.1
          · rw [hb] at hr
            simp only at hr
            rw [ih es (i + 1) h3 r hr]
            cases mfind k m x with
            | none => rfl
            | some j => simp [Nat.add_assoc, Nat.add_comm 1 j]
          · rw [hb] at hr
            simp at hr; subst hr; simp
        · rw [hs] at hr; simp at hr
  cases hn : Instr.findNow kind u es 0 with
  | some r =>
    rw [now m es 0 hall r hn]
    simp
  | none =>
    simp only
    rw [ask m es 0 hall]
    simp

theorem sound_makeMap {t : TypeId} (h : o.op = .makeMap t none) : Sound P E o := by
  intro G w s a base r hr hf he next Q hn
  simp only [opM, h] at he
  split at he
  · rename_i k v hmt
    injection (show some _ = some r from he) with he; subst he
    have hp := Pushed.alloc w (.map #[] 0)
    refine wp_val (v := .map (some w.heap.size)) (w' := w.alloc (.map #[] 0)) ?_
      (hn _ _ _ (Post.fresh_new hr (hf base (Nat.le_refl _) (by omega)) hp (.map w.heap.size) (fun _ => none) [] (by simp) _ _ _ ?_ ?_))
    · simp [execOp, h, Instr.makeMap]
    · exact ⟨rfl, w.heap.size, upd_same _ _ _, rfl⟩
    · exact ⟨w.heap.size, upd_same _ _ _, upd_same _ _ _, #[], 0, hp.new, trivial⟩
  · simp [M.ev] at he

theorem sound_lookup (hE : EnvTy P E) {t : TypeId} {m i : Operand} {ok : Bool} (h : o.op = .lookup t m i ok) : Sound P E o := by
  intro G w s a base r hr hf he next Q hn
  simp only [opM, h] at he
  obtain ⟨v, h1, rfl⟩ := andRetV he
  have hm := evalA_rep hr m
  have hi := evalA_rep hr i
  unfold lookupM at h1
  split at h1
  · rename_i id hma
    rw [hma] at hm
    simp only [M.ev] at h1
    have ho := hr.obj id
    split at h1
    · rename_i k v' l hobj
      rw [hobj] at ho
      split at h1
      · rename_i hmt
        obtain ⟨x, hx, h2⟩ := ev_some h1
        clear h1
        have h1 := h2
        clear h2
        obtain ⟨tk, tv, hu, ⟨hk1, hk2, hk3⟩, hv1, hv2⟩ := hE.mty t k v' hmt
        obtain ⟨b, hkb, hob, es, cl, hb, hall⟩ := ho
        obtain ⟨_, b', hkb', hv⟩ := hm
        rw [hkb] at hkb'; simp at hkb'; subst hkb'
        simp at hv
        have hkv := coerceT hr.obj hi hx
        have hck := checkKey_spec (P := P) k tk x.1 (a.eval i) w w _ 10000 es.isEmpty hk1 hk2 hk3 hkv
        have hfind := find_spec (P := P) hk1 hk2 hk3 hkv l es.toList hall
        obtain ⟨i0, z, hi1, hi2, hi3, hi4, hi5, hi6, hi7⟩ := ty_zero hv1
        -- the value that is found
        have hval : ∃ val okb, ((match (mfind k l x.1).bind fun i => (es.toList[i]?).map fun e => (i, e.val) with | some (_, v) => (v, true) | none => (z, false) : Value × Bool)) = (val, okb) ∧
            okb = (mget k l x.1).isSome ∧ RepT G w (.val v' ((mget k l x.1).getD v'.zero)) val := by
          rw [mget_find]
          cases hmf : mfind k l x.1 with
          | none =>
            refine ⟨z, false, by simp, by simp, ?_⟩
            obtain ⟨c1, hc1, hc2⟩ := zMatch_c (w := w) (fz := G.fz) v' z.cells.toList [] hv2 hi5
            simp at hc1; subst hc1
            show ValOf v'.isAgg (RepG G w (.val v' v'.zero) false) z
            cases hag : v'.isAgg with
            | true => exact ⟨z.cells, hi6 hag, rfl, hc2⟩
            | false =>
              obtain ⟨v0, hv0, hv0c⟩ := hi7 hag
              subst hv0
              have : z.cells.toList = [z] := by rw [hv0c]
              rw [this] at hc2
              exact ⟨rfl, hc2⟩
          | some j =>
            obtain ⟨p, hp, _⟩ := mfind_lt k l x.1 j hmf
            obtain ⟨e, he1, he2⟩ := allR_get l es.toList hall j p hp
            have he1' : es[j]? = some e := by rw [← Array.getElem?_toList]; exact he1
            refine ⟨e.val, true, by simp [he1'], by simp [hp], ?_⟩
            simp only [Option.bind_some, hp, Option.map_some, Option.getD_some]
            exact he2.2.mono fun cs hc => ⟨rfl, hc⟩
        obtain ⟨val, okb, hve, hok, hrep⟩ := hval
        have hrun : (Instr.lookup t (a.eval m) (a.eval i) ok).run P w = .ok (if ok then .tuple #[val, .bool okb] else val) w := by
          have hg : (getObj b).run P w = .ok (.map es cl) w := by simp [getObj, Sem.run, hb]
          have hz : (zeroValue tv).run P w = .ok z w := by simp [zeroValue, typeInfo, hi1, hi4]
          unfold Instr.lookup
          simp only [Sem.run_bind, run_underlying hu, Result.andThen_ok, hv, hg, Sem.run_pure, hck, hfind]
          generalize ((mfind k l x.1).bind fun i => (es.toList[i]?).map fun e => (i, e.val)) = fr at hve
          cases fr with
          | none => simp at hve; obtain ⟨rfl, rfl⟩ := hve; simp [hz]
          | some q => obtain ⟨q1, q2⟩ := q; simp at hve; obtain ⟨rfl, rfl⟩ := hve; simp
        split at h1
        · rename_i hokt
          subst hokt
          injection (show some _ = some v from h1) with h1; subst h1
          refine wp_val (v := .tuple #[val, .bool okb]) (w' := w) ?_ (hn _ _ G (Post.same hr ⟨_, rfl, val, [.bool okb], rfl, hrep, .bool okb, [], rfl, ?_, rfl⟩))
          · simp [execOp, h, hrun]
          · rw [hok]; exact mkT_bool
        · rename_i hokt
          obtain rfl : ok = false := by simpa using hokt
          injection (show some _ = some v from h1) with h1; subst h1
          refine wp_val (v := val) (w' := w) ?_ (hn _ _ G (Post.same hr hrep))
          simp [execOp, h, hrun]
      · simp [M.ev] at h1
    · simp [M.ev] at h1
  · simp [M.ev] at h1

theorem heap_setObj {w : World} {b k : Nat} {o' : Obj} (h : k ≠ b) : ({ w with heap := w.heap.setIfInBounds b o' } : World).heap[k]? = w.heap[k]? := by
  simp [Array.getElem?_setIfInBounds, Ne.symm h]

theorem sound_mapUpdate (hE : EnvTy P E) {t : TypeId} {m i x : Operand} (h : o.op = .mapUpdate t m i x) : Sound P E o := by
  intro G w s a base r hr hf he next Q hn
  simp only [opM, h] at he
  have hm := evalA_rep hr m
  have hi := evalA_rep hr i
  have hx := evalA_rep hr x
  unfold mapUpdateM at he
  split at he
  · rename_i id hma
    rw [hma] at hm
    simp only [M.ev] at he
    have ho := hr.obj id
    split at he
    · rename_i k v' l hobj
      rw [hobj] at ho
      split at he
      · rename_i hmt
        obtain ⟨xa, hxa, he⟩ := ev_some he
        obtain ⟨xb, hxb, he⟩ := ev_some he
        split at he
        · rename_i hem
          simp only [Bool.and_eq_true, List.isEmpty_iff] at hem
          simp [setW, M.ev] at he; subst he
          obtain ⟨tk, tv, hu, ⟨hk1, hk2, hk3⟩, hv1, hv2⟩ := hE.mty t k v' hmt
          obtain ⟨b, hkb, hob, es, cl, hb, hall⟩ := ho
          obtain ⟨_, b', hkb', hv⟩ := hm
          rw [hkb] at hkb'; simp at hkb'; subst hkb'
          simp at hv
          have hkv := coerceT hr.obj hi hxa
          have hvv := coerceT hr.obj hx hxb
          rw [hem.1] at hkv
          rw [hem.2] at hvv
          have hkv' : ValOf k.isAgg (RepC w G.fz k xa.1) (a.eval i) := hkv.mono fun cs hc => fzV_nil hc
          have hvv' : ValOf v'.isAgg (RepC w G.fz v' xb.1) (a.eval x) := hvv.mono fun cs hc => fzV_nil hc
          have hck := checkKey_spec (P := P) k tk xa.1 (a.eval i) w w _ 10000 false hk1 hk2 hk3 hkv'
          have hfind := find_spec (P := P) hk1 hk2 hk3 hkv' l es.toList hall
          have hcw := eqOk_cw k tk hk2
          have hg : (getObj b).run P w = .ok (.map es cl) w := by simp [getObj, Sem.run, hb]
          have hset : ∀ o', (setObj b o').run P w = .ok () { w with heap := w.heap.setIfInBounds b o' } := by
            intro o'; simp [setObj, Sem.run, hb]
          -- the new entries
          have hnew : ∃ es' cl', (Instr.mapUpdate t (a.eval m) (a.eval i) (a.eval x)).run P w = .ok () { w with heap := w.heap.setIfInBounds b (.map es' cl') } ∧ AllR (Ent w G.fz k v') (mput k l xa.1 xb.1) es'.toList := by
            rw [mput_find]
            cases hmf : mfind k l xa.1 with
            | none =>
              refine ⟨es.push { key := a.eval i, val := a.eval x, born := cl }, cl + 1, ?_, ?_⟩
              · unfold Instr.mapUpdate
                simp only [Sem.run_bind, run_underlying hu, Result.andThen_ok, hv, hg, hck, hfind, hmf, Option.bind_none, hset]
              · rw [Array.toList_push]; exact allR_snoc ⟨hkv', hvv'⟩ l es.toList hall
            | some j =>
              obtain ⟨p, hp, hbq⟩ := mfind_lt k l xa.1 j hmf
              obtain ⟨e, he1, he2⟩ := allR_get l es.toList hall j p hp
              have hpe : xa.1 = p.1 := (cw_beq k _ _ hcw).1 hbq
              have hke : e.key = a.eval i := valOf_unique hcw (by rw [hpe]; exact he2.1) hkv'
              have hsb := sameBits_refl hcw hkv'
              have he1' : es[j]? = some e := by rw [← Array.getElem?_toList]; exact he1
              refine ⟨es.modify j fun e => { e with key := a.eval i, val := a.eval x }, cl, ?_, ?_⟩
              · unfold Instr.mapUpdate
                simp only [Sem.run_bind, run_underlying hu, Result.andThen_ok, hv, hg, hck, hfind, hmf, Option.bind_some, he1, Option.map_some, he1', Option.getD_some, hke, Instr.keyThatStays, hsb, if_true, Sem.run_pure, hset]
              · have : (es.modify j fun e => { e with key := a.eval i, val := a.eval x }).toList = es.toList.set j { e with key := a.eval i, val := a.eval x } := by
                  apply List.ext_getElem?
                  intro q
                  rw [Array.getElem?_toList, Array.getElem?_modify]
                  by_cases hq : j = q
                  · subst hq
                    rw [if_pos rfl, he1', List.getElem?_set_self (getElem?_lt he1)]; rfl
                  · rw [if_neg hq, List.getElem?_set_ne hq, Array.getElem?_toList]
                rw [this]
                exact allR_set ⟨hkv', hvv'⟩ l es.toList j hall
          obtain ⟨es', cl', hrun, hall'⟩ := hnew
          have hlt : b < w.heap.size := by
            rcases Nat.lt_or_ge b w.heap.size with hh | hh
            · exact hh
            · simp [Array.getElem?_eq_none hh] at hb
          have hext : Ext G w G { w with heap := w.heap.setIfInBounds b (.map es' cl') } :=
            ⟨rfl, rfl, rfl, by simp, fun _ _ h => h, fun _ _ _ _ h => h, fun k hk ho => ⟨heap_setObj (by rintro rfl; exact ho _ hob), rfl⟩⟩
          refine wp_skp (w' := { w with heap := w.heap.setIfInBounds b (.map es' cl') }) ?_ (hn _ _ G ⟨hext, trivial, fun j => ?_, hr.wf, fun j k hk => .inl hk⟩)
          · simp [execOp, h, hrun]
          · simp only [upds]
            by_cases hj : j = id
            · subst hj; rw [upd_same]
              refine ⟨b, hkb, hob, es', cl', by simp [hlt], hall'.mono fun p e hh => ⟨hh.1.mono fun cs hc => hext.repC hc, hh.2.mono fun cs hc => hext.repC hc⟩⟩
            · rw [upd_other _ _ hj]
              refine RepO.frame hext (fun _ _ => rfl) (fun b' r' hb' ho' => ⟨heap_setObj ?_, rfl⟩) (hr.obj j)
              rintro rfl
              rw [hob] at ho'; simp at ho'; exact hj ho'.1.symm
        · simp [M.ev] at he
      · simp [M.ev] at he
    · simp [M.ev] at he
  · simp [M.ev] at he

end
end Go.Fw
namespace Go.Fw
open Go

/-! ### A template's objects among the state's -/
def invM : List (Nat × Src) → Nat → Option Nat
  | [], _ => none
  | (j, .obj id' _) :: r, id => if id' = id then some j else invM r id
  | (_, .nil) :: r, id => invM r id

def shiftK (win : Option (Nat × Nat)) : Kd → Option Kd
  | .row e len b off c => some (.row e (winNum len win) b (off + winOff win * e.size) (c - winOff win))
  | k => if win = none then some k else none

def nilK : Option OSlot → Option Kd
  | some (.row e) => some (.row e 0 0 0 0)
  | some (.row2 e) => some (.row2 e 0 0 0 0)
  | _ => none

def Gh.sel (G : Gh) (objs : Nat → AObj) (m : Mt) (slots : List OSlot) : Gh where
  ow := fun b => match G.ow b with
    | .own (id :: r) => match invM m.map id with
      | some j => .own (j :: r)
      | none => if id ∈ m.views then .frz else .out
    | .own [] => .out
    | .frz => .frz
    | .out => .out
  kd := fun j => if j < slots.length then (match look m.map j with
    | some (.obj id win) => (G.kd id).bind (shiftK win)
    | some .nil => nilK slots[j]?
    | none => none) else none
  nd := fun j g i => if g = 0 ∧ j < slots.length then (match look m.map j with
    | some (.obj id _) => (match objs id with
      | .row2 _ _ gg _ => G.nd id gg i
      | _ => none)
    | _ => none) else none

/-- the map names each object once, each place once -/
structure Mt.Good (m : Mt) : Prop where
  keys : ∀ j s r, (j, s) :: r <:+ m.map → look r j = none
  ids : distinct m.ids = true

theorem distinct_nodup : ∀ (l : List Nat), distinct l = true → l.Nodup
  | [], _ => List.nodup_nil
  | a :: r, h => by
    simp only [distinct, Bool.and_eq_true, Bool.not_eq_true', ← Bool.not_eq_true] at h
    rw [List.nodup_cons]
    exact ⟨by simpa using h.1, distinct_nodup r h.2⟩

def idsOf (l : List (Nat × Src)) : List Nat := l.filterMap fun p => match p.2 with | .obj id _ => some id | .nil => none

theorem invM_mem : ∀ (l : List (Nat × Src)) (id j : Nat), invM l id = some j → id ∈ idsOf l
  | [], _, _, h => by simp [invM] at h
  | (k, .obj id' w) :: r, id, j, h => by
    simp only [invM] at h
    split at h
    · rename_i he; subst he; simp [idsOf]
    · have := invM_mem r id j h
      simp only [idsOf, List.filterMap_cons]; exact List.mem_cons_of_mem _ this
  | (k, .nil) :: r, id, j, h => by
    simp only [invM] at h
    have := invM_mem r id j h
    simpa [idsOf] using this

theorem invM_none : ∀ (l : List (Nat × Src)) (id : Nat), invM l id = none → id ∉ idsOf l
  | [], _, _ => by simp [idsOf]
  | (k, .obj id' w) :: r, id, h => by
    simp only [invM] at h
    split at h
    · simp at h
    · rename_i hne
      have := invM_none r id h
      simp only [idsOf, List.filterMap_cons, List.mem_cons, not_or]
      exact ⟨fun h => hne h.symm, this⟩
  | (k, .nil) :: r, id, h => by
    simp only [invM] at h
    simpa [idsOf] using invM_none r id h

theorem look_mem {α : Type} : ∀ (l : List (Nat × α)) (j : Nat) (s : α), look l j = some s → (j, s) ∈ l
  | [], _, _, h => by simp [look] at h
  | (k, v) :: r, j, s, h => by
    simp only [look] at h
    split at h
    · rename_i he; subst he; simp at h; subst h; simp
    · exact List.mem_cons_of_mem _ (look_mem r j s h)

theorem invM_look : ∀ (l : List (Nat × Src)), (idsOf l).Nodup → ∀ (j id : Nat) (win : Option (Nat × Nat)), (j, Src.obj id win) ∈ l → invM l id = some j
  | [], _, _, _, _, h => by simp at h
  | (k, .obj id' w) :: r, hn, j, id, win, h => by
    simp only [idsOf, List.filterMap_cons, List.nodup_cons] at hn
    simp only [invM]
    rcases List.mem_cons.1 h with h | h
    · simp at h; obtain ⟨rfl, rfl, rfl⟩ := h; simp
    · have hne : id' ≠ id := by
        rintro rfl
        exact hn.1 (List.mem_filterMap.2 ⟨_, h, rfl⟩)
      rw [if_neg hne]
      exact invM_look r hn.2 j id win h
  | (k, .nil) :: r, hn, j, id, win, h => by
    simp only [invM]
    rcases List.mem_cons.1 h with h | h
    · simp at h
    · exact invM_look r (by simpa [idsOf] using hn) j id win h

/-- what a match only adds to -/
structure Mt.le (m m' : Mt) : Prop where
  map : ∀ j s, look m.map j = some s → look m'.map j = some s
  views : ∀ v, v ∈ m.views → v ∈ m'.views

theorem Mt.le.refl (m : Mt) : m.le m := ⟨fun _ _ h => h, fun _ h => h⟩
theorem Mt.le.trans {a b c : Mt} (h : a.le b) (k : b.le c) : a.le c := ⟨fun j s hj => k.map j s (h.map j s hj), fun v hv => k.views v (h.views v hv)⟩

theorem bind_spec {objs : Nat → AObj} {m m' : Mt} {i : Nat} {s : Src} (h : (m.bind i s).ev objs = some m') : m.le m' ∧ look m'.map i = some s ∧ m'.views = m.views := by
  unfold Mt.bind at h
  split at h
  · rename_i hl
    injection (show some _ = some m' from h) with h; subst h
    refine ⟨⟨fun j s' hj => ?_, fun v hv => hv⟩, by simp [look], rfl⟩
    simp only [look]
    split
    · rename_i he; subst he; rw [hl] at hj; simp at hj
    · exact hj
  · rename_i a hl
    split at h
    · rename_i b
      split at h
      · rename_i he; subst he
        injection (show some _ = some m' from h) with h; subst h
        exact ⟨Mt.le.refl m, hl, rfl⟩
      · simp [M.ev] at h
    · simp [M.ev] at h
  · rename_i hl
    split at h
    · injection (show some _ = some m' from h) with h; subst h
      exact ⟨Mt.le.refl m, hl, rfl⟩
    · simp [M.ev] at h
  · simp [M.ev] at h

section
variable {G : Gh} {w : World} {objs : Nat → AObj}

/-- the match is right for a ghost -/
structure Fits (G : Gh) (objs : Nat → AObj) (m : Mt) (G0 : Gh) : Prop where
  obj : ∀ j id win, look m.map j = some (.obj id win) → ∀ k, G.kd id = some k → ∀ k', shiftK win k = some k' → G0.kd j = some k'
  frz : ∀ b, G.ow b = .frz → G0.ow b = .frz
  view : ∀ b id r, id ∈ m.views → G.ow b = .own (id :: r) → G0.ow b = .frz
  win : ∀ j id win, look m.map j = some (.obj id win) → ∀ k, G.kd id = some k → ∃ k', shiftK win k = some k'

theorem hdr_shift {sz len b off c : Nat} {win : Option (Nat × Nat)} {v : Value} (h : HdrIs sz len b off c win v) : HdrIs sz (winNum len win) b (off + winOff win * sz) (c - winOff win) none v := by
  obtain ⟨ad, rfl, h1, h2, h3, h4⟩ := h
  refine ⟨ad, by simp [winNum, winOff], by simp [winNum, winOff], by omega, by simp only [maxL] at *; omega, fun hc => ?_⟩
  have hc' : 0 < c - winOff win := hc
  rw [h4 (by omega)]; simp [winOff]

theorem fits_fzV {m : Mt} {G0 : Gh} (hf : Fits G objs m G0) {ids : List Nat} (hi : ∀ v ∈ ids, v ∈ m.views) : ∀ b, G.fzV ids b → G0.fz b := by
  rintro b (hb | ⟨id, r, hm, hb⟩)
  · exact hf.frz b hb
  · exact hf.view b id r (hi id hm) hb

theorem shiftK_none (k : Kd) : shiftK none k = some k := by
  cases k <;> simp [shiftK, winNum, winOff]

theorem getA_le : ∀ (t : TA) (a : AVal) (m : Mt) (x : t.X) (m' : Mt), (getA t a m).ev objs = some (x, m') → m.le m'
  | .opq, a, m, x, m', h => by
    simp only [getA] at h
    split at h
    · injection (show some _ = some (x, m') from h) with h; injection h with _ h; subst h; exact Mt.le.refl _
    · simp [M.ev] at h
  | .v t, a, m, x, m', h => by
    simp only [getA] at h
    obtain ⟨r, _, h⟩ := ev_some h
    injection (show some _ = some (x, m') from h) with h; injection h with _ h; subst h
    exact ⟨fun j s hj => hj, fun v hv => List.mem_append_right _ hv⟩
  | .href i, a, m, x, m', h => by
    simp only [getA] at h
    split at h
    · obtain ⟨q, hq, h⟩ := ev_some h
      injection (show some _ = some (x, m') from h) with h; injection h with _ h; subst h
      exact (bind_spec hq).1
    · obtain ⟨q, hq, h⟩ := ev_some h
      injection (show some _ = some (x, m') from h) with h; injection h with _ h; subst h
      exact (bind_spec hq).1
    · simp [M.ev] at h
  | .ref i t, a, m, x, m', h => by
    simp only [getA] at h
    split at h
    · split at h
      · obtain ⟨q, hq, h⟩ := ev_some h
        injection (show some _ = some (x, m') from h) with h; injection h with _ h; subst h
        exact (bind_spec hq).1
      · simp [M.ev] at h
    · simp [M.ev] at h
  | .mref i, a, m, x, m', h => by
    simp only [getA] at h
    split at h
    · obtain ⟨q, hq, h⟩ := ev_some h
      injection (show some _ = some (x, m') from h) with h; injection h with _ h; subst h
      exact (bind_spec hq).1
    · simp [M.ev] at h
  | .cons a b, z, m, x, m', h => by
    simp only [getA] at h
    split at h
    · obtain ⟨r, h1, h⟩ := ev_some h
      obtain ⟨q, h2, h⟩ := ev_some h
      injection (show some _ = some (x, m') from h) with h; injection h with _ h; subst h
      exact (getA_le a _ _ _ _ h1).trans (getA_le b _ _ _ _ h2)
    · obtain ⟨r, h1, h⟩ := ev_some h
      obtain ⟨q, h2, h⟩ := ev_some h
      injection (show some _ = some (x, m') from h) with h; injection h with _ h; subst h
      exact (getA_le a _ _ _ _ h1).trans (getA_le b _ _ _ _ h2)
    · simp [M.ev] at h
  | .nil, z, m, x, m', h => by
    simp only [getA] at h
    split at h
    · injection (show some _ = some (x, m') from h) with h; injection h with _ h; subst h; exact Mt.le.refl _
    · injection (show some _ = some (x, m') from h) with h; injection h with _ h; subst h; exact Mt.le.refl _
    · simp [M.ev] at h
  | .tup l, z, m, x, m', h => by
    simp only [getA] at h
    split at h
    · split at h
      · exact getA_le l _ _ _ _ h
      · simp [M.ev] at h
    · simp [M.ev] at h
  | .clo f c, z, m, x, m', h => by
    simp only [getA] at h
    split at h
    · split at h
      · exact getA_le c _ _ _ _ h
      · simp [M.ev] at h
    · simp [M.ev] at h

theorem getA_agg : ∀ (t : TA) (a : AVal) (m : Mt) (x : t.X) (m' : Mt) (ids : Nat → Nat), (getA t a m).ev objs = some (x, m') → a.isAgg = (t.mk ids x).isAgg ∧ a ≠ .none ∧ ((∃ l, a = .tup l) ↔ ∃ l, t = .tup l)
  | .opq, a, m, x, m', ids, h => by
    simp only [getA] at h
    split at h
    · rename_i hs
      cases a <;> simp [AVal.shape] at hs <;> simp [TA.mk, AVal.isAgg]
      subst hs; rfl
    · simp [M.ev] at h
  | .v t, a, m, x, m', ids, h => by
    simp only [getA] at h
    obtain ⟨r, h1, h⟩ := ev_some h
    have := coerce_agg h1
    refine ⟨by rw [this.1]; rfl, this.2.1, ⟨fun ⟨l, hl⟩ => absurd hl (this.2.2 l), fun ⟨l, hl⟩ => by simp at hl⟩⟩
  | .href i, a, m, x, m', ids, h => by
    simp only [getA] at h
    split at h <;> first | (simp [TA.mk, AVal.isAgg]; done) | (simp [M.ev] at h; done)
  | .ref i t, a, m, x, m', ids, h => by
    simp only [getA] at h
    split at h <;> first | (simp [TA.mk, AVal.isAgg]; done) | (simp [M.ev] at h; done)
  | .mref i, a, m, x, m', ids, h => by
    simp only [getA] at h
    split at h <;> first | (simp [TA.mk, AVal.isAgg]; done) | (simp [M.ev] at h; done)
  | .cons a b, z, m, x, m', ids, h => by
    simp only [getA] at h
    split at h <;> first | (simp [TA.mk, AVal.isAgg, GTy.isAgg]; done) | (simp [M.ev] at h; done)
  | .nil, z, m, x, m', ids, h => by
    simp only [getA] at h
    split at h <;> first | (simp [TA.mk, AVal.isAgg, GTy.isAgg]; done) | (simp [M.ev] at h; done)
  | .tup l, z, m, x, m', ids, h => by
    simp only [getA] at h
    split at h <;> first | (simp [TA.mk, AVal.isAgg]; done) | (simp [M.ev] at h; done)
  | .clo f c, z, m, x, m', ids, h => by
    simp only [getA] at h
    split at h <;> first | (simp [TA.mk, AVal.isAgg]; done) | (simp [M.ev] at h; done)

theorem getA_spec (ho : ∀ id, RepO G w id (objs id)) {mf : Mt} {G0 : Gh} (hf : Fits G objs mf G0) (hnil : ∀ j, look mf.map j = some .nil → ∃ e, G0.kd j = some (.row e 0 0 0 0) ∨ G0.kd j = some (.row2 e 0 0 0 0)) :
    ∀ (t : TA) (a : AVal) (m : Mt) (x : t.X) (m' : Mt) (md : Bool) (cs : List Value), (md = true → t.isList = true) → (getA t a m).ev objs = some (x, m') → m'.le mf → RepG G w a md cs → RepG G0 w (t.mk id x) md cs
  | .opq, a, m, x, m', md, cs, hli, h, hle, hr => by
    simp only [getA] at h
    split at h
    · rename_i hs
      have hmd : md = false := by cases a <;> simp [AVal.shape] at hs <;> exact hr.1
      subst hmd
      have := shape_len .opq a cs hs hr
      match cs, this.1 with
      | [v], _ => exact ⟨rfl, v, rfl, this.2.1 v (by simp)⟩
    · simp [M.ev] at h
  | .v t, a, m, x, m', md, cs, hli, h, hle, hr => by
    simp only [getA] at h
    obtain ⟨r, h1, h⟩ := ev_some h
    injection (show some _ = some (x, m') from h) with h; injection h with h h'; subst h; subst h'
    cases md with
    | false => exact ⟨rfl, (coerce_spec ho t a r.1 r.2 cs hr h1).more (fits_fzV hf fun v hv => hle.views v (List.mem_append_left _ hv))⟩
    | true => simp [TA.isList] at hli
  | .href i, a, m, x, m', md, cs, hli, h, hle, hr => by
    simp only [getA] at h
    split at h
    · rename_i id win
      obtain ⟨q, hq, h⟩ := ev_some h
      injection (show some _ = some (x, m') from h) with h; injection h with _ h; subst h
      have hl := hle.map _ _ (bind_spec hq).2.1
      obtain ⟨hmd, v, rfl, hh⟩ := hr
      refine ⟨hmd, v, rfl, ?_⟩
      rcases hh with ⟨e, len, b, off, c, hk, hh⟩ | ⟨e, len, b, off, c, hk, hh⟩
      · exact .inl ⟨e, _, b, _, _, hf.obj i id win hl _ hk _ rfl, hdr_shift hh⟩
      · cases win with
        | none => exact .inr ⟨e, len, b, off, c, hf.obj i id none hl _ hk _ (shiftK_none _), hh⟩
        | some p => obtain ⟨k', hk'⟩ := hf.win i id (some p) hl _ hk; simp [shiftK] at hk'
    · obtain ⟨q, hq, h⟩ := ev_some h
      injection (show some _ = some (x, m') from h) with h; injection h with _ h; subst h
      have hl := hle.map _ _ (bind_spec hq).2.1
      obtain ⟨hmd, rfl⟩ := hr
      refine ⟨hmd, _, rfl, ?_⟩
      obtain ⟨e, hk | hk⟩ := hnil i hl
      · exact .inl ⟨e, 0, 0, 0, 0, hk, none, rfl, Nat.le_refl _, Nat.le_refl _, Nat.zero_le _, fun h => absurd h (Nat.lt_irrefl 0)⟩
      · exact .inr ⟨e, 0, 0, 0, 0, hk, none, rfl, Nat.le_refl _, Nat.le_refl _, Nat.zero_le _, fun h => absurd h (Nat.lt_irrefl 0)⟩
    · simp [M.ev] at h
  | .ref i t, a, m, x, m', md, cs, hli, h, hle, hr => by
    simp only [getA] at h
    split at h
    · rename_i id t'
      split at h
      · rename_i ht; subst ht
        obtain ⟨q, hq, h⟩ := ev_some h
        injection (show some _ = some (x, m') from h) with h; injection h with _ h; subst h
        have hl := hle.map _ _ (bind_spec hq).2.1
        obtain ⟨hmd, t0, b, hk, htt, rfl⟩ := hr
        exact ⟨hmd, t0, b, hf.obj i id none hl _ hk _ (shiftK_none _), htt, rfl⟩
      · simp [M.ev] at h
    · simp [M.ev] at h
  | .mref i, a, m, x, m', md, cs, hli, h, hle, hr => by
    simp only [getA] at h
    split at h
    · rename_i id
      obtain ⟨q, hq, h⟩ := ev_some h
      injection (show some _ = some (x, m') from h) with h; injection h with _ h; subst h
      have hl := hle.map _ _ (bind_spec hq).2.1
      obtain ⟨hmd, b, hk, rfl⟩ := hr
      exact ⟨hmd, b, hf.obj i id none hl _ hk _ (shiftK_none _), rfl⟩
    · simp [M.ev] at h
  | .cons a b, z, m, x, m', md, cs, hli, h, hle, hr => by
    simp only [getA] at h
    split at h
    · obtain ⟨r, h1, h⟩ := ev_some h
      obtain ⟨q, h2, h⟩ := ev_some h
      injection (show some _ = some (x, m') from h) with h; injection h with h h'; subst h; subst h'
      have hl1 := (getA_le b _ _ _ _ h2).trans hle
      cases md with
      | false =>
        obtain ⟨c1, c2, rfl, hc1, hc2⟩ := hr
        exact ⟨c1, c2, rfl, getA_spec ho hf hnil a _ _ _ _ _ _ (by simp) h1 hl1 hc1, getA_spec ho hf hnil b _ _ _ _ _ _ (by simp) h2 hle hc2⟩
      | true =>
        obtain ⟨v, vs, rfl, hc1, hc2⟩ := hr
        refine ⟨v, vs, rfl, ?_, getA_spec ho hf hnil b _ _ _ _ _ _ (fun h => by simpa [TA.isList] using hli h) h2 hle hc2⟩
        rw [← (getA_agg a _ _ _ _ id h1).1]
        exact hc1.mono fun cs hcs => getA_spec ho hf hnil a _ _ _ _ _ _ (by simp) h1 hl1 hcs
    · rename_i s t y
      obtain ⟨r, h1, h⟩ := ev_some h
      obtain ⟨q, h2, h⟩ := ev_some h
      injection (show some _ = some (x, m') from h) with h; injection h with h h'; subst h; subst h'
      have hl1 := (getA_le b _ _ _ _ h2).trans hle
      obtain ⟨rfl, c1, c2, rfl, hc1, hc2⟩ := hr
      exact ⟨c1, c2, rfl, getA_spec ho hf hnil a _ _ _ _ _ _ (by simp) h1 hl1 ⟨rfl, hc1⟩, getA_spec ho hf hnil b _ _ _ _ _ _ (by simp) h2 hle ⟨rfl, hc2⟩⟩
    · simp [M.ev] at h
  | .nil, z, m, x, m', md, cs, hli, h, hle, hr => by
    simp only [getA] at h
    split at h
    · exact hr
    · exact hr.2
    · simp [M.ev] at h
  | .tup l, z, m, x, m', md, cs, hli, h, hle, hr => by
    simp only [getA] at h
    split at h
    · exact hr.elim
    · simp [M.ev] at h
  | .clo f c, z, m, x, m', md, cs, hli, h, hle, hr => by
    simp only [getA] at h
    split at h
    · split at h
      · rename_i hf'
        obtain ⟨rfl, hcl⟩ := hf'
        obtain ⟨hmd, vals, rfl, hv⟩ := hr
        exact ⟨hmd, vals, rfl, getA_spec ho hf hnil c _ _ _ _ _ _ (fun _ => hcl) h hle hv⟩
      · simp [M.ev] at h
    · simp [M.ev] at h

end
end Go.Fw
namespace Go.Fw
open Go

section
variable {G : Gh} {w : World} {objs : Nat → AObj}

/-- windows lie within their rows -/
def WOK (G : Gh) (m : Mt) : Prop := ∀ j id win, look m.map j = some (.obj id win) → ∀ e len b off c, G.kd id = some (.row e len b off c) → winOff win + winNum len win ≤ len

theorem wok_bind {m m' : Mt} {i : Nat} {s : Src} (hm : WOK G m) (hs : ∀ id win, s = .obj id win → ∀ e len b off c, G.kd id = some (.row e len b off c) → winOff win + winNum len win ≤ len) (h : (m.bind i s).ev objs = some m') : WOK G m' := by
  unfold Mt.bind at h
  split at h
  · injection (show some _ = some m' from h) with h; subst h
    intro j id win hj
    simp only [look] at hj
    split at hj
    · injection hj with hj; exact hs id win hj
    · exact hm j id win hj
  · split at h
    · split at h
      · injection (show some _ = some m' from h) with h; subst h; exact hm
      · simp [M.ev] at h
    · simp [M.ev] at h
  · split at h
    · injection (show some _ = some m' from h) with h; subst h; exact hm
    · simp [M.ev] at h
  · simp [M.ev] at h

theorem wok_none {id : Nat} : ∀ id' win, Src.obj id none = .obj id' win → ∀ e len b off c, G.kd id' = some (.row e len b off c) → winOff win + winNum len win ≤ len := by
  intro id' win h e len b off c _
  injection h with _ h; subst h
  simp [winOff, winNum]

theorem wok_views {m : Mt} (v : List Nat) (h : WOK G m) : WOK G { m with views := v } := h

theorem wok_getA : ∀ (t : TA) (a : AVal) (m : Mt) (x : t.X) (m' : Mt) (md : Bool) (cs : List Value), (getA t a m).ev objs = some (x, m') → RepG G w a md cs → WOK G m → WOK G m'
  | .opq, a, m, x, m', md, cs, h, hr, hm => by
    simp only [getA] at h
    split at h
    · injection (show some _ = some (x, m') from h) with h; injection h with _ h; subst h; exact hm
    · simp [M.ev] at h
  | .v t, a, m, x, m', md, cs, h, hr, hm => by
    simp only [getA] at h
    obtain ⟨r, _, h⟩ := ev_some h
    injection (show some _ = some (x, m') from h) with h; injection h with _ h; subst h
    exact hm
  | .href i, a, m, x, m', md, cs, h, hr, hm => by
    simp only [getA] at h
    split at h
    · rename_i id win
      obtain ⟨q, hq, h⟩ := ev_some h
      injection (show some _ = some (x, m') from h) with h; injection h with _ h; subst h
      refine wok_bind hm ?_ hq
      intro id' win' he e len b off c hk
      injection he with he1 he2; subst he1; subst he2
      obtain ⟨_, v, _, hh⟩ := hr
      rcases hh with ⟨e2, len2, b2, off2, c2, hk2, ⟨_, _, h1, _⟩⟩ | ⟨e2, len2, b2, off2, c2, hk2, _⟩
      · rw [hk] at hk2; simp at hk2; obtain ⟨rfl, rfl, rfl, rfl, rfl⟩ := hk2; exact h1
      · rw [hk] at hk2; simp at hk2
    · obtain ⟨q, hq, h⟩ := ev_some h
      injection (show some _ = some (x, m') from h) with h; injection h with _ h; subst h
      exact wok_bind hm (fun _ _ h => by simp at h) hq
    · simp [M.ev] at h
  | .ref i t, a, m, x, m', md, cs, h, hr, hm => by
    simp only [getA] at h
    split at h
    · split at h
      · obtain ⟨q, hq, h⟩ := ev_some h
        injection (show some _ = some (x, m') from h) with h; injection h with _ h; subst h
        exact wok_bind hm wok_none hq
      · simp [M.ev] at h
    · simp [M.ev] at h
  | .mref i, a, m, x, m', md, cs, h, hr, hm => by
    simp only [getA] at h
    split at h
    · obtain ⟨q, hq, h⟩ := ev_some h
      injection (show some _ = some (x, m') from h) with h; injection h with _ h; subst h
      exact wok_bind hm wok_none hq
    · simp [M.ev] at h
  | .cons a b, z, m, x, m', md, cs, h, hr, hm => by
    simp only [getA] at h
    split at h
    · rename_i p q
      obtain ⟨r1, h1, h⟩ := ev_some h
      obtain ⟨r2, h2, h⟩ := ev_some h
      injection (show some _ = some (x, m') from h) with h; injection h with _ h; subst h
      cases md with
      | false =>
        obtain ⟨c1, c2, rfl, hc1, hc2⟩ := hr
        exact wok_getA b _ _ _ _ _ _ h2 hc2 (wok_getA a _ _ _ _ _ _ h1 hc1 hm)
      | true =>
        obtain ⟨v, vs, rfl, hc1, hc2⟩ := hr
        refine wok_getA b _ _ _ _ _ _ h2 hc2 ?_
        unfold ValOf at hc1
        split at hc1
        · obtain ⟨cells, _, hc1⟩ := hc1; exact wok_getA a _ _ _ _ _ _ h1 hc1 hm
        · exact wok_getA a _ _ _ _ _ _ h1 hc1 hm
    · obtain ⟨r1, h1, h⟩ := ev_some h
      obtain ⟨r2, h2, h⟩ := ev_some h
      injection (show some _ = some (x, m') from h) with h; injection h with _ h; subst h
      obtain ⟨rfl, c1, c2, rfl, hc1, hc2⟩ := hr
      exact wok_getA b _ _ _ _ false _ h2 ⟨rfl, hc2⟩ (wok_getA a _ _ _ _ false _ h1 ⟨rfl, hc1⟩ hm)
    · simp [M.ev] at h
  | .nil, z, m, x, m', md, cs, h, hr, hm => by
    simp only [getA] at h
    split at h
    · injection (show some _ = some (x, m') from h) with h; injection h with _ h; subst h; exact hm
    · injection (show some _ = some (x, m') from h) with h; injection h with _ h; subst h; exact hm
    · simp [M.ev] at h
  | .tup l, z, m, x, m', md, cs, h, hr, hm => by
    simp only [getA] at h
    split at h
    · exact hr.elim
    · simp [M.ev] at h
  | .clo f c, z, m, x, m', md, cs, h, hr, hm => by
    simp only [getA] at h
    split at h
    · split at h
      · obtain ⟨_, vals, _, hv⟩ := hr
        exact wok_getA c _ _ _ _ _ _ h hv hm
      · simp [M.ev] at h
    · simp [M.ev] at h

theorem wok_getO {id : Nat} : ∀ (t : OSlot) (o : AObj) (win : Option (Nat × Nat)) (m : Mt) (x : t.X) (m' : Mt), (getO t o win m).ev objs = some (x, m') → RepO G w id o → WOK G m → WOK G m'
  | .dead, o, win, m, x, m', h, _, _ => by simp [getO, M.ev] at h
  | .box g t, o, win, m, x, m', h, hr, hm => by
    simp only [getO] at h
    split at h
    · split at h
      · obtain ⟨r, h1, h⟩ := ev_some h
        split at h
        · injection (show some _ = some (x, m') from h) with h; subst h
          obtain ⟨b, cs, _, _, _, hrep, _⟩ := hr
          exact wok_getA t _ _ _ _ false cs h1 hrep hm
        · simp [M.ev] at h
      · simp [M.ev] at h
    · simp [M.ev] at h
  | .row e, o, win, m, x, m', h, hr, hm => by
    simp only [getO] at h
    split at h
    · split at h
      · injection (show some _ = some (x, m') from h) with h; injection h with _ h; subst h; exact hm
      · simp [M.ev] at h
    · simp [M.ev] at h
  | .row2 e, o, win, m, x, m', h, hr, hm => by
    simp only [getO] at h
    split at h
    · split at h
      · injection (show some _ = some (x, m') from h) with h; injection h with _ h; subst h; exact hm
      · simp [M.ev] at h
    · simp [M.ev] at h
  | .map k v, o, win, m, x, m', h, hr, hm => by
    simp only [getO] at h
    split at h
    · split at h
      · injection (show some _ = some (x, m') from h) with h; injection h with _ h; subst h; exact hm
      · simp [M.ev] at h
    · simp [M.ev] at h

structure FitO (G : Gh) (objs : Nat → AObj) (m : Mt) (G0 : Gh) : Prop extends Fits G objs m G0 where
  ow : ∀ j id win, look m.map j = some (.obj id win) → ∀ b r, G.ow b = .own (id :: r) → G0.ow b = .own (j :: r)
  nd : ∀ j id win e l g h, look m.map j = some (.obj id win) → objs id = .row2 e l g h → ∀ i, G0.nd j 0 i = G.nd id g i
  nd0 : ∀ j g i, 0 < g → G0.nd j g i = none
  wok : WOK G m

theorem getO_le : ∀ (t : OSlot) (o : AObj) (win : Option (Nat × Nat)) (m : Mt) (x : t.X) (m' : Mt), (getO t o win m).ev objs = some (x, m') → m.le m'
  | .dead, o, win, m, x, m', h => by simp [getO, M.ev] at h
  | .box g t, o, win, m, x, m', h => by
    simp only [getO] at h
    split at h
    · split at h
      · obtain ⟨r, h1, h⟩ := ev_some h
        split at h
        · injection (show some _ = some (x, m') from h) with h; subst h
          exact getA_le t _ _ _ _ h1
        · simp [M.ev] at h
      · simp [M.ev] at h
    · simp [M.ev] at h
  | .row e, o, win, m, x, m', h => by
    simp only [getO] at h
    split at h
    · split at h
      · injection (show some _ = some (x, m') from h) with h; injection h with _ h; subst h; exact Mt.le.refl _
      · simp [M.ev] at h
    · simp [M.ev] at h
  | .row2 e, o, win, m, x, m', h => by
    simp only [getO] at h
    split at h
    · split at h
      · injection (show some _ = some (x, m') from h) with h; injection h with _ h; subst h; exact Mt.le.refl _
      · simp [M.ev] at h
    · simp [M.ev] at h
  | .map k v, o, win, m, x, m', h => by
    simp only [getO] at h
    split at h
    · split at h
      · injection (show some _ = some (x, m') from h) with h; injection h with _ h; subst h; exact Mt.le.refl _
      · simp [M.ev] at h
    · simp [M.ev] at h

theorem getO_win {id : Nat} : ∀ (t : OSlot) (o : AObj) (win : Option (Nat × Nat)) (m : Mt) (x : t.X) (m' : Mt), (getO t o win m).ev objs = some (x, m') → RepO G w id o → ∀ k, G.kd id = some k → ∃ k', shiftK win k = some k'
  | .dead, o, win, m, x, m', h, _ => by simp [getO, M.ev] at h
  | .box g t, o, win, m, x, m', h, _ => by
    simp only [getO] at h
    split at h
    · exact fun k _ => ⟨_, shiftK_none k⟩
    · simp [M.ev] at h
  | .row e, o, win, m, x, m', h, hr => by
    simp only [getO] at h
    split at h
    · obtain ⟨b, off, c, hk, _⟩ := hr
      intro k hk'
      rw [hk] at hk'; simp at hk'; subst hk'
      exact ⟨_, rfl⟩
    · simp [M.ev] at h
  | .row2 e, o, win, m, x, m', h, _ => by
    simp only [getO] at h
    split at h
    · exact fun k _ => ⟨_, shiftK_none k⟩
    · simp [M.ev] at h
  | .map k v, o, win, m, x, m', h, _ => by
    simp only [getO] at h
    split at h
    · exact fun k _ => ⟨_, shiftK_none k⟩
    · simp [M.ev] at h

theorem ownB_sel {mf : Mt} {G0 : Gh} (hf : FitO G objs mf G0) {j id b n : Nat} {r : List Nat} {win : Option (Nat × Nat)} (hl : look mf.map j = some (.obj id win)) (h : OwnB G w b (id :: r) n) : OwnB G0 w b (j :: r) n :=
  ⟨hf.ow j id win hl b r h.1, h.2⟩

theorem getO_spec (ho : ∀ id, RepO G w id (objs id)) {mf : Mt} {G0 : Gh} (hf : FitO G objs mf G0) (hnil : ∀ j, look mf.map j = some .nil → ∃ e, G0.kd j = some (.row e 0 0 0 0) ∨ G0.kd j = some (.row2 e 0 0 0 0)) {j id : Nat} {win : Option (Nat × Nat)} (hl : look mf.map j = some (.obj id win)) :
    ∀ (t : OSlot) (m : Mt) (x : t.X) (m' : Mt), (getO t (objs id) win m).ev objs = some (x, m') → m'.le mf → RepO G0 w j (t.mk _root_.id x)
  | .dead, m, x, m', h, hle => by simp [getO, M.ev] at h
  | .box g t, m, x, m', h, hle => by
    have hr := ho id
    simp only [getO] at h
    split at h
    · rename_i g' a hobj
      rw [hobj] at hr
      split at h
      · rename_i hg; subst hg
        obtain ⟨r, h1, h⟩ := ev_some h
        split at h
        · rename_i hsh
          injection (show some _ = some (x, m') from h) with h; subst h
          obtain ⟨b, cs, hk, hob, hc, hrep, _⟩ := hr
          refine ⟨b, cs, hf.obj j id none hl _ hk _ (shiftK_none _), ownB_sel hf hl hob, hc, getA_spec ho hf.toFits hnil t a m _ _ false cs (by simp) h1 hle hrep, hsh⟩
        · simp [M.ev] at h
      · simp [M.ev] at h
    · simp [M.ev] at h
  | .row e, m, x, m', h, hle => by
    have hr := ho id
    simp only [getO] at h
    split at h
    · rename_i e' l hobj
      rw [hobj] at hr
      split at h
      · rename_i hee; subst hee
        injection (show some _ = some (x, m') from h) with h; injection h with h _; subst h
        obtain ⟨b, off, c, hk, h1, h2, h3⟩ := hr
        have hk0 := hf.obj j id win hl _ hk _ rfl
        have hw := hf.wok j id win hl _ _ _ _ _ hk
        have hvl := view_len l win hw
        refine ⟨b, off + winOff win * e'.size, c - winOff win, by rw [hvl]; exact hk0, by rw [hvl]; omega, by simp only [maxL] at *; omega, fun hc => ?_⟩
        obtain ⟨⟨how, ca, T, hb, hsz⟩, hrow⟩ := h3 (by omega)
        refine ⟨ownB_sel hf hl ⟨how, ca, T, hb, ?_⟩, (hrow.view win).mono rfl fun x cs hx => hx.more hf.frz⟩
        have : (winOff win + (c - winOff win)) * e'.size = c * e'.size := by congr 1; omega
        rw [Nat.add_mul] at this; omega
      · simp [M.ev] at h
    · simp [M.ev] at h
  | .row2 e, m, x, m', h, hle => by
    have hr := ho id
    simp only [getO] at h
    split at h
    · rename_i e' l g hobj
      have hobj' := hobj
      rw [hobj] at hr
      split at h
      · rename_i hee; subst hee
        injection (show some _ = some (x, m') from h) with h; injection h with h _; subst h
        obtain ⟨b, off, c, hk, h1, h2, hgn, h3⟩ := hr
        refine ⟨b, off, c, hf.obj j id none hl _ hk _ (shiftK_none _), h1, h2, fun g' i hg' => hf.nd0 j g' i hg', fun hc => ?_⟩
        obtain ⟨h4, h5⟩ := h3 hc
        refine ⟨ownB_sel hf hl h4, fun i y hy => ?_⟩
        obtain ⟨len, b', off', c', h6, h7, h8⟩ := h5 i y hy
        refine ⟨len, b', off', c', by rw [hf.nd j id none _ _ _ _ hl hobj']; exact h6, h7, fun hh => ?_⟩
        obtain ⟨v, h9, h10, h11⟩ := h8 (by simp)
        refine ⟨v, h9, h10, fun hc' => ?_⟩
        obtain ⟨h12, h13⟩ := h11 hc'
        exact ⟨ownB_sel hf hl h12, h13.mono rfl fun x cs hx => hx.more hf.frz⟩
      · simp [M.ev] at h
    · simp [M.ev] at h
  | .map k v, m, x, m', h, hle => by
    have hr := ho id
    simp only [getO] at h
    split at h
    · rename_i k' v' l hobj
      rw [hobj] at hr
      split at h
      · rename_i hee; obtain ⟨rfl, rfl⟩ := hee
        injection (show some _ = some (x, m') from h) with h; injection h with h _; subst h
        obtain ⟨b, hk, hob, es, cl, hb, hall⟩ := hr
        exact ⟨b, hf.obj j id none hl _ hk _ (shiftK_none _), hf.ow j id none hl b [] hob, es, cl, hb, hall.mono fun p e hh => ⟨hh.1.mono fun cs hc => hc.more hf.frz, hh.2.mono fun cs hc => hc.more hf.frz⟩⟩
      · simp [M.ev] at h
    · simp [M.ev] at h

theorem empty_spec {G0 : Gh} {j : Nat} : ∀ (t : OSlot) (x : t.X), t.empty = some x → G0.kd j = nilK (some t) → (∀ g i, 0 < g → G0.nd j g i = none) → RepO G0 w j (t.mk id x)
  | .dead, _, _, _, _ => trivial
  | .box _ _, _, h, _, _ => by simp [OSlot.empty] at h
  | .row e, x, h, hk, _ => by
    simp [OSlot.empty] at h; subst h
    exact ⟨0, 0, 0, hk, Nat.le_refl _, Nat.zero_le _, fun h => absurd h (Nat.lt_irrefl 0)⟩
  | .row2 e, x, h, hk, hn => by
    simp [OSlot.empty] at h; subst h
    exact ⟨0, 0, 0, hk, Nat.le_refl _, Nat.zero_le _, fun g' i hg => hn g' i hg, fun h => absurd h (Nat.lt_irrefl 0)⟩
  | .map _ _, _, h, _, _ => by simp [OSlot.empty] at h

theorem getSlots_le {f : Nat → AVal} : ∀ (l : List (Nat × TA)) (m : Mt) (x : slotsX l) (m' : Mt), (getSlots f l m).ev objs = some (x, m') → m.le m'
  | [], m, x, m', h => by
    injection (show some _ = some (x, m') from h) with h; injection h with _ h; subst h; exact Mt.le.refl _
  | s :: r, m, x, m', h => by
    simp only [getSlots] at h
    obtain ⟨q, h1, h⟩ := ev_some h
    obtain ⟨y, h2, h⟩ := ev_some h
    injection (show some _ = some (x, m') from h) with h; injection h with _ h; subst h
    exact (getA_le _ _ _ _ _ h1).trans (getSlots_le r _ _ _ h2)

theorem getObjs_le : ∀ (l : List OSlot) (j : Nat) (m : Mt) (x : objsX l) (m' : Mt), (getObjs j l m).ev objs = some (x, m') → m.le m'
  | [], j, m, x, m', h => by
    injection (show some _ = some (x, m') from h) with h; injection h with _ h; subst h; exact Mt.le.refl _
  | s :: r, j, m, x, m', h => by
    simp only [getObjs] at h
    obtain ⟨q, h1, h⟩ := ev_some h
    obtain ⟨y, h2, h⟩ := ev_some h
    injection (show some _ = some (x, m') from h) with h; injection h with _ h; subst h
    have hle1 : m.le q.2 := by
      split at h1
      · simp only [M.ev] at h1
        exact getO_le s _ _ _ _ _ h1
      · split at h1
        · injection (show some _ = some q from h1) with h1; subst h1; exact Mt.le.refl _
        · simp [M.ev] at h1
      · split at h1
        · injection (show some _ = some q from h1) with h1; subst h1; exact Mt.le.refl _
        · simp [M.ev] at h1
    exact hle1.trans (getObjs_le r _ _ _ _ h2)

/-- what getObjs found of each slot -/
theorem getObjs_at : ∀ (l : List OSlot) (j : Nat) (m : Mt) (x : objsX l) (m' : Mt), (getObjs j l m).ev objs = some (x, m') → ∀ (i : Nat) (s : OSlot), l[i]? = some s → ∃ y : s.X, (∀ ids, (objsMk ids j l x)[i]? = some (ids (j + i), s.mk ids y)) ∧
    ((∃ id win m1 m2, look m'.map (j + i) = some (.obj id win) ∧ (getO s (objs id) win m1).ev objs = some (y, m2) ∧ m2.le m') ∨ (look m'.map (j + i) = some .nil ∧ s.empty = some y) ∨ s = .dead)
  | [], j, m, x, m', h, i, s, hs => by simp at hs
  | s0 :: r, j, m, x, m', h, i, s, hs => by
    simp only [getObjs] at h
    obtain ⟨q, h1, h⟩ := ev_some h
    obtain ⟨y, h2, h⟩ := ev_some h
    injection (show some _ = some (x, m') from h) with h; injection h with h h'; subst h; subst h'
    have hle2 := getObjs_le r _ _ _ _ h2
    cases i with
    | zero =>
      simp at hs; subst hs
      refine ⟨q.1, fun ids => rfl, ?_⟩
      split at h1
      · rename_i id win hl
        simp only [M.ev] at h1
        have hle1 := getO_le s0 _ _ _ _ _ h1
        exact .inl ⟨id, win, m, q.2, hle2.map _ _ (hle1.map _ _ hl), h1, hle2⟩
      · rename_i hl
        split at h1
        · rename_i y0 hy0
          injection (show some _ = some q from h1) with h1; subst h1
          exact .inr (.inl ⟨hle2.map _ _ hl, hy0⟩)
        · simp [M.ev] at h1
      · split at h1
        · exact .inr (.inr rfl)
        · simp [M.ev] at h1
    | succ i =>
      simp at hs
      obtain ⟨z, h3, h4⟩ := getObjs_at r (j + 1) _ _ _ h2 i s hs
      refine ⟨z, fun ids => ?_, ?_⟩
      · have := h3 ids
        rw [show j + (i + 1) = j + 1 + i by omega]
        simpa [objsMk] using this
      · rw [show j + (i + 1) = j + 1 + i by omega]; exact h4

theorem objsMk_len (ids : Nat → Nat) : ∀ (l : List OSlot) (j : Nat) (x : objsX l), (objsMk ids j l x).length = l.length
  | [], _, _ => rfl
  | s :: r, j, x => by simp [objsMk, objsMk_len ids r (j + 1) x.2]

theorem objsMk_key (ids : Nat → Nat) : ∀ (l : List OSlot) (j : Nat) (x : objsX l) (i : Nat) (q : Nat × AObj), (objsMk ids j l x)[i]? = some q → q.1 = ids (j + i)
  | [], _, _, _, _, h => by simp [objsMk] at h
  | s :: r, j, x, i, q, h => by
    cases i with
    | zero => simp [objsMk] at h; subst h; rfl
    | succ i =>
      simp [objsMk] at h
      have := objsMk_key ids r (j + 1) x.2 i q h
      rw [this]; congr 1; omega

/-- updates by a list whose keys differ -/
theorem upds_at {α : Type} : ∀ (l : List (Nat × α)) (f : Nat → α) (i : Nat) (q : Nat × α), l[i]? = some q → (∀ i' q', l[i']? = some q' → q'.1 = q.1 → i' = i) → upds f l q.1 = q.2
  | [], _, _, _, h, _ => by simp at h
  | p :: l, f, i, q, h, hu => by
    simp only [upds]
    cases i with
    | zero =>
      simp at h; subst h
      rw [upds_not, upd_same]
      intro v hv
      obtain ⟨i', hi'⟩ := List.getElem?_of_mem hv
      have := hu (i' + 1) (p.1, v) (by simpa using hi') rfl
      omega
    | succ i =>
      simp at h
      exact upds_at l _ i q h fun i' q' hi' hq' => by
        have := hu (i' + 1) q' (by simpa using hi') hq'
        omega

end
end Go.Fw
namespace Go.Fw
open Go

/-! ### A state that fits a template -/
/-- what a template says of a world -/
structure TRep (G : Gh) (w : World) (slots : List (Nat × AVal)) (objs : List (Nat × AObj)) (V : Nat → Value) (n : Nat) : Prop where
  slot : ∀ p ∈ slots, RepT G w p.2 (V p.1)
  obj : ∀ j, RepO G w j (upds (fun _ => AObj.dead) objs j)
  wf : ∀ id, G.kd id = none → ∀ g i, G.nd id g i = none
  fresh : ∀ j, n ≤ j → G.kd j = none

section
variable {G : Gh} {w : World} {objs : Nat → AObj} {f : Nat → AVal} {V : Nat → Value}

theorem repT_getA (ho : ∀ id, RepO G w id (objs id)) {mf : Mt} {G0 : Gh} (hf : Fits G objs mf G0) (hnil : ∀ j, look mf.map j = some .nil → ∃ e, G0.kd j = some (.row e 0 0 0 0) ∨ G0.kd j = some (.row2 e 0 0 0 0))
    {t : TA} {a : AVal} {m : Mt} {x : t.X} {m' : Mt} {v : Value} (h : (getA t a m).ev objs = some (x, m')) (hle : m'.le mf) (hr : RepT G w a v) : RepT G0 w (t.mk id x) v := by
  have hag := getA_agg t a m x m' id h
  by_cases ht : ∃ l, t = .tup l
  · obtain ⟨l, rfl⟩ := ht
    obtain ⟨y, rfl⟩ := hag.2.2.2 ⟨l, rfl⟩
    obtain ⟨vs, rfl, hvs⟩ := hr
    simp only [getA] at h
    split at h
    · rename_i hl
      exact ⟨vs, rfl, getA_spec ho hf hnil l y m x m' true _ (fun _ => hl) h hle hvs⟩
    · simp [M.ev] at h
  · have hnt : ∀ l, a ≠ .tup l := fun l hl => ht (hag.2.2.1 ⟨l, hl⟩)
    have hu : ValOf a.isAgg (RepG G w a false) v := by
      cases a <;> first | exact hr | exact absurd rfl hag.2.1 | exact absurd rfl (hnt _)
    have : ValOf (t.mk id x).isAgg (RepG G0 w (t.mk id x) false) v := by
      rw [← hag.1]
      exact hu.mono fun cs hc => getA_spec ho hf hnil t a m x m' false cs (by simp) h hle hc
    cases t <;> first | exact this | exact absurd ⟨_, rfl⟩ ht

theorem wok_repT {t : TA} {a : AVal} {m : Mt} {x : t.X} {m' : Mt} {v : Value} (h : (getA t a m).ev objs = some (x, m')) (hr : RepT G w a v) (hm : WOK G m) : WOK G m' := by
  have hag := getA_agg t a m x m' id h
  by_cases ha : ∃ l, a = .tup l
  · obtain ⟨y, rfl⟩ := ha
    obtain ⟨l, rfl⟩ := hag.2.2.1 ⟨y, rfl⟩
    obtain ⟨vs, rfl, hvs⟩ := hr
    simp only [getA] at h
    split at h
    · exact wok_getA l y m x m' true _ h hvs hm
    · simp [M.ev] at h
  · have hu : ValOf a.isAgg (RepG G w a false) v := by
      cases a <;> first | exact hr | exact absurd rfl hag.2.1 | exact absurd ⟨_, rfl⟩ ha
    unfold ValOf at hu
    split at hu
    · obtain ⟨cells, _, hc⟩ := hu; exact wok_getA t a m x m' false _ h hc hm
    · exact wok_getA t a m x m' false _ h hu hm

theorem getSlots_wok (hv : ∀ t, RepT G w (f t) (V t)) : ∀ (l : List (Nat × TA)) (m : Mt) (x : slotsX l) (m' : Mt), (getSlots f l m).ev objs = some (x, m') → WOK G m → WOK G m'
  | [], m, x, m', h, hm => by
    injection (show some _ = some (x, m') from h) with h; injection h with _ h; subst h; exact hm
  | s :: r, m, x, m', h, hm => by
    simp only [getSlots] at h
    obtain ⟨q, h1, h⟩ := ev_some h
    obtain ⟨y, h2, h⟩ := ev_some h
    injection (show some _ = some (x, m') from h) with h; injection h with _ h; subst h
    exact getSlots_wok hv r _ _ _ h2 (wok_repT h1 (hv s.1) hm)

theorem getObjs_wok (ho : ∀ id, RepO G w id (objs id)) : ∀ (l : List OSlot) (j : Nat) (m : Mt) (x : objsX l) (m' : Mt), (getObjs j l m).ev objs = some (x, m') → WOK G m → WOK G m'
  | [], j, m, x, m', h, hm => by
    injection (show some _ = some (x, m') from h) with h; injection h with _ h; subst h; exact hm
  | s :: r, j, m, x, m', h, hm => by
    simp only [getObjs] at h
    obtain ⟨q, h1, h⟩ := ev_some h
    obtain ⟨y, h2, h⟩ := ev_some h
    injection (show some _ = some (x, m') from h) with h; injection h with _ h; subst h
    refine getObjs_wok ho r _ _ _ _ h2 ?_
    split at h1
    · rename_i id win hl
      simp only [M.ev] at h1
      exact wok_getO s _ _ _ _ _ h1 (ho id) hm
    · split at h1
      · injection (show some _ = some q from h1) with h1; subst h1; exact hm
      · simp [M.ev] at h1
    · split at h1
      · injection (show some _ = some q from h1) with h1; subst h1; exact hm
      · simp [M.ev] at h1

theorem getSlots_rep (ho : ∀ id, RepO G w id (objs id)) {mf : Mt} {G0 : Gh} (hf : Fits G objs mf G0) (hnil : ∀ j, look mf.map j = some .nil → ∃ e, G0.kd j = some (.row e 0 0 0 0) ∨ G0.kd j = some (.row2 e 0 0 0 0)) (hv : ∀ t, RepT G w (f t) (V t)) :
    ∀ (l : List (Nat × TA)) (m : Mt) (x : slotsX l) (m' : Mt), (getSlots f l m).ev objs = some (x, m') → m'.le mf → ∀ p ∈ slotsMk id l x, RepT G0 w p.2 (V p.1)
  | [], m, x, m', h, hle, p, hp => by simp [slotsMk] at hp
  | s :: r, m, x, m', h, hle, p, hp => by
    simp only [getSlots] at h
    obtain ⟨q, h1, h⟩ := ev_some h
    obtain ⟨y, h2, h⟩ := ev_some h
    injection (show some _ = some (x, m') from h) with h; injection h with h h'; subst h; subst h'
    simp only [slotsMk, List.mem_cons] at hp
    rcases hp with rfl | hp
    · exact repT_getA ho hf hnil h1 ((getSlots_le r _ _ _ h2).trans hle) (hv s.1)
    · exact getSlots_rep ho hf hnil hv r _ _ _ h2 hle p hp

theorem getO_kd {id : Nat} : ∀ (t : OSlot) (o : AObj) (win : Option (Nat × Nat)) (m : Mt) (x : t.X) (m' : Mt), (getO t o win m).ev objs = some (x, m') → RepO G w id o → ∃ k, G.kd id = some k
  | .dead, o, win, m, x, m', h, _ => by simp [getO, M.ev] at h
  | .box g t, o, win, m, x, m', h, hr => by
    simp only [getO] at h
    split at h
    · obtain ⟨b, cs, hk, _⟩ := hr; exact ⟨_, hk⟩
    · simp [M.ev] at h
  | .row e, o, win, m, x, m', h, hr => by
    simp only [getO] at h
    split at h
    · obtain ⟨b, off, c, hk, _⟩ := hr; exact ⟨_, hk⟩
    · simp [M.ev] at h
  | .row2 e, o, win, m, x, m', h, hr => by
    simp only [getO] at h
    split at h
    · obtain ⟨b, off, c, hk, _⟩ := hr; exact ⟨_, hk⟩
    · simp [M.ev] at h
  | .map k v, o, win, m, x, m', h, hr => by
    simp only [getO] at h
    split at h
    · obtain ⟨b, hk, _⟩ := hr; exact ⟨_, hk⟩
    · simp [M.ev] at h

/-- the template's objects and values, under the names of the template -/
theorem pick_spec (hv : ∀ t, RepT G w (f t) (V t)) (ho : ∀ id, RepO G w id (objs id)) {slots : List (Nat × TA)} {os : List OSlot} {m0 m1 m2 : Mt} {xs : slotsX slots} {xo : objsX os}
    (h0 : WOK G m0) (h1 : (getSlots f slots m0).ev objs = some (xs, m1)) (h2 : (getObjs 0 os m1).ev objs = some (xo, m2)) (hd : distinct m2.ids = true) (hvi : ∀ v ∈ m2.views, v ∉ m2.ids) (hw : m2.within os = true) :
    TRep (G.sel objs m2 os) w (slotsMk id slots xs) (objsMk id 0 os xo) V os.length ∧ FitO G objs m2 (G.sel objs m2 os) ∧ ∀ j id win, look m2.map j = some (.obj id win) → j < os.length ∧ ∃ k, G.kd id = some k := by
  have hnd : (idsOf m2.map).Nodup := distinct_nodup _ hd
  have hat := getObjs_at os 0 m1 xo m2 h2
  have hin : ∀ j s, look m2.map j = some s → ∃ sl, os[j]? = some sl ∧ sl.live = true := by
    intro j s hj
    have := look_mem _ _ _ hj
    unfold Mt.within at hw
    rw [List.all_eq_true] at hw
    have := hw _ this
    simp only at this
    split at this
    · rename_i o ho; exact ⟨o, ho, this⟩
    · simp at this
  -- a named object: its slot's match
  have hgot : ∀ j sl, os[j]? = some sl → sl.live = true → ∃ y : sl.X, (∀ ids, (objsMk ids 0 os xo)[j]? = some (ids j, sl.mk ids y)) ∧
      ((∃ id win m1 m', look m2.map j = some (.obj id win) ∧ (getO sl (objs id) win m1).ev objs = some (y, m') ∧ m'.le m2) ∨ (look m2.map j = some .nil ∧ sl.empty = some y)) := by
    intro j sl hj hl
    obtain ⟨y, h3, h4⟩ := hat j sl hj
    simp only [Nat.zero_add] at h3 h4
    refine ⟨y, h3, ?_⟩
    rcases h4 with h4 | h4 | rfl
    · exact .inl h4
    · exact .inr h4
    · simp [OSlot.live] at hl
  have hlt : ∀ j s, look m2.map j = some s → j < os.length := by
    intro j s hj
    obtain ⟨sl, h3, _⟩ := hin j s hj
    exact getElem?_lt h3
  have hfit : FitO G objs m2 (G.sel objs m2 os) := by
    refine ⟨⟨fun j id win hj k hk k' hk' => ?_, fun b hb => ?_, fun b id r hm hb => ?_, fun j id win hj k hk => ?_⟩, fun j id win hj b r hb => ?_, fun j id win e l g h hj hobj i => ?_, fun j g i hg => ?_, ?_⟩
    · simp only [Gh.sel]; rw [if_pos (hlt j _ hj), hj]; simp [hk, hk']
    · simp only [Gh.sel, hb]
    · have hni : invM m2.map id = none := by
        cases hi : invM m2.map id with
        | none => rfl
        | some j => exact absurd (invM_mem _ _ _ hi) (hvi id hm)
      simp only [Gh.sel, hb, hni]; rw [if_pos hm]
    · obtain ⟨sl, h3, h4⟩ := hin j _ hj
      obtain ⟨y, _, h5⟩ := hgot j sl h3 h4
      rcases h5 with ⟨id', win', ma, mb, h6, h7, _⟩ | ⟨h6, _⟩
      · rw [hj] at h6; simp at h6; obtain ⟨rfl, rfl⟩ := h6
        exact getO_win sl _ _ _ _ _ h7 (ho id) k hk
      · rw [hj] at h6; simp at h6
    · have := invM_look _ hnd j id win (look_mem _ _ _ hj)
      simp only [Gh.sel, hb, this]
    · simp only [Gh.sel]; rw [if_pos ⟨trivial, hlt j _ hj⟩, hj]; simp [hobj]
    · simp only [Gh.sel]; rw [if_neg (by omega)]
    · exact getObjs_wok ho os 0 _ _ _ h2 (getSlots_wok hv slots _ _ _ h1 h0)
  have hnil : ∀ j, look m2.map j = some .nil → ∃ e, (G.sel objs m2 os).kd j = some (.row e 0 0 0 0) ∨ (G.sel objs m2 os).kd j = some (.row2 e 0 0 0 0) := by
    intro j hj
    obtain ⟨sl, h3, h4⟩ := hin j _ hj
    obtain ⟨y, _, h5⟩ := hgot j sl h3 h4
    rcases h5 with ⟨id', win', ma, mb, h6, _⟩ | ⟨_, h6⟩
    · rw [hj] at h6; simp at h6
    · have hk : (G.sel objs m2 os).kd j = nilK (some sl) := by
        simp only [Gh.sel]; rw [if_pos (hlt j _ hj), hj, h3]
      cases sl <;> simp [OSlot.empty, OSlot.live] at h6 h4
      · exact ⟨_, .inl hk⟩
      · exact ⟨_, .inr hk⟩
  refine ⟨⟨getSlots_rep ho hfit.toFits hnil hv slots m0 xs m1 h1 (getObjs_le os 0 _ _ _ h2), fun j => ?_, fun j hj g i => ?_, fun j hj => by simp only [Gh.sel]; rw [if_neg (by omega)]⟩, hfit, fun j id win hj => ⟨hlt j _ hj, ?_⟩⟩
  · -- the objects
    by_cases hj : j < os.length
    · obtain ⟨y, h3, h4⟩ := hat j os[j] (List.getElem?_eq_getElem hj)
      simp only [Nat.zero_add] at h3 h4
      have hu := upds_at (objsMk id 0 os xo) (fun _ => AObj.dead) j _ (h3 id) (fun i' q' hi' hq' => by
        have := objsMk_key id os 0 xo i' q' hi'
        simp at this hq'; omega)
      simp only at hu
      rw [show id j = j from rfl] at hu
      rw [hu]
      rcases h4 with ⟨id', win, ma, mb, h6, h7, h8⟩ | ⟨h6, h7⟩ | h6
      · exact getO_spec ho hfit hnil h6 _ _ _ _ h7 h8
      · refine empty_spec _ _ h7 ?_ (fun g i hg => hfit.nd0 j g i hg)
        simp only [Gh.sel]; rw [if_pos hj, h6, List.getElem?_eq_getElem hj]
      · generalize os[j] = sl at h6 y
        subst h6; exact trivial
    · rw [upds_not]
      · exact trivial
      · intro v hv
        obtain ⟨i', hi'⟩ := List.getElem?_of_mem hv
        have h3 := objsMk_key id os 0 xo i' _ hi'
        have h4 := getElem?_lt hi'
        rw [objsMk_len] at h4
        simp at h3; omega
  · -- what is not there has no rows
    simp only [Gh.sel] at hj ⊢
    split
    · rename_i hg
      rw [if_pos hg.2] at hj
      cases hl : look m2.map j with
      | none => rfl
      | some s =>
        cases s with
        | nil => rfl
        | obj id win =>
          simp only
          cases hobj : objs id with
          | row2 e l gg hole =>
            simp only
            have hoid := ho id
            rw [hobj] at hoid
            obtain ⟨b, off, c, hk, _⟩ := hoid
            rw [hl] at hj
            simp only [hk, Option.bind_some] at hj
            have := hfit.win j id win hl _ hk
            obtain ⟨k', hk'⟩ := this
            rw [hk'] at hj; simp at hj
          | _ => rfl
    · rfl
  · obtain ⟨sl, h3, h4⟩ := hin j _ hj
    obtain ⟨y, _, h5⟩ := hgot j sl h3 h4
    rcases h5 with ⟨id', win', ma, mb, h6, h7, _⟩ | ⟨h6, _⟩
    · rw [hj] at h6; simp at h6; obtain ⟨rfl, rfl⟩ := h6
      exact getO_kd sl _ _ _ _ _ h7 (ho id)
    · rw [hj] at h6; simp at h6

end
end Go.Fw
namespace Go.Fw
open Go

/-! ### Contracts -/
inductive OutSel : (os : List Out) → outsX os → (o : Out) → o.X → Prop
  | one (o : Out) (y : o.X) : OutSel [o] y o y
  | inl (o p : Out) (r : List Out) (a : o.X) : OutSel (o :: p :: r) (Sum.inl a) o a
  | inr (o p : Out) (r : List Out) (b : outsX (p :: r)) (o' : Out) (y : o'.X) (h : OutSel (p :: r) b o' y) : OutSel (o :: p :: r) (Sum.inr b) o' y

structure Fra (G : Gh) (w : World) (G' : Gh) (w' : World) : Prop where
  os : w'.os = w.os
  tape : w'.tape = w.tape
  output : w'.output = w.output
  size : w.heap.size ≤ w'.heap.size
  keep : ∀ b, b < w.heap.size → (∀ l, G.ow b ≠ .own l) → w'.heap[b]? = w.heap[b]? ∧ G'.ow b = G.ow b

theorem Ext.fra {G G' : Gh} {w w' : World} (h : Ext G w G' w') : Fra G w G' w' := ⟨h.os, h.tape, h.output, h.size, h.keep⟩
theorem Fra.trans {G G' G'' : Gh} {w w' w'' : World} (h : Fra G w G' w') (k : Fra G' w' G'' w'') : Fra G w G'' w'' :=
  ⟨k.os.trans h.os, k.tape.trans h.tape, k.output.trans h.output, Nat.le_trans h.size k.size, fun b hb ho => by
    have h1 := h.keep b hb ho
    have h2 := k.keep b (Nat.lt_of_lt_of_le hb h.size) (by rw [h1.2]; exact ho)
    exact ⟨h2.1.trans h1.1, h2.2.trans h1.2⟩⟩

structure OutRel (o : Out) (y : o.X) (G : Gh) (w : World) (G' : Gh) (w' : World) (V : Nat → Value) : Prop where
  fra : Fra G w G' w'
  rep : TRep G' w' (slotsMk id o.slots y.1) (objsMk id 0 (o.objs.map (·.2)) y.2) V o.objs.length
  pin : ∀ j i s, o.objs[j]? = some (some i, s) → ∀ k, G.kd i = some k → G'.kd j = some k

def Ex.to : Ex → Exit
  | .normal => .normal
  | .exit id => .exit id
  | .ret => .ret

def FnSound (P : Program) (f : FuncId) (p : Piece) : Prop :=
  ∀ x y, p.fn x = some y → ∀ (G : Gh) (w : World) (args : Array Value), TRep G w (slotsMk id p.slots x.1) (objsMk id 0 p.objs x.2) (fun t => args.getD t undef) p.objs.length →
    Calls P f args w fun e w' => ∃ v, e = .returned v ∧ ∃ o yo G', OutSel p.outs y o yo ∧ OutRel o yo G w G' w' (fun _ => v)

def PcSound (P : Program) (c : Code) (p : Piece) : Prop :=
  ∀ x y, p.fn x = some y → ∀ (G : Gh) (w : World) (a : Act), TRep G w (slotsMk id p.slots x.1) (objsMk id 0 p.objs x.2) (fun t => a.tmps.getD t undef) p.objs.length → a.defers = [] →
    c.wp P (fun e a' w' => ∃ o yo G', OutSel p.outs y o yo ∧ e = o.ex.to ∧ OutRel o yo G w G' w' (fun t => a'.tmps.getD t undef) ∧ a'.defers = [] ∧ ∀ t, t ∉ p.asg → a'.tmps.getD t undef = a.tmps.getD t undef) a w

theorem putOuts_sel {objs : Nat → AObj} {m : Mt} {base : Nat} {os : List Out} {y : outsX os} {o : Out} {yo : o.X} (h : OutSel os y o yo) : (putOuts m base os y).ev objs = (putOut m base o yo).ev objs := by
  induction h with
  | one o y => rfl
  | inl o p r a => rfl
  | inr o p r b o' y h ih => exact ih

theorem outSel_mem {os : List Out} {y : outsX os} {o : Out} {yo : o.X} (h : OutSel os y o yo) : o ∈ os := by
  induction h with
  | one o y => simp
  | inl o p r a => simp
  | inr o p r b o' y h ih => exact List.mem_cons_of_mem _ ih

theorem outSel_ex : ∀ (os : List Out) (y : outsX os), ∃ o yo, OutSel os y o yo
  | [], y => nomatch y
  | [o], y => ⟨o, y, .one o y⟩
  | o :: p :: r, .inl a => ⟨o, a, .inl o p r a⟩
  | o :: p :: r, .inr b => let ⟨o', yo, h⟩ := outSel_ex (p :: r) b; ⟨o', yo, .inr o p r b o' yo h⟩

/-! ### Other names for the objects -/
section
variable {G G2 : Gh} {w : World}

theorem repG_ren {ids : Nat → Nat} (hk : ∀ j k, G.kd j = some k → G2.kd (ids j) = some k) : ∀ (t : TA) (x : t.X) (md : Bool) (cs : List Value), (t.flat = true ∨ ∀ b, G.fz b → G2.fz b) → RepG G w (t.mk id x) md cs → RepG G2 w (t.mk ids x) md cs
  | .opq, x, md, cs, _, h => h
  | .v t, x, md, cs, hf, h => ⟨h.1, repC_flat_row hf h.2⟩
  | .href i, x, md, cs, _, h => by
    obtain ⟨h0, v, h1, h2⟩ := h
    refine ⟨h0, v, h1, ?_⟩
    rcases h2 with ⟨e, len, b, off, c, hkk, hh⟩ | ⟨e, len, b, off, c, hkk, hh⟩
    · exact .inl ⟨e, len, b, off, c, hk _ _ hkk, hh⟩
    · exact .inr ⟨e, len, b, off, c, hk _ _ hkk, hh⟩
  | .ref i t, x, md, cs, _, h => by
    obtain ⟨h0, t0, b, hkk, h1⟩ := h
    exact ⟨h0, t0, b, hk _ _ hkk, h1⟩
  | .mref i, x, md, cs, _, h => by
    obtain ⟨h0, b, hkk, h1⟩ := h
    exact ⟨h0, b, hk _ _ hkk, h1⟩
  | .cons a b, x, md, cs, hf, h => by
    have ha : a.flat = true ∨ ∀ b, G.fz b → G2.fz b := hf.imp (fun h => by simp only [TA.flat, Bool.and_eq_true] at h; exact h.1) (fun h => h)
    have hb : b.flat = true ∨ ∀ b, G.fz b → G2.fz b := hf.imp (fun h => by simp only [TA.flat, Bool.and_eq_true] at h; exact h.2) (fun h => h)
    cases md with
    | false =>
      obtain ⟨c1, c2, he, h1, h2⟩ := h
      exact ⟨c1, c2, he, repG_ren hk a _ _ _ ha h1, repG_ren hk b _ _ _ hb h2⟩
    | true =>
      obtain ⟨v, vs, he, h1, h2⟩ := h
      refine ⟨v, vs, he, ?_, repG_ren hk b _ _ _ hb h2⟩
      have hag : (a.mk ids x.1).isAgg = (a.mk id x.1).isAgg := by cases a <;> rfl
      rw [hag]
      exact h1.mono fun cs hc => repG_ren hk a _ _ _ ha hc
  | .nil, x, md, cs, _, h => h
  | .tup l, x, md, cs, _, h => h.elim
  | .clo f c, x, md, cs, hf, h => by
    obtain ⟨h0, vals, h1, h2⟩ := h
    exact ⟨h0, vals, h1, repG_ren hk c _ _ _ (hf.imp (fun h => by simpa [TA.flat] using h) (fun h => h)) h2⟩

theorem repT_ren {ids : Nat → Nat} (hk : ∀ j k, G.kd j = some k → G2.kd (ids j) = some k) (t : TA) (x : t.X) (v : Value) (hf : t.flat = true ∨ ∀ b, G.fz b → G2.fz b) (h : RepT G w (t.mk id x) v) : RepT G2 w (t.mk ids x) v := by
  cases t <;> first
    | exact ValOf.mono (fun cs hc => repG_ren hk _ _ _ _ hf hc) h
    | (obtain ⟨vs, h1, h2⟩ := h; exact ⟨vs, h1, repG_ren hk _ _ _ _ (hf.imp (fun h => by simpa [TA.flat] using h) (fun h => h)) h2⟩)

theorem shape_ren {ids : Nat → Nat} : ∀ (g : GTy) (t : TA) (x : t.X), (t.mk id x).shape g = (t.mk ids x).shape g
  | .pair a b, t, x => by
    cases t <;> simp only [TA.mk, AVal.shape]
    rw [shape_ren a, shape_ren b]
  | .int _, t, x => by cases t <;> simp [TA.mk, AVal.shape]
  | .bool, t, x => by cases t <;> simp [TA.mk, AVal.shape]
  | .str, t, x => by cases t <;> simp [TA.mk, AVal.shape]
  | .unit, t, x => by cases t <;> simp [TA.mk, AVal.shape]
  | .opq, t, x => by cases t <;> simp [TA.mk, AVal.shape]
  | .slice _, t, x => by cases t <;> simp [TA.mk, AVal.shape]

theorem repO_ren {ids : Nat → Nat} (hk : ∀ j k, G.kd j = some k → G2.kd (ids j) = some k) {j : Nat} (how : ∀ b r, G.ow b = .own (j :: r) → G2.ow b = .own (ids j :: r)) :
    ∀ (gen : Nat) (s : OSlot) (x : s.X), (s.flat = true ∨ ∀ b, G.fz b → G2.fz b) → (∀ e, s = .row2 e → (∀ i, G2.nd (ids j) gen i = G.nd j 0 i) ∧ ∀ g i, gen < g → G2.nd (ids j) g i = none) → RepO G w j (s.mk id x) → RepO G2 w (ids j) (s.mkG ids gen x)
  | _, .dead, _, _, _, _ => trivial
  | _, .box g t, x, hf, _, h => by
    obtain ⟨b, cs, h1, h2, h3, h4, h5⟩ := h
    exact ⟨b, cs, hk _ _ h1, ⟨how b [] h2.1, h2.2⟩, h3, repG_ren hk t _ _ _ (hf.imp (fun h => by simpa [OSlot.flat] using h) (fun h => h)) h4, by rw [← shape_ren]; exact h5⟩
  | _, .row e, x, hf, _, h => by
    obtain ⟨b, off, c, h1, h2, h3, h4⟩ := h
    refine ⟨b, off, c, hk _ _ h1, h2, h3, fun hc => ?_⟩
    obtain ⟨h5, h6⟩ := h4 hc
    exact ⟨⟨how b [] h5.1, h5.2⟩, h6.mono rfl fun y cs hy => repC_flat_row (hf.imp (fun h => by simpa [OSlot.flat] using h) (fun h => h)) hy⟩
  | gen, .row2 e, x, hf, hn, h => by
    obtain ⟨hn0, hn1⟩ := hn e rfl
    obtain ⟨b, off, c, h1, h2, h3, h4, h5⟩ := h
    refine ⟨b, off, c, hk _ _ h1, h2, h3, fun g' i hg => hn1 g' i hg, fun hc => ?_⟩
    obtain ⟨h6, h7⟩ := h5 hc
    refine ⟨⟨how b [] h6.1, h6.2⟩, fun i y hy => ?_⟩
    obtain ⟨len, b', off', c', h8, h9, h10⟩ := h7 i y hy
    refine ⟨len, b', off', c', by rw [hn0]; exact h8, h9, fun hh => ?_⟩
    obtain ⟨v, h11, h12, h13⟩ := h10 hh
    refine ⟨v, h11, h12, fun hc' => ?_⟩
    obtain ⟨h14, h15⟩ := h13 hc'
    exact ⟨⟨how b' [i] h14.1, h14.2⟩, h15.mono rfl fun y cs hy => repC_flat_row (hf.imp (fun h => by simpa [OSlot.flat] using h) (fun h => h)) hy⟩
  | _, .map k v, x, hf, _, h => by
    obtain ⟨b, h1, h2, es, cl, h3, h4⟩ := h
    have hf' : (k.flat = true ∧ v.flat = true) ∨ ∀ b, G.fz b → G2.fz b := hf.imp (fun h => by simpa [OSlot.flat] using h) (fun h => h)
    exact ⟨b, hk _ _ h1, how b [] h2, es, cl, h3, h4.mono fun p e hh => ⟨hh.1.mono fun cs hc => repC_flat_row (hf'.imp (fun h => h.1) (fun h => h)) hc, hh.2.mono fun cs hc => repC_flat_row (hf'.imp (fun h => h.2) (fun h => h)) hc⟩⟩

theorem slotsMk_mem {ids : Nat → Nat} : ∀ (l : List (Nat × TA)) (x : slotsX l) (q : Nat × AVal), q ∈ slotsMk ids l x → ∃ (s : Nat × TA) (y : s.2.X), s ∈ l ∧ q = (s.1, s.2.mk ids y) ∧ ∀ ids', (s.1, s.2.mk ids' y) ∈ slotsMk ids' l x
  | [], _, _, h => by simp [slotsMk] at h
  | s :: r, x, q, h => by
    simp only [slotsMk, List.mem_cons] at h
    rcases h with rfl | h
    · exact ⟨s, x.1, by simp, rfl, fun ids' => by simp [slotsMk]⟩
    · obtain ⟨s', y, h1, h2, h3⟩ := slotsMk_mem r x.2 q h
      exact ⟨s', y, List.mem_cons_of_mem _ h1, h2, fun ids' => by simp only [slotsMk]; exact List.mem_cons_of_mem _ (h3 ids')⟩

theorem objsMk_at {ids : Nat → Nat} : ∀ (l : List OSlot) (j : Nat) (x : objsX l) (i : Nat) (s : OSlot), l[i]? = some s → ∃ y : s.X, ∀ ids : Nat → Nat, (objsMk ids j l x)[i]? = some (ids (j + i), s.mk ids y)
  | [], _, _, _, _, h => by simp at h
  | s0 :: r, j, x, i, s, h => by
    cases i with
    | zero => simp at h; subst h; exact ⟨x.1, fun ids => rfl⟩
    | succ i =>
      simp at h
      obtain ⟨y, hy⟩ := objsMk_at (ids := ids) r (j + 1) x.2 i s h
      refine ⟨y, fun ids => ?_⟩
      have := hy ids
      rw [show j + (i + 1) = j + 1 + i by omega]
      simpa [objsMk] using this

theorem objsMkG_at : ∀ (l : List OSlot) (j : Nat) (x : objsX l) (i : Nat) (s : OSlot), l[i]? = some s → ∃ y : s.X, (∀ ids : Nat → Nat, (objsMk ids j l x)[i]? = some (ids (j + i), s.mk ids y)) ∧ ∀ (ids : Nat → Nat) (gs : List Nat), (objsMkG ids gs j l x)[i]? = some (ids (j + i), s.mkG ids (gs.getD (j + i) 0) y)
  | [], _, _, _, _, h => by simp at h
  | s0 :: r, j, x, i, s, h => by
    cases i with
    | zero => simp at h; subst h; exact ⟨x.1, fun ids => rfl, fun ids gs => rfl⟩
    | succ i =>
      simp at h
      obtain ⟨y, hy, hz⟩ := objsMkG_at r (j + 1) x.2 i s h
      refine ⟨y, fun ids => ?_, fun ids gs => ?_⟩
      · have := hy ids
        rw [show j + (i + 1) = j + 1 + i by omega]
        simpa [objsMk] using this
      · have := hz ids gs
        rw [show j + (i + 1) = j + 1 + i by omega]
        simpa [objsMkG] using this
theorem objsMkG_len (ids : Nat → Nat) (gs : List Nat) : ∀ (l : List OSlot) (j : Nat) (x : objsX l), (objsMkG ids gs j l x).length = l.length
  | [], _, _ => rfl
  | s :: r, j, x => by simp [objsMkG, objsMkG_len ids gs r (j + 1) x.2]
theorem objsMkG_key (ids : Nat → Nat) (gs : List Nat) : ∀ (l : List OSlot) (j : Nat) (x : objsX l) (i : Nat) (q : Nat × AObj), (objsMkG ids gs j l x)[i]? = some q → q.1 = ids (j + i)
  | [], _, _, _, _, h => by simp [objsMkG] at h
  | s :: r, j, x, i, q, h => by
    cases i with
    | zero => simp [objsMkG] at h; subst h; rfl
    | succ i =>
      simp [objsMkG] at h
      have := objsMkG_key ids gs r (j + 1) x.2 i q h
      rw [this]; congr 1; omega

theorem gensM_spec {objs : Nat → AObj} {m : Mt} : ∀ (l : List (Option Nat × OSlot)) (gs : List Nat), (gensM m l).ev objs = some gs → ∀ j p, l[j]? = some p →
    ((∃ i e, p = (some i, .row2 e)) → ∃ i id e' l' g hole, p.1 = some i ∧ look m.map i = some (.obj id none) ∧ objs id = .row2 e' l' g hole ∧ gs.getD j 0 = g + 1) ∧ ((¬ ∃ i e, p = (some i, .row2 e)) → gs.getD j 0 = 0)
  | [], _, _, j, p, h => by simp at h
  | q :: r, gs, hg, j, p, h => by
    simp only [gensM] at hg
    obtain ⟨g, h1, hg⟩ := ev_some hg
    obtain ⟨gs', h2, hg⟩ := ev_some hg
    injection (show some _ = some gs from hg) with hg
    subst hg
    cases j with
    | succ j =>
      simp only [List.getElem?_cons_succ] at h
      simpa using gensM_spec r gs' h2 j p h
    | zero =>
      simp only [List.getElem?_cons_zero, Option.some.injEq] at h
      subst h
      simp only [List.getD_cons_zero]
      refine ⟨?_, fun hn => ?_⟩
      · rintro ⟨i, e, rfl⟩
        simp only [genM] at h1
        split at h1
        · rename_i id hl
          simp only [M.ev] at h1
          split at h1
          · rename_i e' l' g0 hole ho
            injection (show some _ = some g from h1) with h1
            exact ⟨i, id, e', l', g0, hole, rfl, hl, ho, h1.symm⟩
          · simp [M.ev] at h1
        · simp [M.ev] at h1
      · unfold genM at h1
        split at h1
        · rename_i i e
          exact absurd ⟨i, e, rfl⟩ hn
        · injection (show some _ = some g from h1) with h1
          exact h1.symm
end

end Go.Fw
