/- The program's longest walks: steps. -/
import Derived.Test.YtafndpkfoajpnaaWorstD
namespace Go.Proofs.Ytafndpkfoajpnaa.G
open Go Go.Fw

section
variable {s : SpaceV} {n : Nat} {l : List Bool}

theorem visit_in (hs : Sys s n) (hall : ∀ x, x < n → Attr (goals s) (SetOf l) x) (hw : ∀ x j, j < (arcs s x).length → stepsW x j ≤ 24) (hf : ∀ K x j, j < (arcs s x).length → worst_one K ((arcs s x).getD j (0, (0, ()))) = some ((((stepsW x j : Nat) : Int), ()), ()))
    {x : Nat} (hx : x < n) (hlx : l.getD x false = false) (kn0 : List Bool) (out0 : List Nat)
    (ih : ∀ t, t < n → (baseN s l stepsW).val t < (baseN s l stepsW).val x → ∀ kn out, Vis s l stepsW n ((baseN s l stepsW).val x) kn out →
      Wp (fun K j => worst_longest_1 K j (t : Int) kn s (numl out)) (fun y => ∃ kn' out', y = VR kn' s (numl out') ∧ Gone s l stepsW n ((baseN s l stepsW).val x) t kn out kn' out')) :
    ∀ d i (kn : List Bool) (out : List Nat), i + d = (arcs s x).length → Mid s l stepsW n x i kn0 out0 kn out →
    W3 (fun K j k => worst_longest_1_30 K (worst_longest_1 K j) k (x : Int) (arcs s x) ((arcs s x).length : Int) (i : Int) kn s (numl out)) (fun y => ∃ kn' out', y = ((), (((), ((), ((), ((), ((), ()))))), ((), (kn', (s, ((), (numl out', ((), ())))))))) ∧ Mid s l stepsW n x (arcs s x).length kn0 out0 kn' out') := by
  have htot := total_ge (s := s) hx
  have htt := hs.tot
  have hle := hs.le
  intro d
  induction d with
  | zero =>
    intro i kn out h1 h2
    refine W3.step ?_
    simp only [worst_longest_1_30]
    have h3 : i = (arcs s x).length := by omega
    rw [h3] at h2
    exact W3.negd (by omega) (W3.ret ⟨kn, out, rfl, h2⟩)
  | succ d ih2 =>
    intro i kn out h1 h2
    have hil : i < (arcs s x).length := by omega
    have hg := goals_at hs hil
    have hrk := rank_next (hall x hx) hlx hil
    have hvis := ih (goN s x i) hg hrk kn out h2.vis
    refine W3.step ?_
    simp only [worst_longest_1_30, Int.toNat_natCast, ato_def, hs.at' x i hil, wrapS i (by omega)]
    refine W3.posd (by omega) (W3.posd (by omega) ?_)
    refine (W3.lift hvis).call fun y hy => ?_
    obtain ⟨kn', out', rfl, h3⟩ := hy
    have hlo := h3.vis.lo
    have hnl := numl_length out'
    have hout : out'.getD (goN s x i) 0 = (baseN s l stepsW).val (goN s x i) := h3.vis.fin _ hg h3.got hrk
    have hcur : out'.getD x 0 = maxTo i (fun j => stepsW x j + (baseN s l stepsW).val (goN s x j)) := by rw [(h3.high x hx (Nat.le_refl _)).2, h2.cur]
    have hb1 := val_bound 24 hw (hall (goN s x i) hg)
    have hb2 := rank_lt hs (hall (goN s x i) hg) hg
    have hb3 := hw x i hil
    have hmx : (if IntKind.i64.wrap (((stepsW x i : Nat) : Int) + ((out'.getD (goN s x i) 0 : Nat) : Int)) > ((out'.getD x 0 : Nat) : Int) then IntKind.i64.wrap (((stepsW x i : Nat) : Int) + ((out'.getD (goN s x i) 0 : Nat) : Int)) else ((out'.getD x 0 : Nat) : Int)) = ((max (out'.getD x 0) (stepsW x i + out'.getD (goN s x i) 0) : Nat) : Int) := by
      rw [wrapA _ _ (by rw [hout]; omega)]
      split <;> omega
    have hgo : (goals s x).getD i 0 = goN s x i := rfl
    simp only [hf _ x i hil, Option.bind_some, numl_getD, hgo, hmx, numl_put]
    refine W3.posd (by omega) (W3.posd (by omega) (W3.posd (by omega) ?_))
    refine ih2 (i + 1) kn' _ (by omega) ?_
    have hset : ∀ y, y ≠ x → (out'.set x (max (out'.getD x 0) (stepsW x i + out'.getD (goN s x i) 0))).getD y 0 = out'.getD y 0 := fun y hy => by
      rw [gset, if_neg (fun hh => hy hh.1.symm)]
    refine ⟨⟨h3.vis.lk, by simpa using hlo, h3.vis.leg, fun y hy hk hr => ?_, fun y hy hk => ?_⟩, fun y hy => h3.mono y (h2.mono y hy), ?_, fun y hy hr hne => ?_, ?_⟩
    · rw [hset y (fun h => by rw [h] at hr; omega)]; exact h3.vis.fin y hy hk hr
    · rw [hset y (fun h => by
        rw [h] at hk
        have := h3.mono x h2.got
        rw [this] at hk; simp at hk)]
      exact h3.vis.zero y hy hk
    · exact h3.mono x h2.got
    · have h4 := h3.high y hy hr
      have h5 := h2.high y hy hr hne
      rw [hset y hne, h4.1, h4.2]; exact h5
    · rw [gset, if_pos ⟨rfl, by omega⟩, hcur, hout]; rfl

theorem visit_ok (hs : Sys s n) (hl : l.length = n) (hall : ∀ x, x < n → Attr (goals s) (SetOf l) x) (hw : ∀ x j, j < (arcs s x).length → stepsW x j ≤ 24) (hf : ∀ K x j, j < (arcs s x).length → worst_one K ((arcs s x).getD j (0, (0, ()))) = some ((((stepsW x j : Nat) : Int), ()), ())) :
    ∀ r x, x < n → (baseN s l stepsW).val x < r → ∀ kn out, Vis s l stepsW n r kn out →
    Wp (fun K j => worst_longest_1 K j (x : Int) kn s (numl out)) (fun y => ∃ kn' out', y = VR kn' s (numl out') ∧ Gone s l stepsW n r x kn out kn' out') := by
  have har := hs.ar
  intro r
  induction r using Nat.strongRecOn with
  | ind r ih =>
    intro x hx hr kn out hv
    have hlk := hv.lk
    refine Wp.step ?_
    simp only [worst_longest_1, worst_longest_1_body, Int.toNat_natCast, arcs_def]
    refine Wp.posd (by omega) ?_
    refine Wp.iteb (fun hb => Wp.ret ⟨kn, out, rfl, hv, fun _ h => h, fun _ _ _ => ⟨rfl, rfl⟩, hb⟩) (fun hb => ?_)
    refine Wp.posd (by omega) (Wp.posd (by omega) ?_)
    have hlx : l.getD x false = false := by
      cases h : l.getD x false with
      | false => rfl
      | true => rw [hv.leg x h] at hb; simp at hb
    have hset : ∀ y, (kn.set x true).getD y false = true ↔ y = x ∨ kn.getD y false = true := fun y => by
      rw [gset]
      by_cases hy : x = y
      · rw [if_pos ⟨hy, by omega⟩]; simp [hy]
      · rw [if_neg (fun hh => hy hh.1)]; simp [Ne.symm hy]
    have hmid : Mid s l stepsW n x 0 kn out (kn.set x true) out := by
      refine ⟨⟨by simpa using hlk, hv.lo, fun y hy => (hset y).2 (.inr (hv.leg y hy)), fun y hy hk hry => ?_, fun y hy hk => ?_⟩, fun y hy => (hset y).2 (.inr hy), (hset x).2 (.inl rfl), fun y hy hry hne => ⟨?_, rfl⟩, ?_⟩
      · rcases (hset y).1 hk with h | h
        · rw [h] at hry; omega
        · exact hv.fin y hy h (by omega)
      · refine hv.zero y hy ?_
        cases h : kn.getD y false with
        | false => rfl
        | true => rw [(hset y).2 (.inr h)] at hk; simp at hk
      · rw [gset, if_neg (fun hh => hne hh.1.symm)]
      · rw [hv.zero x hx hb]; rfl
    have hin := visit_in hs hall hw hf hx hlx kn out (fun t ht htr kn1 out1 hv1 => ih _ hr t ht htr kn1 out1 hv1) (arcs s x).length 0 (kn.set x true) out (by omega) hmid
    refine (W3.diag hin).call fun y hy => ?_
    obtain ⟨kn', out', rfl, h⟩ := hy
    refine Wp.ret ⟨kn', out', rfl, ⟨h.vis.lk, h.vis.lo, h.vis.leg, fun y hy hk hry => ?_, h.vis.zero⟩, h.mono, fun y hy hry => h.high y hy (by omega) (fun he => by rw [he] at hry; omega), h.got⟩
    rcases Nat.lt_or_ge ((baseN s l stepsW).val y) ((baseN s l stepsW).val x) with h1 | h1
    · exact h.vis.fin y hy hk h1
    · by_cases he : y = x
      · rw [he, h.cur, val_go (hall x hx) hlx]
      · obtain ⟨h2, h3⟩ := h.high y hy h1 he
        rw [h3]
        exact hv.fin y hy (by rw [← h2]; exact hk) hry
theorem long_loop (hs : Sys s n) (hl : l.length = n) (hall : ∀ x, x < n → Attr (goals s) (SetOf l) x) (hw : ∀ x j, j < (arcs s x).length → stepsW x j ≤ 24) (hf : ∀ K x j, j < (arcs s x).length → worst_one K ((arcs s x).getD j (0, (0, ()))) = some ((((stepsW x j : Nat) : Int), ()), ())) :
    ∀ d i (kn : List Bool) (out : List Nat), i + d = n → Vis s l stepsW n n kn out → (∀ y, y < i → kn.getD y false = true) →
    Wp (fun K k => worst_longest_506 K k (n : Int) (i : Int) kn s (numl out)) (fun y => ∃ out' : List Nat, y = ((), ((), (numl out', ()))) ∧ out'.length = n ∧ ∀ x, x < n → out'.getD x 0 = (baseN s l stepsW).val x) := by
  have hle := hs.le
  intro d
  induction d with
  | zero =>
    intro i kn out h1 h2 h3
    refine Wp.step ?_
    simp only [worst_longest_506]
    exact Wp.negd (by omega) (Wp.ret ⟨out, rfl, h2.lo, fun x hx => h2.fin x hx (h3 x (by omega)) (rank_lt hs (hall x hx) hx)⟩)
  | succ d ih =>
    intro i kn out h1 h2 h3
    refine Wp.step ?_
    simp only [worst_longest_506, wrapS i (by omega)]
    refine Wp.posd (by omega) ?_
    have hi : i < n := by omega
    refine (Wp.diag (visit_ok hs hl hall hw hf n i hi (rank_lt hs (hall i hi) hi) kn out h2)).call fun y hy => ?_
    obtain ⟨kn', out', rfl, h⟩ := hy
    refine ih (i + 1) kn' out' (by omega) h.vis fun y hy => ?_
    rcases Nat.lt_or_ge y i with h4 | h4
    · exact h.mono y (h3 y h4)
    · rw [show y = i by omega]; exact h.got

theorem worst_longest_ok (hs : Sys s n) (hl : l.length = n) (hall : ∀ x, x < n → Attr (goals s) (SetOf l) x) (hw : ∀ x j, j < (arcs s x).length → stepsW x j ≤ 24) (hf : ∀ K x j, j < (arcs s x).length → worst_one K ((arcs s x).getD j (0, (0, ()))) = some ((((stepsW x j : Nat) : Int), ()), ())) :
    Wp (fun K _ => worst_longest K s l) (fun y => ∃ out : List Nat, y = (((), ()), (numl out, ())) ∧ out.length = n ∧ ∀ x, x < n → out.getD x 0 = (baseN s l stepsW).val x) := by
  subst hl
  have hle := hs.le
  simp only [worst_longest, Int.toNat_natCast, List.length_replicate]
  refine Wp.posd (by omega) (Wp.callE (clone_ok l (by omega)) ?_)
  have hrep : List.replicate l.length (0 : Int) = numl (List.replicate l.length 0) := by simp [numl]
  have hz : ∀ y, (List.replicate l.length 0).getD y 0 = 0 := fun y => by rw [getD_rep]; split <;> rfl
  rw [hrep]
  refine (Wp.diag (long_loop hs rfl hall hw hf l.length 0 l (List.replicate l.length 0) (by omega) ⟨rfl, by simp, fun _ h => h, fun y hy hk _ => by rw [hz, val_leg (hall y hy) hk], fun y _ _ => hz y⟩ (fun y hy => absurd hy (Nat.not_lt_zero _)))).call fun y hy => ?_
  obtain ⟨out, rfl, h1, h2⟩ := hy
  exact Wp.ret ⟨out, rfl, h1, h2⟩
end
end Go.Proofs.Ytafndpkfoajpnaa.G
