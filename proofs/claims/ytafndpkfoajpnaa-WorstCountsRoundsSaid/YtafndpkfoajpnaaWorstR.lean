/- The reference's longest walks, by improvement. -/
import Derived.Test.YtafndpkfoajpnaaWorstD
import Derived.Test.YtafndpkfoajpnaaWorstW
namespace Go.Proofs.Ytafndpkfoajpnaa.G
open Go Go.Fw

section
variable {s : SpaceV} {n : Nat} {l : List Bool} {w : Nat → Nat → Nat}

/-- how much is still to come -/
noncomputable def lack (s : SpaceV) (l : List Bool) (w : Nat → Nat → Nat) (n : Nat) (out : List Nat) : Nat := sumTo n fun y => (baseN s l w).val y - out.getD y 0
def Under (s : SpaceV) (l : List Bool) (w : Nat → Nat → Nat) (n : Nat) (out : List Nat) : Prop := out.length = n ∧ ∀ y, y < n → out.getD y 0 ≤ (baseN s l w).val y
def Held (s : SpaceV) (w : Nat → Nat → Nat) (o0 : List Nat) (x J : Nat) : Prop := ∀ j, j < J → w x j + o0.getD (goN s x j) 0 ≤ o0.getD x 0

theorem upd_ok (hs : Sys s n) (hall : ∀ x, x < n → Attr (goals s) (SetOf l) x) (hw : ∀ x j, j < (arcs s x).length → w x j ≤ 24) {x i : Nat} (hx : x < n) (hi : i < (arcs s x).length) {out : List Nat} (hu : Under s l w n out) (b : Bool) :
    Wp (fun K _ => ref20_longest_15295635 K b (x : Int) (i : Int) ((w x i : Nat) : Int) s (numl out)) (fun y => (out.getD x 0 < w x i + out.getD (goN s x i) 0 ∧ y = ((true, ()), (s, (numl (out.set x (w x i + out.getD (goN s x i) 0)), ())))) ∨ (w x i + out.getD (goN s x i) 0 ≤ out.getD x 0 ∧ y = ((b, ()), (s, (numl out, ()))))) := by
  have har := hs.ar
  have hle := hs.le
  obtain ⟨hol, hov⟩ := hu
  have hnl := numl_length out
  have hg : goN s x i < n := goals_at hs hi
  have h1 := hov _ hg
  have h2 := val_bound 24 hw (hall _ hg)
  have h3 := rank_lt hs (hall _ hg) hg
  have h4 := hw x i hi
  have hgo : (goals s x).getD i 0 = goN s x i := rfl
  simp only [ref20_longest_15295635, Int.toNat_natCast, arcs_def, ato_def, hs.at' x i hi, hgo, numl_getD, wrapA (w x i) (out.getD (goN s x i) 0) (by omega), numl_put]
  refine Wp.posd (by omega) (Wp.posd (by omega) (Wp.posd (by omega) (Wp.posd (by omega) ?_)))
  refine Wp.ited (fun hlt => ?_) (fun hlt => Wp.ret (.inr ⟨by omega, rfl⟩))
  exact Wp.posd (by omega) (Wp.posd (by omega) (Wp.posd (by omega) (Wp.posd (by omega) (Wp.ret (.inl ⟨by omega, rfl⟩)))))

theorem better (hs : Sys s n) (hall : ∀ x, x < n → Attr (goals s) (SetOf l) x) {x i : Nat} (hx : x < n) (hlx : l.getD x false = false) (hi : i < (arcs s x).length) {out : List Nat} (hu : Under s l w n out) (hlt : out.getD x 0 < w x i + out.getD (goN s x i) 0) :
    Under s l w n (out.set x (w x i + out.getD (goN s x i) 0)) ∧ lack s l w n (out.set x (w x i + out.getD (goN s x i) 0)) < lack s l w n out := by
  obtain ⟨hol, hov⟩ := hu
  have hg : goN s x i < n := goals_at hs hi
  have h1 := hov _ hg
  have h2 := val_ge (w := w) (hall x hx) hlx hi
  have hset : ∀ y, (out.set x (w x i + out.getD (goN s x i) 0)).getD y 0 = if x = y then w x i + out.getD (goN s x i) 0 else out.getD y 0 := fun y => by
    rw [gset]
    by_cases hy : x = y
    · rw [if_pos ⟨hy, by omega⟩, if_pos hy]
    · rw [if_neg (fun hh => hy hh.1), if_neg hy]
  refine ⟨⟨by simpa using hol, fun y hy => ?_⟩, sumTo_lt (i := x) (fun y hy => ?_) hx ?_⟩
  · rw [hset]
    split
    · rename_i h; rw [← h]; omega
    · exact hov y hy
  · rw [hset]
    split
    · rename_i h; subst h; omega
    · exact Nat.le_refl _
  · rw [hset, if_pos rfl]; omega

theorem impr_in (hs : Sys s n) (hl : l.length = n) (hall : ∀ x, x < n → Attr (goals s) (SetOf l) x) (hw : ∀ x j, j < (arcs s x).length → w x j ≤ 24) (m : Bool) (hm : m = false → ∀ x j, j < (arcs s x).length → w x j = 1) (hm' : m = true → ∀ x j, j < (arcs s x).length → Wp (fun K _ => ref15_Count K (aset (arcs s x) j)) (fun y => y = ((((w x j : Nat) : Int), ()), ())))
    (o0 : List Nat) {x : Nat} (hx : x < n) : ∀ d i (b : Bool) (out : List Nat), i + d = (arcs s x).length → Under s l w n out → ((b = true ∧ lack s l w n out < lack s l w n o0) ∨ (b = false ∧ out = o0 ∧ (l.getD x false = false → Held s w o0 x i))) →
    Wp (fun K k => ref20_longest_238994 K k l m b (x : Int) (i : Int) s (numl out)) (fun y => ∃ (b' : Bool) (out' : List Nat), y = ((b', ()), (s, (numl out', ()))) ∧ Under s l w n out' ∧ ((b' = true ∧ lack s l w n out' < lack s l w n o0) ∨ (b' = false ∧ b = false ∧ out' = o0 ∧ (l.getD x false = false → Held s w o0 x (arcs s x).length)))) := by
  have har := hs.ar
  have htot := total_ge (s := s) hx
  have htt := hs.tot
  intro d
  induction d with
  | zero =>
    intro i b out h1 h2 h3
    refine Wp.step ?_
    simp only [ref20_longest_238994, Int.toNat_natCast, arcs_def]
    refine Wp.posd (by omega) (Wp.negd (by omega) (Wp.ret ⟨b, out, rfl, h2, h3.imp (fun h => h) (fun h => ⟨h.1, h.1, h.2.1, ?_⟩)⟩))
    have h4 : i = (arcs s x).length := by omega
    rw [← h4]; exact h.2.2
  | succ d ih =>
    intro i b out h1 h2 h3
    have hil : i < (arcs s x).length := by omega
    refine Wp.step ?_
    simp only [ref20_longest_238994, Int.toNat_natCast, arcs_def, wrapS i (by omega)]
    refine Wp.posd (by omega) (Wp.posd (by omega) (Wp.posd (by omega) ?_))
    refine Wp.itebn (fun hlx => ?_) (fun hlx => Wp.ret ⟨b, out, rfl, h2, h3.imp (fun h => h) (fun h => ⟨h.1, h.1, h.2.1, fun hn => by rw [hn] at hlx; simp at hlx⟩)⟩)
    have rest : Wp (fun K k => (ref20_longest_15295635 K b (x : Int) (i : Int) ((w x i : Nat) : Int) s (numl out)).bind fun y => ref20_longest_238994 K k l m y.1.1 (x : Int) ((i + 1 : Nat) : Int) y.2.1 y.2.2.1) (fun y => ∃ (b' : Bool) (out' : List Nat), y = ((b', ()), (s, (numl out', ()))) ∧ Under s l w n out' ∧ ((b' = true ∧ lack s l w n out' < lack s l w n o0) ∨ (b' = false ∧ b = false ∧ out' = o0 ∧ (l.getD x false = false → Held s w o0 x (arcs s x).length)))) := by
      refine (upd_ok hs hall hw hx hil h2 b).call fun y hy => ?_
      rcases hy with ⟨hlt, rfl⟩ | ⟨hge, rfl⟩
      · obtain ⟨h4, h5⟩ := better hs hall hx hlx hil h2 hlt
        refine (ih (i + 1) true _ (by omega) h4 (.inl ⟨rfl, ?_⟩)).mono fun y hy => ?_
        · rcases h3 with h3 | ⟨_, h6, _⟩
          · omega
          · rw [h6] at h5 ⊢; exact h5
        · obtain ⟨b', out', rfl, h6, h7⟩ := hy
          exact ⟨b', out', rfl, h6, h7.imp (fun h => h) (fun h => by have := h.2.1; simp at this)⟩
      · refine ih (i + 1) b out (by omega) h2 (h3.imp (fun h => h) ?_)
        rintro ⟨h6, h7, h8⟩
        refine ⟨h6, h7, fun hn j hj => ?_⟩
        rcases Nat.lt_or_ge j i with h9 | h9
        · exact h8 hn j h9
        · have h10 : j = i := by omega
          rw [h10, ← h7]; exact hge
    refine Wp.iteb (fun hmt => ?_) (fun hmf => ?_)
    · refine Wp.posd (by omega) (Wp.posd (by omega) ?_)
      refine Wp.callE (hm' hmt x i hil) ?_
      exact rest
    · have h1' : ((w x i : Nat) : Int) = 1 := by rw [hm hmf x i hil]; rfl
      rw [h1'] at rest
      exact rest

theorem impr_pass (hs : Sys s n) (hl : l.length = n) (hall : ∀ x, x < n → Attr (goals s) (SetOf l) x) (hw : ∀ x j, j < (arcs s x).length → w x j ≤ 24) (m : Bool) (hm : m = false → ∀ x j, j < (arcs s x).length → w x j = 1) (hm' : m = true → ∀ x j, j < (arcs s x).length → Wp (fun K _ => ref15_Count K (aset (arcs s x) j)) (fun y => y = ((((w x j : Nat) : Int), ()), ())))
    (o0 : List Nat) : ∀ d x (b : Bool) (out : List Nat), x + d = n → Under s l w n out → ((b = true ∧ lack s l w n out < lack s l w n o0) ∨ (b = false ∧ out = o0 ∧ ∀ z, z < x → l.getD z false = false → Held s w o0 z (arcs s z).length)) →
    Wp (fun K k => ref20_longest_3734 K k l m b (x : Int) s (numl out)) (fun y => ∃ (b' : Bool) (out' : List Nat), y = ((b', ()), (s, (numl out', ()))) ∧ Under s l w n out' ∧ ((b' = true ∧ lack s l w n out' < lack s l w n o0) ∨ (b' = false ∧ out' = o0 ∧ ∀ z, z < n → l.getD z false = false → Held s w o0 z (arcs s z).length))) := by
  have hle := hs.le
  intro d
  induction d with
  | zero =>
    intro x b out h1 h2 h3
    have hol := h2.1
    have hnl := numl_length out
    refine Wp.step ?_
    simp only [ref20_longest_3734]
    exact Wp.negd (by omega) (Wp.ret ⟨b, out, rfl, h2, h3.imp (fun h => h) (fun h => ⟨h.1, h.2.1, fun z hz => h.2.2 z (by omega)⟩)⟩)
  | succ d ih =>
    intro x b out h1 h2 h3
    have hol := h2.1
    have hnl := numl_length out
    refine Wp.step ?_
    simp only [ref20_longest_3734, wrapS x (by omega)]
    refine Wp.posd (by omega) ?_
    refine (Wp.diag (impr_in hs hl hall hw m hm hm' o0 (show x < n by omega) (arcs s x).length 0 b out (by omega) h2 (h3.imp (fun h => h) (fun h => ⟨h.1, h.2.1, fun _ j hj => absurd hj (Nat.not_lt_zero _)⟩)))).call fun y hy => ?_
    obtain ⟨b', out', rfl, h4, h5⟩ := hy
    refine ih (x + 1) b' out' (by omega) h4 (h5.imp (fun h => h) ?_)
    rintro ⟨h6, h7, h8, h9⟩
    rcases h3 with h3 | ⟨_, h10, h11⟩
    · rw [h7] at h3; simp at h3
    · refine ⟨h6, h8, fun z hz hn => ?_⟩
      rcases Nat.lt_or_ge z x with h12 | h12
      · exact h11 z h12 hn
      · have h13 : z = x := by omega
        rw [h13] at hn ⊢; exact h9 hn

theorem impr_rounds (hs : Sys s n) (hl : l.length = n) (hall : ∀ x, x < n → Attr (goals s) (SetOf l) x) (hw : ∀ x j, j < (arcs s x).length → w x j ≤ 24) (m : Bool) (hm : m = false → ∀ x j, j < (arcs s x).length → w x j = 1) (hm' : m = true → ∀ x j, j < (arcs s x).length → Wp (fun K _ => ref15_Count K (aset (arcs s x) j)) (fun y => y = ((((w x j : Nat) : Int), ()), ()))) :
    ∀ c (out : List Nat), lack s l w n out = c → Under s l w n out →
    Wp (fun K k => ref20_longest_58 K k l m true s (numl out)) (fun y => ∃ out' : List Nat, y = ((), (numl out', ())) ∧ out'.length = n ∧ ∀ x, x < n → out'.getD x 0 = (baseN s l w).val x) := by
  intro c
  induction c using Nat.strongRecOn with
  | ind c ih =>
    intro out hc h1
    refine Wp.step ?_
    simp only [ref20_longest_58, if_true]
    refine (Wp.diag (impr_pass hs hl hall hw m hm hm' out n 0 false out (by omega) h1 (.inr ⟨rfl, rfl, fun z hz => absurd hz (Nat.not_lt_zero _)⟩))).call fun y hy => ?_
    obtain ⟨b, out', rfl, h2, h3⟩ := hy
    rcases h3 with ⟨rfl, h3⟩ | ⟨rfl, h3, h4⟩
    · exact ih _ (by omega) out' rfl h2
    · refine Wp.step ?_
      simp only [ref20_longest_58, Bool.false_eq_true, if_false]
      subst h3
      refine Wp.ret ⟨out', rfl, h2.1, fun x hx => Nat.le_antisymm (h2.2 x hx) ?_⟩
      refine (ends_base (hall x hx)).least (v := fun y => out'.getD y 0) (P := fun y => y < n) (fun a ha j hj hla => goals_at hs hj) (fun a ha => ?_) hx
      cases hla : l.getD a false with
      | true => rw [Net.rhs_leg hla]; exact Nat.zero_le _
      | false =>
        rw [Net.rhs_go hla]
        exact Nat.max_le.2 ⟨Nat.zero_le _, maxTo_le fun j hj => h4 a ha hla j hj⟩

theorem ref20_longest_ok (hs : Sys s n) (hl : l.length = n) (hall : ∀ x, x < n → Attr (goals s) (SetOf l) x) (hw : ∀ x j, j < (arcs s x).length → w x j ≤ 24) (m : Bool) (hm : m = false → ∀ x j, j < (arcs s x).length → w x j = 1) (hm' : m = true → ∀ x j, j < (arcs s x).length → Wp (fun K _ => ref15_Count K (aset (arcs s x) j)) (fun y => y = ((((w x j : Nat) : Int), ()), ()))) :
    Wp (fun K _ => ref20_longest K s l m) (fun y => ∃ out : List Nat, y = (((), ()), (numl out, ())) ∧ out.length = n ∧ ∀ x, x < n → out.getD x 0 = (baseN s l w).val x) := by
  subst hl
  have hle := hs.le
  simp only [ref20_longest, Int.toNat_natCast]
  refine Wp.posd (by omega) ?_
  have hrep : List.replicate l.length (0 : Int) = numl (List.replicate l.length 0) := by simp [numl]
  have hz : ∀ y, (List.replicate l.length 0).getD y 0 = 0 := fun y => by rw [getD_rep]; split <;> rfl
  rw [hrep]
  refine (Wp.diag (impr_rounds hs rfl hall hw m hm hm' _ _ rfl ⟨by simp, fun y _ => by rw [hz]; exact Nat.zero_le _⟩)).call fun y hy => ?_
  obtain ⟨out, rfl, h1, h2⟩ := hy
  exact Wp.ret ⟨out, rfl, h1, h2⟩
end
end Go.Proofs.Ytafndpkfoajpnaa.G
