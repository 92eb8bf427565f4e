/- Transition systems: the reference's word for valid is the same. -/
import Derived.Test.YtafndpkfoajpnaaSpace
namespace Go.Proofs.Ytafndpkfoajpnaa.G
open Go Go.Fw

theorem ref01_In_eq (K : Nat) (a b c : Int) : ref01_In K a b c = some ((decide (b ≤ a ∧ a ≤ c), ()), ()) := by
  simp only [ref01_In]
  by_cases h : b ≤ a
  · simp [h]
  · simp [h]

theorem ref01_All_24 (n : Nat) : ref01_All (n + 25) 24 = some ((16777215, ()), ()) := by kernel_rfl
theorem All24 : Wp (fun K _ => ref01_All K 24) (fun y => y = ((16777215, ()), ())) := Wp.of_add 25 ref01_All_24 rfl

theorem ref18_arcs_loop (e : Int) (n : Nat) (l : List ArcV) (hl : l.length ≤ 1000000) (hn : n ≤ 1000000) : ∀ d i, i + d = l.length →
    Wp (fun K k => ref18_arcs_58 K k l e (n : Int) (i : Int)) (fun y => Look y (∀ j, i ≤ j → j < l.length → ArcP e l n j)) := by
  intro d
  induction d with
  | zero =>
    intro i h1
    refine Wp.step ?_
    simp only [ref18_arcs_58]
    refine Wp.negd (by omega) (Wp.ret ?_)
    exact .inl ⟨rfl, by rw [show i = l.length by omega]; exact all_end⟩
  | succ d ih =>
    intro i h1
    have hil : i < l.length := by omega
    rw [all_step hil]
    have hb : IntKind.i64.wrap ((n : Int) - 1) = (n : Int) - 1 := wrapI (by omega) (by omega)
    have rest : ∀ b : Bool, (b = true → ArcP e l n i) → (b = false → ¬ ArcP e l n i) → Wp (fun K k => (ref18_arcs_1865 K (!b)).bind fun y => match y with
        | .inl _ => (ref18_arcs_467 K (i : Int)).bind fun z => ref18_arcs_58 K k l e (n : Int) z.1.1
        | .inr z => some (.inr ((z.1.1, ()), ()))) (fun y => Look y (ArcP e l n i ∧ ∀ j, i + 1 ≤ j → j < l.length → ArcP e l n j)) := by
      intro b h2 h3
      cases b with
      | false =>
        simp only [ref18_arcs_1865, Bool.not_false, if_true, Option.bind_some]
        exact Wp.ret (.inr ⟨⟨_, rfl⟩, fun hc => h3 rfl hc.1⟩)
      | true =>
        simp only [ref18_arcs_1865, Bool.not_true, Bool.false_eq_true, if_false, Option.bind_some, ref18_arcs_467, wrapS i (by omega)]
        refine (ih (i + 1) (by omega)).mono fun y hy => ?_
        rcases hy with ⟨h4, h5⟩ | ⟨h4, h5⟩
        · exact .inl ⟨h4, h2 rfl, h5⟩
        · exact .inr ⟨h4, fun hc => h5 hc.2⟩
    refine Wp.step ?_
    simp only [ref18_arcs_58, Int.toNat_natCast, aset_def, ato_def, ref01_In_eq, Option.bind_some, hb]
    refine Wp.posd (by omega) (Wp.posd (by omega) ?_)
    refine Wp.ited (fun hA => rest false (by simp) (fun _ hc => hc.1 hA)) (fun hA => ?_)
    refine Wp.posd (by omega) ?_
    refine Wp.iten (fun hB => rest false (by simp) (fun _ hc => hB hc.2.2.1)) (fun hB => ?_)
    refine Wp.ited (fun hC => ?_) (fun hC => ?_)
    · have hp : IntKind.i64.wrap ((i : Int) - 1) = ((i - 1 : Nat) : Int) := wrapP i (by omega) (by omega)
      simp only [hp, Int.toNat_natCast]
      refine Wp.posd (by omega) (Wp.posd (by omega) ?_)
      refine Wp.ited (fun hD => rest false (by simp) (fun _ hc => by have := hc.2.1 (by omega); omega)) (fun hD => ?_)
      refine Wp.posd (by omega) ?_
      refine rest _ (fun h => ?_) (fun h => ?_)
      · rw [decide_eq_true_eq] at h
        exact ⟨hA, fun _ => by omega, hB, by omega, by omega⟩
      · rw [decide_eq_false_iff_not] at h
        exact fun hc => h ⟨hc.2.2.2.1, by have := hc.2.2.2.2; omega⟩
    · refine Wp.posd (by omega) ?_
      refine rest _ (fun h => ?_) (fun h => ?_)
      · rw [decide_eq_true_eq] at h
        exact ⟨hA, fun _ => by omega, hB, by omega, by omega⟩
      · rw [decide_eq_false_iff_not] at h
        exact fun hc => h ⟨hc.2.2.2.1, by have := hc.2.2.2.2; omega⟩

theorem ref18_arcs_ok {e : Int} {n : Nat} {l : List ArcV} (hl : l.length ≤ 1000000) (hn : n ≤ 1000000) :
    Wp (fun K _ => ref18_arcs K l e (n : Int)) (fun y => ∃ b, y = ((b, ()), ()) ∧ (b = true ↔ ArcsP e l n ∧ (l ≠ [] ↔ e ≠ 0))) := by
  simp only [ref18_arcs, beq_bool]
  refine Wp.itebn (fun hb => Wp.ret ⟨_, rfl, ?_⟩) (fun hb => ?_)
  · simp only [Bool.false_eq_true, false_iff]
    intro hh
    rw [Bool.eq_false_iff, Ne, beq_dec, len_pos] at hb
    exact hb hh.2
  · rw [beq_dec, len_pos] at hb
    refine (Wp.diag (ref18_arcs_loop e n l hl hn l.length 0 (by omega))).call fun y hy => ?_
    rcases hy with ⟨rfl, h1⟩ | ⟨⟨a, rfl⟩, h1⟩
    · exact Wp.ret ⟨_, rfl, by simp only [true_iff]; exact ⟨fun j hj => h1 j (by omega) hj, hb⟩⟩
    · exact Wp.ret ⟨_, rfl, by simp only [Bool.false_eq_true, false_iff]; exact fun hh => h1 fun j _ hj => hh.1 j hj⟩

theorem mask24 {e : Int} (h : IntKind.u32.has e) : iandNot .u32 e 16777215 = 0 ↔ e < 16777216 := by
  obtain ⟨n, rfl, hn⟩ := nat_of_u32 h
  have e1 : iandNot .u32 (n : Int) 16777215 = ((n &&& 4278190080 : Nat) : Int) := iandNot_nat (b := 16777215) hn (by omega)
  have e2 : n &&& 4278190080 = 0 ↔ n < 16777216 := by
    have h1 : (4278190080 : Nat) = (2 ^ 8 - 1) <<< 24 := by decide
    have h2 : n &&& 4278190080 = (n >>> 24 &&& 255) <<< 24 := by
      apply Nat.eq_of_testBit_eq
      intro i
      rw [h1, Nat.testBit_and, Nat.testBit_shiftLeft, Nat.testBit_shiftLeft, Nat.testBit_and, Nat.testBit_shiftRight, Nat.testBit_two_pow_sub_one]
      by_cases h3 : 24 ≤ i
      · simp [h3, show 24 + (i - 24) = i by omega]
      · simp [h3]
    rw [h2, Nat.shiftLeft_eq, show (255 : Nat) = 2 ^ 8 - 1 from rfl, Nat.and_two_pow_sub_one_eq_mod, Nat.shiftRight_eq_div_pow]
    omega
  rw [e1]
  omega

theorem ref18_Valid_loop {s : SpaceV} (hs : SpaceIn s) (he : s.2.1.length = s.1.length) (hn : s.1.length ≤ 32768) : ∀ d i, i + d = s.1.length → total s i ≤ 262144 →
    Wp (fun K k => ref18_Valid_250 K k (s.1.length : Int) ((total s i : Nat) : Int) (i : Int) s) (fun y => Look y (total s s.1.length ≤ 262144 ∧ ∀ j, i ≤ j → j < s.1.length → StateP (s.1.getD j 0) (arcs s j) s.1.length)) := by
  intro d
  induction d with
  | zero =>
    intro i h1 h2
    refine Wp.step ?_
    simp only [ref18_Valid_250]
    refine Wp.negd (by omega) (Wp.ret ?_)
    exact .inl ⟨rfl, by rw [show s.1.length = i by omega]; exact ⟨h2, all_end⟩⟩
  | succ d ih =>
    intro i h1 h2
    have hil : i < s.1.length := by omega
    have hfew := hs.few i (by omega)
    have ht : total s (i + 1) = total s i + (arcs s i).length := rfl
    have hu : IntKind.u32.has (s.1.getD i 0) := getD_ok hs.en (0 : Int) hil
    rw [all_step hil]
    refine Wp.step ?_
    simp only [ref18_Valid_250, wrapS i (by omega), Int.toNat_natCast, arcs_def]
    refine Wp.posd (by omega) (Wp.posd (by omega) ?_)
    have hw : IntKind.i64.wrap (((total s i : Nat) : Int) + ((arcs s i).length : Int)) = ((total s (i + 1) : Nat) : Int) := wrapA _ _ (by show total s i + (arcs s i).length ≤ _; omega)
    simp only [hw]
    refine Wp.ited (fun hA => Wp.ret (.inr ⟨⟨_, rfl⟩, fun hc => ?_⟩)) (fun hA => ?_)
    · have := total_mono s (show i + 1 ≤ s.1.length by omega)
      have := hc.1
      omega
    refine Wp.posd (by omega) ?_
    refine Wp.callE All24 ?_
    refine Wp.iten (fun hB => Wp.ret (.inr ⟨⟨_, rfl⟩, fun hc => hB ((mask24 hu).2 hc.2.1.2.1)⟩)) (fun hB => ?_)
    refine Wp.posd (by omega) (Wp.posd (by omega) ?_)
    refine (ref18_arcs_ok (l := arcs s i) hfew (by omega)).call fun y hy => ?_
    obtain ⟨b, rfl, hb⟩ := hy
    cases b with
    | false => exact Wp.itebn (fun _ => Wp.ret (.inr ⟨⟨_, rfl⟩, fun hc => by simpa using hb.2 ⟨hc.2.1.1, hc.2.1.2.2⟩⟩)) (fun h => by simp at h)
    | true =>
      refine Wp.itebn (fun h => by simp at h) (fun _ => ?_)
      refine (ih (i + 1) (by omega) (by omega)).mono fun y hy => ?_
      have hb' := hb.1 rfl
      rcases hy with ⟨h4, h5⟩ | ⟨h4, h5⟩
      · exact .inl ⟨h4, h5.1, ⟨hb'.1, (mask24 hu).1 hB, hb'.2⟩, h5.2⟩
      · exact .inr ⟨h4, fun hc => h5 ⟨hc.1, hc.2.2⟩⟩

theorem ref18_Valid_ok {s : SpaceV} (hs : SpaceIn s) : Wp (fun K _ => ref18_Valid K s) (fun y => ∃ b, y = ((b, ()), ()) ∧ (b = true ↔ SpaceP s)) := by
  simp only [ref18_Valid, ref01_In_eq, Option.bind_some]
  refine Wp.iten (fun hA => Wp.ret ⟨_, rfl, by simp only [Bool.false_eq_true, false_iff]; exact fun hc => hA ⟨by have := hc.1; omega, by have := hc.2.1; omega⟩⟩) (fun hA => ?_)
  refine Wp.iten (fun hC => Wp.ret ⟨_, rfl, by simp only [Bool.false_eq_true, false_iff]; exact fun hc => by have := hc.2.2.1; omega⟩) (fun hC => ?_)
  refine (Wp.diag (ref18_Valid_loop hs (by omega) (by omega) s.1.length 0 (by omega) (Nat.zero_le _))).call fun y hy => ?_
  rcases hy with ⟨rfl, h1⟩ | ⟨⟨a, rfl⟩, h1⟩
  · exact Wp.ret ⟨_, rfl, by simp only [true_iff]; exact ⟨by omega, by omega, by omega, h1.1, fun k hk => h1.2 k (by omega) hk⟩⟩
  · exact Wp.ret ⟨_, rfl, by simp only [Bool.false_eq_true, false_iff]; exact fun hc => h1 ⟨hc.2.2.2.1, fun j _ hj => hc.2.2.2.2 j hj⟩⟩
end Go.Proofs.Ytafndpkfoajpnaa.G
