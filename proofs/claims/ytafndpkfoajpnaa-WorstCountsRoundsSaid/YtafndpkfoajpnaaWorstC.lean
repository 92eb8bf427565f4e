/- The program's rounds. -/
import Derived.Test.YtafndpkfoajpnaaL20a
namespace Go.Fw
/-! ### Maps by equal keys -/
section
variable {g : GTy} {α : Type}
theorem mget_put_eq (hb : ∀ a b : g.denote, g.beq a b = true ↔ a = b) (m : List (g.denote × α)) (k : g.denote) (v : α) : mget g (mput g m k v) k = some v := by
  induction m with
  | nil => simp only [mput, mget]; rw [if_pos ((hb k k).2 rfl)]
  | cons p m ih =>
    simp only [mput]
    split
    · simp only [mget]; rw [if_pos ((hb k k).2 rfl)]
    · rename_i h
      simp only [mget]; rw [if_neg h]; exact ih
theorem mget_put_ne (hb : ∀ a b : g.denote, g.beq a b = true ↔ a = b) (m : List (g.denote × α)) {k k' : g.denote} (hk : k' ≠ k) (v : α) : mget g (mput g m k v) k' = mget g m k' := by
  have h0 : ¬ g.beq k' k = true := fun h => hk ((hb _ _).1 h)
  induction m with
  | nil => simp only [mput, mget]; rw [if_neg h0]
  | cons p m ih =>
    simp only [mput]
    split
    · rename_i h
      have h1 := (hb _ _).1 h
      simp only [mget]; rw [if_neg h0, if_neg (by rw [← h1]; exact h0)]
    · simp only [mget]; rw [ih]
theorem mput_keys (hb : ∀ a b : g.denote, g.beq a b = true ↔ a = b) (m : List (g.denote × α)) (k : g.denote) (v : α) : (k ∈ m.map (·.1) ∧ (mput g m k v).map (·.1) = m.map (·.1)) ∨ (k ∉ m.map (·.1) ∧ (mput g m k v).map (·.1) = m.map (·.1) ++ [k]) := by
  induction m with
  | nil => right; simp [mput]
  | cons p m ih =>
    simp only [mput]
    split
    · rename_i h
      have h1 := (hb _ _).1 h
      left; simp [h1]
    · rename_i h
      have h1 : ¬ k = p.1 := fun hh => h ((hb _ _).2 hh)
      rcases ih with ⟨h2, h3⟩ | ⟨h2, h3⟩
      · left; exact ⟨List.mem_cons_of_mem _ h2, by simp only [List.map_cons]; rw [h3]⟩
      · right; refine ⟨fun hm => ?_, by simp only [List.map_cons]; rw [h3]; rfl⟩
        rcases List.mem_cons.1 hm with hm | hm
        · exact h1 hm
        · exact h2 hm
end
end Go.Fw
namespace Go.Proofs.Ytafndpkfoajpnaa.G
open Go Go.Fw

@[reducible] def KT : GTy := .pair (.int .i64) (.pair (.int .u32) .unit)
@[reducible] def key (x p : Nat) : Int × (Int × Unit) := ((x : Int), ((p : Int), ()))
theorem kt_beq (a b : Int × (Int × Unit)) : GTy.beq KT a b = true ↔ a = b := by
  obtain ⟨a1, a2, _⟩ := a
  obtain ⟨b1, b2, _⟩ := b
  simp [GTy.beq]
theorem key_inj {x p y q : Nat} (h : key x p = key y q) : x = y ∧ p = q := by
  simp only [key, Prod.mk.injEq, and_true] at h
  omega

section
variable (s : SpaceV) (l : List Bool) (n : Nat)
abbrev Most := List ((Int × (Int × Unit)) × Int)
abbrev Seen := List ((Int × (Int × Unit)) × Bool)
def MostOk (m : Most) : Prop := ∀ x p v, x < n → mget KT m (key x p) = some v → v = (((roundsN s l).val (x, p) : Nat) : Int)
def PairOk (x p : Nat) : Prop := x < n ∧ p < 2 ^ 32 ∧ ∀ b, b < 32 → p.testBit b = true → (enN s x).testBit b = true
def SeenOk (m : Seen) : Prop := ∃ P : List (Nat × Nat), m.map (·.1) = P.map (fun q => key q.1 q.2) ∧ P.Nodup ∧ ∀ q ∈ P, q ∈ pairsTo 32 (enN s) n
@[reducible] def RR (v : Int) (m : Most) (z : Seen) : ((Int × (Bool × Unit)) × Unit) × ((SpaceV × ((List Bool) × (Unit × (Unit × Unit)))) × (Most × (Seen × Unit))) := (((v, (true, ())), ()), ((s, (l, ((), ((), ())))), (m, (z, ()))))
end

section
variable {s : SpaceV} {l : List Bool} {n : Nat}
theorem MostOk.nil : MostOk s l n [] := fun x p v _ h => by simp [mget] at h
theorem MostOk.put {m : Most} (h : MostOk s l n m) {x p : Nat} (v : Nat) (hv : v = (roundsN s l).val (x, p)) : MostOk s l n (mput KT m (key x p) (v : Int)) := fun y q u hy hu => by
  by_cases hk : key y q = key x p
  · obtain ⟨h1, h2⟩ := key_inj hk
    rw [hk, mget_put_eq kt_beq] at hu
    injection hu with hu
    rw [← hu, hv, h1, h2]
  · rw [mget_put_ne kt_beq _ hk] at hu
    exact h y q u hy hu
theorem SeenOk.nil : SeenOk s n [] := ⟨[], rfl, List.nodup_nil, fun q h => by simp at h⟩
theorem SeenOk.put {m : Seen} (h : SeenOk s n m) {x p : Nat} (hp : PairOk s n x p) (v : Bool) : SeenOk s n (mput KT m (key x p) v) := by
  obtain ⟨P, h1, h2, h3⟩ := h
  rcases mput_keys (g := KT) kt_beq m (key x p) v with ⟨_, h4⟩ | ⟨h5, h4⟩
  · exact ⟨P, by rw [h4]; exact h1, h2, h3⟩
  · refine ⟨P ++ [(x, p)], by rw [h4, h1, List.map_append]; rfl, List.nodup_append.2 ⟨h2, by simp, fun a ha b hb => ?_⟩, fun q hq => ?_⟩
    · rw [List.mem_singleton] at hb
      rintro rfl
      subst hb
      exact h5 (by rw [h1]; exact List.mem_map.2 ⟨_, ha, rfl⟩)
    · rcases List.mem_append.1 hq with hq | hq
      · exact h3 q hq
      · rw [List.mem_singleton] at hq
        subst hq
        exact mem_pairsTo n hp.1 hp.2.1 hp.2.2
theorem SeenOk.length {m : Seen} (h : SeenOk s n m) (hfew : ∀ x, x < n → pops 32 (enN s x) ≤ 8) (hn : n ≤ 120) : m.length ≤ 30720 := by
  obtain ⟨P, h1, h2, h3⟩ := h
  have h4 := congrArg List.length h1
  rw [List.length_map, List.length_map] at h4
  have h5 := nodup_sub P _ h2 h3
  have h6 := pairsTo_length (k := 32) (e := enN s) (m := 8) n hfew
  omega

theorem pair_after (hs : Sys s n) (hS : Sets s n) {x p j : Nat} (hp : PairOk s n x p) (hj : j < (arcs s x).length) : PairOk s n (goN s x j) (afterN s p x j) := by
  have hg : goN s x j < n := goals_at hs hj
  have he := (hS.en _ hg).2
  refine ⟨hg, ?_, fun b _ hb => ?_⟩
  · unfold afterN
    split
    · omega
    · have : leftN s p x j ≤ enN s (goN s x j) := Nat.and_le_right
      omega
  · unfold afterN at hb
    split at hb
    · exact hb
    · unfold leftN at hb
      rw [Nat.testBit_and, Bool.and_eq_true] at hb
      exact hb.2
theorem pair_start (hS : Sets s n) {x : Nat} (hx : x < n) : PairOk s n x (enN s x) := ⟨hx, by have := (hS.en x hx).2; omega, fun _ _ h => h⟩

theorem rounds_in (hs : Sys s n) (hl : l.length = n) (hf : ∀ x, x < n → Attr (goals s) (SetOf l) x) (hS : Sets s n) {x p : Nat} (hp : PairOk s n x p) (hlx : l.getD x false = false)
    (ih : ∀ t q, (baseN s l stepsW).val t < (baseN s l stepsW).val x → PairOk s n t q → ∀ m z, MostOk s l n m → SeenOk s n z →
      Wp (fun K j => worst_counter_rounds K j (key t q) s l () m z) (fun y => ∃ m' z', y = RR s l (((roundsN s l).val (t, q) : Nat) : Int) m' z' ∧ MostOk s l n m' ∧ SeenOk s n z')) :
    ∀ d i (m : Most) (z : Seen), i + d = (arcs s x).length → MostOk s l n m → SeenOk s n z →
    W3 (fun K j k => worst_counter_rounds_1018 K (worst_counter_rounds K j) k ((max 1 (maxTo i (fun j => doneN s p x j + (roundsN s l).val (goN s x j, afterN s p x j))) : Nat) : Int) (arcs s x) ((arcs s x).length : Int) (i : Int) s l () m z (key x p))
      (fun y => ∃ m' z', y = .inl (((((roundsN s l).val (x, p) : Nat) : Int), ()), ((s, (l, ((), ((), ())))), (m', (z', (key x p, ()))))) ∧ MostOk s l n m' ∧ SeenOk s n z') := by
  have hx := hp.1
  have hen := hs.en
  have htot := total_ge (s := s) hx
  have htt := hs.tot
  have hle := hs.le
  intro d
  induction d with
  | zero =>
    intro i m z h1 h2 h3
    refine W3.step ?_
    simp only [worst_counter_rounds_1018]
    have h4 : i = (arcs s x).length := by omega
    subst h4
    refine W3.negd (by omega) (W3.ret ⟨m, z, ?_, h2, h3⟩)
    rw [rval_go (hf x hx) hlx]
  | succ d ih2 =>
    intro i m z h1 h2 h3
    have hil : i < (arcs s x).length := by omega
    have hg : goN s x i < n := goals_at hs hil
    have hgo : (goals s x).getD i 0 = goN s x i := rfl
    have hrk := rank_next (hf x hx) hlx hil
    have hpa := pair_after hs hS hp hil
    obtain ⟨hs1, hs2, _⟩ := hS.st x i hil
    obtain ⟨he1, he2⟩ := hS.en _ hg
    have hp2 : p < 4294967296 := hp.2.1
    have hand1 : p &&& (4294967295 - setN s x i) ≤ p := Nat.and_le_left
    have ha1 : iandNot .u32 (p : Int) ((setN s x i : Nat) : Int) = ((p &&& (4294967295 - setN s x i) : Nat) : Int) := iandNot_nat hp2 (by omega)
    have ha2 : iand .u32 ((p &&& (4294967295 - setN s x i) : Nat) : Int) ((enN s (goN s x i) : Nat) : Int) = ((leftN s p x i : Nat) : Int) := iand_nat (by omega) (by omega)
    have hvis := ih (goN s x i) (afterN s p x i) hrk hpa m z h2 h3
    have hrs := rounds_le_steps (hf _ hg) (afterN s p x i)
    have hrn := rank_lt hs (hf _ hg) hg
    have hd1 : doneN s p x i ≤ 1 := by unfold doneN; split <;> omega
    have next : W3 (fun K j k => (worst_counter_rounds_521423 K (worst_counter_rounds K j) ((max 1 (maxTo i (fun j => doneN s p x j + (roundsN s l).val (goN s x j, afterN s p x j))) : Nat) : Int) ((doneN s p x i : Nat) : Int) s l () m z (key (goN s x i) (afterN s p x i))).bind fun y7 =>
        match y7 with
        | .inl y8 => worst_counter_rounds_1018 K (worst_counter_rounds K j) k y8.1.1 (arcs s x) ((arcs s x).length : Int) ((i + 1 : Nat) : Int) y8.2.1.1 y8.2.1.2.1 y8.2.1.2.2.2.2 y8.2.2.1 y8.2.2.2.1 (key x p)
        | .inr y9 => some (.inr ((y9.1.1, (y9.1.2.1, ())), ((y9.2.1.1, (y9.2.1.2.1, ((), ((), y9.2.1.2.2.2.2)))), (y9.2.2.1, (y9.2.2.2.1, ()))))))
        (fun y => ∃ m' z', y = .inl (((((roundsN s l).val (x, p) : Nat) : Int), ()), ((s, (l, ((), ((), ())))), (m', (z', (key x p, ()))))) ∧ MostOk s l n m' ∧ SeenOk s n z') := by
      have h5 : Wp (fun K j => worst_counter_rounds_521423 K (worst_counter_rounds K j) ((max 1 (maxTo i (fun j => doneN s p x j + (roundsN s l).val (goN s x j, afterN s p x j))) : Nat) : Int) ((doneN s p x i : Nat) : Int) s l () m z (key (goN s x i) (afterN s p x i)))
          (fun y => ∃ m' z', y = .inl ((((max 1 (maxTo (i + 1) (fun j => doneN s p x j + (roundsN s l).val (goN s x j, afterN s p x j))) : Nat) : Int), ()), ((s, (l, ((), ((), ())))), (m', (z', ())))) ∧ MostOk s l n m' ∧ SeenOk s n z') := by
        simp only [worst_counter_rounds_521423]
        refine hvis.call fun y hy => ?_
        obtain ⟨m', z', rfl, h6, h7⟩ := hy
        refine Wp.itebn (fun h => by simp at h) (fun _ => Wp.ret ⟨m', z', ?_, h6, h7⟩)
        simp only [RR]
        have hmx : (if IntKind.i64.wrap (((doneN s p x i : Nat) : Int) + (((roundsN s l).val (goN s x i, afterN s p x i) : Nat) : Int)) > ((max 1 (maxTo i (fun j => doneN s p x j + (roundsN s l).val (goN s x j, afterN s p x j))) : Nat) : Int) then IntKind.i64.wrap (((doneN s p x i : Nat) : Int) + (((roundsN s l).val (goN s x i, afterN s p x i) : Nat) : Int)) else ((max 1 (maxTo i (fun j => doneN s p x j + (roundsN s l).val (goN s x j, afterN s p x j))) : Nat) : Int)) = ((max 1 (maxTo (i + 1) (fun j => doneN s p x j + (roundsN s l).val (goN s x j, afterN s p x j))) : Nat) : Int) := by
          rw [wrapA _ _ (by omega)]
          simp only [maxTo]
          split <;> omega
        rw [hmx]
      refine (W3.lift h5).call fun y hy => ?_
      obtain ⟨m', z', rfl, h6, h7⟩ := hy
      exact ih2 (i + 1) m' z' (by omega) h6 h7
    refine W3.step ?_
    simp only [worst_counter_rounds_1018, Int.toNat_natCast, ato_def, aset_def, hs.at' x i hil, hgo, hs1, he1, ha1, ha2, wrapS i (by omega)]
    refine W3.posd (by omega) (W3.posd (by omega) (W3.posd (by omega) ?_))
    refine W3.ited (fun h0 => ?_) (fun h0 => ?_)
    · have h0' : leftN s p x i = 0 := by omega
      have e1 : doneN s p x i = 1 := by unfold doneN; rw [if_pos h0']
      have e2 : afterN s p x i = enN s (goN s x i) := by unfold afterN; rw [if_pos h0']
      rw [e1, e2] at next
      exact next
    · have h0' : ¬ leftN s p x i = 0 := by omega
      have e1 : doneN s p x i = 0 := by unfold doneN; rw [if_neg h0']
      have e2 : afterN s p x i = leftN s p x i := by unfold afterN; rw [if_neg h0']
      rw [e1, e2] at next
      exact next

theorem rounds_ok (hs : Sys s n) (hl : l.length = n) (hf : ∀ x, x < n → Attr (goals s) (SetOf l) x) (hS : Sets s n) (hfew : ∀ x, x < n → pops 32 (enN s x) ≤ 8) (hn : n ≤ 120) :
    ∀ r x p, (baseN s l stepsW).val x = r → PairOk s n x p → ∀ m z, MostOk s l n m → SeenOk s n z →
      Wp (fun K j => worst_counter_rounds K j (key x p) s l () m z) (fun y => ∃ m' z', y = RR s l (((roundsN s l).val (x, p) : Nat) : Int) m' z' ∧ MostOk s l n m' ∧ SeenOk s n z') := by
  have har := hs.ar
  intro r
  induction r using Nat.strongRecOn with
  | ind r ih =>
    intro x p hr hp m z hm hz
    have hx := hp.1
    refine Wp.step ?_
    simp only [worst_counter_rounds, worst_counter_rounds_body, Int.toNat_natCast, arcs_def]
    refine Wp.posd (by omega) ?_
    refine Wp.iteb (fun hlx => Wp.ret ⟨m, z, by rw [rval_leg (hf x hx) hlx]; rfl, hm, hz⟩) (fun hlx => ?_)
    refine Wp.iteb (fun hk => ?_) (fun hk => ?_)
    · obtain ⟨v, hv⟩ := Option.isSome_iff_exists.1 hk
      have h1 := hm x p v hx hv
      refine Wp.ret ⟨m, z, ?_, hm, hz⟩
      rw [hv, ← h1]; rfl
    · have hz' := hz.put hp true
      have hzl : (mput (.pair (.int .i64) (.pair (.int .u32) .unit)) z (key x p) true).length ≤ 30720 := hz'.length hfew hn
      refine Wp.posd (by omega) (Wp.negd (by omega) (Wp.posd (by omega) ?_))
      have hin := rounds_in hs hl hf hS hp hlx (fun t q ht hq m1 z1 hm1 hz1 => ih _ (by omega) t q rfl hq m1 z1 hm1 hz1) (arcs s x).length 0 m _ (by omega) hm hz'
      refine (W3.diag hin).call fun y hy => ?_
      obtain ⟨m', z', rfl, h1, h2⟩ := hy
      exact Wp.ret ⟨_, z', rfl, h1.put _ rfl, h2⟩
end
end Go.Proofs.Ytafndpkfoajpnaa.G
