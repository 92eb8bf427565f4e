/- Printed by a program of this work: for each function that is reached, what it computes, and that the code computes it. -/
import Derived.Test.YtafndpkfoajpnaaFwE
import Derived.Test.YtafndpkfoajpnaaProg
import Derived.KernelRfl
namespace Go.Proofs.Ytafndpkfoajpnaa.G
open Go Go.Fw Go.Proofs
set_option maxRecDepth 100000
set_option linter.unusedVariables false
@[reducible] def tabs : Tabs := { ty := [(3, (.int .i64)), (4, .bool), (5, (.int .u8)), (9, .str), (22, (.slice (.int .u32))), (23, (.slice (.slice (.pair (.int .u32) (.pair (.int .i64) .unit))))), (25, (.pair (.slice (.int .u32)) (.pair (.slice (.slice (.pair (.int .u32) (.pair (.int .i64) .unit)))) .unit))), (26, (.slice .bool)), (30, (.slice (.int .i64))), (39, (.slice (.pair (.int .u32) (.pair (.int .i64) .unit)))), (40, (.int .u32)), (42, (.pair (.int .u32) (.pair (.int .i64) .unit))), (48, (.slice (.int .u8))), (50, (.pair (.int .i64) (.pair (.int .i64) (.pair (.int .i64) (.pair (.int .i64) (.pair (.int .u32) .unit)))))), (57, .opq), (58, .opq), (60, (.pair (.pair (.slice (.int .u32)) (.pair (.slice (.slice (.pair (.int .u32) (.pair (.int .i64) .unit)))) .unit)) (.pair (.slice .bool) (.pair .opq (.pair .opq .unit))))), (64, (.pair (.int .i64) (.pair (.int .u32) .unit))), (65, (.slice (.slice (.pair (.int .u32) (.pair (.int .i64) .unit))))), (68, (.slice (.pair (.int .u32) (.pair (.int .i64) .unit)))), (71, (.pair (.int .u32) (.pair (.int .i64) .unit))), (74, .opq), (89, .opq), (90, (.int .u64)), (93, (.slice (.slice (.int .i64))))], eq := [4], mt := [(57, ((.pair (.int .i64) (.pair (.int .u32) .unit)), (.int .i64))), (58, ((.pair (.int .i64) (.pair (.int .u32) .unit)), .bool))] }
noncomputable def codeOf (f : Func) : Code := match f.body with | some c => c | none => .skip
noncomputable def fs_0 (K : Nat) : List (Nat × Piece) := []
theorem base_0 (K : Nat) : Base Try.prog tabs (fs_0 K) := ⟨by kernel_rfl, by kernel_rfl, FnsOk.nil⟩
def bytes_93484e48 : ByteArray := { data := (List.toArray (List.append (List.append [0, 1, 1, 2, 1, 2, 2, 3, 1, 2, 2, 3, 2, 3, 3, 4, 1, 2, 2, 3, 2, 3, 3, 4, 2, 3, 3, 4, 3, 4, 4, 5, 1, 2, 2, 3, 2, 3, 3, 4, 2, 3, 3, 4, 3, 4, 4, 5, 2, 3, 3, 4, 3, 4, 4, 5, 3, 4, 4, 5, 4, 5, 5, 6] [1, 2, 2, 3, 2, 3, 3, 4, 2, 3, 3, 4, 3, 4, 4, 5, 2, 3, 3, 4, 3, 4, 4, 5, 3, 4, 4, 5, 4, 5, 5, 6, 2, 3, 3, 4, 3, 4, 4, 5, 3, 4, 4, 5, 4, 5, 5, 6, 3, 4, 4, 5, 4, 5, 5, 6, 4, 5, 5, 6, 5, 6, 6, 7]) (List.append [1, 2, 2, 3, 2, 3, 3, 4, 2, 3, 3, 4, 3, 4, 4, 5, 2, 3, 3, 4, 3, 4, 4, 5, 3, 4, 4, 5, 4, 5, 5, 6, 2, 3, 3, 4, 3, 4, 4, 5, 3, 4, 4, 5, 4, 5, 5, 6, 3, 4, 4, 5, 4, 5, 5, 6, 4, 5, 5, 6, 5, 6, 6, 7] [2, 3, 3, 4, 3, 4, 4, 5, 3, 4, 4, 5, 4, 5, 5, 6, 3, 4, 4, 5, 4, 5, 5, 6, 4, 5, 5, 6, 5, 6, 6, 7, 3, 4, 4, 5, 4, 5, 5, 6, 4, 5, 5, 6, 5, 6, 6, 7, 4, 5, 5, 6, 5, 6, 6, 7, 5, 6, 6, 7, 6, 7, 7, 8]))) }
/-! "selfstab/selfstablaw20.light" -/
noncomputable def b_law20_light : Code := codeOf Try.f11
noncomputable def c_law20_light_0 (K : Nat) : List (Nat × Piece) := []
theorem o_law20_light_0 (K : Nat) : PcsOk Try.prog b_law20_light (c_law20_light_0 K) := PcsOk.nil
def law20_light_58 (K : Nat) : (k : Nat) → (x5 : Int) → (o0 : ((List Int) × ((List (List (Int × (Int × Unit)))) × Unit))) → Option ((Unit × Unit) ⊕ ((Bool × Unit) × Unit))
  | 0, _, _ => none
  | k + 1, x5, o0 =>
    if decide (x5 < (o0.2.1.length : Int)) then
      if decide (0 ≤ x5 ∧ x5 < (o0.2.1.length : Int)) then
        if decide (40 < ((o0.2.1.getD x5.toNat []).length : Int)) then
          some (.inr ((false, ()), ()))
        else
          law20_light_58 K k (IntKind.i64.wrap (x5 + 1)) o0
      else
        none
    else
      some (.inl ((), ()))
@[reducible] def p_law20_light_58 (K k : Nat) : Piece := { slots := [(2, (.ref 0 (.pair (.slice (.int .u32)) (.pair (.slice (.slice (.pair (.int .u32) (.pair (.int .i64) .unit)))) .unit)))), (5, (.v (.int .i64)))], objs := [(.box (.pair (.slice (.int .u32)) (.pair (.slice (.slice (.pair (.int .u32) (.pair (.int .i64) .unit)))) .unit)) (.v (.pair (.slice (.int .u32)) (.pair (.slice (.slice (.pair (.int .u32) (.pair (.int .i64) .unit)))) .unit))))], outs := [{ ex := (.exit 0), slots := [], objs := [] }, { ex := .ret, slots := [(4, (.v .bool))], objs := [] }], asg := [4, 5, 21, 22, 23, 24, 25, 26, 27, 28, 29, 30, 31, 32, 33, 34], nt := 35, fn := fun x => law20_light_58 K k x.1.2.1 x.2.1 }
theorem k_law20_light_58 (K : Nat) (hB : Base Try.prog tabs (fs_0 K)) : PcOk Try.prog (codeAt b_law20_light 58) (p_law20_light_58 K K) :=
  loop_thm hB (o_law20_light_0 K) 58 (p_law20_light_58 K 0) (l := fun k x => law20_light_58 K k x.1.2.1 x.2.1) (c := codeAt b_law20_light 116) (by kernel_rfl) (by kernel_rfl) (by kernel_rfl) (by kernel_rfl) (fun x => by kernel_rfl) (fun k x => by kernel_rfl) K
noncomputable def c_law20_light_58 (K : Nat) : List (Nat × Piece) := (58, p_law20_light_58 K K) :: c_law20_light_0 K
theorem o_law20_light_58 (K : Nat) (hB : Base Try.prog tabs (fs_0 K)) : PcsOk Try.prog b_law20_light (c_law20_light_58 K) := PcsOk.cons (k_law20_light_58 K hB) (o_law20_light_0 K)
def law20_light (K : Nat) (x0 : ((List Int) × ((List (List (Int × (Int × Unit)))) × Unit))) (x1 : (List Bool)) : Option ((Bool × Unit) × Unit) :=
  if decide (120 < (x0.1.length : Int)) then
    some ((false, ()), ())
  else
    if decide (120 < (x0.2.1.length : Int)) then
      some ((false, ()), ())
    else
      if decide (130 < (x1.length : Int)) then
        some ((false, ()), ())
      else
        (law20_light_58 K K 0 x0).bind fun y4 =>
          match y4 with
          | .inl y5 =>
            some ((true, ()), ())
          | .inr y6 =>
            some ((y6.1.1, ()), ())
@[reducible] def p_law20_light (K : Nat) : Piece := { slots := [(0, (.v (.pair (.slice (.int .u32)) (.pair (.slice (.slice (.pair (.int .u32) (.pair (.int .i64) .unit)))) .unit)))), (1, (.v (.slice .bool)))], objs := [], outs := [{ ex := .ret, slots := [(0, (.v .bool))], objs := [] }], asg := [], nt := 35, fn := fun x => law20_light K x.1.1 x.1.2.1 }
theorem s_law20_light (K : Nat) (hB : Base Try.prog tabs (fs_0 K)) : FnSound Try.prog 11 (p_law20_light K) :=
  fun_thm hB (o_law20_light_58 K hB) Try.func11 (body := b_law20_light) rfl (p_law20_light K) (rs := [.tmp 4]) rfl (Nat.le_of_ble_eq_true (by kernel_rfl)) (fun x => by kernel_rfl)
noncomputable def fs_law20_light (K : Nat) : List (Nat × Piece) := (11, p_law20_light K) :: fs_0 K
theorem base_law20_light (K : Nat) : Base Try.prog tabs (fs_law20_light K) := ⟨(base_0 K).mixed, (base_0 K).tabs, FnsOk.cons (s_law20_light K (base_0 K)) (by kernel_rfl) (base_0 K).fns⟩
/-! "selfstab/selfstabref01.Has" -/
noncomputable def b_ref01_Has : Code := codeOf Try.f46
noncomputable def c_ref01_Has_0 (K : Nat) : List (Nat × Piece) := []
theorem o_ref01_Has_0 (K : Nat) : PcsOk Try.prog b_ref01_Has (c_ref01_Has_0 K) := PcsOk.nil
def ref01_Has (K : Nat) (x0 : Int) (x1 : Int) : Option ((Bool × Unit) × Unit) :=
  if decide (0 ≤ x1) then
    if decide (x1 < 32) then
      if decide ((IntKind.u64.wrap (x1)) < 0) then
        none
      else
        some ((decide ((iand .u32 (ishr .u32 x0 (IntKind.u64.wrap (x1))) 1) = 1), ()), ())
    else
      some ((false, ()), ())
  else
    some ((false, ()), ())
@[reducible] def p_ref01_Has (K : Nat) : Piece := { slots := [(0, (.v (.int .u32))), (1, (.v (.int .i64)))], objs := [], outs := [{ ex := .ret, slots := [(0, (.v .bool))], objs := [] }], asg := [], nt := 19, fn := fun x => ref01_Has K x.1.1 x.1.2.1 }
theorem s_ref01_Has (K : Nat) (hB : Base Try.prog tabs (fs_law20_light K)) : FnSound Try.prog 46 (p_ref01_Has K) :=
  fun_thm hB (o_ref01_Has_0 K) Try.func46 (body := b_ref01_Has) rfl (p_ref01_Has K) (rs := [.tmp 4]) rfl (Nat.le_of_ble_eq_true (by kernel_rfl)) (fun x => by kernel_rfl)
noncomputable def fs_ref01_Has (K : Nat) : List (Nat × Piece) := (46, p_ref01_Has K) :: fs_law20_light K
theorem base_ref01_Has (K : Nat) : Base Try.prog tabs (fs_ref01_Has K) := ⟨(base_law20_light K).mixed, (base_law20_light K).tabs, FnsOk.cons (s_ref01_Has K (base_law20_light K)) (by kernel_rfl) (base_law20_light K).fns⟩
/-! "selfstab/selfstabref15.Count" -/
noncomputable def b_ref15_Count : Code := codeOf Try.f25
noncomputable def c_ref15_Count_0 (K : Nat) : List (Nat × Piece) := []
theorem o_ref15_Count_0 (K : Nat) : PcsOk Try.prog b_ref15_Count (c_ref15_Count_0 K) := PcsOk.nil
def ref15_Count_58 (K : Nat) : (k : Nat) → (x0 : Int) → (x3 : Int) → (x4 : Int) → Option ((Int × Unit) × Unit)
  | 0, _, _, _ => none
  | k + 1, x0, x3, x4 =>
    if decide (x4 < 32) then
      (ref01_Has K x0 x4).bind fun y4 =>
        if y4.1.1 then
          ref15_Count_58 K k x0 (IntKind.i64.wrap (x3 + 1)) (IntKind.i64.wrap (x4 + 1))
        else
          ref15_Count_58 K k x0 x3 (IntKind.i64.wrap (x4 + 1))
    else
      some ((x3, ()), ())
@[reducible] def p_ref15_Count_58 (K k : Nat) : Piece := { slots := [(0, (.v (.int .u32))), (3, (.v (.int .i64))), (4, (.v (.int .i64)))], objs := [], outs := [{ ex := (.exit 0), slots := [(3, (.v (.int .i64)))], objs := [] }], asg := [3, 4, 5, 6, 7, 8, 9, 10, 11, 12, 13], nt := 15, fn := fun x => ref15_Count_58 K k x.1.1 x.1.2.1 x.1.2.2.1 }
theorem k_ref15_Count_58 (K : Nat) (hB : Base Try.prog tabs (fs_ref01_Has K)) : PcOk Try.prog (codeAt b_ref15_Count 58) (p_ref15_Count_58 K K) :=
  loop_thm hB (o_ref15_Count_0 K) 58 (p_ref15_Count_58 K 0) (l := fun k x => ref15_Count_58 K k x.1.1 x.1.2.1 x.1.2.2.1) (c := codeAt b_ref15_Count 116) (by kernel_rfl) (by kernel_rfl) (by kernel_rfl) (by kernel_rfl) (fun x => by kernel_rfl) (fun k x => by kernel_rfl) K
noncomputable def c_ref15_Count_58 (K : Nat) : List (Nat × Piece) := (58, p_ref15_Count_58 K K) :: c_ref15_Count_0 K
theorem o_ref15_Count_58 (K : Nat) (hB : Base Try.prog tabs (fs_ref01_Has K)) : PcsOk Try.prog b_ref15_Count (c_ref15_Count_58 K) := PcsOk.cons (k_ref15_Count_58 K hB) (o_ref15_Count_0 K)
def ref15_Count (K : Nat) (x0 : Int) : Option ((Int × Unit) × Unit) :=
  (ref15_Count_58 K K x0 0 0).bind fun y2 =>
    some ((y2.1.1, ()), ())
@[reducible] def p_ref15_Count (K : Nat) : Piece := { slots := [(0, (.v (.int .u32)))], objs := [], outs := [{ ex := .ret, slots := [(0, (.v (.int .i64)))], objs := [] }], asg := [], nt := 15, fn := fun x => ref15_Count K x.1.1 }
theorem s_ref15_Count (K : Nat) (hB : Base Try.prog tabs (fs_ref01_Has K)) : FnSound Try.prog 25 (p_ref15_Count K) :=
  fun_thm hB (o_ref15_Count_58 K hB) Try.func25 (body := b_ref15_Count) rfl (p_ref15_Count K) (rs := [.tmp 2]) rfl (Nat.le_of_ble_eq_true (by kernel_rfl)) (fun x => by kernel_rfl)
noncomputable def fs_ref15_Count (K : Nat) : List (Nat × Piece) := (25, p_ref15_Count K) :: fs_ref01_Has K
theorem base_ref15_Count (K : Nat) : Base Try.prog tabs (fs_ref15_Count K) := ⟨(base_ref01_Has K).mixed, (base_ref01_Has K).tabs, FnsOk.cons (s_ref15_Count K (base_ref01_Has K)) (by kernel_rfl) (base_ref01_Has K).fns⟩
/-! "selfstab/selfstablaw20.few" -/
noncomputable def b_law20_few : Code := codeOf Try.f12
noncomputable def c_law20_few_0 (K : Nat) : List (Nat × Piece) := []
theorem o_law20_few_0 (K : Nat) : PcsOk Try.prog b_law20_few (c_law20_few_0 K) := PcsOk.nil
def law20_few_26 (K : Nat) : (k : Nat) → (x3 : Int) → (o0 : ((List Int) × ((List (List (Int × (Int × Unit)))) × Unit))) → Option ((Unit × Unit) ⊕ ((Bool × Unit) × Unit))
  | 0, _, _ => none
  | k + 1, x3, o0 =>
    if decide (x3 < (o0.1.length : Int)) then
      if decide (0 ≤ x3 ∧ x3 < (o0.1.length : Int)) then
        (ref15_Count K (o0.1.getD x3.toNat 0)).bind fun y4 =>
          if decide (8 < y4.1.1) then
            some (.inr ((false, ()), ()))
          else
            law20_few_26 K k (IntKind.i64.wrap (x3 + 1)) o0
      else
        none
    else
      some (.inl ((), ()))
@[reducible] def p_law20_few_26 (K k : Nat) : Piece := { slots := [(1, (.ref 0 (.pair (.slice (.int .u32)) (.pair (.slice (.slice (.pair (.int .u32) (.pair (.int .i64) .unit)))) .unit)))), (3, (.v (.int .i64)))], objs := [(.box (.pair (.slice (.int .u32)) (.pair (.slice (.slice (.pair (.int .u32) (.pair (.int .i64) .unit)))) .unit)) (.v (.pair (.slice (.int .u32)) (.pair (.slice (.slice (.pair (.int .u32) (.pair (.int .i64) .unit)))) .unit))))], outs := [{ ex := (.exit 0), slots := [], objs := [] }, { ex := .ret, slots := [(2, (.v .bool))], objs := [] }], asg := [2, 3, 4, 5, 6, 7, 8, 9, 10, 11, 12, 13, 14, 15, 16, 17], nt := 18, fn := fun x => law20_few_26 K k x.1.2.1 x.2.1 }
theorem k_law20_few_26 (K : Nat) (hB : Base Try.prog tabs (fs_ref15_Count K)) : PcOk Try.prog (codeAt b_law20_few 26) (p_law20_few_26 K K) :=
  loop_thm hB (o_law20_few_0 K) 26 (p_law20_few_26 K 0) (l := fun k x => law20_few_26 K k x.1.2.1 x.2.1) (c := codeAt b_law20_few 52) (by kernel_rfl) (by kernel_rfl) (by kernel_rfl) (by kernel_rfl) (fun x => by kernel_rfl) (fun k x => by kernel_rfl) K
noncomputable def c_law20_few_26 (K : Nat) : List (Nat × Piece) := (26, p_law20_few_26 K K) :: c_law20_few_0 K
theorem o_law20_few_26 (K : Nat) (hB : Base Try.prog tabs (fs_ref15_Count K)) : PcsOk Try.prog b_law20_few (c_law20_few_26 K) := PcsOk.cons (k_law20_few_26 K hB) (o_law20_few_0 K)
def law20_few (K : Nat) (x0 : ((List Int) × ((List (List (Int × (Int × Unit)))) × Unit))) : Option ((Bool × Unit) × Unit) :=
  (law20_few_26 K K 0 x0).bind fun y4 =>
    match y4 with
    | .inl y5 =>
      some ((true, ()), ())
    | .inr y6 =>
      some ((y6.1.1, ()), ())
@[reducible] def p_law20_few (K : Nat) : Piece := { slots := [(0, (.v (.pair (.slice (.int .u32)) (.pair (.slice (.slice (.pair (.int .u32) (.pair (.int .i64) .unit)))) .unit))))], objs := [], outs := [{ ex := .ret, slots := [(0, (.v .bool))], objs := [] }], asg := [], nt := 18, fn := fun x => law20_few K x.1.1 }
theorem s_law20_few (K : Nat) (hB : Base Try.prog tabs (fs_ref15_Count K)) : FnSound Try.prog 12 (p_law20_few K) :=
  fun_thm hB (o_law20_few_26 K hB) Try.func12 (body := b_law20_few) rfl (p_law20_few K) (rs := [.tmp 2]) rfl (Nat.le_of_ble_eq_true (by kernel_rfl)) (fun x => by kernel_rfl)
noncomputable def fs_law20_few (K : Nat) : List (Nat × Piece) := (12, p_law20_few K) :: fs_ref15_Count K
theorem base_law20_few (K : Nat) : Base Try.prog tabs (fs_law20_few K) := ⟨(base_ref15_Count K).mixed, (base_ref15_Count K).tabs, FnsOk.cons (s_law20_few K (base_ref15_Count K)) (by kernel_rfl) (base_ref15_Count K).fns⟩
/-! "selfstab/selfstablaw20.example" -/
noncomputable def b_law20_example : Code := codeOf Try.f32
noncomputable def c_law20_example_0 (K : Nat) : List (Nat × Piece) := []
theorem o_law20_example_0 (K : Nat) : PcsOk Try.prog b_law20_example (c_law20_example_0 K) := PcsOk.nil
def law20_example (K : Nat) : Option (((Unit × (Unit × Unit)) × Unit) × ((List Int) × ((List (List (Int × (Int × Unit)))) × Unit))) :=
  some ((((), ((), ())), ()), ([0, 2, 1, 3], ([[], [(2, (0, ()))], [(1, (0, ()))], [(1, (1, ())), (2, (2, ())), (3, (0, ()))]], ())))
@[reducible] def p_law20_example (K : Nat) : Piece := { slots := [], objs := [], outs := [{ ex := .ret, slots := [(0, (.cons (.href 0) (.cons (.href 1) (.v .unit))))], objs := [(none, (.row (.int .u32))), (none, (.row2 (.pair (.int .u32) (.pair (.int .i64) .unit))))] }], asg := [], nt := 12, fn := fun x => law20_example K }
theorem s_law20_example (K : Nat) (hB : Base Try.prog tabs (fs_law20_few K)) : FnSound Try.prog 32 (p_law20_example K) :=
  fun_thm hB (o_law20_example_0 K) Try.func32 (body := b_law20_example) rfl (p_law20_example K) (rs := [.cell 0 25]) rfl (Nat.le_of_ble_eq_true (by kernel_rfl)) (fun x => by kernel_rfl)
noncomputable def fs_law20_example (K : Nat) : List (Nat × Piece) := (32, p_law20_example K) :: fs_law20_few K
theorem base_law20_example (K : Nat) : Base Try.prog tabs (fs_law20_example K) := ⟨(base_law20_few K).mixed, (base_law20_few K).tabs, FnsOk.cons (s_law20_example K (base_law20_few K)) (by kernel_rfl) (base_law20_few K).fns⟩
/-! "selfstab/space.state" -/
noncomputable def b_space_state : Code := codeOf Try.f64
noncomputable def c_space_state_0 (K : Nat) : List (Nat × Piece) := []
theorem o_space_state_0 (K : Nat) : PcsOk Try.prog b_space_state (c_space_state_0 K) := PcsOk.nil
def space_state_58 (K : Nat) : (k : Nat) → (x0 : Int) → (x2 : Int) → (x7 : Int) → (x10 : (List (Int × (Int × Unit)))) → (x11 : Int) → (x12 : Int) → Option ((Unit × Unit) ⊕ ((Bool × Unit) × Unit))
  | 0, _, _, _, _, _, _ => none
  | k + 1, x0, x2, x7, x10, x11, x12 =>
    if decide (x12 < x11) then
      if decide (0 ≤ x12 ∧ x12 < (x10.length : Int)) then
        if decide (((x10.getD x12.toNat (0, (0, ()))).1) ≤ x7) then
          some (.inr ((false, ()), ()))
        else
          if !decide ((iandNot .u32 ((x10.getD x12.toNat (0, (0, ()))).1) x0) = 0) then
            some (.inr ((false, ()), ()))
          else
            if decide ((((x10.getD x12.toNat (0, (0, ()))).2).1) < 0) then
              some (.inr ((false, ()), ()))
            else
              if decide (x2 ≤ (((x10.getD x12.toNat (0, (0, ()))).2).1)) then
                some (.inr ((false, ()), ()))
              else
                space_state_58 K k x0 x2 ((x10.getD x12.toNat (0, (0, ()))).1) x10 x11 (IntKind.i64.wrap (x12 + 1))
      else
        none
    else
      some (.inl ((), ()))
@[reducible] def p_space_state_58 (K k : Nat) : Piece := { slots := [(0, (.v (.int .u32))), (2, (.v (.int .i64))), (7, (.v (.int .u32))), (10, (.v (.slice (.pair (.int .u32) (.pair (.int .i64) .unit))))), (11, (.v (.int .i64))), (12, (.v (.int .i64)))], objs := [], outs := [{ ex := (.exit 0), slots := [], objs := [] }, { ex := .ret, slots := [(6, (.v .bool))], objs := [] }], asg := [6, 7, 9, 12, 13, 14, 15, 16, 17, 18, 19, 20, 21, 22, 23, 24, 25, 26, 27, 28, 29, 30, 31, 32, 33, 34, 35, 36, 37, 38, 39, 40], nt := 52, fn := fun x => space_state_58 K k x.1.1 x.1.2.1 x.1.2.2.1 x.1.2.2.2.1 x.1.2.2.2.2.1 x.1.2.2.2.2.2.1 }
theorem k_space_state_58 (K : Nat) (hB : Base Try.prog tabs (fs_law20_example K)) : PcOk Try.prog (codeAt b_space_state 58) (p_space_state_58 K K) :=
  loop_thm hB (o_space_state_0 K) 58 (p_space_state_58 K 0) (l := fun k x => space_state_58 K k x.1.1 x.1.2.1 x.1.2.2.1 x.1.2.2.2.1 x.1.2.2.2.2.1 x.1.2.2.2.2.2.1) (c := codeAt b_space_state 116) (by kernel_rfl) (by kernel_rfl) (by kernel_rfl) (by kernel_rfl) (fun x => by kernel_rfl) (fun k x => by kernel_rfl) K
noncomputable def c_space_state_58 (K : Nat) : List (Nat × Piece) := (58, p_space_state_58 K K) :: c_space_state_0 K
theorem o_space_state_58 (K : Nat) (hB : Base Try.prog tabs (fs_law20_example K)) : PcsOk Try.prog b_space_state (c_space_state_58 K) := PcsOk.cons (k_space_state_58 K hB) (o_space_state_0 K)
def space_state (K : Nat) (x0 : Int) (x1 : (List (Int × (Int × Unit)))) (x2 : Int) : Option ((Bool × Unit) × Unit) :=
  (space_state_58 K K x0 x2 0 x1 (x1.length : Int) 0).bind fun y4 =>
    match y4 with
    | .inl y5 =>
      if decide ((ishr .u32 x0 24) = 0) then
        some ((GTy.beq .bool (decide (0 < (x1.length : Int))) (!decide (x0 = 0)), ()), ())
      else
        some ((false, ()), ())
    | .inr y6 =>
      some ((y6.1.1, ()), ())
@[reducible] def p_space_state (K : Nat) : Piece := { slots := [(0, (.v (.int .u32))), (1, (.v (.slice (.pair (.int .u32) (.pair (.int .i64) .unit))))), (2, (.v (.int .i64)))], objs := [], outs := [{ ex := .ret, slots := [(0, (.v .bool))], objs := [] }], asg := [], nt := 52, fn := fun x => space_state K x.1.1 x.1.2.1 x.1.2.2.1 }
theorem s_space_state (K : Nat) (hB : Base Try.prog tabs (fs_law20_example K)) : FnSound Try.prog 64 (p_space_state K) :=
  fun_thm hB (o_space_state_58 K hB) Try.func64 (body := b_space_state) rfl (p_space_state K) (rs := [.tmp 6]) rfl (Nat.le_of_ble_eq_true (by kernel_rfl)) (fun x => by kernel_rfl)
noncomputable def fs_space_state (K : Nat) : List (Nat × Piece) := (64, p_space_state K) :: fs_law20_example K
theorem base_space_state (K : Nat) : Base Try.prog tabs (fs_space_state K) := ⟨(base_law20_example K).mixed, (base_law20_example K).tabs, FnsOk.cons (s_space_state K (base_law20_example K)) (by kernel_rfl) (base_law20_example K).fns⟩
/-! "selfstab/space.Valid" -/
noncomputable def b_space_Valid : Code := codeOf Try.f63
noncomputable def c_space_Valid_0 (K : Nat) : List (Nat × Piece) := []
theorem o_space_Valid_0 (K : Nat) : PcsOk Try.prog b_space_Valid (c_space_Valid_0 K) := PcsOk.nil
def space_Valid_122 (K : Nat) : (k : Nat) → (x3 : Int) → (x4 : Int) → (x24 : (List (List (Int × (Int × Unit))))) → (x25 : Int) → (x26 : Int) → (o0 : ((List Int) × ((List (List (Int × (Int × Unit)))) × Unit))) → Option ((Unit × Unit) ⊕ ((Bool × Unit) × Unit))
  | 0, _, _, _, _, _, _ => none
  | k + 1, x3, x4, x24, x25, x26, o0 =>
    if decide (x26 < x25) then
      if decide (0 ≤ x26 ∧ x26 < (x24.length : Int)) then
        if decide (262144 < (IntKind.i64.wrap (x4 + ((x24.getD x26.toNat []).length : Int)))) then
          some (.inr ((false, ()), ()))
        else
          if decide (0 ≤ x26 ∧ x26 < (o0.1.length : Int)) then
            (space_state K (o0.1.getD x26.toNat 0) (x24.getD x26.toNat []) x3).bind fun y4 =>
              if !y4.1.1 then
                some (.inr ((false, ()), ()))
              else
                space_Valid_122 K k x3 (IntKind.i64.wrap (x4 + ((x24.getD x26.toNat []).length : Int))) x24 x25 (IntKind.i64.wrap (x26 + 1)) o0
          else
            none
      else
        none
    else
      some (.inl ((), ()))
@[reducible] def p_space_Valid_122 (K k : Nat) : Piece := { slots := [(1, (.ref 0 (.pair (.slice (.int .u32)) (.pair (.slice (.slice (.pair (.int .u32) (.pair (.int .i64) .unit)))) .unit)))), (3, (.v (.int .i64))), (4, (.v (.int .i64))), (24, (.v (.slice (.slice (.pair (.int .u32) (.pair (.int .i64) .unit)))))), (25, (.v (.int .i64))), (26, (.v (.int .i64)))], objs := [(.box (.pair (.slice (.int .u32)) (.pair (.slice (.slice (.pair (.int .u32) (.pair (.int .i64) .unit)))) .unit)) (.v (.pair (.slice (.int .u32)) (.pair (.slice (.slice (.pair (.int .u32) (.pair (.int .i64) .unit)))) .unit))))], outs := [{ ex := (.exit 0), slots := [], objs := [] }, { ex := .ret, slots := [(2, (.v .bool))], objs := [] }], asg := [2, 4, 5, 6, 26, 27, 28, 29, 30, 31, 32, 33, 34, 35, 36, 37, 38, 39, 40, 41, 42, 43, 44, 45, 46, 47, 48], nt := 49, fn := fun x => space_Valid_122 K k x.1.2.1 x.1.2.2.1 x.1.2.2.2.1 x.1.2.2.2.2.1 x.1.2.2.2.2.2.1 x.2.1 }
theorem k_space_Valid_122 (K : Nat) (hB : Base Try.prog tabs (fs_space_state K)) : PcOk Try.prog (codeAt b_space_Valid 122) (p_space_Valid_122 K K) :=
  loop_thm hB (o_space_Valid_0 K) 122 (p_space_Valid_122 K 0) (l := fun k x => space_Valid_122 K k x.1.2.1 x.1.2.2.1 x.1.2.2.2.1 x.1.2.2.2.2.1 x.1.2.2.2.2.2.1 x.2.1) (c := codeAt b_space_Valid 244) (by kernel_rfl) (by kernel_rfl) (by kernel_rfl) (by kernel_rfl) (fun x => by kernel_rfl) (fun k x => by kernel_rfl) K
noncomputable def c_space_Valid_122 (K : Nat) : List (Nat × Piece) := (122, p_space_Valid_122 K K) :: c_space_Valid_0 K
theorem o_space_Valid_122 (K : Nat) (hB : Base Try.prog tabs (fs_space_state K)) : PcsOk Try.prog b_space_Valid (c_space_Valid_122 K) := PcsOk.cons (k_space_Valid_122 K hB) (o_space_Valid_0 K)
def space_Valid (K : Nat) (x0 : ((List Int) × ((List (List (Int × (Int × Unit)))) × Unit))) : Option ((Bool × Unit) × Unit) :=
  if decide ((x0.1.length : Int) < 1) then
    some ((false, ()), ())
  else
    if decide (32768 < (x0.1.length : Int)) then
      some ((false, ()), ())
    else
      if !decide ((x0.2.1.length : Int) = (x0.1.length : Int)) then
        some ((false, ()), ())
      else
        (space_Valid_122 K K (x0.1.length : Int) 0 x0.2.1 (x0.2.1.length : Int) 0 x0).bind fun y4 =>
          match y4 with
          | .inl y5 =>
            some ((true, ()), ())
          | .inr y6 =>
            some ((y6.1.1, ()), ())
@[reducible] def p_space_Valid (K : Nat) : Piece := { slots := [(0, (.v (.pair (.slice (.int .u32)) (.pair (.slice (.slice (.pair (.int .u32) (.pair (.int .i64) .unit)))) .unit))))], objs := [], outs := [{ ex := .ret, slots := [(0, (.v .bool))], objs := [] }], asg := [], nt := 49, fn := fun x => space_Valid K x.1.1 }
theorem s_space_Valid (K : Nat) (hB : Base Try.prog tabs (fs_space_state K)) : FnSound Try.prog 63 (p_space_Valid K) :=
  fun_thm hB (o_space_Valid_122 K hB) Try.func63 (body := b_space_Valid) rfl (p_space_Valid K) (rs := [.tmp 2]) rfl (Nat.le_of_ble_eq_true (by kernel_rfl)) (fun x => by kernel_rfl)
noncomputable def fs_space_Valid (K : Nat) : List (Nat × Piece) := (63, p_space_Valid K) :: fs_space_state K
theorem base_space_Valid (K : Nat) : Base Try.prog tabs (fs_space_Valid K) := ⟨(base_space_state K).mixed, (base_space_state K).tabs, FnsOk.cons (s_space_Valid K (base_space_state K)) (by kernel_rfl) (base_space_state K).fns⟩
/-! "selfstab/converge.check" -/
noncomputable def b_converge_check : Code := codeOf Try.f60
noncomputable def c_converge_check_0 (K : Nat) : List (Nat × Piece) := []
theorem o_converge_check_0 (K : Nat) : PcsOk Try.prog b_converge_check (c_converge_check_0 K) := PcsOk.nil
def converge_check (K : Nat) (x0 : ((List Int) × ((List (List (Int × (Int × Unit)))) × Unit))) (x1 : (List Bool)) : Option ((Int × Unit) × Unit) :=
  (space_Valid K x0).bind fun y4 =>
    if !y4.1.1 then
      some ((13, ()), ())
    else
      if !decide ((x1.length : Int) = (x0.2.1.length : Int)) then
        some ((7, ()), ())
      else
        some ((0, ()), ())
@[reducible] def p_converge_check (K : Nat) : Piece := { slots := [(0, (.v (.pair (.slice (.int .u32)) (.pair (.slice (.slice (.pair (.int .u32) (.pair (.int .i64) .unit)))) .unit)))), (1, (.v (.slice .bool)))], objs := [], outs := [{ ex := .ret, slots := [(0, (.v (.int .i64)))], objs := [] }], asg := [], nt := 14, fn := fun x => converge_check K x.1.1 x.1.2.1 }
theorem s_converge_check (K : Nat) (hB : Base Try.prog tabs (fs_space_Valid K)) : FnSound Try.prog 60 (p_converge_check K) :=
  fun_thm hB (o_converge_check_0 K) Try.func60 (body := b_converge_check) rfl (p_converge_check K) (rs := [.tmp 4]) rfl (Nat.le_of_ble_eq_true (by kernel_rfl)) (fun x => by kernel_rfl)
noncomputable def fs_converge_check (K : Nat) : List (Nat × Piece) := (60, p_converge_check K) :: fs_space_Valid K
theorem base_converge_check (K : Nat) : Base Try.prog tabs (fs_converge_check K) := ⟨(base_space_Valid K).mixed, (base_space_Valid K).tabs, FnsOk.cons (s_converge_check K (base_space_Valid K)) (by kernel_rfl) (base_space_Valid K).fns⟩
/-! "selfstab/converge.attractor" -/
noncomputable def b_converge_attractor : Code := codeOf Try.f61
noncomputable def c_converge_attractor_0 (K : Nat) : List (Nat × Piece) := []
theorem o_converge_attractor_0 (K : Nat) : PcsOk Try.prog b_converge_attractor (c_converge_attractor_0 K) := PcsOk.nil
def converge_attractor_518554 (K : Nat) : (k : Nat) → (x9 : Int) → (x38 : (List (Int × (Int × Unit)))) → (x39 : Int) → (x40 : Int) → (o0 : (List (List Int))) → Option (Unit × ((List (List Int)) × Unit))
  | 0, _, _, _, _, _ => none
  | k + 1, x9, x38, x39, x40, o0 =>
    if decide (x40 < x39) then
      if decide (0 ≤ x40 ∧ x40 < (x38.length : Int)) then
        if decide (0 ≤ ((x38.getD x40.toNat (0, (0, ()))).2).1 ∧ ((x38.getD x40.toNat (0, (0, ()))).2).1 < (o0.length : Int)) then
          if decide ((o0.getD ((((x38.getD x40.toNat (0, (0, ()))).2).1).toNat) []).length + ([x9]).length ≤ 4294967296) then
            if decide (0 ≤ ((x38.getD x40.toNat (0, (0, ()))).2).1 ∧ ((x38.getD x40.toNat (0, (0, ()))).2).1 < (o0.length : Int)) then
              if decide ((((x38.getD x40.toNat (0, (0, ()))).2).1).toNat = (((x38.getD x40.toNat (0, (0, ()))).2).1).toNat) then
                converge_attractor_518554 K k x9 x38 x39 (IntKind.i64.wrap (x40 + 1)) (o0.set ((((x38.getD x40.toNat (0, (0, ()))).2).1).toNat) (o0.getD ((((x38.getD x40.toNat (0, (0, ()))).2).1).toNat) [] ++ [x9]))
              else
                none
            else
              none
          else
            none
        else
          none
      else
        none
    else
      some ((), (o0, ()))
@[reducible] def p_converge_attractor_518554 (K k : Nat) : Piece := { slots := [(7, (.href 0)), (9, (.v (.int .i64))), (38, (.v (.slice (.pair (.int .u32) (.pair (.int .i64) .unit))))), (39, (.v (.int .i64))), (40, (.v (.int .i64)))], objs := [(.row2 (.int .i64))], outs := [{ ex := (.exit 2), slots := [], objs := [(some 0, (.row2 (.int .i64)))] }], asg := [12, 40, 41, 42, 43, 44, 45, 46, 47, 48, 49, 50, 51, 52, 53, 54, 55, 56], nt := 119, fn := fun x => converge_attractor_518554 K k x.1.2.1 x.1.2.2.1 x.1.2.2.2.1 x.1.2.2.2.2.1 x.2.1 }
theorem k_converge_attractor_518554 (K : Nat) (hB : Base Try.prog tabs (fs_converge_check K)) : PcOk Try.prog (codeAt b_converge_attractor 518554) (p_converge_attractor_518554 K K) :=
  loop_thm hB (o_converge_attractor_0 K) 518554 (p_converge_attractor_518554 K 0) (l := fun k x => converge_attractor_518554 K k x.1.2.1 x.1.2.2.1 x.1.2.2.2.1 x.1.2.2.2.2.1 x.2.1) (c := codeAt b_converge_attractor 1037108) (by kernel_rfl) (by kernel_rfl) (by kernel_rfl) (by kernel_rfl) (fun x => by kernel_rfl) (fun k x => by kernel_rfl) K
noncomputable def c_converge_attractor_518554 (K : Nat) : List (Nat × Piece) := (518554, p_converge_attractor_518554 K K) :: c_converge_attractor_0 K
theorem o_converge_attractor_518554 (K : Nat) (hB : Base Try.prog tabs (fs_converge_check K)) : PcsOk Try.prog b_converge_attractor (c_converge_attractor_518554 K) := PcsOk.cons (k_converge_attractor_518554 K hB) (o_converge_attractor_0 K)
def converge_attractor_506 (K : Nat) : (k : Nat) → (x1 : (List Bool)) → (x26 : (List (List (Int × (Int × Unit))))) → (x27 : Int) → (x28 : Int) → (o0 : (List Bool)) → (o1 : (List Int)) → (o2 : (List (List Int))) → (o3 : (List Int)) → Option ((Unit × Unit) × ((List Int) × ((List Bool) × ((List Int) × ((List (List Int)) × Unit)))))
  | 0, _, _, _, _, _, _, _, _ => none
  | k + 1, x1, x26, x27, x28, o0, o1, o2, o3 =>
    if decide (x28 < x27) then
      if decide (0 ≤ x28 ∧ x28 < (x26.length : Int)) then
        if decide (0 ≤ x28 ∧ x28 < (o1.length : Int)) then
          (converge_attractor_518554 K K x28 (x26.getD x28.toNat []) ((x26.getD x28.toNat []).length : Int) 0 o2).bind fun y4 =>
            if decide (0 ≤ x28 ∧ x28 < (x1.length : Int)) then
              if x1.getD x28.toNat false then
                if decide (o3.length + ([x28]).length ≤ 4294967296) then
                  if decide (0 ≤ x28 ∧ x28 < (o0.length : Int)) then
                    converge_attractor_506 K k x1 x26 x27 (IntKind.i64.wrap (x28 + 1)) (o0.set x28.toNat true) (o1.set x28.toNat ((x26.getD x28.toNat []).length : Int)) y4.2.1 (o3 ++ [x28])
                  else
                    none
                else
                  none
              else
                converge_attractor_506 K k x1 x26 x27 (IntKind.i64.wrap (x28 + 1)) o0 (o1.set x28.toNat ((x26.getD x28.toNat []).length : Int)) y4.2.1 o3
            else
              none
        else
          none
      else
        none
    else
      some (((), ()), (o3, (o0, (o1, (o2, ())))))
@[reducible] def p_converge_attractor_506 (K k : Nat) : Piece := { slots := [(1, (.v (.slice .bool))), (5, (.href 0)), (6, (.href 1)), (7, (.href 2)), (8, (.href 3)), (26, (.v (.slice (.slice (.pair (.int .u32) (.pair (.int .i64) .unit)))))), (27, (.v (.int .i64))), (28, (.v (.int .i64)))], objs := [(.row .bool), (.row (.int .i64)), (.row2 (.int .i64)), (.row (.int .i64))], outs := [{ ex := (.exit 0), slots := [(8, (.href 0))], objs := [(none, (.row (.int .i64))), (some 0, (.row .bool)), (some 1, (.row (.int .i64))), (some 2, (.row2 (.int .i64)))] }], asg := [8, 9, 10, 12, 28, 29, 30, 31, 32, 33, 34, 35, 36, 37, 38, 39, 40, 41, 42, 43, 44, 45, 46, 47, 48, 49, 50, 51, 52, 53, 54, 55, 56, 57, 58, 59, 60, 61, 62, 63, 64, 65, 66, 67, 68], nt := 119, fn := fun x => converge_attractor_506 K k x.1.1 x.1.2.2.2.2.2.1 x.1.2.2.2.2.2.2.1 x.1.2.2.2.2.2.2.2.1 x.2.1 x.2.2.1 x.2.2.2.1 x.2.2.2.2.1 }
theorem k_converge_attractor_506 (K : Nat) (hB : Base Try.prog tabs (fs_converge_check K)) : PcOk Try.prog (codeAt b_converge_attractor 506) (p_converge_attractor_506 K K) :=
  loop_thm hB (o_converge_attractor_518554 K hB) 506 (p_converge_attractor_506 K 0) (l := fun k x => converge_attractor_506 K k x.1.1 x.1.2.2.2.2.2.1 x.1.2.2.2.2.2.2.1 x.1.2.2.2.2.2.2.2.1 x.2.1 x.2.2.1 x.2.2.2.1 x.2.2.2.2.1) (c := codeAt b_converge_attractor 1012) (by kernel_rfl) (by kernel_rfl) (by kernel_rfl) (by kernel_rfl) (fun x => by kernel_rfl) (fun k x => by kernel_rfl) K
noncomputable def c_converge_attractor_506 (K : Nat) : List (Nat × Piece) := (506, p_converge_attractor_506 K K) :: c_converge_attractor_518554 K
theorem o_converge_attractor_506 (K : Nat) (hB : Base Try.prog tabs (fs_converge_check K)) : PcsOk Try.prog b_converge_attractor (c_converge_attractor_506 K) := PcsOk.cons (k_converge_attractor_506 K hB) (o_converge_attractor_518554 K hB)
def converge_attractor_16658023 (K : Nat) (x15 : Int) (x109 : Bool) (o0 : (List Bool)) (o1 : (List Int)) : Option ((Unit × Unit) × ((List Int) × ((List Bool) × Unit))) :=
  if x109 then
    if decide (o1.length + ([x15]).length ≤ 4294967296) then
      if decide (0 ≤ x15 ∧ x15 < (o0.length : Int)) then
        some (((), ()), ((o1 ++ [x15]), (o0.set x15.toNat true, ())))
      else
        none
    else
      none
  else
    some (((), ()), (o1, (o0, ())))
@[reducible] def p_converge_attractor_16658023 (K : Nat) : Piece := { slots := [(5, (.href 0)), (8, (.href 1)), (15, (.v (.int .i64))), (109, (.v .bool))], objs := [(.row .bool), (.row (.int .i64))], outs := [{ ex := .normal, slots := [(8, (.href 0))], objs := [(none, (.row (.int .i64))), (some 0, (.row .bool))] }], asg := [8, 110, 111, 112, 113, 114, 115, 116], nt := 119, fn := fun x => converge_attractor_16658023 K x.1.2.2.1 x.1.2.2.2.1 x.2.1 x.2.2.1 }
theorem k_converge_attractor_16658023 (K : Nat) (hB : Base Try.prog tabs (fs_converge_check K)) : PcOk Try.prog (codeAt b_converge_attractor 16658023) (p_converge_attractor_16658023 K) :=
  seg_thm hB (o_converge_attractor_506 K hB) 16658023 (p_converge_attractor_16658023 K) (by kernel_rfl) (by kernel_rfl) (by kernel_rfl) (fun x => by kernel_rfl)
noncomputable def c_converge_attractor_16658023 (K : Nat) : List (Nat × Piece) := (16658023, p_converge_attractor_16658023 K) :: c_converge_attractor_506 K
theorem o_converge_attractor_16658023 (K : Nat) (hB : Base Try.prog tabs (fs_converge_check K)) : PcsOk Try.prog b_converge_attractor (c_converge_attractor_16658023 K) := PcsOk.cons (k_converge_attractor_16658023 K hB) (o_converge_attractor_506 K hB)
def converge_attractor_65070 (K : Nat) : (k : Nat) → (x86 : (List Int)) → (x87 : Int) → (x88 : Int) → (o0 : (List Bool)) → (o1 : (List Int)) → (o2 : (List Int)) → Option ((Unit × Unit) × ((List Int) × ((List Bool) × ((List Int) × Unit))))
  | 0, _, _, _, _, _, _ => none
  | k + 1, x86, x87, x88, o0, o1, o2 =>
    if decide (x88 < x87) then
      if decide (0 ≤ x88 ∧ x88 < (x86.length : Int)) then
        if decide (0 ≤ x86.getD x88.toNat 0 ∧ x86.getD x88.toNat 0 < (o1.length : Int)) then
          if decide (0 ≤ x86.getD x88.toNat 0 ∧ x86.getD x88.toNat 0 < (o1.length : Int)) then
            if decide (0 ≤ x86.getD x88.toNat 0 ∧ x86.getD x88.toNat 0 < ((o1.set ((x86.getD x88.toNat 0).toNat) (IntKind.i64.wrap ((o1.getD ((x86.getD x88.toNat 0).toNat) 0) - 1))).length : Int)) then
              if decide (((o1.set ((x86.getD x88.toNat 0).toNat) (IntKind.i64.wrap ((o1.getD ((x86.getD x88.toNat 0).toNat) 0) - 1))).getD ((x86.getD x88.toNat 0).toNat) 0) = 0) then
                if decide (0 ≤ x86.getD x88.toNat 0 ∧ x86.getD x88.toNat 0 < (o0.length : Int)) then
                  (converge_attractor_16658023 K (x86.getD x88.toNat 0) (!(o0.getD ((x86.getD x88.toNat 0).toNat) false)) o0 o2).bind fun y3 =>
                    converge_attractor_65070 K k x86 x87 (IntKind.i64.wrap (x88 + 1)) y3.2.2.1 (o1.set ((x86.getD x88.toNat 0).toNat) (IntKind.i64.wrap ((o1.getD ((x86.getD x88.toNat 0).toNat) 0) - 1))) y3.2.1
                else
                  none
              else
                (converge_attractor_16658023 K (x86.getD x88.toNat 0) false o0 o2).bind fun y4 =>
                  converge_attractor_65070 K k x86 x87 (IntKind.i64.wrap (x88 + 1)) y4.2.2.1 (o1.set ((x86.getD x88.toNat 0).toNat) (IntKind.i64.wrap ((o1.getD ((x86.getD x88.toNat 0).toNat) 0) - 1))) y4.2.1
            else
              none
          else
            none
        else
          none
      else
        none
    else
      some (((), ()), (o2, (o0, (o1, ()))))
@[reducible] def p_converge_attractor_65070 (K k : Nat) : Piece := { slots := [(5, (.href 0)), (6, (.href 1)), (8, (.href 2)), (86, (.v (.slice (.int .i64)))), (87, (.v (.int .i64))), (88, (.v (.int .i64)))], objs := [(.row .bool), (.row (.int .i64)), (.row (.int .i64))], outs := [{ ex := (.exit 6), slots := [(8, (.href 0))], objs := [(none, (.row (.int .i64))), (some 0, (.row .bool)), (some 1, (.row (.int .i64)))] }], asg := [8, 15, 88, 89, 90, 91, 92, 93, 94, 95, 96, 97, 98, 99, 100, 101, 102, 103, 104, 105, 106, 107, 108, 109, 110, 111, 112, 113, 114, 115, 116, 117], nt := 119, fn := fun x => converge_attractor_65070 K k x.1.2.2.2.1 x.1.2.2.2.2.1 x.1.2.2.2.2.2.1 x.2.1 x.2.2.1 x.2.2.2.1 }
theorem k_converge_attractor_65070 (K : Nat) (hB : Base Try.prog tabs (fs_converge_check K)) : PcOk Try.prog (codeAt b_converge_attractor 65070) (p_converge_attractor_65070 K K) :=
  loop_thm hB (o_converge_attractor_16658023 K hB) 65070 (p_converge_attractor_65070 K 0) (l := fun k x => converge_attractor_65070 K k x.1.2.2.2.1 x.1.2.2.2.2.1 x.1.2.2.2.2.2.1 x.2.1 x.2.2.1 x.2.2.2.1) (c := codeAt b_converge_attractor 130140) (by kernel_rfl) (by kernel_rfl) (by kernel_rfl) (by kernel_rfl) (fun x => by kernel_rfl) (fun k x => by kernel_rfl) K
noncomputable def c_converge_attractor_65070 (K : Nat) : List (Nat × Piece) := (65070, p_converge_attractor_65070 K K) :: c_converge_attractor_16658023 K
theorem o_converge_attractor_65070 (K : Nat) (hB : Base Try.prog tabs (fs_converge_check K)) : PcsOk Try.prog b_converge_attractor (c_converge_attractor_65070 K) := PcsOk.cons (k_converge_attractor_65070 K hB) (o_converge_attractor_16658023 K hB)
def converge_attractor_508 (K : Nat) : (k : Nat) → (x7 : (List (List Int))) → (o0 : (List Bool)) → (o1 : (List Int)) → (o2 : (List Int)) → Option (Unit × ((List Bool) × Unit))
  | 0, _, _, _, _ => none
  | k + 1, x7, o0, o1, o2 =>
    if decide (0 < (o2.length : Int)) then
      if decide (0 ≤ IntKind.i64.wrap ((o2.length : Int) - 1) ∧ IntKind.i64.wrap ((o2.length : Int) - 1) < (o2.length : Int)) then
        if decide (0 ≤ IntKind.i64.wrap ((o2.length : Int) - 1) ∧ IntKind.i64.wrap ((o2.length : Int) - 1) ≤ (o2.length : Int)) then
          if decide (0 ≤ o2.getD ((IntKind.i64.wrap ((o2.length : Int) - 1)).toNat) 0 ∧ o2.getD ((IntKind.i64.wrap ((o2.length : Int) - 1)).toNat) 0 < (x7.length : Int)) then
            (converge_attractor_65070 K K (x7.getD ((o2.getD ((IntKind.i64.wrap ((o2.length : Int) - 1)).toNat) 0).toNat) []) ((x7.getD ((o2.getD ((IntKind.i64.wrap ((o2.length : Int) - 1)).toNat) 0).toNat) []).length : Int) 0 o0 o1 (o2.take ((IntKind.i64.wrap ((o2.length : Int) - 1)).toNat))).bind fun y1 =>
              converge_attractor_508 K k x7 y1.2.2.1 y1.2.2.2.1 y1.2.1
          else
            none
        else
          none
      else
        none
    else
      some ((), (o0, ()))
@[reducible] def p_converge_attractor_508 (K k : Nat) : Piece := { slots := [(5, (.href 0)), (6, (.href 1)), (7, (.v (.slice (.slice (.int .i64))))), (8, (.href 2))], objs := [(.row .bool), (.row (.int .i64)), (.row (.int .i64))], outs := [{ ex := (.exit 4), slots := [], objs := [(some 0, (.row .bool))] }], asg := [8, 13, 15, 69, 70, 71, 72, 73, 74, 75, 76, 77, 78, 79, 80, 81, 82, 83, 84, 85, 86, 87, 88, 89, 90, 91, 92, 93, 94, 95, 96, 97, 98, 99, 100, 101, 102, 103, 104, 105, 106, 107, 108, 109, 110, 111, 112, 113, 114, 115, 116, 117], nt := 119, fn := fun x => converge_attractor_508 K k x.1.2.2.1 x.2.1 x.2.2.1 x.2.2.2.1 }
theorem k_converge_attractor_508 (K : Nat) (hB : Base Try.prog tabs (fs_converge_check K)) : PcOk Try.prog (codeAt b_converge_attractor 508) (p_converge_attractor_508 K K) :=
  loop_thm hB (o_converge_attractor_65070 K hB) 508 (p_converge_attractor_508 K 0) (l := fun k x => converge_attractor_508 K k x.1.2.2.1 x.2.1 x.2.2.1 x.2.2.2.1) (c := codeAt b_converge_attractor 1016) (by kernel_rfl) (by kernel_rfl) (by kernel_rfl) (by kernel_rfl) (fun x => by kernel_rfl) (fun k x => by kernel_rfl) K
noncomputable def c_converge_attractor_508 (K : Nat) : List (Nat × Piece) := (508, p_converge_attractor_508 K K) :: c_converge_attractor_65070 K
theorem o_converge_attractor_508 (K : Nat) (hB : Base Try.prog tabs (fs_converge_check K)) : PcsOk Try.prog b_converge_attractor (c_converge_attractor_508 K) := PcsOk.cons (k_converge_attractor_508 K hB) (o_converge_attractor_65070 K hB)
def converge_attractor (K : Nat) (x0 : ((List Int) × ((List (List (Int × (Int × Unit)))) × Unit))) (x1 : (List Bool)) : Option ((Unit × Unit) × ((List Bool) × Unit)) :=
  if decide (0 ≤ (x1.length : Int) ∧ (x1.length : Int) ≤ (x1.length : Int) ∧ (x1.length : Int) ≤ 4294967296) then
    if decide (0 ≤ (x1.length : Int) ∧ (x1.length : Int) ≤ (x1.length : Int) ∧ (x1.length : Int) ≤ 4294967296) then
      if decide (0 ≤ (x1.length : Int) ∧ (x1.length : Int) ≤ (x1.length : Int) ∧ (x1.length : Int) ≤ 4294967296) then
        (converge_attractor_506 K K x1 x0.2.1 (x0.2.1.length : Int) 0 (List.replicate (x1.length : Int).toNat (false : Bool)) (List.replicate (x1.length : Int).toNat (0 : Int)) (List.replicate (x1.length : Int).toNat []) []).bind fun y2 =>
          (converge_attractor_508 K K y2.2.2.2.2.1 y2.2.2.1 y2.2.2.2.1 y2.2.1).bind fun y4 =>
            some (((), ()), (y4.2.1, ()))
      else
        none
    else
      none
  else
    none
@[reducible] def p_converge_attractor (K : Nat) : Piece := { slots := [(0, (.v (.pair (.slice (.int .u32)) (.pair (.slice (.slice (.pair (.int .u32) (.pair (.int .i64) .unit)))) .unit)))), (1, (.v (.slice .bool)))], objs := [], outs := [{ ex := .ret, slots := [(0, (.href 0))], objs := [(none, (.row .bool))] }], asg := [], nt := 119, fn := fun x => converge_attractor K x.1.1 x.1.2.1 }
theorem s_converge_attractor (K : Nat) (hB : Base Try.prog tabs (fs_converge_check K)) : FnSound Try.prog 61 (p_converge_attractor K) :=
  fun_thm hB (o_converge_attractor_508 K hB) Try.func61 (body := b_converge_attractor) rfl (p_converge_attractor K) (rs := [.tmp 4]) rfl (Nat.le_of_ble_eq_true (by kernel_rfl)) (fun x => by kernel_rfl)
noncomputable def fs_converge_attractor (K : Nat) : List (Nat × Piece) := (61, p_converge_attractor K) :: fs_converge_check K
theorem base_converge_attractor (K : Nat) : Base Try.prog tabs (fs_converge_attractor K) := ⟨(base_converge_check K).mixed, (base_converge_check K).tabs, FnsOk.cons (s_converge_attractor K (base_converge_check K)) (by kernel_rfl) (base_converge_check K).fns⟩
/-! "selfstab/converge.Core" -/
noncomputable def b_converge_Core : Code := codeOf Try.f54
noncomputable def c_converge_Core_0 (K : Nat) : List (Nat × Piece) := []
theorem o_converge_Core_0 (K : Nat) : PcsOk Try.prog b_converge_Core (c_converge_Core_0 K) := PcsOk.nil
def converge_Core_122 (K : Nat) : (k : Nat) → (x19 : Int) → (x20 : Int) → (o0 : (List Bool)) → Option (Unit × ((List Bool) × Unit))
  | 0, _, _, _ => none
  | k + 1, x19, x20, o0 =>
    if decide (x20 < x19) then
      if decide (0 ≤ x20 ∧ x20 < (o0.length : Int)) then
        if decide (0 ≤ x20 ∧ x20 < (o0.length : Int)) then
          converge_Core_122 K k x19 (IntKind.i64.wrap (x20 + 1)) (o0.set x20.toNat (!(o0.getD x20.toNat false)))
        else
          none
      else
        none
    else
      some ((), (o0, ()))
@[reducible] def p_converge_Core_122 (K k : Nat) : Piece := { slots := [(7, (.href 0)), (19, (.v (.int .i64))), (20, (.v (.int .i64)))], objs := [(.row .bool)], outs := [{ ex := (.exit 0), slots := [], objs := [(some 0, (.row .bool))] }], asg := [8, 20, 21, 22, 23, 24, 25, 26, 27, 28, 29, 30, 31], nt := 33, fn := fun x => converge_Core_122 K k x.1.2.1 x.1.2.2.1 x.2.1 }
theorem k_converge_Core_122 (K : Nat) (hB : Base Try.prog tabs (fs_converge_attractor K)) : PcOk Try.prog (codeAt b_converge_Core 122) (p_converge_Core_122 K K) :=
  loop_thm hB (o_converge_Core_0 K) 122 (p_converge_Core_122 K 0) (l := fun k x => converge_Core_122 K k x.1.2.1 x.1.2.2.1 x.2.1) (c := codeAt b_converge_Core 244) (by kernel_rfl) (by kernel_rfl) (by kernel_rfl) (by kernel_rfl) (fun x => by kernel_rfl) (fun k x => by kernel_rfl) K
noncomputable def c_converge_Core_122 (K : Nat) : List (Nat × Piece) := (122, p_converge_Core_122 K K) :: c_converge_Core_0 K
theorem o_converge_Core_122 (K : Nat) (hB : Base Try.prog tabs (fs_converge_attractor K)) : PcsOk Try.prog b_converge_Core (c_converge_Core_122 K) := PcsOk.cons (k_converge_Core_122 K hB) (o_converge_Core_0 K)
def converge_Core (K : Nat) (x0 : ((List Int) × ((List (List (Int × (Int × Unit)))) × Unit))) (x1 : (List Bool)) : Option (((Unit × (Int × Unit)) × Unit) × ((List Bool) × Unit)) :=
  (converge_check K x0 x1).bind fun y4 =>
    if !decide (y4.1.1 = 0) then
      some ((((), (y4.1.1, ())), ()), ([], ()))
    else
      (converge_attractor K x0 x1).bind fun y6 =>
        (converge_Core_122 K K (y6.2.1.length : Int) 0 y6.2.1).bind fun y8 =>
          some ((((), (0, ())), ()), (y8.2.1, ()))
@[reducible] def p_converge_Core (K : Nat) : Piece := { slots := [(0, (.v (.pair (.slice (.int .u32)) (.pair (.slice (.slice (.pair (.int .u32) (.pair (.int .i64) .unit)))) .unit)))), (1, (.v (.slice .bool)))], objs := [], outs := [{ ex := .ret, slots := [(0, (.tup (.cons (.href 0) (.cons (.v (.int .i64)) .nil))))], objs := [(none, (.row .bool))] }], asg := [], nt := 33, fn := fun x => converge_Core K x.1.1 x.1.2.1 }
theorem s_converge_Core (K : Nat) (hB : Base Try.prog tabs (fs_converge_attractor K)) : FnSound Try.prog 54 (p_converge_Core K) :=
  fun_thm hB (o_converge_Core_122 K hB) Try.func54 (body := b_converge_Core) rfl (p_converge_Core K) (rs := [.tmp 4, .tmp 5]) rfl (Nat.le_of_ble_eq_true (by kernel_rfl)) (fun x => by kernel_rfl)
noncomputable def fs_converge_Core (K : Nat) : List (Nat × Piece) := (54, p_converge_Core K) :: fs_converge_attractor K
theorem base_converge_Core (K : Nat) : Base Try.prog tabs (fs_converge_Core K) := ⟨(base_converge_attractor K).mixed, (base_converge_attractor K).tabs, FnsOk.cons (s_converge_Core K (base_converge_attractor K)) (by kernel_rfl) (base_converge_attractor K).fns⟩
/-! "slices.Index[[]bool,bool]" -/
noncomputable def b_slices_Index_bool_bool : Code := codeOf Try.f62
noncomputable def c_slices_Index_bool_bool_0 (K : Nat) : List (Nat × Piece) := []
theorem o_slices_Index_bool_bool_0 (K : Nat) : PcsOk Try.prog b_slices_Index_bool_bool (c_slices_Index_bool_bool_0 K) := PcsOk.nil
def slices_Index_bool_bool_26 (K : Nat) : (k : Nat) → (x0 : (List Bool)) → (x1 : Bool) → (x7 : Int) → (x8 : Int) → Option ((Unit × Unit) ⊕ ((Int × Unit) × Unit))
  | 0, _, _, _, _ => none
  | k + 1, x0, x1, x7, x8 =>
    if decide (x8 < x7) then
      if decide (0 ≤ x8 ∧ x8 < (x0.length : Int)) then
        if GTy.beq .bool x1 (x0.getD x8.toNat false) then
          some (.inr ((x8, ()), ()))
        else
          slices_Index_bool_bool_26 K k x0 x1 x7 (IntKind.i64.wrap (x8 + 1))
      else
        none
    else
      some (.inl ((), ()))
@[reducible] def p_slices_Index_bool_bool_26 (K k : Nat) : Piece := { slots := [(0, (.v (.slice .bool))), (1, (.v .bool)), (7, (.v (.int .i64))), (8, (.v (.int .i64)))], objs := [], outs := [{ ex := (.exit 0), slots := [], objs := [] }, { ex := .ret, slots := [(4, (.v (.int .i64)))], objs := [] }], asg := [4, 5, 8, 9, 10, 11, 12, 13, 14, 15, 16, 17, 18], nt := 19, fn := fun x => slices_Index_bool_bool_26 K k x.1.1 x.1.2.1 x.1.2.2.1 x.1.2.2.2.1 }
theorem k_slices_Index_bool_bool_26 (K : Nat) (hB : Base Try.prog tabs (fs_converge_Core K)) : PcOk Try.prog (codeAt b_slices_Index_bool_bool 26) (p_slices_Index_bool_bool_26 K K) :=
  loop_thm hB (o_slices_Index_bool_bool_0 K) 26 (p_slices_Index_bool_bool_26 K 0) (l := fun k x => slices_Index_bool_bool_26 K k x.1.1 x.1.2.1 x.1.2.2.1 x.1.2.2.2.1) (c := codeAt b_slices_Index_bool_bool 52) (by kernel_rfl) (by kernel_rfl) (by kernel_rfl) (by kernel_rfl) (fun x => by kernel_rfl) (fun k x => by kernel_rfl) K
noncomputable def c_slices_Index_bool_bool_26 (K : Nat) : List (Nat × Piece) := (26, p_slices_Index_bool_bool_26 K K) :: c_slices_Index_bool_bool_0 K
theorem o_slices_Index_bool_bool_26 (K : Nat) (hB : Base Try.prog tabs (fs_converge_Core K)) : PcsOk Try.prog b_slices_Index_bool_bool (c_slices_Index_bool_bool_26 K) := PcsOk.cons (k_slices_Index_bool_bool_26 K hB) (o_slices_Index_bool_bool_0 K)
def slices_Index_bool_bool (K : Nat) (x0 : (List Bool)) (x1 : Bool) : Option ((Int × Unit) × Unit) :=
  (slices_Index_bool_bool_26 K K x0 x1 (x0.length : Int) 0).bind fun y4 =>
    match y4 with
    | .inl y5 =>
      some (((-1), ()), ())
    | .inr y6 =>
      some ((y6.1.1, ()), ())
@[reducible] def p_slices_Index_bool_bool (K : Nat) : Piece := { slots := [(0, (.v (.slice .bool))), (1, (.v .bool))], objs := [], outs := [{ ex := .ret, slots := [(0, (.v (.int .i64)))], objs := [] }], asg := [], nt := 19, fn := fun x => slices_Index_bool_bool K x.1.1 x.1.2.1 }
theorem s_slices_Index_bool_bool (K : Nat) (hB : Base Try.prog tabs (fs_converge_Core K)) : FnSound Try.prog 62 (p_slices_Index_bool_bool K) :=
  fun_thm hB (o_slices_Index_bool_bool_26 K hB) Try.func62 (body := b_slices_Index_bool_bool) rfl (p_slices_Index_bool_bool K) (rs := [.tmp 4]) rfl (Nat.le_of_ble_eq_true (by kernel_rfl)) (fun x => by kernel_rfl)
noncomputable def fs_slices_Index_bool_bool (K : Nat) : List (Nat × Piece) := (62, p_slices_Index_bool_bool K) :: fs_converge_Core K
theorem base_slices_Index_bool_bool (K : Nat) : Base Try.prog tabs (fs_slices_Index_bool_bool K) := ⟨(base_converge_Core K).mixed, (base_converge_Core K).tabs, FnsOk.cons (s_slices_Index_bool_bool K (base_converge_Core K)) (by kernel_rfl) (base_converge_Core K).fns⟩
/-! "slices.Contains[[]bool,bool]" -/
noncomputable def b_slices_Contains_bool_bool : Code := codeOf Try.f55
noncomputable def c_slices_Contains_bool_bool_0 (K : Nat) : List (Nat × Piece) := []
theorem o_slices_Contains_bool_bool_0 (K : Nat) : PcsOk Try.prog b_slices_Contains_bool_bool (c_slices_Contains_bool_bool_0 K) := PcsOk.nil
def slices_Contains_bool_bool (K : Nat) (x0 : (List Bool)) (x1 : Bool) : Option ((Bool × Unit) × Unit) :=
  (slices_Index_bool_bool K x0 x1).bind fun y1 =>
    some ((decide (0 ≤ y1.1.1), ()), ())
@[reducible] def p_slices_Contains_bool_bool (K : Nat) : Piece := { slots := [(0, (.v (.slice .bool))), (1, (.v .bool))], objs := [], outs := [{ ex := .ret, slots := [(0, (.v .bool))], objs := [] }], asg := [], nt := 9, fn := fun x => slices_Contains_bool_bool K x.1.1 x.1.2.1 }
theorem s_slices_Contains_bool_bool (K : Nat) (hB : Base Try.prog tabs (fs_slices_Index_bool_bool K)) : FnSound Try.prog 55 (p_slices_Contains_bool_bool K) :=
  fun_thm hB (o_slices_Contains_bool_bool_0 K) Try.func55 (body := b_slices_Contains_bool_bool) rfl (p_slices_Contains_bool_bool K) (rs := [.tmp 4]) rfl (Nat.le_of_ble_eq_true (by kernel_rfl)) (fun x => by kernel_rfl)
noncomputable def fs_slices_Contains_bool_bool (K : Nat) : List (Nat × Piece) := (55, p_slices_Contains_bool_bool K) :: fs_slices_Index_bool_bool K
theorem base_slices_Contains_bool_bool (K : Nat) : Base Try.prog tabs (fs_slices_Contains_bool_bool K) := ⟨(base_slices_Index_bool_bool K).mixed, (base_slices_Index_bool_bool K).tabs, FnsOk.cons (s_slices_Contains_bool_bool K (base_slices_Index_bool_bool K)) (by kernel_rfl) (base_slices_Index_bool_bool K).fns⟩
/-! "selfstab/worst.check" -/
noncomputable def b_worst_check : Code := codeOf Try.f33
noncomputable def c_worst_check_0 (K : Nat) : List (Nat × Piece) := []
theorem o_worst_check_0 (K : Nat) : PcsOk Try.prog b_worst_check (c_worst_check_0 K) := PcsOk.nil
def worst_check (K : Nat) (x0 : ((List Int) × ((List (List (Int × (Int × Unit)))) × Unit))) (x1 : (List Bool)) : Option ((Int × Unit) × Unit) :=
  (converge_Core K x0 x1).bind fun y2 =>
    if decide (y2.1.1.2.1 = 0) then
      (slices_Contains_bool_bool K y2.2.1 true).bind fun y6 =>
        if y6.1.1 then
          some ((14, ()), ())
        else
          some ((y2.1.1.2.1, ()), ())
    else
      some ((y2.1.1.2.1, ()), ())
@[reducible] def p_worst_check (K : Nat) : Piece := { slots := [(0, (.v (.pair (.slice (.int .u32)) (.pair (.slice (.slice (.pair (.int .u32) (.pair (.int .i64) .unit)))) .unit)))), (1, (.v (.slice .bool)))], objs := [], outs := [{ ex := .ret, slots := [(0, (.v (.int .i64)))], objs := [] }], asg := [], nt := 20, fn := fun x => worst_check K x.1.1 x.1.2.1 }
theorem s_worst_check (K : Nat) (hB : Base Try.prog tabs (fs_slices_Contains_bool_bool K)) : FnSound Try.prog 33 (p_worst_check K) :=
  fun_thm hB (o_worst_check_0 K) Try.func33 (body := b_worst_check) rfl (p_worst_check K) (rs := [.tmp 4]) rfl (Nat.le_of_ble_eq_true (by kernel_rfl)) (fun x => by kernel_rfl)
noncomputable def fs_worst_check (K : Nat) : List (Nat × Piece) := (33, p_worst_check K) :: fs_slices_Contains_bool_bool K
theorem base_worst_check (K : Nat) : Base Try.prog tabs (fs_worst_check K) := ⟨(base_slices_Contains_bool_bool K).mixed, (base_slices_Contains_bool_bool K).tabs, FnsOk.cons (s_worst_check K (base_slices_Contains_bool_bool K)) (by kernel_rfl) (base_slices_Contains_bool_bool K).fns⟩
/-! "slices.Clone[[]bool,bool]" -/
noncomputable def b_slices_Clone_bool_bool : Code := codeOf Try.f58
noncomputable def c_slices_Clone_bool_bool_0 (K : Nat) : List (Nat × Piece) := []
theorem o_slices_Clone_bool_bool_0 (K : Nat) : PcsOk Try.prog b_slices_Clone_bool_bool (c_slices_Clone_bool_bool_0 K) := PcsOk.nil
def slices_Clone_bool_bool_26 (K : Nat) (x0 : List Bool) : Option ((Unit × Unit) × ((List Bool) × Unit)) := some (((), ()), ([], ()))
def slices_Clone_bool_bool_7 (K : Nat) (x0 : List Bool) : Option ((Unit × Unit) × ((List Bool) × Unit)) := if decide (([] : List Bool).length + x0.length ≤ 4294967296) then some (((), ()), ([] ++ x0, ())) else none
def slices_Clone_bool_bool_3 (K : Nat) (x0 : List Bool) : Option ((Unit × Unit) × ((List Bool) × Unit)) := if decide (([] : List Bool).length + x0.length ≤ 4294967296) then some (((), ()), (x0, ())) else none
@[reducible] def p_slices_Clone_bool_bool_26 (K : Nat) : Piece := { slots := [(0, .v (.slice .bool))], objs := [], outs := [{ ex := .ret, slots := [(2, .href 0)], objs := [(none, .row .bool)] }], asg := [1, 2, 3, 4, 5, 6, 7], nt := 8, fn := fun x => slices_Clone_bool_bool_26 K x.1.1 }
@[reducible] def p_slices_Clone_bool_bool_7 (K : Nat) : Piece := { slots := [(0, .v (.slice .bool))], objs := [], outs := [{ ex := .ret, slots := [(2, .href 0)], objs := [(none, .row .bool)] }], asg := [1, 2, 3, 4, 5, 6, 7], nt := 8, fn := fun x => slices_Clone_bool_bool_7 K x.1.1 }
@[reducible] def p_slices_Clone_bool_bool_3 (K : Nat) : Piece := { slots := [(0, .v (.slice .bool))], objs := [], outs := [{ ex := .ret, slots := [(2, .href 0)], objs := [(none, .row .bool)] }], asg := [1, 2, 3, 4, 5, 6, 7], nt := 8, fn := fun x => slices_Clone_bool_bool_3 K x.1.1 }
theorem k_slices_Clone_bool_bool_26 (K : Nat) (hB : Base Try.prog tabs (fs_worst_check K)) : PcOk Try.prog (codeAt b_slices_Clone_bool_bool 26) (p_slices_Clone_bool_bool_26 K) :=
  seg_thm hB (o_slices_Clone_bool_bool_0 K) 26 (p_slices_Clone_bool_bool_26 K) (by kernel_rfl) (by kernel_rfl) (by kernel_rfl) (fun x => by kernel_rfl)
theorem k_slices_Clone_bool_bool_7 (K : Nat) (hB : Base Try.prog tabs (fs_worst_check K)) : PcOk Try.prog (codeAt b_slices_Clone_bool_bool 7) (p_slices_Clone_bool_bool_7 K) :=
  seg_thm hB (o_slices_Clone_bool_bool_0 K) 7 (p_slices_Clone_bool_bool_7 K) (by kernel_rfl) (by kernel_rfl) (by kernel_rfl) (fun x => by kernel_rfl)
theorem e_slices_Clone_bool_bool : codeAt b_slices_Clone_bool_bool 3 = .seq (.seq (.region 1 #[{ dst := (some 3), op := (Go.Op.move (Go.Operand.tmp 0)), type := 26, pos := "slices.go:357", after := #[], guard := none }, { dst := (some 4), op := (Go.Op.binOp Go.BinOp.eql 26 (Go.Operand.tmp 3) (Go.Operand.const (Go.Value.slice none 0 0)) 26), type := 4, pos := "slices.go:357", after := #[{ on := 0, ground := Go.Ground.data }], guard := none }] false) (.cond (.tmp 4) (codeAt b_slices_Clone_bool_bool 26) .skip)) (codeAt b_slices_Clone_bool_bool 7) := by kernel_rfl
theorem k_slices_Clone_bool_bool_3 (K : Nat) (hB : Base Try.prog tabs (fs_worst_check K)) : PcOk Try.prog (codeAt b_slices_Clone_bool_bool 3) (p_slices_Clone_bool_bool_3 K) := by
  rw [e_slices_Clone_bool_bool]
  exact nil_thm (te := 4) (by kernel_rfl) rfl rfl rfl rfl rfl rfl (by decide) (k_slices_Clone_bool_bool_26 K hB) (k_slices_Clone_bool_bool_7 K hB) (by simp) (by decide) (fun x y h hx => by
    obtain ⟨⟨l, _⟩, _⟩ := x
    have hx : l = [] := hx
    subst hx
    exact h) (fun x y h => h)
noncomputable def c_slices_Clone_bool_bool_3 (K : Nat) : List (Nat × Piece) := (3, p_slices_Clone_bool_bool_3 K) :: c_slices_Clone_bool_bool_0 K
theorem o_slices_Clone_bool_bool_3 (K : Nat) (hB : Base Try.prog tabs (fs_worst_check K)) : PcsOk Try.prog b_slices_Clone_bool_bool (c_slices_Clone_bool_bool_3 K) := PcsOk.cons (k_slices_Clone_bool_bool_3 K hB) (o_slices_Clone_bool_bool_0 K)
def slices_Clone_bool_bool (K : Nat) (x0 : List Bool) : Option ((Unit × Unit) × ((List Bool) × Unit)) := (slices_Clone_bool_bool_3 K x0).bind fun y1 => some (((), ()), (y1.2.1, ()))
@[reducible] def p_slices_Clone_bool_bool (K : Nat) : Piece := { slots := [(0, .v (.slice .bool))], objs := [], outs := [{ ex := .ret, slots := [(0, .href 0)], objs := [(none, .row .bool)] }], asg := [], nt := 8, fn := fun x => slices_Clone_bool_bool K x.1.1 }
theorem s_slices_Clone_bool_bool (K : Nat) (hB : Base Try.prog tabs (fs_worst_check K)) : FnSound Try.prog 58 (p_slices_Clone_bool_bool K) :=
  fun_thm hB (o_slices_Clone_bool_bool_3 K hB) Try.func58 (body := b_slices_Clone_bool_bool) rfl (p_slices_Clone_bool_bool K) (rs := [.tmp 2]) rfl (Nat.le_of_ble_eq_true (by kernel_rfl)) (fun x => by kernel_rfl)
noncomputable def fs_slices_Clone_bool_bool (K : Nat) : List (Nat × Piece) := (58, p_slices_Clone_bool_bool K) :: fs_worst_check K
theorem base_slices_Clone_bool_bool (K : Nat) : Base Try.prog tabs (fs_slices_Clone_bool_bool K) := ⟨(base_worst_check K).mixed, (base_worst_check K).tabs, FnsOk.cons (s_slices_Clone_bool_bool K (base_worst_check K)) (by kernel_rfl) (base_worst_check K).fns⟩
/-! "selfstab/worst.one" -/
noncomputable def b_worst_one : Code := codeOf Try.f44
noncomputable def c_worst_one_0 (K : Nat) : List (Nat × Piece) := []
theorem o_worst_one_0 (K : Nat) : PcsOk Try.prog b_worst_one (c_worst_one_0 K) := PcsOk.nil
def worst_one (K : Nat) (x0 : (Int × (Int × Unit))) : Option ((Int × Unit) × Unit) :=
  some ((1, ()), ())
@[reducible] def p_worst_one (K : Nat) : Piece := { slots := [(0, (.v (.pair (.int .u32) (.pair (.int .i64) .unit))))], objs := [], outs := [{ ex := .ret, slots := [(0, (.v (.int .i64)))], objs := [] }], asg := [], nt := 3, fn := fun x => worst_one K x.1.1 }
theorem s_worst_one (K : Nat) (hB : Base Try.prog tabs (fs_slices_Clone_bool_bool K)) : FnSound Try.prog 44 (p_worst_one K) :=
  fun_thm hB (o_worst_one_0 K) Try.func44 (body := b_worst_one) rfl (p_worst_one K) (rs := [.tmp 2]) rfl (Nat.le_of_ble_eq_true (by kernel_rfl)) (fun x => by kernel_rfl)
noncomputable def fs_worst_one (K : Nat) : List (Nat × Piece) := (44, p_worst_one K) :: fs_slices_Clone_bool_bool K
theorem base_worst_one (K : Nat) : Base Try.prog tabs (fs_worst_one K) := ⟨(base_slices_Clone_bool_bool K).mixed, (base_slices_Clone_bool_bool K).tabs, FnsOk.cons (s_worst_one K (base_slices_Clone_bool_bool K)) (by kernel_rfl) (base_slices_Clone_bool_bool K).fns⟩
/-! "selfstab/worst.longest$1" -/
noncomputable def b_worst_longest_1 : Code := codeOf Try.f59
def worst_longest_1_30 (K : Nat) (r : Int → (List Bool) → ((List Int) × ((List (List (Int × (Int × Unit)))) × Unit)) → (List Int) → Option ((Unit × Unit) × (Unit × ((List Bool) × (((List Int) × ((List (List (Int × (Int × Unit)))) × Unit)) × ((Unit × (Unit × (Unit × (Unit × (Unit × Unit))))) × (Unit × ((List Int) × (Unit × Unit))))))))) : (k : Nat) → (x0 : Int) → (x20 : (List (Int × (Int × Unit)))) → (x21 : Int) → (x22 : Int) → (o2 : (List Bool)) → (o3 : ((List Int) × ((List (List (Int × (Int × Unit)))) × Unit))) → (o5 : (List Int)) → Option (Unit × ((Unit × (Unit × (Unit × (Unit × (Unit × Unit))))) × (Unit × ((List Bool) × (((List Int) × ((List (List (Int × (Int × Unit)))) × Unit)) × (Unit × ((List Int) × (Unit × Unit))))))))
  | 0, _, _, _, _, _, _, _ => none
  | k + 1, x0, x20, x21, x22, o2, o3, o5 =>
    if decide (x22 < x21) then
      if decide (0 ≤ x22 ∧ x22 < (x20.length : Int)) then
        (r (((x20.getD x22.toNat (0, (0, ()))).2).1) o2 o3 o5).bind fun y5 =>
          if decide (0 ≤ x0 ∧ x0 < (y5.2.2.2.2.2.2.1.length : Int)) then
            (worst_one K (x20.getD x22.toNat (0, (0, ())))).bind fun y6 =>
              if decide (0 ≤ ((x20.getD x22.toNat (0, (0, ()))).2).1 ∧ ((x20.getD x22.toNat (0, (0, ()))).2).1 < (y5.2.2.2.2.2.2.1.length : Int)) then
                if decide (0 ≤ x0 ∧ x0 < (y5.2.2.2.2.2.2.1.length : Int)) then
                  worst_longest_1_30 K r k x0 x20 x21 (IntKind.i64.wrap (x22 + 1)) y5.2.2.1 y5.2.2.2.1 (y5.2.2.2.2.2.2.1.set x0.toNat (if IntKind.i64.wrap (y6.1.1 + (y5.2.2.2.2.2.2.1.getD ((((x20.getD x22.toNat (0, (0, ()))).2).1).toNat) 0)) > y5.2.2.2.2.2.2.1.getD x0.toNat 0 then IntKind.i64.wrap (y6.1.1 + (y5.2.2.2.2.2.2.1.getD ((((x20.getD x22.toNat (0, (0, ()))).2).1).toNat) 0)) else y5.2.2.2.2.2.2.1.getD x0.toNat 0))
                else
                  none
              else
                none
          else
            none
      else
        none
    else
      some ((), (((), ((), ((), ((), ((), ()))))), ((), (o2, (o3, ((), (o5, ((), ()))))))))
def worst_longest_1_body (K : Nat) (r : Int → (List Bool) → ((List Int) × ((List (List (Int × (Int × Unit)))) × Unit)) → (List Int) → Option ((Unit × Unit) × (Unit × ((List Bool) × (((List Int) × ((List (List (Int × (Int × Unit)))) × Unit)) × ((Unit × (Unit × (Unit × (Unit × (Unit × Unit))))) × (Unit × ((List Int) × (Unit × Unit))))))))) (x0 : Int) (o1 : (List Bool)) (o2 : ((List Int) × ((List (List (Int × (Int × Unit)))) × Unit))) (o5 : (List Int)) : Option ((Unit × Unit) × (Unit × ((List Bool) × (((List Int) × ((List (List (Int × (Int × Unit)))) × Unit)) × ((Unit × (Unit × (Unit × (Unit × (Unit × Unit))))) × (Unit × ((List Int) × (Unit × Unit)))))))) :=
  if decide (0 ≤ x0 ∧ x0 < (o1.length : Int)) then
    if o1.getD x0.toNat false then
      some (((), ()), ((), (o1, (o2, (((), ((), ((), ((), ((), ()))))), ((), (o5, ((), ()))))))))
    else
      if decide (0 ≤ x0 ∧ x0 < (o1.length : Int)) then
        if decide (0 ≤ x0 ∧ x0 < (o2.2.1.length : Int)) then
          (worst_longest_1_30 K r K x0 (o2.2.1.getD x0.toNat []) ((o2.2.1.getD x0.toNat []).length : Int) 0 (o1.set x0.toNat true) o2 o5).bind fun y1 =>
            some (((), ()), ((), (y1.2.2.2.1, (y1.2.2.2.2.1, (((), ((), ((), ((), ((), ()))))), ((), (y1.2.2.2.2.2.2.1, ((), ()))))))))
        else
          none
      else
        none
  else
    none
def worst_longest_1 (K : Nat) : (j : Nat) → Int → (List Bool) → ((List Int) × ((List (List (Int × (Int × Unit)))) × Unit)) → (List Int) → Option ((Unit × Unit) × (Unit × ((List Bool) × (((List Int) × ((List (List (Int × (Int × Unit)))) × Unit)) × ((Unit × (Unit × (Unit × (Unit × (Unit × Unit))))) × (Unit × ((List Int) × (Unit × Unit))))))))
  | 0, _, _, _, _ => none
  | j + 1, x0, o1, o2, o5 => worst_longest_1_body K (worst_longest_1 K j) x0 o1 o2 o5
@[reducible] def p_worst_longest_1 (K j : Nat) : Piece := { slots := [(0, (.v (.int .i64))), (1, (.ref 0 (.slice .bool))), (2, (.ref 2 (.pair (.slice (.int .u32)) (.pair (.slice (.slice (.pair (.int .u32) (.pair (.int .i64) .unit)))) .unit)))), (3, (.ref 3 .opq)), (4, (.ref 4 (.slice (.int .i64)))), (5, (.ref 6 .opq))], objs := [(.box (.slice .bool) (.href 1)), (.row .bool), (.box (.pair (.slice (.int .u32)) (.pair (.slice (.slice (.pair (.int .u32) (.pair (.int .i64) .unit)))) .unit)) (.v (.pair (.slice (.int .u32)) (.pair (.slice (.slice (.pair (.int .u32) (.pair (.int .i64) .unit)))) .unit)))), (.box .opq (.clo 59 (.cons (.ref 0 (.slice .bool)) (.cons (.ref 2 (.pair (.slice (.int .u32)) (.pair (.slice (.slice (.pair (.int .u32) (.pair (.int .i64) .unit)))) .unit))) (.cons (.ref 3 .opq) (.cons (.ref 4 (.slice (.int .i64))) (.cons (.ref 6 .opq) .nil))))))), (.box (.slice (.int .i64)) (.href 5)), (.row (.int .i64)), (.box .opq (.clo 44 .nil))], outs := [{ ex := .ret, slots := [(0, (.tup .nil))], objs := [(some 0, (.box (.slice .bool) (.href 1))), (some 1, (.row .bool)), (some 2, (.box (.pair (.slice (.int .u32)) (.pair (.slice (.slice (.pair (.int .u32) (.pair (.int .i64) .unit)))) .unit)) (.v (.pair (.slice (.int .u32)) (.pair (.slice (.slice (.pair (.int .u32) (.pair (.int .i64) .unit)))) .unit))))), (some 3, (.box .opq (.clo 59 (.cons (.ref 0 (.slice .bool)) (.cons (.ref 2 (.pair (.slice (.int .u32)) (.pair (.slice (.slice (.pair (.int .u32) (.pair (.int .i64) .unit)))) .unit))) (.cons (.ref 3 .opq) (.cons (.ref 4 (.slice (.int .i64))) (.cons (.ref 6 .opq) .nil)))))))), (some 4, (.box (.slice (.int .i64)) (.href 5))), (some 5, (.row (.int .i64))), (some 6, (.box .opq (.clo 44 .nil)))] }], asg := [], nt := 48, fn := fun x => worst_longest_1 K j x.1.1 x.2.2.1 x.2.2.2.1 x.2.2.2.2.2.2.1 }
@[reducible] def p_worst_longest_1_30 (K j k : Nat) : Piece := { slots := [(0, (.v (.int .i64))), (3, (.ref 0 .opq)), (4, (.ref 4 (.slice (.int .i64)))), (5, (.ref 6 .opq)), (20, (.v (.slice (.pair (.int .u32) (.pair (.int .i64) .unit))))), (21, (.v (.int .i64))), (22, (.v (.int .i64)))], objs := [(.box .opq (.clo 59 (.cons (.ref 1 (.slice .bool)) (.cons (.ref 3 (.pair (.slice (.int .u32)) (.pair (.slice (.slice (.pair (.int .u32) (.pair (.int .i64) .unit)))) .unit))) (.cons (.ref 0 .opq) (.cons (.ref 4 (.slice (.int .i64))) (.cons (.ref 6 .opq) .nil))))))), (.box (.slice .bool) (.href 2)), (.row .bool), (.box (.pair (.slice (.int .u32)) (.pair (.slice (.slice (.pair (.int .u32) (.pair (.int .i64) .unit)))) .unit)) (.v (.pair (.slice (.int .u32)) (.pair (.slice (.slice (.pair (.int .u32) (.pair (.int .i64) .unit)))) .unit)))), (.box (.slice (.int .i64)) (.href 5)), (.row (.int .i64)), (.box .opq (.clo 44 .nil))], outs := [{ ex := (.exit 0), slots := [], objs := [(some 0, (.box .opq (.clo 59 (.cons (.ref 1 (.slice .bool)) (.cons (.ref 3 (.pair (.slice (.int .u32)) (.pair (.slice (.slice (.pair (.int .u32) (.pair (.int .i64) .unit)))) .unit))) (.cons (.ref 0 .opq) (.cons (.ref 4 (.slice (.int .i64))) (.cons (.ref 6 .opq) .nil)))))))), (some 1, (.box (.slice .bool) (.href 2))), (some 2, (.row .bool)), (some 3, (.box (.pair (.slice (.int .u32)) (.pair (.slice (.slice (.pair (.int .u32) (.pair (.int .i64) .unit)))) .unit)) (.v (.pair (.slice (.int .u32)) (.pair (.slice (.slice (.pair (.int .u32) (.pair (.int .i64) .unit)))) .unit))))), (some 4, (.box (.slice (.int .i64)) (.href 5))), (some 5, (.row (.int .i64))), (some 6, (.box .opq (.clo 44 .nil)))] }], asg := [8, 22, 23, 24, 25, 26, 27, 28, 29, 30, 31, 32, 33, 34, 35, 36, 37, 38, 39, 40, 41, 42, 43, 44, 45, 46, 47], nt := 48, fn := fun x => worst_longest_1_30 K (worst_longest_1 K j) k x.1.1 x.1.2.2.2.2.1 x.1.2.2.2.2.2.1 x.1.2.2.2.2.2.2.1 x.2.2.2.1 x.2.2.2.2.1 x.2.2.2.2.2.2.1 }
noncomputable def fs_worst_longest_1_r (K j : Nat) : List (Nat × Piece) := (59, p_worst_longest_1 K j) :: fs_worst_one K
noncomputable def c_worst_longest_1_0 (K j : Nat) : List (Nat × Piece) := []
theorem o_worst_longest_1_0 (K j : Nat) : PcsOk Try.prog b_worst_longest_1 (c_worst_longest_1_0 K j) := PcsOk.nil
theorem k_worst_longest_1_30 (K j : Nat) (hB : Base Try.prog tabs (fs_worst_longest_1_r K j)) : PcOk Try.prog (codeAt b_worst_longest_1 30) (p_worst_longest_1_30 K j K) :=
  loop_thm hB (o_worst_longest_1_0 K j) 30 (p_worst_longest_1_30 K j 0) (l := fun k x => worst_longest_1_30 K (worst_longest_1 K j) k x.1.1 x.1.2.2.2.2.1 x.1.2.2.2.2.2.1 x.1.2.2.2.2.2.2.1 x.2.2.2.1 x.2.2.2.2.1 x.2.2.2.2.2.2.1) (c := codeAt b_worst_longest_1 60) (by kernel_rfl) (by kernel_rfl) (by kernel_rfl) (by kernel_rfl) (fun x => by kernel_rfl) (fun k x => by kernel_rfl) K
noncomputable def c_worst_longest_1_30 (K j : Nat) : List (Nat × Piece) := (30, p_worst_longest_1_30 K j K) :: c_worst_longest_1_0 K j
theorem o_worst_longest_1_30 (K j : Nat) (hB : Base Try.prog tabs (fs_worst_longest_1_r K j)) : PcsOk Try.prog b_worst_longest_1 (c_worst_longest_1_30 K j) := PcsOk.cons (k_worst_longest_1_30 K j hB) (o_worst_longest_1_0 K j)
theorem s_worst_longest_1 (K : Nat) (hB0 : Base Try.prog tabs (fs_worst_one K)) : ∀ j, FnSound Try.prog 59 (p_worst_longest_1 K j)
  | 0 => fun x y h => nomatch h
  | j + 1 => by
    have hB : Base Try.prog tabs (fs_worst_longest_1_r K j) := ⟨hB0.mixed, hB0.tabs, FnsOk.cons (s_worst_longest_1 K hB0 j) (by kernel_rfl) hB0.fns⟩
    exact fun_thm hB (o_worst_longest_1_30 K j hB) Try.func59 (body := b_worst_longest_1) rfl (p_worst_longest_1 K (j + 1)) (rs := []) rfl (Nat.le_of_ble_eq_true (by kernel_rfl)) (fun x => by kernel_rfl)
noncomputable def fs_worst_longest_1 (K : Nat) : List (Nat × Piece) := (59, p_worst_longest_1 K K) :: fs_worst_one K
theorem base_worst_longest_1 (K : Nat) : Base Try.prog tabs (fs_worst_longest_1 K) := ⟨(base_worst_one K).mixed, (base_worst_one K).tabs, FnsOk.cons (s_worst_longest_1 K (base_worst_one K) K) (by kernel_rfl) (base_worst_one K).fns⟩
/-! "selfstab/worst.longest" -/
noncomputable def b_worst_longest : Code := codeOf Try.f39
noncomputable def c_worst_longest_0 (K : Nat) : List (Nat × Piece) := []
theorem o_worst_longest_0 (K : Nat) : PcsOk Try.prog b_worst_longest (c_worst_longest_0 K) := PcsOk.nil
def worst_longest_506 (K : Nat) : (k : Nat) → (x18 : Int) → (x19 : Int) → (o2 : (List Bool)) → (o3 : ((List Int) × ((List (List (Int × (Int × Unit)))) × Unit))) → (o5 : (List Int)) → Option (Unit × (Unit × ((List Int) × Unit)))
  | 0, _, _, _, _, _ => none
  | k + 1, x18, x19, o2, o3, o5 =>
    if decide (x19 < x18) then
      (worst_longest_1 K K x19 o2 o3 o5).bind fun y2 =>
        worst_longest_506 K k x18 (IntKind.i64.wrap (x19 + 1)) y2.2.2.1 y2.2.2.2.1 y2.2.2.2.2.2.2.1
    else
      some ((), ((), (o5, ())))
@[reducible] def p_worst_longest_506 (K k : Nat) : Piece := { slots := [(9, (.ref 0 .opq)), (18, (.v (.int .i64))), (19, (.v (.int .i64)))], objs := [(.box .opq (.clo 59 (.cons (.ref 1 (.slice .bool)) (.cons (.ref 3 (.pair (.slice (.int .u32)) (.pair (.slice (.slice (.pair (.int .u32) (.pair (.int .i64) .unit)))) .unit))) (.cons (.ref 0 .opq) (.cons (.ref 4 (.slice (.int .i64))) (.cons (.ref 6 .opq) .nil))))))), (.box (.slice .bool) (.href 2)), (.row .bool), (.box (.pair (.slice (.int .u32)) (.pair (.slice (.slice (.pair (.int .u32) (.pair (.int .i64) .unit)))) .unit)) (.v (.pair (.slice (.int .u32)) (.pair (.slice (.slice (.pair (.int .u32) (.pair (.int .i64) .unit)))) .unit)))), (.box (.slice (.int .i64)) (.href 5)), (.row (.int .i64)), (.box .opq (.clo 44 .nil))], outs := [{ ex := (.exit 0), slots := [], objs := [(some 4, (.box (.slice (.int .i64)) (.href 1))), (some 5, (.row (.int .i64)))] }], asg := [10, 19, 20, 21, 22, 23, 24, 25], nt := 27, fn := fun x => worst_longest_506 K k x.1.2.1 x.1.2.2.1 x.2.2.2.1 x.2.2.2.2.1 x.2.2.2.2.2.2.1 }
theorem k_worst_longest_506 (K : Nat) (hB : Base Try.prog tabs (fs_worst_longest_1 K)) : PcOk Try.prog (codeAt b_worst_longest 506) (p_worst_longest_506 K K) :=
  loop_thm hB (o_worst_longest_0 K) 506 (p_worst_longest_506 K 0) (l := fun k x => worst_longest_506 K k x.1.2.1 x.1.2.2.1 x.2.2.2.1 x.2.2.2.2.1 x.2.2.2.2.2.2.1) (c := codeAt b_worst_longest 1012) (by kernel_rfl) (by kernel_rfl) (by kernel_rfl) (by kernel_rfl) (fun x => by kernel_rfl) (fun k x => by kernel_rfl) K
noncomputable def c_worst_longest_506 (K : Nat) : List (Nat × Piece) := (506, p_worst_longest_506 K K) :: c_worst_longest_0 K
theorem o_worst_longest_506 (K : Nat) (hB : Base Try.prog tabs (fs_worst_longest_1 K)) : PcsOk Try.prog b_worst_longest (c_worst_longest_506 K) := PcsOk.cons (k_worst_longest_506 K hB) (o_worst_longest_0 K)
def worst_longest (K : Nat) (x0 : ((List Int) × ((List (List (Int × (Int × Unit)))) × Unit))) (x1 : (List Bool)) : Option ((Unit × Unit) × ((List Int) × Unit)) :=
  if decide (0 ≤ (x1.length : Int) ∧ (x1.length : Int) ≤ (x1.length : Int) ∧ (x1.length : Int) ≤ 4294967296) then
    (slices_Clone_bool_bool K x1).bind fun y2 =>
      (worst_longest_506 K K ((List.replicate (x1.length : Int).toNat (0 : Int)).length : Int) 0 y2.2.1 x0 (List.replicate (x1.length : Int).toNat (0 : Int))).bind fun y4 =>
        some (((), ()), (y4.2.2.1, ()))
  else
    none
@[reducible] def p_worst_longest (K : Nat) : Piece := { slots := [(0, (.v (.pair (.slice (.int .u32)) (.pair (.slice (.slice (.pair (.int .u32) (.pair (.int .i64) .unit)))) .unit)))), (1, (.v (.slice .bool))), (2, (.clo 44 .nil))], objs := [], outs := [{ ex := .ret, slots := [(0, (.href 0))], objs := [(none, (.row (.int .i64)))] }], asg := [], nt := 27, fn := fun x => worst_longest K x.1.1 x.1.2.1 }
theorem s_worst_longest (K : Nat) (hB : Base Try.prog tabs (fs_worst_longest_1 K)) : FnSound Try.prog 39 (p_worst_longest K) :=
  fun_thm hB (o_worst_longest_506 K hB) Try.func39 (body := b_worst_longest) rfl (p_worst_longest K) (rs := [.tmp 6]) rfl (Nat.le_of_ble_eq_true (by kernel_rfl)) (fun x => by kernel_rfl)
noncomputable def fs_worst_longest (K : Nat) : List (Nat × Piece) := (39, p_worst_longest K) :: fs_worst_longest_1 K
theorem base_worst_longest (K : Nat) : Base Try.prog tabs (fs_worst_longest K) := ⟨(base_worst_longest_1 K).mixed, (base_worst_longest_1 K).tabs, FnsOk.cons (s_worst_longest K (base_worst_longest_1 K)) (by kernel_rfl) (base_worst_longest_1 K).fns⟩
/-! "selfstab/worst.Steps" -/
noncomputable def b_worst_Steps : Code := codeOf Try.f20
noncomputable def c_worst_Steps_0 (K : Nat) : List (Nat × Piece) := []
theorem o_worst_Steps_0 (K : Nat) : PcsOk Try.prog b_worst_Steps (c_worst_Steps_0 K) := PcsOk.nil
def worst_Steps (K : Nat) (x0 : ((List Int) × ((List (List (Int × (Int × Unit)))) × Unit))) (x1 : (List Bool)) : Option (((Unit × (Int × Unit)) × Unit) × ((List Int) × Unit)) :=
  (worst_check K x0 x1).bind fun y4 =>
    if !decide (y4.1.1 = 0) then
      some ((((), (y4.1.1, ())), ()), ([], ()))
    else
      (worst_longest K x0 x1).bind fun y5 =>
        some ((((), (0, ())), ()), (y5.2.1, ()))
@[reducible] def p_worst_Steps (K : Nat) : Piece := { slots := [(0, (.v (.pair (.slice (.int .u32)) (.pair (.slice (.slice (.pair (.int .u32) (.pair (.int .i64) .unit)))) .unit)))), (1, (.v (.slice .bool)))], objs := [], outs := [{ ex := .ret, slots := [(0, (.tup (.cons (.href 0) (.cons (.v (.int .i64)) .nil))))], objs := [(none, (.row (.int .i64)))] }], asg := [], nt := 16, fn := fun x => worst_Steps K x.1.1 x.1.2.1 }
theorem s_worst_Steps (K : Nat) (hB : Base Try.prog tabs (fs_worst_longest K)) : FnSound Try.prog 20 (p_worst_Steps K) :=
  fun_thm hB (o_worst_Steps_0 K) Try.func20 (body := b_worst_Steps) rfl (p_worst_Steps K) (rs := [.tmp 4, .tmp 5]) rfl (Nat.le_of_ble_eq_true (by kernel_rfl)) (fun x => by kernel_rfl)
noncomputable def fs_worst_Steps (K : Nat) : List (Nat × Piece) := (20, p_worst_Steps K) :: fs_worst_longest K
theorem base_worst_Steps (K : Nat) : Base Try.prog tabs (fs_worst_Steps K) := ⟨(base_worst_longest K).mixed, (base_worst_longest K).tabs, FnsOk.cons (s_worst_Steps K (base_worst_longest K)) (by kernel_rfl) (base_worst_longest K).fns⟩
/-! "(*selfstab/worst.counter).rounds" -/
noncomputable def b_worst_counter_rounds : Code := codeOf Try.f34
def worst_counter_rounds_521423 (K : Nat) (r : (Int × (Int × Unit)) → ((List Int) × ((List (List (Int × (Int × Unit)))) × Unit)) → (List Bool) → Unit → (List ((Int × (Int × Unit)) × Int)) → (List ((Int × (Int × Unit)) × Bool)) → Option (((Int × (Bool × Unit)) × Unit) × ((((List Int) × ((List (List (Int × (Int × Unit)))) × Unit)) × ((List Bool) × (Unit × (Unit × Unit)))) × ((List ((Int × (Int × Unit)) × Int)) × ((List ((Int × (Int × Unit)) × Bool)) × Unit))))) (x8 : Int) (x13 : Int) (o0 : ((List Int) × ((List (List (Int × (Int × Unit)))) × Unit))) (o0_1 : (List Bool)) (o0_2 : Unit) (o1 : (List ((Int × (Int × Unit)) × Int))) (o2 : (List ((Int × (Int × Unit)) × Bool))) (o3 : (Int × (Int × Unit))) : Option (((Int × Unit) × ((((List Int) × ((List (List (Int × (Int × Unit)))) × Unit)) × ((List Bool) × (Unit × (Unit × Unit)))) × ((List ((Int × (Int × Unit)) × Int)) × ((List ((Int × (Int × Unit)) × Bool)) × Unit)))) ⊕ ((Int × (Bool × Unit)) × ((((List Int) × ((List (List (Int × (Int × Unit)))) × Unit)) × ((List Bool) × (Unit × (Unit × Unit)))) × ((List ((Int × (Int × Unit)) × Int)) × ((List ((Int × (Int × Unit)) × Bool)) × Unit))))) :=
  (r o3 o0 o0_1 o0_2 o1 o2).bind fun y2 =>
    if !y2.1.1.2.1 then
      some (.inr ((0, (false, ())), ((y2.2.1.1, (y2.2.1.2.1, ((), ((), y2.2.1.2.2.2.2)))), (y2.2.2.1, (y2.2.2.2.1, ())))))
    else
      some (.inl (((if IntKind.i64.wrap (x13 + y2.1.1.1) > x8 then IntKind.i64.wrap (x13 + y2.1.1.1) else x8), ()), ((y2.2.1.1, (y2.2.1.2.1, ((), ((), y2.2.1.2.2.2.2)))), (y2.2.2.1, (y2.2.2.2.1, ())))))
def worst_counter_rounds_1018 (K : Nat) (r : (Int × (Int × Unit)) → ((List Int) × ((List (List (Int × (Int × Unit)))) × Unit)) → (List Bool) → Unit → (List ((Int × (Int × Unit)) × Int)) → (List ((Int × (Int × Unit)) × Bool)) → Option (((Int × (Bool × Unit)) × Unit) × ((((List Int) × ((List (List (Int × (Int × Unit)))) × Unit)) × ((List Bool) × (Unit × (Unit × Unit)))) × ((List ((Int × (Int × Unit)) × Int)) × ((List ((Int × (Int × Unit)) × Bool)) × Unit))))) : (k : Nat) → (x8 : Int) → (x54 : (List (Int × (Int × Unit)))) → (x55 : Int) → (x56 : Int) → (o0 : ((List Int) × ((List (List (Int × (Int × Unit)))) × Unit))) → (o0_1 : (List Bool)) → (o0_2 : Unit) → (o1 : (List ((Int × (Int × Unit)) × Int))) → (o2 : (List ((Int × (Int × Unit)) × Bool))) → (o3 : (Int × (Int × Unit))) → Option (((Int × Unit) × ((((List Int) × ((List (List (Int × (Int × Unit)))) × Unit)) × ((List Bool) × (Unit × (Unit × Unit)))) × ((List ((Int × (Int × Unit)) × Int)) × ((List ((Int × (Int × Unit)) × Bool)) × ((Int × (Int × Unit)) × Unit))))) ⊕ ((Int × (Bool × Unit)) × ((((List Int) × ((List (List (Int × (Int × Unit)))) × Unit)) × ((List Bool) × (Unit × (Unit × Unit)))) × ((List ((Int × (Int × Unit)) × Int)) × ((List ((Int × (Int × Unit)) × Bool)) × Unit)))))
  | 0, _, _, _, _, _, _, _, _, _, _ => none
  | k + 1, x8, x54, x55, x56, o0, o0_1, o0_2, o1, o2, o3 =>
    if decide (x56 < x55) then
      if decide (0 ≤ x56 ∧ x56 < (x54.length : Int)) then
        if decide (0 ≤ ((x54.getD x56.toNat (0, (0, ()))).2).1 ∧ ((x54.getD x56.toNat (0, (0, ()))).2).1 < (o0.1.length : Int)) then
          if decide ((iand .u32 (iandNot .u32 o3.2.1 ((x54.getD x56.toNat (0, (0, ()))).1)) (o0.1.getD ((((x54.getD x56.toNat (0, (0, ()))).2).1).toNat) 0)) = 0) then
            (worst_counter_rounds_521423 K r x8 1 o0 o0_1 o0_2 o1 o2 (((x54.getD x56.toNat (0, (0, ()))).2).1, (o0.1.getD ((((x54.getD x56.toNat (0, (0, ()))).2).1).toNat) 0, ()))).bind fun y7 =>
              match y7 with
              | .inl y8 =>
                worst_counter_rounds_1018 K r k y8.1.1 x54 x55 (IntKind.i64.wrap (x56 + 1)) y8.2.1.1 y8.2.1.2.1 y8.2.1.2.2.2.2 y8.2.2.1 y8.2.2.2.1 o3
              | .inr y9 =>
                some (.inr ((y9.1.1, (y9.1.2.1, ())), ((y9.2.1.1, (y9.2.1.2.1, ((), ((), y9.2.1.2.2.2.2)))), (y9.2.2.1, (y9.2.2.2.1, ())))))
          else
            (worst_counter_rounds_521423 K r x8 0 o0 o0_1 o0_2 o1 o2 (((x54.getD x56.toNat (0, (0, ()))).2).1, (iand .u32 (iandNot .u32 o3.2.1 ((x54.getD x56.toNat (0, (0, ()))).1)) (o0.1.getD ((((x54.getD x56.toNat (0, (0, ()))).2).1).toNat) 0), ()))).bind fun y10 =>
              match y10 with
              | .inl y11 =>
                worst_counter_rounds_1018 K r k y11.1.1 x54 x55 (IntKind.i64.wrap (x56 + 1)) y11.2.1.1 y11.2.1.2.1 y11.2.1.2.2.2.2 y11.2.2.1 y11.2.2.2.1 o3
              | .inr y12 =>
                some (.inr ((y12.1.1, (y12.1.2.1, ())), ((y12.2.1.1, (y12.2.1.2.1, ((), ((), y12.2.1.2.2.2.2)))), (y12.2.2.1, (y12.2.2.2.1, ())))))
        else
          none
      else
        none
    else
      some (.inl ((x8, ()), ((o0, (o0_1, ((), ((), o0_2)))), (o1, (o2, (o3, ()))))))
def worst_counter_rounds_body (K : Nat) (r : (Int × (Int × Unit)) → ((List Int) × ((List (List (Int × (Int × Unit)))) × Unit)) → (List Bool) → Unit → (List ((Int × (Int × Unit)) × Int)) → (List ((Int × (Int × Unit)) × Bool)) → Option (((Int × (Bool × Unit)) × Unit) × ((((List Int) × ((List (List (Int × (Int × Unit)))) × Unit)) × ((List Bool) × (Unit × (Unit × Unit)))) × ((List ((Int × (Int × Unit)) × Int)) × ((List ((Int × (Int × Unit)) × Bool)) × Unit))))) (x1 : (Int × (Int × Unit))) (o0 : ((List Int) × ((List (List (Int × (Int × Unit)))) × Unit))) (o0_1 : (List Bool)) (o0_2 : Unit) (o1 : (List ((Int × (Int × Unit)) × Int))) (o2 : (List ((Int × (Int × Unit)) × Bool))) : Option (((Int × (Bool × Unit)) × Unit) × ((((List Int) × ((List (List (Int × (Int × Unit)))) × Unit)) × ((List Bool) × (Unit × (Unit × Unit)))) × ((List ((Int × (Int × Unit)) × Int)) × ((List ((Int × (Int × Unit)) × Bool)) × Unit)))) :=
  if decide (0 ≤ x1.1 ∧ x1.1 < (o0_1.length : Int)) then
    if o0_1.getD x1.1.toNat false then
      some (((0, (true, ())), ()), ((o0, (o0_1, ((), ((), o0_2)))), (o1, (o2, ()))))
    else
      if (mget (.pair (.int .i64) (.pair (.int .u32) .unit)) o1 x1).isSome then
        some ((((mget (.pair (.int .i64) (.pair (.int .u32) .unit)) o1 x1).getD 0, (true, ())), ()), ((o0, (o0_1, ((), ((), o0_2)))), (o1, (o2, ()))))
      else
        if decide ((mput (.pair (.int .i64) (.pair (.int .u32) .unit)) o2 x1 true).length ≤ 9223372036854775807) then
          if decide (262144 < ((mput (.pair (.int .i64) (.pair (.int .u32) .unit)) o2 x1 true).length : Int)) then
            some (((0, (false, ())), ()), ((o0, (o0_1, ((), ((), o0_2)))), (o1, (mput (.pair (.int .i64) (.pair (.int .u32) .unit)) o2 x1 true, ()))))
          else
            if decide (0 ≤ x1.1 ∧ x1.1 < (o0.2.1.length : Int)) then
              (worst_counter_rounds_1018 K r K 1 (o0.2.1.getD x1.1.toNat []) ((o0.2.1.getD x1.1.toNat []).length : Int) 0 o0 o0_1 o0_2 o1 (mput (.pair (.int .i64) (.pair (.int .u32) .unit)) o2 x1 true) x1).bind fun y4 =>
                match y4 with
                | .inl y5 =>
                  some (((y5.1.1, (true, ())), ()), ((y5.2.1.1, (y5.2.1.2.1, ((), ((), y5.2.1.2.2.2.2)))), (mput (.pair (.int .i64) (.pair (.int .u32) .unit)) y5.2.2.1 y5.2.2.2.2.1 y5.1.1, (y5.2.2.2.1, ()))))
                | .inr y6 =>
                  some (((y6.1.1, (y6.1.2.1, ())), ()), ((y6.2.1.1, (y6.2.1.2.1, ((), ((), y6.2.1.2.2.2.2)))), (y6.2.2.1, (y6.2.2.2.1, ()))))
            else
              none
        else
          none
  else
    none
def worst_counter_rounds (K : Nat) : (j : Nat) → (Int × (Int × Unit)) → ((List Int) × ((List (List (Int × (Int × Unit)))) × Unit)) → (List Bool) → Unit → (List ((Int × (Int × Unit)) × Int)) → (List ((Int × (Int × Unit)) × Bool)) → Option (((Int × (Bool × Unit)) × Unit) × ((((List Int) × ((List (List (Int × (Int × Unit)))) × Unit)) × ((List Bool) × (Unit × (Unit × Unit)))) × ((List ((Int × (Int × Unit)) × Int)) × ((List ((Int × (Int × Unit)) × Bool)) × Unit))))
  | 0, _, _, _, _, _, _ => none
  | j + 1, x1, o0, o0_1, o0_2, o1, o2 => worst_counter_rounds_body K (worst_counter_rounds K j) x1 o0 o0_1 o0_2 o1 o2
@[reducible] def p_worst_counter_rounds (K j : Nat) : Piece := { slots := [(0, (.ref 0 (.pair (.pair (.slice (.int .u32)) (.pair (.slice (.slice (.pair (.int .u32) (.pair (.int .i64) .unit)))) .unit)) (.pair (.slice .bool) (.pair .opq (.pair .opq .unit)))))), (1, (.v (.pair (.int .i64) (.pair (.int .u32) .unit))))], objs := [(.box (.pair (.pair (.slice (.int .u32)) (.pair (.slice (.slice (.pair (.int .u32) (.pair (.int .i64) .unit)))) .unit)) (.pair (.slice .bool) (.pair .opq (.pair .opq .unit)))) (.cons (.v (.pair (.slice (.int .u32)) (.pair (.slice (.slice (.pair (.int .u32) (.pair (.int .i64) .unit)))) .unit))) (.cons (.v (.slice .bool)) (.cons (.mref 1) (.cons (.mref 2) (.v .unit)))))), (.map (.pair (.int .i64) (.pair (.int .u32) .unit)) (.int .i64)), (.map (.pair (.int .i64) (.pair (.int .u32) .unit)) .bool)], outs := [{ ex := .ret, slots := [(0, (.tup (.cons (.v (.int .i64)) (.cons (.v .bool) .nil))))], objs := [(some 0, (.box (.pair (.pair (.slice (.int .u32)) (.pair (.slice (.slice (.pair (.int .u32) (.pair (.int .i64) .unit)))) .unit)) (.pair (.slice .bool) (.pair .opq (.pair .opq .unit)))) (.cons (.v (.pair (.slice (.int .u32)) (.pair (.slice (.slice (.pair (.int .u32) (.pair (.int .i64) .unit)))) .unit))) (.cons (.v (.slice .bool)) (.cons (.mref 1) (.cons (.mref 2) (.v .unit))))))), (some 1, (.map (.pair (.int .i64) (.pair (.int .u32) .unit)) (.int .i64))), (some 2, (.map (.pair (.int .i64) (.pair (.int .u32) .unit)) .bool))] }], asg := [], nt := 105, fn := fun x => worst_counter_rounds K j x.1.2.1 x.2.1.1 x.2.1.2.1 x.2.1.2.2.2.2 x.2.2.1 x.2.2.2.1 }
@[reducible] def p_worst_counter_rounds_521423 (K j : Nat) : Piece := { slots := [(0, (.ref 0 (.pair (.pair (.slice (.int .u32)) (.pair (.slice (.slice (.pair (.int .u32) (.pair (.int .i64) .unit)))) .unit)) (.pair (.slice .bool) (.pair .opq (.pair .opq .unit)))))), (8, (.v (.int .i64))), (12, (.ref 3 (.pair (.int .i64) (.pair (.int .u32) .unit)))), (13, (.v (.int .i64)))], objs := [(.box (.pair (.pair (.slice (.int .u32)) (.pair (.slice (.slice (.pair (.int .u32) (.pair (.int .i64) .unit)))) .unit)) (.pair (.slice .bool) (.pair .opq (.pair .opq .unit)))) (.cons (.v (.pair (.slice (.int .u32)) (.pair (.slice (.slice (.pair (.int .u32) (.pair (.int .i64) .unit)))) .unit))) (.cons (.v (.slice .bool)) (.cons (.mref 1) (.cons (.mref 2) (.v .unit)))))), (.map (.pair (.int .i64) (.pair (.int .u32) .unit)) (.int .i64)), (.map (.pair (.int .i64) (.pair (.int .u32) .unit)) .bool), (.box (.pair (.int .i64) (.pair (.int .u32) .unit)) (.v (.pair (.int .i64) (.pair (.int .u32) .unit))))], outs := [{ ex := .normal, slots := [(8, (.v (.int .i64)))], objs := [(some 0, (.box (.pair (.pair (.slice (.int .u32)) (.pair (.slice (.slice (.pair (.int .u32) (.pair (.int .i64) .unit)))) .unit)) (.pair (.slice .bool) (.pair .opq (.pair .opq .unit)))) (.cons (.v (.pair (.slice (.int .u32)) (.pair (.slice (.slice (.pair (.int .u32) (.pair (.int .i64) .unit)))) .unit))) (.cons (.v (.slice .bool)) (.cons (.mref 1) (.cons (.mref 2) (.v .unit))))))), (some 1, (.map (.pair (.int .i64) (.pair (.int .u32) .unit)) (.int .i64))), (some 2, (.map (.pair (.int .i64) (.pair (.int .u32) .unit)) .bool))] }, { ex := .ret, slots := [(4, (.v (.int .i64))), (5, (.v .bool))], objs := [(some 0, (.box (.pair (.pair (.slice (.int .u32)) (.pair (.slice (.slice (.pair (.int .u32) (.pair (.int .i64) .unit)))) .unit)) (.pair (.slice .bool) (.pair .opq (.pair .opq .unit)))) (.cons (.v (.pair (.slice (.int .u32)) (.pair (.slice (.slice (.pair (.int .u32) (.pair (.int .i64) .unit)))) .unit))) (.cons (.v (.slice .bool)) (.cons (.mref 1) (.cons (.mref 2) (.v .unit))))))), (some 1, (.map (.pair (.int .i64) (.pair (.int .u32) .unit)) (.int .i64))), (some 2, (.map (.pair (.int .i64) (.pair (.int .u32) .unit)) .bool))] }], asg := [4, 5, 8, 14, 15, 84, 85, 86, 87, 88, 89, 90, 91, 92, 93, 94, 95, 96], nt := 105, fn := fun x => worst_counter_rounds_521423 K (worst_counter_rounds K j) x.1.2.1 x.1.2.2.2.1 x.2.1.1 x.2.1.2.1 x.2.1.2.2.2.2 x.2.2.1 x.2.2.2.1 x.2.2.2.2.1 }
@[reducible] def p_worst_counter_rounds_1018 (K j k : Nat) : Piece := { slots := [(0, (.ref 0 (.pair (.pair (.slice (.int .u32)) (.pair (.slice (.slice (.pair (.int .u32) (.pair (.int .i64) .unit)))) .unit)) (.pair (.slice .bool) (.pair .opq (.pair .opq .unit)))))), (3, (.ref 3 (.pair (.int .i64) (.pair (.int .u32) .unit)))), (8, (.v (.int .i64))), (54, (.v (.slice (.pair (.int .u32) (.pair (.int .i64) .unit))))), (55, (.v (.int .i64))), (56, (.v (.int .i64)))], objs := [(.box (.pair (.pair (.slice (.int .u32)) (.pair (.slice (.slice (.pair (.int .u32) (.pair (.int .i64) .unit)))) .unit)) (.pair (.slice .bool) (.pair .opq (.pair .opq .unit)))) (.cons (.v (.pair (.slice (.int .u32)) (.pair (.slice (.slice (.pair (.int .u32) (.pair (.int .i64) .unit)))) .unit))) (.cons (.v (.slice .bool)) (.cons (.mref 1) (.cons (.mref 2) (.v .unit)))))), (.map (.pair (.int .i64) (.pair (.int .u32) .unit)) (.int .i64)), (.map (.pair (.int .i64) (.pair (.int .u32) .unit)) .bool), (.box (.pair (.int .i64) (.pair (.int .u32) .unit)) (.v (.pair (.int .i64) (.pair (.int .u32) .unit))))], outs := [{ ex := (.exit 0), slots := [(8, (.v (.int .i64)))], objs := [(some 0, (.box (.pair (.pair (.slice (.int .u32)) (.pair (.slice (.slice (.pair (.int .u32) (.pair (.int .i64) .unit)))) .unit)) (.pair (.slice .bool) (.pair .opq (.pair .opq .unit)))) (.cons (.v (.pair (.slice (.int .u32)) (.pair (.slice (.slice (.pair (.int .u32) (.pair (.int .i64) .unit)))) .unit))) (.cons (.v (.slice .bool)) (.cons (.mref 1) (.cons (.mref 2) (.v .unit))))))), (some 1, (.map (.pair (.int .i64) (.pair (.int .u32) .unit)) (.int .i64))), (some 2, (.map (.pair (.int .i64) (.pair (.int .u32) .unit)) .bool)), (some 3, (.box (.pair (.int .i64) (.pair (.int .u32) .unit)) (.v (.pair (.int .i64) (.pair (.int .u32) .unit)))))] }, { ex := .ret, slots := [(4, (.v (.int .i64))), (5, (.v .bool))], objs := [(some 0, (.box (.pair (.pair (.slice (.int .u32)) (.pair (.slice (.slice (.pair (.int .u32) (.pair (.int .i64) .unit)))) .unit)) (.pair (.slice .bool) (.pair .opq (.pair .opq .unit)))) (.cons (.v (.pair (.slice (.int .u32)) (.pair (.slice (.slice (.pair (.int .u32) (.pair (.int .i64) .unit)))) .unit))) (.cons (.v (.slice .bool)) (.cons (.mref 1) (.cons (.mref 2) (.v .unit))))))), (some 1, (.map (.pair (.int .i64) (.pair (.int .u32) .unit)) (.int .i64))), (some 2, (.map (.pair (.int .i64) (.pair (.int .u32) .unit)) .bool))] }], asg := [4, 5, 8, 10, 11, 12, 13, 14, 15, 56, 57, 58, 59, 60, 61, 62, 63, 64, 65, 66, 67, 68, 69, 70, 71, 72, 73, 74, 75, 76, 77, 78, 79, 80, 81, 82, 83, 84, 85, 86, 87, 88, 89, 90, 91, 92, 93, 94, 95, 96, 97], nt := 105, fn := fun x => worst_counter_rounds_1018 K (worst_counter_rounds K j) k x.1.2.2.1 x.1.2.2.2.1 x.1.2.2.2.2.1 x.1.2.2.2.2.2.1 x.2.1.1 x.2.1.2.1 x.2.1.2.2.2.2 x.2.2.1 x.2.2.2.1 x.2.2.2.2.1 }
noncomputable def fs_worst_counter_rounds_r (K j : Nat) : List (Nat × Piece) := (34, p_worst_counter_rounds K j) :: fs_worst_Steps K
noncomputable def c_worst_counter_rounds_0 (K j : Nat) : List (Nat × Piece) := []
theorem o_worst_counter_rounds_0 (K j : Nat) : PcsOk Try.prog b_worst_counter_rounds (c_worst_counter_rounds_0 K j) := PcsOk.nil
theorem k_worst_counter_rounds_521423 (K j : Nat) (hB : Base Try.prog tabs (fs_worst_counter_rounds_r K j)) : PcOk Try.prog (codeAt b_worst_counter_rounds 521423) (p_worst_counter_rounds_521423 K j) :=
  seg_thm hB (o_worst_counter_rounds_0 K j) 521423 (p_worst_counter_rounds_521423 K j) (by kernel_rfl) (by kernel_rfl) (by kernel_rfl) (fun x => by kernel_rfl)
noncomputable def c_worst_counter_rounds_521423 (K j : Nat) : List (Nat × Piece) := (521423, p_worst_counter_rounds_521423 K j) :: c_worst_counter_rounds_0 K j
theorem o_worst_counter_rounds_521423 (K j : Nat) (hB : Base Try.prog tabs (fs_worst_counter_rounds_r K j)) : PcsOk Try.prog b_worst_counter_rounds (c_worst_counter_rounds_521423 K j) := PcsOk.cons (k_worst_counter_rounds_521423 K j hB) (o_worst_counter_rounds_0 K j)
theorem k_worst_counter_rounds_1018 (K j : Nat) (hB : Base Try.prog tabs (fs_worst_counter_rounds_r K j)) : PcOk Try.prog (codeAt b_worst_counter_rounds 1018) (p_worst_counter_rounds_1018 K j K) :=
  loop_thm hB (o_worst_counter_rounds_521423 K j hB) 1018 (p_worst_counter_rounds_1018 K j 0) (l := fun k x => worst_counter_rounds_1018 K (worst_counter_rounds K j) k x.1.2.2.1 x.1.2.2.2.1 x.1.2.2.2.2.1 x.1.2.2.2.2.2.1 x.2.1.1 x.2.1.2.1 x.2.1.2.2.2.2 x.2.2.1 x.2.2.2.1 x.2.2.2.2.1) (c := codeAt b_worst_counter_rounds 2036) (by kernel_rfl) (by kernel_rfl) (by kernel_rfl) (by kernel_rfl) (fun x => by kernel_rfl) (fun k x => by kernel_rfl) K
noncomputable def c_worst_counter_rounds_1018 (K j : Nat) : List (Nat × Piece) := (1018, p_worst_counter_rounds_1018 K j K) :: c_worst_counter_rounds_521423 K j
theorem o_worst_counter_rounds_1018 (K j : Nat) (hB : Base Try.prog tabs (fs_worst_counter_rounds_r K j)) : PcsOk Try.prog b_worst_counter_rounds (c_worst_counter_rounds_1018 K j) := PcsOk.cons (k_worst_counter_rounds_1018 K j hB) (o_worst_counter_rounds_521423 K j hB)
theorem s_worst_counter_rounds (K : Nat) (hB0 : Base Try.prog tabs (fs_worst_Steps K)) : ∀ j, FnSound Try.prog 34 (p_worst_counter_rounds K j)
  | 0 => fun x y h => nomatch h
  | j + 1 => by
    have hB : Base Try.prog tabs (fs_worst_counter_rounds_r K j) := ⟨hB0.mixed, hB0.tabs, FnsOk.cons (s_worst_counter_rounds K hB0 j) (by kernel_rfl) hB0.fns⟩
    exact fun_thm hB (o_worst_counter_rounds_1018 K j hB) Try.func34 (body := b_worst_counter_rounds) rfl (p_worst_counter_rounds K (j + 1)) (rs := [.tmp 4, .tmp 5]) rfl (Nat.le_of_ble_eq_true (by kernel_rfl)) (fun x => by kernel_rfl)
noncomputable def fs_worst_counter_rounds (K : Nat) : List (Nat × Piece) := (34, p_worst_counter_rounds K K) :: fs_worst_Steps K
theorem base_worst_counter_rounds (K : Nat) : Base Try.prog tabs (fs_worst_counter_rounds K) := ⟨(base_worst_Steps K).mixed, (base_worst_Steps K).tabs, FnsOk.cons (s_worst_counter_rounds K (base_worst_Steps K) K) (by kernel_rfl) (base_worst_Steps K).fns⟩
/-! "selfstab/worst.Rounds" -/
noncomputable def b_worst_Rounds : Code := codeOf Try.f14
noncomputable def c_worst_Rounds_0 (K : Nat) : List (Nat × Piece) := []
theorem o_worst_Rounds_0 (K : Nat) : PcsOk Try.prog b_worst_Rounds (c_worst_Rounds_0 K) := PcsOk.nil
def worst_Rounds_250 (K : Nat) : (k : Nat) → (x27 : Int) → (x28 : Int) → (o0 : ((List Int) × ((List (List (Int × (Int × Unit)))) × Unit))) → (o1 : ((List Int) × ((List (List (Int × (Int × Unit)))) × Unit))) → (o1_1 : (List Bool)) → (o1_2 : Unit) → (o2 : (List ((Int × (Int × Unit)) × Int))) → (o3 : (List ((Int × (Int × Unit)) × Bool))) → (o4 : (List Int)) → Option ((Unit × ((List Int) × Unit)) ⊕ ((Unit × (Int × Unit)) × ((List Int) × Unit)))
  | 0, _, _, _, _, _, _, _, _, _ => none
  | k + 1, x27, x28, o0, o1, o1_1, o1_2, o2, o3, o4 =>
    if decide (x28 < x27) then
      if decide (0 ≤ x28 ∧ x28 < (o0.1.length : Int)) then
        (worst_counter_rounds K K (x28, (o0.1.getD x28.toNat 0, ())) o1 o1_1 o1_2 o2 o3).bind fun y4 =>
          if !y4.1.1.2.1 then
            some (.inr (((), (3, ())), ([], ())))
          else
            if decide (0 ≤ x28 ∧ x28 < (o4.length : Int)) then
              worst_Rounds_250 K k x27 (IntKind.i64.wrap (x28 + 1)) o0 y4.2.1.1 y4.2.1.2.1 y4.2.1.2.2.2.2 y4.2.2.1 y4.2.2.2.1 (o4.set x28.toNat y4.1.1.1)
            else
              none
      else
        none
    else
      some (.inl ((), (o4, ())))
@[reducible] def p_worst_Rounds_250 (K k : Nat) : Piece := { slots := [(2, (.ref 0 (.pair (.slice (.int .u32)) (.pair (.slice (.slice (.pair (.int .u32) (.pair (.int .i64) .unit)))) .unit)))), (7, (.ref 1 (.pair (.pair (.slice (.int .u32)) (.pair (.slice (.slice (.pair (.int .u32) (.pair (.int .i64) .unit)))) .unit)) (.pair (.slice .bool) (.pair .opq (.pair .opq .unit)))))), (8, (.href 4)), (27, (.v (.int .i64))), (28, (.v (.int .i64)))], objs := [(.box (.pair (.slice (.int .u32)) (.pair (.slice (.slice (.pair (.int .u32) (.pair (.int .i64) .unit)))) .unit)) (.v (.pair (.slice (.int .u32)) (.pair (.slice (.slice (.pair (.int .u32) (.pair (.int .i64) .unit)))) .unit)))), (.box (.pair (.pair (.slice (.int .u32)) (.pair (.slice (.slice (.pair (.int .u32) (.pair (.int .i64) .unit)))) .unit)) (.pair (.slice .bool) (.pair .opq (.pair .opq .unit)))) (.cons (.v (.pair (.slice (.int .u32)) (.pair (.slice (.slice (.pair (.int .u32) (.pair (.int .i64) .unit)))) .unit))) (.cons (.v (.slice .bool)) (.cons (.mref 2) (.cons (.mref 3) (.v .unit)))))), (.map (.pair (.int .i64) (.pair (.int .u32) .unit)) (.int .i64)), (.map (.pair (.int .i64) (.pair (.int .u32) .unit)) .bool), (.row (.int .i64))], outs := [{ ex := (.exit 0), slots := [], objs := [(some 4, (.row (.int .i64)))] }, { ex := .ret, slots := [(4, (.href 0)), (5, (.v (.int .i64)))], objs := [(none, (.row (.int .i64)))] }], asg := [4, 5, 9, 10, 11, 28, 29, 30, 31, 32, 33, 34, 35, 36, 37, 38, 39, 40, 41, 42, 43, 44, 45, 46, 47, 48], nt := 50, fn := fun x => worst_Rounds_250 K k x.1.2.2.2.1 x.1.2.2.2.2.1 x.2.1 x.2.2.1.1 x.2.2.1.2.1 x.2.2.1.2.2.2.2 x.2.2.2.1 x.2.2.2.2.1 x.2.2.2.2.2.1 }
theorem k_worst_Rounds_250 (K : Nat) (hB : Base Try.prog tabs (fs_worst_counter_rounds K)) : PcOk Try.prog (codeAt b_worst_Rounds 250) (p_worst_Rounds_250 K K) :=
  loop_thm hB (o_worst_Rounds_0 K) 250 (p_worst_Rounds_250 K 0) (l := fun k x => worst_Rounds_250 K k x.1.2.2.2.1 x.1.2.2.2.2.1 x.2.1 x.2.2.1.1 x.2.2.1.2.1 x.2.2.1.2.2.2.2 x.2.2.2.1 x.2.2.2.2.1 x.2.2.2.2.2.1) (c := codeAt b_worst_Rounds 500) (by kernel_rfl) (by kernel_rfl) (by kernel_rfl) (by kernel_rfl) (fun x => by kernel_rfl) (fun k x => by kernel_rfl) K
noncomputable def c_worst_Rounds_250 (K : Nat) : List (Nat × Piece) := (250, p_worst_Rounds_250 K K) :: c_worst_Rounds_0 K
theorem o_worst_Rounds_250 (K : Nat) (hB : Base Try.prog tabs (fs_worst_counter_rounds K)) : PcsOk Try.prog b_worst_Rounds (c_worst_Rounds_250 K) := PcsOk.cons (k_worst_Rounds_250 K hB) (o_worst_Rounds_0 K)
def worst_Rounds (K : Nat) (x0 : ((List Int) × ((List (List (Int × (Int × Unit)))) × Unit))) (x1 : (List Bool)) : Option (((Unit × (Int × Unit)) × Unit) × ((List Int) × Unit)) :=
  (worst_check K x0 x1).bind fun y4 =>
    if !decide (y4.1.1 = 0) then
      some ((((), (y4.1.1, ())), ()), ([], ()))
    else
      if decide (0 ≤ (x1.length : Int) ∧ (x1.length : Int) ≤ (x1.length : Int) ∧ (x1.length : Int) ≤ 4294967296) then
        (worst_Rounds_250 K K ((List.replicate (x1.length : Int).toNat (0 : Int)).length : Int) 0 x0 x0 x1 () [] [] (List.replicate (x1.length : Int).toNat (0 : Int))).bind fun y8 =>
          match y8 with
          | .inl y9 =>
            some ((((), (0, ())), ()), (y9.2.1, ()))
          | .inr y10 =>
            some ((((), (y10.1.2.1, ())), ()), (y10.2.1, ()))
      else
        none
@[reducible] def p_worst_Rounds (K : Nat) : Piece := { slots := [(0, (.v (.pair (.slice (.int .u32)) (.pair (.slice (.slice (.pair (.int .u32) (.pair (.int .i64) .unit)))) .unit)))), (1, (.v (.slice .bool)))], objs := [], outs := [{ ex := .ret, slots := [(0, (.tup (.cons (.href 0) (.cons (.v (.int .i64)) .nil))))], objs := [(none, (.row (.int .i64)))] }], asg := [], nt := 50, fn := fun x => worst_Rounds K x.1.1 x.1.2.1 }
theorem s_worst_Rounds (K : Nat) (hB : Base Try.prog tabs (fs_worst_counter_rounds K)) : FnSound Try.prog 14 (p_worst_Rounds K) :=
  fun_thm hB (o_worst_Rounds_250 K hB) Try.func14 (body := b_worst_Rounds) rfl (p_worst_Rounds K) (rs := [.tmp 4, .tmp 5]) rfl (Nat.le_of_ble_eq_true (by kernel_rfl)) (fun x => by kernel_rfl)
noncomputable def fs_worst_Rounds (K : Nat) : List (Nat × Piece) := (14, p_worst_Rounds K) :: fs_worst_counter_rounds K
theorem base_worst_Rounds (K : Nat) : Base Try.prog tabs (fs_worst_Rounds K) := ⟨(base_worst_counter_rounds K).mixed, (base_worst_counter_rounds K).tabs, FnsOk.cons (s_worst_Rounds K (base_worst_counter_rounds K)) (by kernel_rfl) (base_worst_counter_rounds K).fns⟩
/-! "math/bits.OnesCount32" -/
noncomputable def b_bits_OnesCount32 : Code := codeOf Try.f53
noncomputable def c_bits_OnesCount32_0 (K : Nat) : List (Nat × Piece) := []
theorem o_bits_OnesCount32_0 (K : Nat) : PcsOk Try.prog b_bits_OnesCount32 (c_bits_OnesCount32_0 K) := PcsOk.nil
def bits_OnesCount32 (K : Nat) (x0 : Int) : Option ((Int × Unit) × Unit) :=
  if decide (0 ≤ ishr .u32 x0 24 ∧ ishr .u32 x0 24 < (bytes_93484e48.size : Int)) then
    if decide (0 ≤ iand .u32 (ishr .u32 x0 16) 255 ∧ iand .u32 (ishr .u32 x0 16) 255 < (bytes_93484e48.size : Int)) then
      if decide (0 ≤ iand .u32 (ishr .u32 x0 8) 255 ∧ iand .u32 (ishr .u32 x0 8) 255 < (bytes_93484e48.size : Int)) then
        if decide (0 ≤ iand .u32 x0 255 ∧ iand .u32 x0 255 < (bytes_93484e48.size : Int)) then
          some ((IntKind.i64.wrap (IntKind.u8.wrap ((IntKind.u8.wrap ((IntKind.u8.wrap (((bytes_93484e48.data.toList.getD (ishr .u32 x0 24).toNat 0).toNat : Int) + ((bytes_93484e48.data.toList.getD (iand .u32 (ishr .u32 x0 16) 255).toNat 0).toNat : Int))) + ((bytes_93484e48.data.toList.getD (iand .u32 (ishr .u32 x0 8) 255).toNat 0).toNat : Int))) + ((bytes_93484e48.data.toList.getD (iand .u32 x0 255).toNat 0).toNat : Int))), ()), ())
        else
          none
      else
        none
    else
      none
  else
    none
@[reducible] def p_bits_OnesCount32 (K : Nat) : Piece := { slots := [(0, (.v (.int .u32)))], objs := [], outs := [{ ex := .ret, slots := [(0, (.v (.int .i64)))], objs := [] }], asg := [], nt := 21, fn := fun x => bits_OnesCount32 K x.1.1 }
theorem s_bits_OnesCount32 (K : Nat) (hB : Base Try.prog tabs (fs_worst_Rounds K)) : FnSound Try.prog 53 (p_bits_OnesCount32 K) :=
  fun_thm hB (o_bits_OnesCount32_0 K) Try.func53 (body := b_bits_OnesCount32) rfl (p_bits_OnesCount32 K) (rs := [.tmp 2]) rfl (Nat.le_of_ble_eq_true (by kernel_rfl)) (fun x => by kernel_rfl)
noncomputable def fs_bits_OnesCount32 (K : Nat) : List (Nat × Piece) := (53, p_bits_OnesCount32 K) :: fs_worst_Rounds K
theorem base_bits_OnesCount32 (K : Nat) : Base Try.prog tabs (fs_bits_OnesCount32 K) := ⟨(base_worst_Rounds K).mixed, (base_worst_Rounds K).tabs, FnsOk.cons (s_bits_OnesCount32 K (base_worst_Rounds K)) (by kernel_rfl) (base_worst_Rounds K).fns⟩
/-! "selfstab/worst.moves" -/
noncomputable def b_worst_moves : Code := codeOf Try.f40
noncomputable def c_worst_moves_0 (K : Nat) : List (Nat × Piece) := []
theorem o_worst_moves_0 (K : Nat) : PcsOk Try.prog b_worst_moves (c_worst_moves_0 K) := PcsOk.nil
def worst_moves (K : Nat) (x0 : (Int × (Int × Unit))) : Option ((Int × Unit) × Unit) :=
  (bits_OnesCount32 K x0.1).bind fun y1 =>
    some ((y1.1.1, ()), ())
@[reducible] def p_worst_moves (K : Nat) : Piece := { slots := [(0, (.v (.pair (.int .u32) (.pair (.int .i64) .unit))))], objs := [], outs := [{ ex := .ret, slots := [(0, (.v (.int .i64)))], objs := [] }], asg := [], nt := 6, fn := fun x => worst_moves K x.1.1 }
theorem s_worst_moves (K : Nat) (hB : Base Try.prog tabs (fs_bits_OnesCount32 K)) : FnSound Try.prog 40 (p_worst_moves K) :=
  fun_thm hB (o_worst_moves_0 K) Try.func40 (body := b_worst_moves) rfl (p_worst_moves K) (rs := [.tmp 2]) rfl (Nat.le_of_ble_eq_true (by kernel_rfl)) (fun x => by kernel_rfl)
noncomputable def fs_worst_moves (K : Nat) : List (Nat × Piece) := (40, p_worst_moves K) :: fs_bits_OnesCount32 K
theorem base_worst_moves (K : Nat) : Base Try.prog tabs (fs_worst_moves K) := ⟨(base_bits_OnesCount32 K).mixed, (base_bits_OnesCount32 K).tabs, FnsOk.cons (s_worst_moves K (base_bits_OnesCount32 K)) (by kernel_rfl) (base_bits_OnesCount32 K).fns⟩
/-! "selfstab/worst.longest$1" -/
noncomputable def b_worst_longest_1_v2 : Code := codeOf Try.f59
def worst_longest_1_v2_30 (K : Nat) (r : Int → (List Bool) → ((List Int) × ((List (List (Int × (Int × Unit)))) × Unit)) → (List Int) → Option ((Unit × Unit) × (Unit × ((List Bool) × (((List Int) × ((List (List (Int × (Int × Unit)))) × Unit)) × ((Unit × (Unit × (Unit × (Unit × (Unit × Unit))))) × (Unit × ((List Int) × (Unit × Unit))))))))) : (k : Nat) → (x0 : Int) → (x20 : (List (Int × (Int × Unit)))) → (x21 : Int) → (x22 : Int) → (o2 : (List Bool)) → (o3 : ((List Int) × ((List (List (Int × (Int × Unit)))) × Unit))) → (o5 : (List Int)) → Option (Unit × ((Unit × (Unit × (Unit × (Unit × (Unit × Unit))))) × (Unit × ((List Bool) × (((List Int) × ((List (List (Int × (Int × Unit)))) × Unit)) × (Unit × ((List Int) × (Unit × Unit))))))))
  | 0, _, _, _, _, _, _, _ => none
  | k + 1, x0, x20, x21, x22, o2, o3, o5 =>
    if decide (x22 < x21) then
      if decide (0 ≤ x22 ∧ x22 < (x20.length : Int)) then
        (r (((x20.getD x22.toNat (0, (0, ()))).2).1) o2 o3 o5).bind fun y5 =>
          if decide (0 ≤ x0 ∧ x0 < (y5.2.2.2.2.2.2.1.length : Int)) then
            (worst_moves K (x20.getD x22.toNat (0, (0, ())))).bind fun y6 =>
              if decide (0 ≤ ((x20.getD x22.toNat (0, (0, ()))).2).1 ∧ ((x20.getD x22.toNat (0, (0, ()))).2).1 < (y5.2.2.2.2.2.2.1.length : Int)) then
                if decide (0 ≤ x0 ∧ x0 < (y5.2.2.2.2.2.2.1.length : Int)) then
                  worst_longest_1_v2_30 K r k x0 x20 x21 (IntKind.i64.wrap (x22 + 1)) y5.2.2.1 y5.2.2.2.1 (y5.2.2.2.2.2.2.1.set x0.toNat (if IntKind.i64.wrap (y6.1.1 + (y5.2.2.2.2.2.2.1.getD ((((x20.getD x22.toNat (0, (0, ()))).2).1).toNat) 0)) > y5.2.2.2.2.2.2.1.getD x0.toNat 0 then IntKind.i64.wrap (y6.1.1 + (y5.2.2.2.2.2.2.1.getD ((((x20.getD x22.toNat (0, (0, ()))).2).1).toNat) 0)) else y5.2.2.2.2.2.2.1.getD x0.toNat 0))
                else
                  none
              else
                none
          else
            none
      else
        none
    else
      some ((), (((), ((), ((), ((), ((), ()))))), ((), (o2, (o3, ((), (o5, ((), ()))))))))
def worst_longest_1_v2_body (K : Nat) (r : Int → (List Bool) → ((List Int) × ((List (List (Int × (Int × Unit)))) × Unit)) → (List Int) → Option ((Unit × Unit) × (Unit × ((List Bool) × (((List Int) × ((List (List (Int × (Int × Unit)))) × Unit)) × ((Unit × (Unit × (Unit × (Unit × (Unit × Unit))))) × (Unit × ((List Int) × (Unit × Unit))))))))) (x0 : Int) (o1 : (List Bool)) (o2 : ((List Int) × ((List (List (Int × (Int × Unit)))) × Unit))) (o5 : (List Int)) : Option ((Unit × Unit) × (Unit × ((List Bool) × (((List Int) × ((List (List (Int × (Int × Unit)))) × Unit)) × ((Unit × (Unit × (Unit × (Unit × (Unit × Unit))))) × (Unit × ((List Int) × (Unit × Unit)))))))) :=
  if decide (0 ≤ x0 ∧ x0 < (o1.length : Int)) then
    if o1.getD x0.toNat false then
      some (((), ()), ((), (o1, (o2, (((), ((), ((), ((), ((), ()))))), ((), (o5, ((), ()))))))))
    else
      if decide (0 ≤ x0 ∧ x0 < (o1.length : Int)) then
        if decide (0 ≤ x0 ∧ x0 < (o2.2.1.length : Int)) then
          (worst_longest_1_v2_30 K r K x0 (o2.2.1.getD x0.toNat []) ((o2.2.1.getD x0.toNat []).length : Int) 0 (o1.set x0.toNat true) o2 o5).bind fun y1 =>
            some (((), ()), ((), (y1.2.2.2.1, (y1.2.2.2.2.1, (((), ((), ((), ((), ((), ()))))), ((), (y1.2.2.2.2.2.2.1, ((), ()))))))))
        else
          none
      else
        none
  else
    none
def worst_longest_1_v2 (K : Nat) : (j : Nat) → Int → (List Bool) → ((List Int) × ((List (List (Int × (Int × Unit)))) × Unit)) → (List Int) → Option ((Unit × Unit) × (Unit × ((List Bool) × (((List Int) × ((List (List (Int × (Int × Unit)))) × Unit)) × ((Unit × (Unit × (Unit × (Unit × (Unit × Unit))))) × (Unit × ((List Int) × (Unit × Unit))))))))
  | 0, _, _, _, _ => none
  | j + 1, x0, o1, o2, o5 => worst_longest_1_v2_body K (worst_longest_1_v2 K j) x0 o1 o2 o5
@[reducible] def p_worst_longest_1_v2 (K j : Nat) : Piece := { slots := [(0, (.v (.int .i64))), (1, (.ref 0 (.slice .bool))), (2, (.ref 2 (.pair (.slice (.int .u32)) (.pair (.slice (.slice (.pair (.int .u32) (.pair (.int .i64) .unit)))) .unit)))), (3, (.ref 3 .opq)), (4, (.ref 4 (.slice (.int .i64)))), (5, (.ref 6 .opq))], objs := [(.box (.slice .bool) (.href 1)), (.row .bool), (.box (.pair (.slice (.int .u32)) (.pair (.slice (.slice (.pair (.int .u32) (.pair (.int .i64) .unit)))) .unit)) (.v (.pair (.slice (.int .u32)) (.pair (.slice (.slice (.pair (.int .u32) (.pair (.int .i64) .unit)))) .unit)))), (.box .opq (.clo 59 (.cons (.ref 0 (.slice .bool)) (.cons (.ref 2 (.pair (.slice (.int .u32)) (.pair (.slice (.slice (.pair (.int .u32) (.pair (.int .i64) .unit)))) .unit))) (.cons (.ref 3 .opq) (.cons (.ref 4 (.slice (.int .i64))) (.cons (.ref 6 .opq) .nil))))))), (.box (.slice (.int .i64)) (.href 5)), (.row (.int .i64)), (.box .opq (.clo 40 .nil))], outs := [{ ex := .ret, slots := [(0, (.tup .nil))], objs := [(some 0, (.box (.slice .bool) (.href 1))), (some 1, (.row .bool)), (some 2, (.box (.pair (.slice (.int .u32)) (.pair (.slice (.slice (.pair (.int .u32) (.pair (.int .i64) .unit)))) .unit)) (.v (.pair (.slice (.int .u32)) (.pair (.slice (.slice (.pair (.int .u32) (.pair (.int .i64) .unit)))) .unit))))), (some 3, (.box .opq (.clo 59 (.cons (.ref 0 (.slice .bool)) (.cons (.ref 2 (.pair (.slice (.int .u32)) (.pair (.slice (.slice (.pair (.int .u32) (.pair (.int .i64) .unit)))) .unit))) (.cons (.ref 3 .opq) (.cons (.ref 4 (.slice (.int .i64))) (.cons (.ref 6 .opq) .nil)))))))), (some 4, (.box (.slice (.int .i64)) (.href 5))), (some 5, (.row (.int .i64))), (some 6, (.box .opq (.clo 40 .nil)))] }], asg := [], nt := 48, fn := fun x => worst_longest_1_v2 K j x.1.1 x.2.2.1 x.2.2.2.1 x.2.2.2.2.2.2.1 }
@[reducible] def p_worst_longest_1_v2_30 (K j k : Nat) : Piece := { slots := [(0, (.v (.int .i64))), (3, (.ref 0 .opq)), (4, (.ref 4 (.slice (.int .i64)))), (5, (.ref 6 .opq)), (20, (.v (.slice (.pair (.int .u32) (.pair (.int .i64) .unit))))), (21, (.v (.int .i64))), (22, (.v (.int .i64)))], objs := [(.box .opq (.clo 59 (.cons (.ref 1 (.slice .bool)) (.cons (.ref 3 (.pair (.slice (.int .u32)) (.pair (.slice (.slice (.pair (.int .u32) (.pair (.int .i64) .unit)))) .unit))) (.cons (.ref 0 .opq) (.cons (.ref 4 (.slice (.int .i64))) (.cons (.ref 6 .opq) .nil))))))), (.box (.slice .bool) (.href 2)), (.row .bool), (.box (.pair (.slice (.int .u32)) (.pair (.slice (.slice (.pair (.int .u32) (.pair (.int .i64) .unit)))) .unit)) (.v (.pair (.slice (.int .u32)) (.pair (.slice (.slice (.pair (.int .u32) (.pair (.int .i64) .unit)))) .unit)))), (.box (.slice (.int .i64)) (.href 5)), (.row (.int .i64)), (.box .opq (.clo 40 .nil))], outs := [{ ex := (.exit 0), slots := [], objs := [(some 0, (.box .opq (.clo 59 (.cons (.ref 1 (.slice .bool)) (.cons (.ref 3 (.pair (.slice (.int .u32)) (.pair (.slice (.slice (.pair (.int .u32) (.pair (.int .i64) .unit)))) .unit))) (.cons (.ref 0 .opq) (.cons (.ref 4 (.slice (.int .i64))) (.cons (.ref 6 .opq) .nil)))))))), (some 1, (.box (.slice .bool) (.href 2))), (some 2, (.row .bool)), (some 3, (.box (.pair (.slice (.int .u32)) (.pair (.slice (.slice (.pair (.int .u32) (.pair (.int .i64) .unit)))) .unit)) (.v (.pair (.slice (.int .u32)) (.pair (.slice (.slice (.pair (.int .u32) (.pair (.int .i64) .unit)))) .unit))))), (some 4, (.box (.slice (.int .i64)) (.href 5))), (some 5, (.row (.int .i64))), (some 6, (.box .opq (.clo 40 .nil)))] }], asg := [8, 22, 23, 24, 25, 26, 27, 28, 29, 30, 31, 32, 33, 34, 35, 36, 37, 38, 39, 40, 41, 42, 43, 44, 45, 46, 47], nt := 48, fn := fun x => worst_longest_1_v2_30 K (worst_longest_1_v2 K j) k x.1.1 x.1.2.2.2.2.1 x.1.2.2.2.2.2.1 x.1.2.2.2.2.2.2.1 x.2.2.2.1 x.2.2.2.2.1 x.2.2.2.2.2.2.1 }
noncomputable def fs_worst_longest_1_v2_r (K j : Nat) : List (Nat × Piece) := (59, p_worst_longest_1_v2 K j) :: fs_worst_moves K
noncomputable def c_worst_longest_1_v2_0 (K j : Nat) : List (Nat × Piece) := []
theorem o_worst_longest_1_v2_0 (K j : Nat) : PcsOk Try.prog b_worst_longest_1_v2 (c_worst_longest_1_v2_0 K j) := PcsOk.nil
theorem k_worst_longest_1_v2_30 (K j : Nat) (hB : Base Try.prog tabs (fs_worst_longest_1_v2_r K j)) : PcOk Try.prog (codeAt b_worst_longest_1_v2 30) (p_worst_longest_1_v2_30 K j K) :=
  loop_thm hB (o_worst_longest_1_v2_0 K j) 30 (p_worst_longest_1_v2_30 K j 0) (l := fun k x => worst_longest_1_v2_30 K (worst_longest_1_v2 K j) k x.1.1 x.1.2.2.2.2.1 x.1.2.2.2.2.2.1 x.1.2.2.2.2.2.2.1 x.2.2.2.1 x.2.2.2.2.1 x.2.2.2.2.2.2.1) (c := codeAt b_worst_longest_1_v2 60) (by kernel_rfl) (by kernel_rfl) (by kernel_rfl) (by kernel_rfl) (fun x => by kernel_rfl) (fun k x => by kernel_rfl) K
noncomputable def c_worst_longest_1_v2_30 (K j : Nat) : List (Nat × Piece) := (30, p_worst_longest_1_v2_30 K j K) :: c_worst_longest_1_v2_0 K j
theorem o_worst_longest_1_v2_30 (K j : Nat) (hB : Base Try.prog tabs (fs_worst_longest_1_v2_r K j)) : PcsOk Try.prog b_worst_longest_1_v2 (c_worst_longest_1_v2_30 K j) := PcsOk.cons (k_worst_longest_1_v2_30 K j hB) (o_worst_longest_1_v2_0 K j)
theorem s_worst_longest_1_v2 (K : Nat) (hB0 : Base Try.prog tabs (fs_worst_moves K)) : ∀ j, FnSound Try.prog 59 (p_worst_longest_1_v2 K j)
  | 0 => fun x y h => nomatch h
  | j + 1 => by
    have hB : Base Try.prog tabs (fs_worst_longest_1_v2_r K j) := ⟨hB0.mixed, hB0.tabs, FnsOk.cons (s_worst_longest_1_v2 K hB0 j) (by kernel_rfl) hB0.fns⟩
    exact fun_thm hB (o_worst_longest_1_v2_30 K j hB) Try.func59 (body := b_worst_longest_1_v2) rfl (p_worst_longest_1_v2 K (j + 1)) (rs := []) rfl (Nat.le_of_ble_eq_true (by kernel_rfl)) (fun x => by kernel_rfl)
noncomputable def fs_worst_longest_1_v2 (K : Nat) : List (Nat × Piece) := (59, p_worst_longest_1_v2 K K) :: fs_worst_moves K
theorem base_worst_longest_1_v2 (K : Nat) : Base Try.prog tabs (fs_worst_longest_1_v2 K) := ⟨(base_worst_moves K).mixed, (base_worst_moves K).tabs, FnsOk.cons (s_worst_longest_1_v2 K (base_worst_moves K) K) (by kernel_rfl) (base_worst_moves K).fns⟩
/-! "selfstab/worst.longest" -/
noncomputable def b_worst_longest_v2 : Code := codeOf Try.f39
noncomputable def c_worst_longest_v2_0 (K : Nat) : List (Nat × Piece) := []
theorem o_worst_longest_v2_0 (K : Nat) : PcsOk Try.prog b_worst_longest_v2 (c_worst_longest_v2_0 K) := PcsOk.nil
def worst_longest_v2_506 (K : Nat) : (k : Nat) → (x18 : Int) → (x19 : Int) → (o2 : (List Bool)) → (o3 : ((List Int) × ((List (List (Int × (Int × Unit)))) × Unit))) → (o5 : (List Int)) → Option (Unit × (Unit × ((List Int) × Unit)))
  | 0, _, _, _, _, _ => none
  | k + 1, x18, x19, o2, o3, o5 =>
    if decide (x19 < x18) then
      (worst_longest_1_v2 K K x19 o2 o3 o5).bind fun y2 =>
        worst_longest_v2_506 K k x18 (IntKind.i64.wrap (x19 + 1)) y2.2.2.1 y2.2.2.2.1 y2.2.2.2.2.2.2.1
    else
      some ((), ((), (o5, ())))
@[reducible] def p_worst_longest_v2_506 (K k : Nat) : Piece := { slots := [(9, (.ref 0 .opq)), (18, (.v (.int .i64))), (19, (.v (.int .i64)))], objs := [(.box .opq (.clo 59 (.cons (.ref 1 (.slice .bool)) (.cons (.ref 3 (.pair (.slice (.int .u32)) (.pair (.slice (.slice (.pair (.int .u32) (.pair (.int .i64) .unit)))) .unit))) (.cons (.ref 0 .opq) (.cons (.ref 4 (.slice (.int .i64))) (.cons (.ref 6 .opq) .nil))))))), (.box (.slice .bool) (.href 2)), (.row .bool), (.box (.pair (.slice (.int .u32)) (.pair (.slice (.slice (.pair (.int .u32) (.pair (.int .i64) .unit)))) .unit)) (.v (.pair (.slice (.int .u32)) (.pair (.slice (.slice (.pair (.int .u32) (.pair (.int .i64) .unit)))) .unit)))), (.box (.slice (.int .i64)) (.href 5)), (.row (.int .i64)), (.box .opq (.clo 40 .nil))], outs := [{ ex := (.exit 0), slots := [], objs := [(some 4, (.box (.slice (.int .i64)) (.href 1))), (some 5, (.row (.int .i64)))] }], asg := [10, 19, 20, 21, 22, 23, 24, 25], nt := 27, fn := fun x => worst_longest_v2_506 K k x.1.2.1 x.1.2.2.1 x.2.2.2.1 x.2.2.2.2.1 x.2.2.2.2.2.2.1 }
theorem k_worst_longest_v2_506 (K : Nat) (hB : Base Try.prog tabs (fs_worst_longest_1_v2 K)) : PcOk Try.prog (codeAt b_worst_longest_v2 506) (p_worst_longest_v2_506 K K) :=
  loop_thm hB (o_worst_longest_v2_0 K) 506 (p_worst_longest_v2_506 K 0) (l := fun k x => worst_longest_v2_506 K k x.1.2.1 x.1.2.2.1 x.2.2.2.1 x.2.2.2.2.1 x.2.2.2.2.2.2.1) (c := codeAt b_worst_longest_v2 1012) (by kernel_rfl) (by kernel_rfl) (by kernel_rfl) (by kernel_rfl) (fun x => by kernel_rfl) (fun k x => by kernel_rfl) K
noncomputable def c_worst_longest_v2_506 (K : Nat) : List (Nat × Piece) := (506, p_worst_longest_v2_506 K K) :: c_worst_longest_v2_0 K
theorem o_worst_longest_v2_506 (K : Nat) (hB : Base Try.prog tabs (fs_worst_longest_1_v2 K)) : PcsOk Try.prog b_worst_longest_v2 (c_worst_longest_v2_506 K) := PcsOk.cons (k_worst_longest_v2_506 K hB) (o_worst_longest_v2_0 K)
def worst_longest_v2 (K : Nat) (x0 : ((List Int) × ((List (List (Int × (Int × Unit)))) × Unit))) (x1 : (List Bool)) : Option ((Unit × Unit) × ((List Int) × Unit)) :=
  if decide (0 ≤ (x1.length : Int) ∧ (x1.length : Int) ≤ (x1.length : Int) ∧ (x1.length : Int) ≤ 4294967296) then
    (slices_Clone_bool_bool K x1).bind fun y2 =>
      (worst_longest_v2_506 K K ((List.replicate (x1.length : Int).toNat (0 : Int)).length : Int) 0 y2.2.1 x0 (List.replicate (x1.length : Int).toNat (0 : Int))).bind fun y4 =>
        some (((), ()), (y4.2.2.1, ()))
  else
    none
@[reducible] def p_worst_longest_v2 (K : Nat) : Piece := { slots := [(0, (.v (.pair (.slice (.int .u32)) (.pair (.slice (.slice (.pair (.int .u32) (.pair (.int .i64) .unit)))) .unit)))), (1, (.v (.slice .bool))), (2, (.clo 40 .nil))], objs := [], outs := [{ ex := .ret, slots := [(0, (.href 0))], objs := [(none, (.row (.int .i64)))] }], asg := [], nt := 27, fn := fun x => worst_longest_v2 K x.1.1 x.1.2.1 }
theorem s_worst_longest_v2 (K : Nat) (hB : Base Try.prog tabs (fs_worst_longest_1_v2 K)) : FnSound Try.prog 39 (p_worst_longest_v2 K) :=
  fun_thm hB (o_worst_longest_v2_506 K hB) Try.func39 (body := b_worst_longest_v2) rfl (p_worst_longest_v2 K) (rs := [.tmp 6]) rfl (Nat.le_of_ble_eq_true (by kernel_rfl)) (fun x => by kernel_rfl)
noncomputable def fs_worst_longest_v2 (K : Nat) : List (Nat × Piece) := (39, p_worst_longest_v2 K) :: fs_worst_longest_1_v2 K
theorem base_worst_longest_v2 (K : Nat) : Base Try.prog tabs (fs_worst_longest_v2 K) := ⟨(base_worst_longest_1_v2 K).mixed, (base_worst_longest_1_v2 K).tabs, FnsOk.cons (s_worst_longest_v2 K (base_worst_longest_1_v2 K)) (by kernel_rfl) (base_worst_longest_1_v2 K).fns⟩
/-! "selfstab/worst.Schedule$1" -/
noncomputable def b_worst_Schedule_1 : Code := codeOf Try.f42
noncomputable def c_worst_Schedule_1_0 (K : Nat) : List (Nat × Piece) := []
theorem o_worst_Schedule_1_0 (K : Nat) : PcsOk Try.prog b_worst_Schedule_1 (c_worst_Schedule_1_0 K) := PcsOk.nil
def worst_Schedule_1 (K : Nat) (x0 : (Int × (Int × Unit))) (o1 : (List Int)) (o2 : Int) : Option ((Bool × Unit) × (Unit × ((List Int) × (Int × Unit)))) :=
  (worst_moves K x0).bind fun y1 =>
    if decide (0 ≤ x0.2.1 ∧ x0.2.1 < (o1.length : Int)) then
      if decide (0 ≤ o2 ∧ o2 < (o1.length : Int)) then
        some ((decide ((IntKind.i64.wrap (y1.1.1 + (o1.getD x0.2.1.toNat 0))) = (o1.getD o2.toNat 0)), ()), ((), (o1, (o2, ()))))
      else
        none
    else
      none
@[reducible] def p_worst_Schedule_1 (K : Nat) : Piece := { slots := [(0, (.v (.pair (.int .u32) (.pair (.int .i64) .unit)))), (1, (.ref 0 (.slice (.int .i64)))), (2, (.ref 2 (.int .i64)))], objs := [(.box (.slice (.int .i64)) (.href 1)), (.row (.int .i64)), (.box (.int .i64) (.v (.int .i64)))], outs := [{ ex := .ret, slots := [(0, (.v .bool))], objs := [(some 0, (.box (.slice (.int .i64)) (.href 1))), (some 1, (.row (.int .i64))), (some 2, (.box (.int .i64) (.v (.int .i64))))] }], asg := [], nt := 18, fn := fun x => worst_Schedule_1 K x.1.1 x.2.2.1 x.2.2.2.1 }
theorem s_worst_Schedule_1 (K : Nat) (hB : Base Try.prog tabs (fs_worst_longest_v2 K)) : FnSound Try.prog 42 (p_worst_Schedule_1 K) :=
  fun_thm hB (o_worst_Schedule_1_0 K) Try.func42 (body := b_worst_Schedule_1) rfl (p_worst_Schedule_1 K) (rs := [.tmp 4]) rfl (Nat.le_of_ble_eq_true (by kernel_rfl)) (fun x => by kernel_rfl)
noncomputable def fs_worst_Schedule_1 (K : Nat) : List (Nat × Piece) := (42, p_worst_Schedule_1 K) :: fs_worst_longest_v2 K
theorem base_worst_Schedule_1 (K : Nat) : Base Try.prog tabs (fs_worst_Schedule_1 K) := ⟨(base_worst_longest_v2 K).mixed, (base_worst_longest_v2 K).tabs, FnsOk.cons (s_worst_Schedule_1 K (base_worst_longest_v2 K)) (by kernel_rfl) (base_worst_longest_v2 K).fns⟩
/-! "slices.IndexFunc[[]selfstab/api.Arc,selfstab/api.Arc]" -/
noncomputable def b_slices_IndexFunc_api_Arc_api_Arc : Code := codeOf Try.f41
noncomputable def c_slices_IndexFunc_api_Arc_api_Arc_0 (K : Nat) : List (Nat × Piece) := []
theorem o_slices_IndexFunc_api_Arc_api_Arc_0 (K : Nat) : PcsOk Try.prog b_slices_IndexFunc_api_Arc_api_Arc (c_slices_IndexFunc_api_Arc_api_Arc_0 K) := PcsOk.nil
def slices_IndexFunc_api_Arc_api_Arc_26 (K : Nat) : (k : Nat) → (x0 : (List (Int × (Int × Unit)))) → (x7 : Int) → (x8 : Int) → (o1 : (List Int)) → (o2 : Int) → Option ((Unit × (Unit × ((List Int) × (Int × Unit)))) ⊕ ((Int × Unit) × (Unit × ((List Int) × (Int × Unit)))))
  | 0, _, _, _, _, _ => none
  | k + 1, x0, x7, x8, o1, o2 =>
    if decide (x8 < x7) then
      if decide (0 ≤ x8 ∧ x8 < (x0.length : Int)) then
        (worst_Schedule_1 K (x0.getD x8.toNat (0, (0, ()))) o1 o2).bind fun y4 =>
          if y4.1.1 then
            some (.inr ((x8, ()), ((), (y4.2.2.1, (y4.2.2.2.1, ())))))
          else
            slices_IndexFunc_api_Arc_api_Arc_26 K k x0 x7 (IntKind.i64.wrap (x8 + 1)) y4.2.2.1 y4.2.2.2.1
      else
        none
    else
      some (.inl ((), ((), (o1, (o2, ())))))
@[reducible] def p_slices_IndexFunc_api_Arc_api_Arc_26 (K k : Nat) : Piece := { slots := [(0, (.v (.slice (.pair (.int .u32) (.pair (.int .i64) .unit))))), (1, (.clo 42 (.cons (.ref 0 (.slice (.int .i64))) (.cons (.ref 2 (.int .i64)) .nil)))), (7, (.v (.int .i64))), (8, (.v (.int .i64)))], objs := [(.box (.slice (.int .i64)) (.href 1)), (.row (.int .i64)), (.box (.int .i64) (.v (.int .i64)))], outs := [{ ex := (.exit 0), slots := [], objs := [(some 0, (.box (.slice (.int .i64)) (.href 1))), (some 1, (.row (.int .i64))), (some 2, (.box (.int .i64) (.v (.int .i64))))] }, { ex := .ret, slots := [(4, (.v (.int .i64)))], objs := [(some 0, (.box (.slice (.int .i64)) (.href 1))), (some 1, (.row (.int .i64))), (some 2, (.box (.int .i64) (.v (.int .i64))))] }], asg := [4, 5, 8, 9, 10, 11, 12, 13, 14, 15, 16, 17, 18], nt := 19, fn := fun x => slices_IndexFunc_api_Arc_api_Arc_26 K k x.1.1 x.1.2.2.1 x.1.2.2.2.1 x.2.2.1 x.2.2.2.1 }
theorem k_slices_IndexFunc_api_Arc_api_Arc_26 (K : Nat) (hB : Base Try.prog tabs (fs_worst_Schedule_1 K)) : PcOk Try.prog (codeAt b_slices_IndexFunc_api_Arc_api_Arc 26) (p_slices_IndexFunc_api_Arc_api_Arc_26 K K) :=
  loop_thm hB (o_slices_IndexFunc_api_Arc_api_Arc_0 K) 26 (p_slices_IndexFunc_api_Arc_api_Arc_26 K 0) (l := fun k x => slices_IndexFunc_api_Arc_api_Arc_26 K k x.1.1 x.1.2.2.1 x.1.2.2.2.1 x.2.2.1 x.2.2.2.1) (c := codeAt b_slices_IndexFunc_api_Arc_api_Arc 52) (by kernel_rfl) (by kernel_rfl) (by kernel_rfl) (by kernel_rfl) (fun x => by kernel_rfl) (fun k x => by kernel_rfl) K
noncomputable def c_slices_IndexFunc_api_Arc_api_Arc_26 (K : Nat) : List (Nat × Piece) := (26, p_slices_IndexFunc_api_Arc_api_Arc_26 K K) :: c_slices_IndexFunc_api_Arc_api_Arc_0 K
theorem o_slices_IndexFunc_api_Arc_api_Arc_26 (K : Nat) (hB : Base Try.prog tabs (fs_worst_Schedule_1 K)) : PcsOk Try.prog b_slices_IndexFunc_api_Arc_api_Arc (c_slices_IndexFunc_api_Arc_api_Arc_26 K) := PcsOk.cons (k_slices_IndexFunc_api_Arc_api_Arc_26 K hB) (o_slices_IndexFunc_api_Arc_api_Arc_0 K)
def slices_IndexFunc_api_Arc_api_Arc (K : Nat) (x0 : (List (Int × (Int × Unit)))) (o1 : (List Int)) (o2 : Int) : Option ((Int × Unit) × (Unit × ((List Int) × (Int × Unit)))) :=
  (slices_IndexFunc_api_Arc_api_Arc_26 K K x0 (x0.length : Int) 0 o1 o2).bind fun y4 =>
    match y4 with
    | .inl y5 =>
      some (((-1), ()), ((), (y5.2.2.1, (y5.2.2.2.1, ()))))
    | .inr y6 =>
      some ((y6.1.1, ()), ((), (y6.2.2.1, (y6.2.2.2.1, ()))))
@[reducible] def p_slices_IndexFunc_api_Arc_api_Arc (K : Nat) : Piece := { slots := [(0, (.v (.slice (.pair (.int .u32) (.pair (.int .i64) .unit))))), (1, (.clo 42 (.cons (.ref 0 (.slice (.int .i64))) (.cons (.ref 2 (.int .i64)) .nil))))], objs := [(.box (.slice (.int .i64)) (.href 1)), (.row (.int .i64)), (.box (.int .i64) (.v (.int .i64)))], outs := [{ ex := .ret, slots := [(0, (.v (.int .i64)))], objs := [(some 0, (.box (.slice (.int .i64)) (.href 1))), (some 1, (.row (.int .i64))), (some 2, (.box (.int .i64) (.v (.int .i64))))] }], asg := [], nt := 19, fn := fun x => slices_IndexFunc_api_Arc_api_Arc K x.1.1 x.2.2.1 x.2.2.2.1 }
theorem s_slices_IndexFunc_api_Arc_api_Arc (K : Nat) (hB : Base Try.prog tabs (fs_worst_Schedule_1 K)) : FnSound Try.prog 41 (p_slices_IndexFunc_api_Arc_api_Arc K) :=
  fun_thm hB (o_slices_IndexFunc_api_Arc_api_Arc_26 K hB) Try.func41 (body := b_slices_IndexFunc_api_Arc_api_Arc) rfl (p_slices_IndexFunc_api_Arc_api_Arc K) (rs := [.tmp 4]) rfl (Nat.le_of_ble_eq_true (by kernel_rfl)) (fun x => by kernel_rfl)
noncomputable def fs_slices_IndexFunc_api_Arc_api_Arc (K : Nat) : List (Nat × Piece) := (41, p_slices_IndexFunc_api_Arc_api_Arc K) :: fs_worst_Schedule_1 K
theorem base_slices_IndexFunc_api_Arc_api_Arc (K : Nat) : Base Try.prog tabs (fs_slices_IndexFunc_api_Arc_api_Arc K) := ⟨(base_worst_Schedule_1 K).mixed, (base_worst_Schedule_1 K).tabs, FnsOk.cons (s_slices_IndexFunc_api_Arc_api_Arc K (base_worst_Schedule_1 K)) (by kernel_rfl) (base_worst_Schedule_1 K).fns⟩
/-! "selfstab/worst.Schedule" -/
noncomputable def b_worst_Schedule : Code := codeOf Try.f17
noncomputable def c_worst_Schedule_0 (K : Nat) : List (Nat × Piece) := []
theorem o_worst_Schedule_0 (K : Nat) : PcsOk Try.prog b_worst_Schedule (c_worst_Schedule_0 K) := PcsOk.nil
def worst_Schedule_506 (K : Nat) : (k : Nat) → (x1 : (List Bool)) → (o0 : ((List Int) × ((List (List (Int × (Int × Unit)))) × Unit))) → (o2 : (List Int)) → (o3 : (List Int)) → (o4 : Int) → Option ((Unit × Unit) × ((List Int) × Unit))
  | 0, _, _, _, _, _ => none
  | k + 1, x1, o0, o2, o3, o4 =>
    if decide (0 ≤ o4 ∧ o4 < (x1.length : Int)) then
      if !(x1.getD o4.toNat false) then
        if decide (0 ≤ o4 ∧ o4 < (o0.2.1.length : Int)) then
          (slices_IndexFunc_api_Arc_api_Arc K (o0.2.1.getD o4.toNat []) o2 o4).bind fun y4 =>
            if decide (0 ≤ y4.2.2.2.1 ∧ y4.2.2.2.1 < (o0.2.1.length : Int)) then
              if decide (0 ≤ y4.1.1 ∧ y4.1.1 < ((o0.2.1.getD y4.2.2.2.1.toNat []).length : Int)) then
                if decide (o3.length + ([((o0.2.1.getD y4.2.2.2.1.toNat []).getD y4.1.1.toNat (0, (0, ()))).1]).length ≤ 4294967296) then
                  worst_Schedule_506 K k x1 o0 y4.2.2.1 (o3 ++ [((o0.2.1.getD y4.2.2.2.1.toNat []).getD y4.1.1.toNat (0, (0, ()))).1]) ((((o0.2.1.getD y4.2.2.2.1.toNat []).getD y4.1.1.toNat (0, (0, ()))).2).1)
                else
                  none
              else
                none
            else
              none
        else
          none
      else
        some (((), ()), (o3, ()))
    else
      none
@[reducible] def p_worst_Schedule_506 (K k : Nat) : Piece := { slots := [(1, (.v (.slice .bool))), (3, (.ref 0 (.pair (.slice (.int .u32)) (.pair (.slice (.slice (.pair (.int .u32) (.pair (.int .i64) .unit)))) .unit)))), (9, (.ref 1 (.slice (.int .i64)))), (10, (.href 3)), (11, (.ref 4 (.int .i64)))], objs := [(.box (.pair (.slice (.int .u32)) (.pair (.slice (.slice (.pair (.int .u32) (.pair (.int .i64) .unit)))) .unit)) (.v (.pair (.slice (.int .u32)) (.pair (.slice (.slice (.pair (.int .u32) (.pair (.int .i64) .unit)))) .unit)))), (.box (.slice (.int .i64)) (.href 2)), (.row (.int .i64)), (.row (.int .u32)), (.box (.int .i64) (.v (.int .i64)))], outs := [{ ex := (.exit 0), slots := [(10, (.href 0))], objs := [(none, (.row (.int .u32)))] }], asg := [10, 11, 12, 13, 32, 33, 34, 35, 36, 37, 38, 39, 40, 41, 42, 43, 44, 45, 46, 47, 48, 49, 50, 51, 52, 53, 54, 55, 56, 57, 58, 59], nt := 61, fn := fun x => worst_Schedule_506 K k x.1.1 x.2.1 x.2.2.2.1 x.2.2.2.2.1 x.2.2.2.2.2.1 }
theorem k_worst_Schedule_506 (K : Nat) (hB : Base Try.prog tabs (fs_slices_IndexFunc_api_Arc_api_Arc K)) : PcOk Try.prog (codeAt b_worst_Schedule 506) (p_worst_Schedule_506 K K) :=
  loop_thm hB (o_worst_Schedule_0 K) 506 (p_worst_Schedule_506 K 0) (l := fun k x => worst_Schedule_506 K k x.1.1 x.2.1 x.2.2.2.1 x.2.2.2.2.1 x.2.2.2.2.2.1) (c := codeAt b_worst_Schedule 1012) (by kernel_rfl) (by kernel_rfl) (by kernel_rfl) (by kernel_rfl) (fun x => by kernel_rfl) (fun k x => by kernel_rfl) K
noncomputable def c_worst_Schedule_506 (K : Nat) : List (Nat × Piece) := (506, p_worst_Schedule_506 K K) :: c_worst_Schedule_0 K
theorem o_worst_Schedule_506 (K : Nat) (hB : Base Try.prog tabs (fs_slices_IndexFunc_api_Arc_api_Arc K)) : PcsOk Try.prog b_worst_Schedule (c_worst_Schedule_506 K) := PcsOk.cons (k_worst_Schedule_506 K hB) (o_worst_Schedule_0 K)
def worst_Schedule (K : Nat) (x0 : ((List Int) × ((List (List (Int × (Int × Unit)))) × Unit))) (x1 : (List Bool)) (x2 : Int) : Option (((Unit × (Int × Unit)) × Unit) × ((List Int) × Unit)) :=
  (worst_check K x0 x1).bind fun y4 =>
    if !decide (y4.1.1 = 0) then
      some ((((), (y4.1.1, ())), ()), ([], ()))
    else
      if decide (x2 < 0) then
        some ((((), (2, ())), ()), ([], ()))
      else
        if decide ((x1.length : Int) ≤ x2) then
          some ((((), (2, ())), ()), ([], ()))
        else
          (worst_longest_v2 K x0 x1).bind fun y6 =>
            (worst_Schedule_506 K K x1 x0 y6.2.1 [] x2).bind fun y8 =>
              some ((((), (0, ())), ()), (y8.2.1, ()))
@[reducible] def p_worst_Schedule (K : Nat) : Piece := { slots := [(0, (.v (.pair (.slice (.int .u32)) (.pair (.slice (.slice (.pair (.int .u32) (.pair (.int .i64) .unit)))) .unit)))), (1, (.v (.slice .bool))), (2, (.v (.int .i64)))], objs := [], outs := [{ ex := .ret, slots := [(0, (.tup (.cons (.href 0) (.cons (.v (.int .i64)) .nil))))], objs := [(none, (.row (.int .u32)))] }], asg := [], nt := 61, fn := fun x => worst_Schedule K x.1.1 x.1.2.1 x.1.2.2.1 }
theorem s_worst_Schedule (K : Nat) (hB : Base Try.prog tabs (fs_slices_IndexFunc_api_Arc_api_Arc K)) : FnSound Try.prog 17 (p_worst_Schedule K) :=
  fun_thm hB (o_worst_Schedule_506 K hB) Try.func17 (body := b_worst_Schedule) rfl (p_worst_Schedule K) (rs := [.tmp 6, .tmp 7]) rfl (Nat.le_of_ble_eq_true (by kernel_rfl)) (fun x => by kernel_rfl)
noncomputable def fs_worst_Schedule (K : Nat) : List (Nat × Piece) := (17, p_worst_Schedule K) :: fs_slices_IndexFunc_api_Arc_api_Arc K
theorem base_worst_Schedule (K : Nat) : Base Try.prog tabs (fs_worst_Schedule K) := ⟨(base_slices_IndexFunc_api_Arc_api_Arc K).mixed, (base_slices_IndexFunc_api_Arc_api_Arc K).tabs, FnsOk.cons (s_worst_Schedule K (base_slices_IndexFunc_api_Arc_api_Arc K)) (by kernel_rfl) (base_slices_IndexFunc_api_Arc_api_Arc K).fns⟩
/-! "selfstab/selfstabref15.Same" -/
noncomputable def b_ref15_Same : Code := codeOf Try.f19
noncomputable def c_ref15_Same_0 (K : Nat) : List (Nat × Piece) := []
theorem o_ref15_Same_0 (K : Nat) : PcsOk Try.prog b_ref15_Same (c_ref15_Same_0 K) := PcsOk.nil
def ref15_Same_58 (K : Nat) : (k : Nat) → (x0 : (List Int)) → (x1 : (List Int)) → (x5 : Int) → Option ((Unit × Unit) ⊕ ((Bool × Unit) × Unit))
  | 0, _, _, _ => none
  | k + 1, x0, x1, x5 =>
    if decide (x5 < (x0.length : Int)) then
      if decide (0 ≤ x5 ∧ x5 < (x0.length : Int)) then
        if decide (0 ≤ x5 ∧ x5 < (x1.length : Int)) then
          if !decide ((x0.getD x5.toNat 0) = (x1.getD x5.toNat 0)) then
            some (.inr ((false, ()), ()))
          else
            ref15_Same_58 K k x0 x1 (IntKind.i64.wrap (x5 + 1))
        else
          none
      else
        none
    else
      some (.inl ((), ()))
@[reducible] def p_ref15_Same_58 (K k : Nat) : Piece := { slots := [(0, (.v (.slice (.int .u32)))), (1, (.v (.slice (.int .u32)))), (5, (.v (.int .i64)))], objs := [], outs := [{ ex := (.exit 0), slots := [], objs := [] }, { ex := .ret, slots := [(4, (.v .bool))], objs := [] }], asg := [4, 5, 11, 12, 13, 14, 15, 16, 17, 18, 19, 20, 21, 22, 23, 24, 25], nt := 26, fn := fun x => ref15_Same_58 K k x.1.1 x.1.2.1 x.1.2.2.1 }
theorem k_ref15_Same_58 (K : Nat) (hB : Base Try.prog tabs (fs_worst_Schedule K)) : PcOk Try.prog (codeAt b_ref15_Same 58) (p_ref15_Same_58 K K) :=
  loop_thm hB (o_ref15_Same_0 K) 58 (p_ref15_Same_58 K 0) (l := fun k x => ref15_Same_58 K k x.1.1 x.1.2.1 x.1.2.2.1) (c := codeAt b_ref15_Same 116) (by kernel_rfl) (by kernel_rfl) (by kernel_rfl) (by kernel_rfl) (fun x => by kernel_rfl) (fun k x => by kernel_rfl) K
noncomputable def c_ref15_Same_58 (K : Nat) : List (Nat × Piece) := (58, p_ref15_Same_58 K K) :: c_ref15_Same_0 K
theorem o_ref15_Same_58 (K : Nat) (hB : Base Try.prog tabs (fs_worst_Schedule K)) : PcsOk Try.prog b_ref15_Same (c_ref15_Same_58 K) := PcsOk.cons (k_ref15_Same_58 K hB) (o_ref15_Same_0 K)
def ref15_Same (K : Nat) (x0 : (List Int)) (x1 : (List Int)) : Option ((Bool × Unit) × Unit) :=
  if !decide ((x0.length : Int) = (x1.length : Int)) then
    some ((false, ()), ())
  else
    (ref15_Same_58 K K x0 x1 0).bind fun y4 =>
      match y4 with
      | .inl y5 =>
        some ((true, ()), ())
      | .inr y6 =>
        some ((y6.1.1, ()), ())
@[reducible] def p_ref15_Same (K : Nat) : Piece := { slots := [(0, (.v (.slice (.int .u32)))), (1, (.v (.slice (.int .u32))))], objs := [], outs := [{ ex := .ret, slots := [(0, (.v .bool))], objs := [] }], asg := [], nt := 26, fn := fun x => ref15_Same K x.1.1 x.1.2.1 }
theorem s_ref15_Same (K : Nat) (hB : Base Try.prog tabs (fs_worst_Schedule K)) : FnSound Try.prog 19 (p_ref15_Same K) :=
  fun_thm hB (o_ref15_Same_58 K hB) Try.func19 (body := b_ref15_Same) rfl (p_ref15_Same K) (rs := [.tmp 4]) rfl (Nat.le_of_ble_eq_true (by kernel_rfl)) (fun x => by kernel_rfl)
noncomputable def fs_ref15_Same (K : Nat) : List (Nat × Piece) := (19, p_ref15_Same K) :: fs_worst_Schedule K
theorem base_ref15_Same (K : Nat) : Base Try.prog tabs (fs_ref15_Same K) := ⟨(base_worst_Schedule K).mixed, (base_worst_Schedule K).tabs, FnsOk.cons (s_ref15_Same K (base_worst_Schedule K)) (by kernel_rfl) (base_worst_Schedule K).fns⟩
/-! "selfstab/selfstablaw20.awake" -/
noncomputable def b_law20_awake : Code := codeOf Try.f13
noncomputable def c_law20_awake_0 (K : Nat) : List (Nat × Piece) := []
theorem o_law20_awake_0 (K : Nat) : PcsOk Try.prog b_law20_awake (c_law20_awake_0 K) := PcsOk.nil
def law20_awake (K : Nat) : Option ((Bool × Unit) × Unit) :=
  (law20_example K).bind fun y3 =>
    (worst_Steps K (y3.2.1, (y3.2.2.1, y3.1.1.2.2)) ([true, false, false, false])).bind fun y4 =>
      (law20_example K).bind fun y7 =>
        (worst_Rounds K (y7.2.1, (y7.2.2.1, y7.1.1.2.2)) ([true, false, false, false])).bind fun y8 =>
          (law20_example K).bind fun y11 =>
            (worst_Schedule K (y11.2.1, (y11.2.2.1, y11.1.1.2.2)) ([true, false, false, false]) 3).bind fun y12 =>
              if decide (y4.1.1.2.1 = 0) then
                if decide (y8.1.1.2.1 = 0) then
                  if decide (y12.1.1.2.1 = 0) then
                    if decide ((y4.2.1.length : Int) = 4) then
                      if decide (0 ≤ (3 : Int) ∧ 3 < (y4.2.1.length : Int)) then
                        if decide ((y4.2.1.getD ((3 : Int).toNat) 0) = 2) then
                          if decide ((y8.2.1.length : Int) = 4) then
                            if decide (0 ≤ (3 : Int) ∧ 3 < (y8.2.1.length : Int)) then
                              if decide ((y8.2.1.getD ((3 : Int).toNat) 0) = 1) then
                                (ref15_Same K y12.2.1 ([1, 2])).bind fun y13 =>
                                  some ((y13.1.1, ()), ())
                              else
                                some ((false, ()), ())
                            else
                              none
                          else
                            some ((false, ()), ())
                        else
                          some ((false, ()), ())
                      else
                        none
                    else
                      some ((false, ()), ())
                  else
                    some ((false, ()), ())
                else
                  some ((false, ()), ())
              else
                some ((false, ()), ())
@[reducible] def p_law20_awake (K : Nat) : Piece := { slots := [], objs := [], outs := [{ ex := .ret, slots := [(0, (.v .bool))], objs := [] }], asg := [], nt := 64, fn := fun x => law20_awake K }
theorem s_law20_awake (K : Nat) (hB : Base Try.prog tabs (fs_ref15_Same K)) : FnSound Try.prog 13 (p_law20_awake K) :=
  fun_thm hB (o_law20_awake_0 K) Try.func13 (body := b_law20_awake) rfl (p_law20_awake K) (rs := [.tmp 0]) rfl (Nat.le_of_ble_eq_true (by kernel_rfl)) (fun x => by kernel_rfl)
noncomputable def fs_law20_awake (K : Nat) : List (Nat × Piece) := (13, p_law20_awake K) :: fs_ref15_Same K
theorem base_law20_awake (K : Nat) : Base Try.prog tabs (fs_law20_awake K) := ⟨(base_ref15_Same K).mixed, (base_ref15_Same K).tabs, FnsOk.cons (s_law20_awake K (base_ref15_Same K)) (by kernel_rfl) (base_ref15_Same K).fns⟩
/-! "selfstab/selfstabref01.In" -/
noncomputable def b_ref01_In : Code := codeOf Try.f43
noncomputable def c_ref01_In_0 (K : Nat) : List (Nat × Piece) := []
theorem o_ref01_In_0 (K : Nat) : PcsOk Try.prog b_ref01_In (c_ref01_In_0 K) := PcsOk.nil
def ref01_In (K : Nat) (x0 : Int) (x1 : Int) (x2 : Int) : Option ((Bool × Unit) × Unit) :=
  if decide (x1 ≤ x0) then
    some ((decide (x0 ≤ x2), ()), ())
  else
    some ((false, ()), ())
@[reducible] def p_ref01_In (K : Nat) : Piece := { slots := [(0, (.v (.int .i64))), (1, (.v (.int .i64))), (2, (.v (.int .i64)))], objs := [], outs := [{ ex := .ret, slots := [(0, (.v .bool))], objs := [] }], asg := [], nt := 15, fn := fun x => ref01_In K x.1.1 x.1.2.1 x.1.2.2.1 }
theorem s_ref01_In (K : Nat) (hB : Base Try.prog tabs (fs_law20_awake K)) : FnSound Try.prog 43 (p_ref01_In K) :=
  fun_thm hB (o_ref01_In_0 K) Try.func43 (body := b_ref01_In) rfl (p_ref01_In K) (rs := [.tmp 6]) rfl (Nat.le_of_ble_eq_true (by kernel_rfl)) (fun x => by kernel_rfl)
noncomputable def fs_ref01_In (K : Nat) : List (Nat × Piece) := (43, p_ref01_In K) :: fs_law20_awake K
theorem base_ref01_In (K : Nat) : Base Try.prog tabs (fs_ref01_In K) := ⟨(base_law20_awake K).mixed, (base_law20_awake K).tabs, FnsOk.cons (s_ref01_In K (base_law20_awake K)) (by kernel_rfl) (base_law20_awake K).fns⟩
/-! "selfstab/selfstabref01.All" -/
noncomputable def b_ref01_All : Code := codeOf Try.f47
noncomputable def c_ref01_All_0 (K : Nat) : List (Nat × Piece) := []
theorem o_ref01_All_0 (K : Nat) : PcsOk Try.prog b_ref01_All (c_ref01_All_0 K) := PcsOk.nil
def ref01_All_58 (K : Nat) : (k : Nat) → (x0 : Int) → (x3 : Int) → (x4 : Int) → Option ((Int × Unit) × Unit)
  | 0, _, _, _ => none
  | k + 1, x0, x3, x4 =>
    if decide (x4 < x0) then
      if decide (x4 < 32) then
        if decide ((IntKind.u64.wrap (x4)) < 0) then
          none
        else
          ref01_All_58 K k x0 (ior .u32 x3 (ishl .u32 1 (IntKind.u64.wrap (x4)))) (IntKind.i64.wrap (x4 + 1))
      else
        some ((x3, ()), ())
    else
      some ((x3, ()), ())
@[reducible] def p_ref01_All_58 (K k : Nat) : Piece := { slots := [(0, (.v (.int .i64))), (3, (.v (.int .u32))), (4, (.v (.int .i64)))], objs := [], outs := [{ ex := (.exit 0), slots := [(3, (.v (.int .u32)))], objs := [] }], asg := [3, 4, 5, 6, 7, 8, 9, 10, 11, 12, 13, 14, 15, 16, 17, 18], nt := 20, fn := fun x => ref01_All_58 K k x.1.1 x.1.2.1 x.1.2.2.1 }
theorem k_ref01_All_58 (K : Nat) (hB : Base Try.prog tabs (fs_ref01_In K)) : PcOk Try.prog (codeAt b_ref01_All 58) (p_ref01_All_58 K K) :=
  loop_thm hB (o_ref01_All_0 K) 58 (p_ref01_All_58 K 0) (l := fun k x => ref01_All_58 K k x.1.1 x.1.2.1 x.1.2.2.1) (c := codeAt b_ref01_All 116) (by kernel_rfl) (by kernel_rfl) (by kernel_rfl) (by kernel_rfl) (fun x => by kernel_rfl) (fun k x => by kernel_rfl) K
noncomputable def c_ref01_All_58 (K : Nat) : List (Nat × Piece) := (58, p_ref01_All_58 K K) :: c_ref01_All_0 K
theorem o_ref01_All_58 (K : Nat) (hB : Base Try.prog tabs (fs_ref01_In K)) : PcsOk Try.prog b_ref01_All (c_ref01_All_58 K) := PcsOk.cons (k_ref01_All_58 K hB) (o_ref01_All_0 K)
def ref01_All (K : Nat) (x0 : Int) : Option ((Int × Unit) × Unit) :=
  (ref01_All_58 K K x0 0 0).bind fun y2 =>
    some ((y2.1.1, ()), ())
@[reducible] def p_ref01_All (K : Nat) : Piece := { slots := [(0, (.v (.int .i64)))], objs := [], outs := [{ ex := .ret, slots := [(0, (.v (.int .u32)))], objs := [] }], asg := [], nt := 20, fn := fun x => ref01_All K x.1.1 }
theorem s_ref01_All (K : Nat) (hB : Base Try.prog tabs (fs_ref01_In K)) : FnSound Try.prog 47 (p_ref01_All K) :=
  fun_thm hB (o_ref01_All_58 K hB) Try.func47 (body := b_ref01_All) rfl (p_ref01_All K) (rs := [.tmp 2]) rfl (Nat.le_of_ble_eq_true (by kernel_rfl)) (fun x => by kernel_rfl)
noncomputable def fs_ref01_All (K : Nat) : List (Nat × Piece) := (47, p_ref01_All K) :: fs_ref01_In K
theorem base_ref01_All (K : Nat) : Base Try.prog tabs (fs_ref01_All K) := ⟨(base_ref01_In K).mixed, (base_ref01_In K).tabs, FnsOk.cons (s_ref01_All K (base_ref01_In K)) (by kernel_rfl) (base_ref01_In K).fns⟩
/-! "selfstab/selfstabref18.arcs" -/
noncomputable def b_ref18_arcs : Code := codeOf Try.f48
noncomputable def c_ref18_arcs_0 (K : Nat) : List (Nat × Piece) := []
theorem o_ref18_arcs_0 (K : Nat) : PcsOk Try.prog b_ref18_arcs (c_ref18_arcs_0 K) := PcsOk.nil
def ref18_arcs_1865 (K : Nat) (x64 : Bool) : Option ((Unit × Unit) ⊕ ((Bool × Unit) × Unit)) :=
  if x64 then
    some (.inr ((false, ()), ()))
  else
    some (.inl ((), ()))
@[reducible] def p_ref18_arcs_1865 (K : Nat) : Piece := { slots := [(64, (.v .bool))], objs := [], outs := [{ ex := .normal, slots := [], objs := [] }, { ex := .ret, slots := [(6, (.v .bool))], objs := [] }], asg := [6], nt := 65, fn := fun x => ref18_arcs_1865 K x.1.1 }
theorem k_ref18_arcs_1865 (K : Nat) (hB : Base Try.prog tabs (fs_ref01_All K)) : PcOk Try.prog (codeAt b_ref18_arcs 1865) (p_ref18_arcs_1865 K) :=
  seg_thm hB (o_ref18_arcs_0 K) 1865 (p_ref18_arcs_1865 K) (by kernel_rfl) (by kernel_rfl) (by kernel_rfl) (fun x => by kernel_rfl)
noncomputable def c_ref18_arcs_1865 (K : Nat) : List (Nat × Piece) := (1865, p_ref18_arcs_1865 K) :: c_ref18_arcs_0 K
theorem o_ref18_arcs_1865 (K : Nat) (hB : Base Try.prog tabs (fs_ref01_All K)) : PcsOk Try.prog b_ref18_arcs (c_ref18_arcs_1865 K) := PcsOk.cons (k_ref18_arcs_1865 K hB) (o_ref18_arcs_0 K)
def ref18_arcs_467 (K : Nat) (x7 : Int) : Option ((Int × Unit) × Unit) :=
  some ((IntKind.i64.wrap (x7 + 1), ()), ())
@[reducible] def p_ref18_arcs_467 (K : Nat) : Piece := { slots := [(7, (.v (.int .i64)))], objs := [], outs := [{ ex := .normal, slots := [(7, (.v (.int .i64)))], objs := [] }], asg := [7, 18, 19], nt := 65, fn := fun x => ref18_arcs_467 K x.1.1 }
theorem k_ref18_arcs_467 (K : Nat) (hB : Base Try.prog tabs (fs_ref01_All K)) : PcOk Try.prog (codeAt b_ref18_arcs 467) (p_ref18_arcs_467 K) :=
  seg_thm hB (o_ref18_arcs_1865 K hB) 467 (p_ref18_arcs_467 K) (by kernel_rfl) (by kernel_rfl) (by kernel_rfl) (fun x => by kernel_rfl)
noncomputable def c_ref18_arcs_467 (K : Nat) : List (Nat × Piece) := (467, p_ref18_arcs_467 K) :: c_ref18_arcs_1865 K
theorem o_ref18_arcs_467 (K : Nat) (hB : Base Try.prog tabs (fs_ref01_All K)) : PcsOk Try.prog b_ref18_arcs (c_ref18_arcs_467 K) := PcsOk.cons (k_ref18_arcs_467 K hB) (o_ref18_arcs_1865 K hB)
def ref18_arcs_58 (K : Nat) : (k : Nat) → (x0 : (List (Int × (Int × Unit)))) → (x1 : Int) → (x2 : Int) → (x7 : Int) → Option ((Unit × Unit) ⊕ ((Bool × Unit) × Unit))
  | 0, _, _, _, _ => none
  | k + 1, x0, x1, x2, x7 =>
    if decide (x7 < (x0.length : Int)) then
      if decide (0 ≤ x7 ∧ x7 < (x0.length : Int)) then
        if decide (((x0.getD x7.toNat (0, (0, ()))).1) = 0) then
          (ref18_arcs_1865 K true).bind fun y1 =>
            match y1 with
            | .inl y2 =>
              (ref18_arcs_467 K x7).bind fun y4 =>
                ref18_arcs_58 K k x0 x1 x2 y4.1.1
            | .inr y3 =>
              some (.inr ((y3.1.1, ()), ()))
        else
          if decide (0 ≤ x7 ∧ x7 < (x0.length : Int)) then
            if !decide ((iandNot .u32 ((x0.getD x7.toNat (0, (0, ()))).1) x1) = 0) then
              (ref18_arcs_1865 K true).bind fun y5 =>
                match y5 with
                | .inl y6 =>
                  (ref18_arcs_467 K x7).bind fun y8 =>
                    ref18_arcs_58 K k x0 x1 x2 y8.1.1
                | .inr y7 =>
                  some (.inr ((y7.1.1, ()), ()))
            else
              if decide (0 < x7) then
                if decide (0 ≤ x7 ∧ x7 < (x0.length : Int)) then
                  if decide (0 ≤ IntKind.i64.wrap (x7 - 1) ∧ IntKind.i64.wrap (x7 - 1) < (x0.length : Int)) then
                    if decide (((x0.getD x7.toNat (0, (0, ()))).1) ≤ ((x0.getD ((IntKind.i64.wrap (x7 - 1)).toNat) (0, (0, ()))).1)) then
                      (ref18_arcs_1865 K true).bind fun y9 =>
                        match y9 with
                        | .inl y10 =>
                          (ref18_arcs_467 K x7).bind fun y12 =>
                            ref18_arcs_58 K k x0 x1 x2 y12.1.1
                        | .inr y11 =>
                          some (.inr ((y11.1.1, ()), ()))
                    else
                      if decide (0 ≤ x7 ∧ x7 < (x0.length : Int)) then
                        (ref01_In K (((x0.getD x7.toNat (0, (0, ()))).2).1) 0 (IntKind.i64.wrap (x2 - 1))).bind fun y13 =>
                          (ref18_arcs_1865 K (!y13.1.1)).bind fun y14 =>
                            match y14 with
                            | .inl y15 =>
                              (ref18_arcs_467 K x7).bind fun y17 =>
                                ref18_arcs_58 K k x0 x1 x2 y17.1.1
                            | .inr y16 =>
                              some (.inr ((y16.1.1, ()), ()))
                      else
                        none
                  else
                    none
                else
                  none
              else
                if decide (0 ≤ x7 ∧ x7 < (x0.length : Int)) then
                  (ref01_In K (((x0.getD x7.toNat (0, (0, ()))).2).1) 0 (IntKind.i64.wrap (x2 - 1))).bind fun y18 =>
                    (ref18_arcs_1865 K (!y18.1.1)).bind fun y19 =>
                      match y19 with
                      | .inl y20 =>
                        (ref18_arcs_467 K x7).bind fun y22 =>
                          ref18_arcs_58 K k x0 x1 x2 y22.1.1
                      | .inr y21 =>
                        some (.inr ((y21.1.1, ()), ()))
                else
                  none
          else
            none
      else
        none
    else
      some (.inl ((), ()))
@[reducible] def p_ref18_arcs_58 (K k : Nat) : Piece := { slots := [(0, (.v (.slice (.pair (.int .u32) (.pair (.int .i64) .unit))))), (1, (.v (.int .u32))), (2, (.v (.int .i64))), (7, (.v (.int .i64)))], objs := [], outs := [{ ex := (.exit 0), slots := [], objs := [] }, { ex := .ret, slots := [(6, (.v .bool))], objs := [] }], asg := [6, 7, 14, 15, 16, 17, 18, 19, 20, 21, 22, 23, 24, 25, 26, 27, 28, 29, 30, 31, 32, 33, 34, 35, 36, 37, 38, 39, 40, 41, 42, 43, 44, 45, 46, 47, 48, 49, 50, 51, 52, 53, 54, 55, 56, 57, 58, 59, 60, 61, 62, 63, 64], nt := 65, fn := fun x => ref18_arcs_58 K k x.1.1 x.1.2.1 x.1.2.2.1 x.1.2.2.2.1 }
theorem k_ref18_arcs_58 (K : Nat) (hB : Base Try.prog tabs (fs_ref01_All K)) : PcOk Try.prog (codeAt b_ref18_arcs 58) (p_ref18_arcs_58 K K) :=
  loop_thm hB (o_ref18_arcs_467 K hB) 58 (p_ref18_arcs_58 K 0) (l := fun k x => ref18_arcs_58 K k x.1.1 x.1.2.1 x.1.2.2.1 x.1.2.2.2.1) (c := codeAt b_ref18_arcs 116) (by kernel_rfl) (by kernel_rfl) (by kernel_rfl) (by kernel_rfl) (fun x => by kernel_rfl) (fun k x => by kernel_rfl) K
noncomputable def c_ref18_arcs_58 (K : Nat) : List (Nat × Piece) := (58, p_ref18_arcs_58 K K) :: c_ref18_arcs_467 K
theorem o_ref18_arcs_58 (K : Nat) (hB : Base Try.prog tabs (fs_ref01_All K)) : PcsOk Try.prog b_ref18_arcs (c_ref18_arcs_58 K) := PcsOk.cons (k_ref18_arcs_58 K hB) (o_ref18_arcs_467 K hB)
def ref18_arcs (K : Nat) (x0 : (List (Int × (Int × Unit)))) (x1 : Int) (x2 : Int) : Option ((Bool × Unit) × Unit) :=
  if !(GTy.beq .bool (decide (0 < (x0.length : Int))) (!decide (x1 = 0))) then
    some ((false, ()), ())
  else
    (ref18_arcs_58 K K x0 x1 x2 0).bind fun y4 =>
      match y4 with
      | .inl y5 =>
        some ((true, ()), ())
      | .inr y6 =>
        some ((y6.1.1, ()), ())
@[reducible] def p_ref18_arcs (K : Nat) : Piece := { slots := [(0, (.v (.slice (.pair (.int .u32) (.pair (.int .i64) .unit))))), (1, (.v (.int .u32))), (2, (.v (.int .i64)))], objs := [], outs := [{ ex := .ret, slots := [(0, (.v .bool))], objs := [] }], asg := [], nt := 65, fn := fun x => ref18_arcs K x.1.1 x.1.2.1 x.1.2.2.1 }
theorem s_ref18_arcs (K : Nat) (hB : Base Try.prog tabs (fs_ref01_All K)) : FnSound Try.prog 48 (p_ref18_arcs K) :=
  fun_thm hB (o_ref18_arcs_58 K hB) Try.func48 (body := b_ref18_arcs) rfl (p_ref18_arcs K) (rs := [.tmp 6]) rfl (Nat.le_of_ble_eq_true (by kernel_rfl)) (fun x => by kernel_rfl)
noncomputable def fs_ref18_arcs (K : Nat) : List (Nat × Piece) := (48, p_ref18_arcs K) :: fs_ref01_All K
theorem base_ref18_arcs (K : Nat) : Base Try.prog tabs (fs_ref18_arcs K) := ⟨(base_ref01_All K).mixed, (base_ref01_All K).tabs, FnsOk.cons (s_ref18_arcs K (base_ref01_All K)) (by kernel_rfl) (base_ref01_All K).fns⟩
/-! "selfstab/selfstabref18.Valid" -/
noncomputable def b_ref18_Valid : Code := codeOf Try.f27
noncomputable def c_ref18_Valid_0 (K : Nat) : List (Nat × Piece) := []
theorem o_ref18_Valid_0 (K : Nat) : PcsOk Try.prog b_ref18_Valid (c_ref18_Valid_0 K) := PcsOk.nil
def ref18_Valid_250 (K : Nat) : (k : Nat) → (x3 : Int) → (x4 : Int) → (x5 : Int) → (o0 : ((List Int) × ((List (List (Int × (Int × Unit)))) × Unit))) → Option ((Unit × Unit) ⊕ ((Bool × Unit) × Unit))
  | 0, _, _, _, _ => none
  | k + 1, x3, x4, x5, o0 =>
    if decide (x5 < x3) then
      if decide (0 ≤ x5 ∧ x5 < (o0.2.1.length : Int)) then
        if decide (262144 < (IntKind.i64.wrap (x4 + ((o0.2.1.getD x5.toNat []).length : Int)))) then
          some (.inr ((false, ()), ()))
        else
          if decide (0 ≤ x5 ∧ x5 < (o0.1.length : Int)) then
            (ref01_All K 24).bind fun y7 =>
              if !decide ((iandNot .u32 (o0.1.getD x5.toNat 0) y7.1.1) = 0) then
                some (.inr ((false, ()), ()))
              else
                if decide (0 ≤ x5 ∧ x5 < (o0.2.1.length : Int)) then
                  if decide (0 ≤ x5 ∧ x5 < (o0.1.length : Int)) then
                    (ref18_arcs K (o0.2.1.getD x5.toNat []) (o0.1.getD x5.toNat 0) x3).bind fun y8 =>
                      if !y8.1.1 then
                        some (.inr ((false, ()), ()))
                      else
                        ref18_Valid_250 K k x3 (IntKind.i64.wrap (x4 + ((o0.2.1.getD x5.toNat []).length : Int))) (IntKind.i64.wrap (x5 + 1)) o0
                  else
                    none
                else
                  none
          else
            none
      else
        none
    else
      some (.inl ((), ()))
@[reducible] def p_ref18_Valid_250 (K k : Nat) : Piece := { slots := [(1, (.ref 0 (.pair (.slice (.int .u32)) (.pair (.slice (.slice (.pair (.int .u32) (.pair (.int .i64) .unit)))) .unit)))), (3, (.v (.int .i64))), (4, (.v (.int .i64))), (5, (.v (.int .i64)))], objs := [(.box (.pair (.slice (.int .u32)) (.pair (.slice (.slice (.pair (.int .u32) (.pair (.int .i64) .unit)))) .unit)) (.v (.pair (.slice (.int .u32)) (.pair (.slice (.slice (.pair (.int .u32) (.pair (.int .i64) .unit)))) .unit))))], outs := [{ ex := (.exit 0), slots := [], objs := [] }, { ex := .ret, slots := [(2, (.v .bool))], objs := [] }], asg := [2, 4, 5, 19, 20, 21, 22, 23, 24, 25, 26, 27, 28, 29, 30, 31, 32, 33, 34, 35, 36, 37, 38, 39, 40, 41, 42, 43, 44, 45, 46, 47, 48, 49, 50, 51, 52, 53, 54, 55, 56, 57, 58], nt := 59, fn := fun x => ref18_Valid_250 K k x.1.2.1 x.1.2.2.1 x.1.2.2.2.1 x.2.1 }
theorem k_ref18_Valid_250 (K : Nat) (hB : Base Try.prog tabs (fs_ref18_arcs K)) : PcOk Try.prog (codeAt b_ref18_Valid 250) (p_ref18_Valid_250 K K) :=
  loop_thm hB (o_ref18_Valid_0 K) 250 (p_ref18_Valid_250 K 0) (l := fun k x => ref18_Valid_250 K k x.1.2.1 x.1.2.2.1 x.1.2.2.2.1 x.2.1) (c := codeAt b_ref18_Valid 500) (by kernel_rfl) (by kernel_rfl) (by kernel_rfl) (by kernel_rfl) (fun x => by kernel_rfl) (fun k x => by kernel_rfl) K
noncomputable def c_ref18_Valid_250 (K : Nat) : List (Nat × Piece) := (250, p_ref18_Valid_250 K K) :: c_ref18_Valid_0 K
theorem o_ref18_Valid_250 (K : Nat) (hB : Base Try.prog tabs (fs_ref18_arcs K)) : PcsOk Try.prog b_ref18_Valid (c_ref18_Valid_250 K) := PcsOk.cons (k_ref18_Valid_250 K hB) (o_ref18_Valid_0 K)
def ref18_Valid (K : Nat) (x0 : ((List Int) × ((List (List (Int × (Int × Unit)))) × Unit))) : Option ((Bool × Unit) × Unit) :=
  (ref01_In K (x0.1.length : Int) 1 32768).bind fun y4 =>
    if !y4.1.1 then
      some ((false, ()), ())
    else
      if !decide ((x0.2.1.length : Int) = (x0.1.length : Int)) then
        some ((false, ()), ())
      else
        (ref18_Valid_250 K K (x0.1.length : Int) 0 0 x0).bind fun y8 =>
          match y8 with
          | .inl y9 =>
            some ((true, ()), ())
          | .inr y10 =>
            some ((y10.1.1, ()), ())
@[reducible] def p_ref18_Valid (K : Nat) : Piece := { slots := [(0, (.v (.pair (.slice (.int .u32)) (.pair (.slice (.slice (.pair (.int .u32) (.pair (.int .i64) .unit)))) .unit))))], objs := [], outs := [{ ex := .ret, slots := [(0, (.v .bool))], objs := [] }], asg := [], nt := 59, fn := fun x => ref18_Valid K x.1.1 }
theorem s_ref18_Valid (K : Nat) (hB : Base Try.prog tabs (fs_ref18_arcs K)) : FnSound Try.prog 27 (p_ref18_Valid K) :=
  fun_thm hB (o_ref18_Valid_250 K hB) Try.func27 (body := b_ref18_Valid) rfl (p_ref18_Valid K) (rs := [.tmp 2]) rfl (Nat.le_of_ble_eq_true (by kernel_rfl)) (fun x => by kernel_rfl)
noncomputable def fs_ref18_Valid (K : Nat) : List (Nat × Piece) := (27, p_ref18_Valid K) :: fs_ref18_arcs K
theorem base_ref18_Valid (K : Nat) : Base Try.prog tabs (fs_ref18_Valid K) := ⟨(base_ref18_arcs K).mixed, (base_ref18_arcs K).tabs, FnsOk.cons (s_ref18_Valid K (base_ref18_arcs K)) (by kernel_rfl) (base_ref18_arcs K).fns⟩
/-! "selfstab/selfstabref19.Begin" -/
noncomputable def b_ref19_Begin : Code := codeOf Try.f49
noncomputable def c_ref19_Begin_0 (K : Nat) : List (Nat × Piece) := []
theorem o_ref19_Begin_0 (K : Nat) : PcsOk Try.prog b_ref19_Begin (c_ref19_Begin_0 K) := PcsOk.nil
def ref19_Begin (K : Nat) (x0 : ((List Int) × ((List (List (Int × (Int × Unit)))) × Unit))) (x1 : (List Bool)) : Option ((Int × Unit) × Unit) :=
  (ref18_Valid K x0).bind fun y4 =>
    if !y4.1.1 then
      some ((13, ()), ())
    else
      if !decide ((x1.length : Int) = (x0.1.length : Int)) then
        some ((7, ()), ())
      else
        some ((0, ()), ())
@[reducible] def p_ref19_Begin (K : Nat) : Piece := { slots := [(0, (.v (.pair (.slice (.int .u32)) (.pair (.slice (.slice (.pair (.int .u32) (.pair (.int .i64) .unit)))) .unit)))), (1, (.v (.slice .bool)))], objs := [], outs := [{ ex := .ret, slots := [(0, (.v (.int .i64)))], objs := [] }], asg := [], nt := 14, fn := fun x => ref19_Begin K x.1.1 x.1.2.1 }
theorem s_ref19_Begin (K : Nat) (hB : Base Try.prog tabs (fs_ref18_Valid K)) : FnSound Try.prog 49 (p_ref19_Begin K) :=
  fun_thm hB (o_ref19_Begin_0 K) Try.func49 (body := b_ref19_Begin) rfl (p_ref19_Begin K) (rs := [.tmp 4]) rfl (Nat.le_of_ble_eq_true (by kernel_rfl)) (fun x => by kernel_rfl)
noncomputable def fs_ref19_Begin (K : Nat) : List (Nat × Piece) := (49, p_ref19_Begin K) :: fs_ref18_Valid K
theorem base_ref19_Begin (K : Nat) : Base Try.prog tabs (fs_ref19_Begin K) := ⟨(base_ref18_Valid K).mixed, (base_ref18_Valid K).tabs, FnsOk.cons (s_ref19_Begin K (base_ref18_Valid K)) (by kernel_rfl) (base_ref18_Valid K).fns⟩
/-! "selfstab/selfstabref19.into" -/
noncomputable def b_ref19_into : Code := codeOf Try.f50
noncomputable def c_ref19_into_0 (K : Nat) : List (Nat × Piece) := []
theorem o_ref19_into_0 (K : Nat) : PcsOk Try.prog b_ref19_into (c_ref19_into_0 K) := PcsOk.nil
def ref19_into_58 (K : Nat) : (k : Nat) → (x0 : (List (Int × (Int × Unit)))) → (x1 : (List Bool)) → (x5 : Int) → (x6 : Int) → Option ((Int × Unit) × Unit)
  | 0, _, _, _, _ => none
  | k + 1, x0, x1, x5, x6 =>
    if decide (x6 < (x0.length : Int)) then
      if decide (0 ≤ x6 ∧ x6 < (x0.length : Int)) then
        if decide (0 ≤ ((x0.getD x6.toNat (0, (0, ()))).2).1 ∧ ((x0.getD x6.toNat (0, (0, ()))).2).1 < (x1.length : Int)) then
          if x1.getD ((((x0.getD x6.toNat (0, (0, ()))).2).1).toNat) false then
            ref19_into_58 K k x0 x1 (IntKind.i64.wrap (x5 + 1)) (IntKind.i64.wrap (x6 + 1))
          else
            ref19_into_58 K k x0 x1 x5 (IntKind.i64.wrap (x6 + 1))
        else
          none
      else
        none
    else
      some ((x5, ()), ())
@[reducible] def p_ref19_into_58 (K k : Nat) : Piece := { slots := [(0, (.v (.slice (.pair (.int .u32) (.pair (.int .i64) .unit))))), (1, (.v (.slice .bool))), (5, (.v (.int .i64))), (6, (.v (.int .i64)))], objs := [], outs := [{ ex := (.exit 0), slots := [(5, (.v (.int .i64)))], objs := [] }], asg := [5, 6, 7, 8, 9, 10, 11, 12, 13, 14, 15, 16, 17, 18, 19, 20, 21, 22], nt := 24, fn := fun x => ref19_into_58 K k x.1.1 x.1.2.1 x.1.2.2.1 x.1.2.2.2.1 }
theorem k_ref19_into_58 (K : Nat) (hB : Base Try.prog tabs (fs_ref19_Begin K)) : PcOk Try.prog (codeAt b_ref19_into 58) (p_ref19_into_58 K K) :=
  loop_thm hB (o_ref19_into_0 K) 58 (p_ref19_into_58 K 0) (l := fun k x => ref19_into_58 K k x.1.1 x.1.2.1 x.1.2.2.1 x.1.2.2.2.1) (c := codeAt b_ref19_into 116) (by kernel_rfl) (by kernel_rfl) (by kernel_rfl) (by kernel_rfl) (fun x => by kernel_rfl) (fun k x => by kernel_rfl) K
noncomputable def c_ref19_into_58 (K : Nat) : List (Nat × Piece) := (58, p_ref19_into_58 K K) :: c_ref19_into_0 K
theorem o_ref19_into_58 (K : Nat) (hB : Base Try.prog tabs (fs_ref19_Begin K)) : PcsOk Try.prog b_ref19_into (c_ref19_into_58 K) := PcsOk.cons (k_ref19_into_58 K hB) (o_ref19_into_0 K)
def ref19_into (K : Nat) (x0 : (List (Int × (Int × Unit)))) (x1 : (List Bool)) : Option ((Int × Unit) × Unit) :=
  (ref19_into_58 K K x0 x1 0 0).bind fun y2 =>
    some ((y2.1.1, ()), ())
@[reducible] def p_ref19_into (K : Nat) : Piece := { slots := [(0, (.v (.slice (.pair (.int .u32) (.pair (.int .i64) .unit))))), (1, (.v (.slice .bool)))], objs := [], outs := [{ ex := .ret, slots := [(0, (.v (.int .i64)))], objs := [] }], asg := [], nt := 24, fn := fun x => ref19_into K x.1.1 x.1.2.1 }
theorem s_ref19_into (K : Nat) (hB : Base Try.prog tabs (fs_ref19_Begin K)) : FnSound Try.prog 50 (p_ref19_into K) :=
  fun_thm hB (o_ref19_into_58 K hB) Try.func50 (body := b_ref19_into) rfl (p_ref19_into K) (rs := [.tmp 4]) rfl (Nat.le_of_ble_eq_true (by kernel_rfl)) (fun x => by kernel_rfl)
noncomputable def fs_ref19_into (K : Nat) : List (Nat × Piece) := (50, p_ref19_into K) :: fs_ref19_Begin K
theorem base_ref19_into (K : Nat) : Base Try.prog tabs (fs_ref19_into K) := ⟨(base_ref19_Begin K).mixed, (base_ref19_Begin K).tabs, FnsOk.cons (s_ref19_into K (base_ref19_Begin K)) (by kernel_rfl) (base_ref19_Begin K).fns⟩
/-! "selfstab/selfstabref19.Core" -/
noncomputable def b_ref19_Core : Code := codeOf Try.f28
noncomputable def c_ref19_Core_0 (K : Nat) : List (Nat × Piece) := []
theorem o_ref19_Core_0 (K : Nat) : PcsOk Try.prog b_ref19_Core (c_ref19_Core_0 K) := PcsOk.nil
def ref19_Core_122 (K : Nat) : (k : Nat) → (x1 : (List Bool)) → (x8 : Int) → (o0 : (List Bool)) → Option ((Unit × Unit) × ((List Bool) × Unit))
  | 0, _, _, _ => none
  | k + 1, x1, x8, o0 =>
    if decide (x8 < (x1.length : Int)) then
      if decide (0 ≤ x8 ∧ x8 < (x1.length : Int)) then
        if decide (o0.length + ([!(x1.getD x8.toNat false)]).length ≤ 4294967296) then
          ref19_Core_122 K k x1 (IntKind.i64.wrap (x8 + 1)) (o0 ++ [!(x1.getD x8.toNat false)])
        else
          none
      else
        none
    else
      some (((), ()), (o0, ()))
@[reducible] def p_ref19_Core_122 (K k : Nat) : Piece := { slots := [(1, (.v (.slice .bool))), (7, (.href 0)), (8, (.v (.int .i64)))], objs := [(.row .bool)], outs := [{ ex := (.exit 0), slots := [(7, (.href 0))], objs := [(none, (.row .bool))] }], asg := [7, 8, 17, 18, 19, 20, 21, 22, 23, 24, 25, 26, 27, 28, 29, 30], nt := 65, fn := fun x => ref19_Core_122 K k x.1.1 x.1.2.2.1 x.2.1 }
theorem k_ref19_Core_122 (K : Nat) (hB : Base Try.prog tabs (fs_ref19_into K)) : PcOk Try.prog (codeAt b_ref19_Core 122) (p_ref19_Core_122 K K) :=
  loop_thm hB (o_ref19_Core_0 K) 122 (p_ref19_Core_122 K 0) (l := fun k x => ref19_Core_122 K k x.1.1 x.1.2.2.1 x.2.1) (c := codeAt b_ref19_Core 244) (by kernel_rfl) (by kernel_rfl) (by kernel_rfl) (by kernel_rfl) (fun x => by kernel_rfl) (fun k x => by kernel_rfl) K
noncomputable def c_ref19_Core_122 (K : Nat) : List (Nat × Piece) := (122, p_ref19_Core_122 K K) :: c_ref19_Core_0 K
theorem o_ref19_Core_122 (K : Nat) (hB : Base Try.prog tabs (fs_ref19_into K)) : PcsOk Try.prog b_ref19_Core (c_ref19_Core_122 K) := PcsOk.cons (k_ref19_Core_122 K hB) (o_ref19_Core_0 K)
def ref19_Core_512713 (K : Nat) (x9 : Bool) (x10 : Int) (x60 : Bool) (o0 : (List Bool)) : Option ((Bool × Unit) × ((List Bool) × Unit)) :=
  if x60 then
    if decide (0 ≤ x10 ∧ x10 < (o0.length : Int)) then
      some ((true, ()), (o0.set x10.toNat false, ()))
    else
      none
  else
    some ((x9, ()), (o0, ()))
@[reducible] def p_ref19_Core_512713 (K : Nat) : Piece := { slots := [(7, (.href 0)), (9, (.v .bool)), (10, (.v (.int .i64))), (60, (.v .bool))], objs := [(.row .bool)], outs := [{ ex := .normal, slots := [(9, (.v .bool))], objs := [(some 0, (.row .bool))] }], asg := [9, 61, 62, 63], nt := 65, fn := fun x => ref19_Core_512713 K x.1.2.1 x.1.2.2.1 x.1.2.2.2.1 x.2.1 }
theorem k_ref19_Core_512713 (K : Nat) (hB : Base Try.prog tabs (fs_ref19_into K)) : PcOk Try.prog (codeAt b_ref19_Core 512713) (p_ref19_Core_512713 K) :=
  seg_thm hB (o_ref19_Core_122 K hB) 512713 (p_ref19_Core_512713 K) (by kernel_rfl) (by kernel_rfl) (by kernel_rfl) (fun x => by kernel_rfl)
noncomputable def c_ref19_Core_512713 (K : Nat) : List (Nat × Piece) := (512713, p_ref19_Core_512713 K) :: c_ref19_Core_122 K
theorem o_ref19_Core_512713 (K : Nat) (hB : Base Try.prog tabs (fs_ref19_into K)) : PcsOk Try.prog b_ref19_Core (c_ref19_Core_512713 K) := PcsOk.cons (k_ref19_Core_512713 K hB) (o_ref19_Core_122 K hB)
def ref19_Core_16022 (K : Nat) : (k : Nat) → (x9 : Bool) → (x10 : Int) → (o0 : ((List Int) × ((List (List (Int × (Int × Unit)))) × Unit))) → (o1 : (List Bool)) → Option ((Bool × Unit) × (((List Int) × ((List (List (Int × (Int × Unit)))) × Unit)) × ((List Bool) × Unit)))
  | 0, _, _, _, _ => none
  | k + 1, x9, x10, o0, o1 =>
    if decide (x10 < (o1.length : Int)) then
      if decide (0 ≤ x10 ∧ x10 < (o1.length : Int)) then
        if o1.getD x10.toNat false then
          if decide (0 ≤ x10 ∧ x10 < (o0.2.1.length : Int)) then
            if decide (0 < ((o0.2.1.getD x10.toNat []).length : Int)) then
              if decide (0 ≤ x10 ∧ x10 < (o0.2.1.length : Int)) then
                (ref19_into K (o0.2.1.getD x10.toNat []) o1).bind fun y5 =>
                  (ref19_Core_512713 K x9 x10 (decide (y5.1.1 = 0)) o1).bind fun y6 =>
                    ref19_Core_16022 K k y6.1.1 (IntKind.i64.wrap (x10 + 1)) o0 y6.2.1
              else
                none
            else
              (ref19_Core_512713 K x9 x10 false o1).bind fun y7 =>
                ref19_Core_16022 K k y7.1.1 (IntKind.i64.wrap (x10 + 1)) o0 y7.2.1
          else
            none
        else
          (ref19_Core_512713 K x9 x10 false o1).bind fun y8 =>
            ref19_Core_16022 K k y8.1.1 (IntKind.i64.wrap (x10 + 1)) o0 y8.2.1
      else
        none
    else
      some ((x9, ()), (o0, (o1, ())))
@[reducible] def p_ref19_Core_16022 (K k : Nat) : Piece := { slots := [(2, (.ref 0 (.pair (.slice (.int .u32)) (.pair (.slice (.slice (.pair (.int .u32) (.pair (.int .i64) .unit)))) .unit)))), (7, (.href 1)), (9, (.v .bool)), (10, (.v (.int .i64)))], objs := [(.box (.pair (.slice (.int .u32)) (.pair (.slice (.slice (.pair (.int .u32) (.pair (.int .i64) .unit)))) .unit)) (.v (.pair (.slice (.int .u32)) (.pair (.slice (.slice (.pair (.int .u32) (.pair (.int .i64) .unit)))) .unit)))), (.row .bool)], outs := [{ ex := (.exit 4), slots := [(9, (.v .bool))], objs := [(some 0, (.box (.pair (.slice (.int .u32)) (.pair (.slice (.slice (.pair (.int .u32) (.pair (.int .i64) .unit)))) .unit)) (.v (.pair (.slice (.int .u32)) (.pair (.slice (.slice (.pair (.int .u32) (.pair (.int .i64) .unit)))) .unit))))), (some 1, (.row .bool))] }], asg := [9, 10, 32, 33, 34, 35, 36, 37, 38, 39, 40, 41, 42, 43, 44, 45, 46, 47, 48, 49, 50, 51, 52, 53, 54, 55, 56, 57, 58, 59, 60, 61, 62, 63], nt := 65, fn := fun x => ref19_Core_16022 K k x.1.2.2.1 x.1.2.2.2.1 x.2.1 x.2.2.1 }
theorem k_ref19_Core_16022 (K : Nat) (hB : Base Try.prog tabs (fs_ref19_into K)) : PcOk Try.prog (codeAt b_ref19_Core 16022) (p_ref19_Core_16022 K K) :=
  loop_thm hB (o_ref19_Core_512713 K hB) 16022 (p_ref19_Core_16022 K 0) (l := fun k x => ref19_Core_16022 K k x.1.2.2.1 x.1.2.2.2.1 x.2.1 x.2.2.1) (c := codeAt b_ref19_Core 32044) (by kernel_rfl) (by kernel_rfl) (by kernel_rfl) (by kernel_rfl) (fun x => by kernel_rfl) (fun k x => by kernel_rfl) K
noncomputable def c_ref19_Core_16022 (K : Nat) : List (Nat × Piece) := (16022, p_ref19_Core_16022 K K) :: c_ref19_Core_512713 K
theorem o_ref19_Core_16022 (K : Nat) (hB : Base Try.prog tabs (fs_ref19_into K)) : PcsOk Try.prog b_ref19_Core (c_ref19_Core_16022 K) := PcsOk.cons (k_ref19_Core_16022 K hB) (o_ref19_Core_512713 K hB)
def ref19_Core_250 (K : Nat) : (k : Nat) → (x9 : Bool) → (o0 : ((List Int) × ((List (List (Int × (Int × Unit)))) × Unit))) → (o1 : (List Bool)) → Option (Unit × ((List Bool) × Unit))
  | 0, _, _, _ => none
  | k + 1, x9, o0, o1 =>
    if x9 then
      (ref19_Core_16022 K K false 0 o0 o1).bind fun y1 =>
        ref19_Core_250 K k y1.1.1 y1.2.1 y1.2.2.1
    else
      some ((), (o1, ()))
@[reducible] def p_ref19_Core_250 (K k : Nat) : Piece := { slots := [(2, (.ref 0 (.pair (.slice (.int .u32)) (.pair (.slice (.slice (.pair (.int .u32) (.pair (.int .i64) .unit)))) .unit)))), (7, (.href 1)), (9, (.v .bool))], objs := [(.box (.pair (.slice (.int .u32)) (.pair (.slice (.slice (.pair (.int .u32) (.pair (.int .i64) .unit)))) .unit)) (.v (.pair (.slice (.int .u32)) (.pair (.slice (.slice (.pair (.int .u32) (.pair (.int .i64) .unit)))) .unit)))), (.row .bool)], outs := [{ ex := (.exit 2), slots := [], objs := [(some 1, (.row .bool))] }], asg := [9, 10, 31, 32, 33, 34, 35, 36, 37, 38, 39, 40, 41, 42, 43, 44, 45, 46, 47, 48, 49, 50, 51, 52, 53, 54, 55, 56, 57, 58, 59, 60, 61, 62, 63], nt := 65, fn := fun x => ref19_Core_250 K k x.1.2.2.1 x.2.1 x.2.2.1 }
theorem k_ref19_Core_250 (K : Nat) (hB : Base Try.prog tabs (fs_ref19_into K)) : PcOk Try.prog (codeAt b_ref19_Core 250) (p_ref19_Core_250 K K) :=
  loop_thm hB (o_ref19_Core_16022 K hB) 250 (p_ref19_Core_250 K 0) (l := fun k x => ref19_Core_250 K k x.1.2.2.1 x.2.1 x.2.2.1) (c := codeAt b_ref19_Core 500) (by kernel_rfl) (by kernel_rfl) (by kernel_rfl) (by kernel_rfl) (fun x => by kernel_rfl) (fun k x => by kernel_rfl) K
noncomputable def c_ref19_Core_250 (K : Nat) : List (Nat × Piece) := (250, p_ref19_Core_250 K K) :: c_ref19_Core_16022 K
theorem o_ref19_Core_250 (K : Nat) (hB : Base Try.prog tabs (fs_ref19_into K)) : PcsOk Try.prog b_ref19_Core (c_ref19_Core_250 K) := PcsOk.cons (k_ref19_Core_250 K hB) (o_ref19_Core_16022 K hB)
def ref19_Core (K : Nat) (x0 : ((List Int) × ((List (List (Int × (Int × Unit)))) × Unit))) (x1 : (List Bool)) : Option (((Unit × (Int × Unit)) × Unit) × ((List Bool) × Unit)) :=
  (ref19_Begin K x0 x1).bind fun y4 =>
    if !decide (y4.1.1 = 0) then
      some ((((), (y4.1.1, ())), ()), ([], ()))
    else
      (ref19_Core_122 K K x1 0 []).bind fun y6 =>
        (ref19_Core_250 K K true x0 y6.2.1).bind fun y8 =>
          some ((((), (0, ())), ()), (y8.2.1, ()))
@[reducible] def p_ref19_Core (K : Nat) : Piece := { slots := [(0, (.v (.pair (.slice (.int .u32)) (.pair (.slice (.slice (.pair (.int .u32) (.pair (.int .i64) .unit)))) .unit)))), (1, (.v (.slice .bool)))], objs := [], outs := [{ ex := .ret, slots := [(0, (.tup (.cons (.href 0) (.cons (.v (.int .i64)) .nil))))], objs := [(none, (.row .bool))] }], asg := [], nt := 65, fn := fun x => ref19_Core K x.1.1 x.1.2.1 }
theorem s_ref19_Core (K : Nat) (hB : Base Try.prog tabs (fs_ref19_into K)) : FnSound Try.prog 28 (p_ref19_Core K) :=
  fun_thm hB (o_ref19_Core_250 K hB) Try.func28 (body := b_ref19_Core) rfl (p_ref19_Core K) (rs := [.tmp 4, .tmp 5]) rfl (Nat.le_of_ble_eq_true (by kernel_rfl)) (fun x => by kernel_rfl)
noncomputable def fs_ref19_Core (K : Nat) : List (Nat × Piece) := (28, p_ref19_Core K) :: fs_ref19_into K
theorem base_ref19_Core (K : Nat) : Base Try.prog tabs (fs_ref19_Core K) := ⟨(base_ref19_into K).mixed, (base_ref19_into K).tabs, FnsOk.cons (s_ref19_Core K (base_ref19_into K)) (by kernel_rfl) (base_ref19_into K).fns⟩
/-! "selfstab/selfstabref19.Any" -/
noncomputable def b_ref19_Any : Code := codeOf Try.f29
noncomputable def c_ref19_Any_0 (K : Nat) : List (Nat × Piece) := []
theorem o_ref19_Any_0 (K : Nat) : PcsOk Try.prog b_ref19_Any (c_ref19_Any_0 K) := PcsOk.nil
def ref19_Any_26 (K : Nat) : (k : Nat) → (x0 : (List Bool)) → (x3 : Int) → Option ((Unit × Unit) ⊕ ((Bool × Unit) × Unit))
  | 0, _, _ => none
  | k + 1, x0, x3 =>
    if decide (x3 < (x0.length : Int)) then
      if decide (0 ≤ x3 ∧ x3 < (x0.length : Int)) then
        if x0.getD x3.toNat false then
          some (.inr ((true, ()), ()))
        else
          ref19_Any_26 K k x0 (IntKind.i64.wrap (x3 + 1))
      else
        none
    else
      some (.inl ((), ()))
@[reducible] def p_ref19_Any_26 (K k : Nat) : Piece := { slots := [(0, (.v (.slice .bool))), (3, (.v (.int .i64)))], objs := [], outs := [{ ex := (.exit 0), slots := [], objs := [] }, { ex := .ret, slots := [(2, (.v .bool))], objs := [] }], asg := [2, 3, 4, 5, 6, 7, 8, 9, 10, 11, 12, 13], nt := 14, fn := fun x => ref19_Any_26 K k x.1.1 x.1.2.1 }
theorem k_ref19_Any_26 (K : Nat) (hB : Base Try.prog tabs (fs_ref19_Core K)) : PcOk Try.prog (codeAt b_ref19_Any 26) (p_ref19_Any_26 K K) :=
  loop_thm hB (o_ref19_Any_0 K) 26 (p_ref19_Any_26 K 0) (l := fun k x => ref19_Any_26 K k x.1.1 x.1.2.1) (c := codeAt b_ref19_Any 52) (by kernel_rfl) (by kernel_rfl) (by kernel_rfl) (by kernel_rfl) (fun x => by kernel_rfl) (fun k x => by kernel_rfl) K
noncomputable def c_ref19_Any_26 (K : Nat) : List (Nat × Piece) := (26, p_ref19_Any_26 K K) :: c_ref19_Any_0 K
theorem o_ref19_Any_26 (K : Nat) (hB : Base Try.prog tabs (fs_ref19_Core K)) : PcsOk Try.prog b_ref19_Any (c_ref19_Any_26 K) := PcsOk.cons (k_ref19_Any_26 K hB) (o_ref19_Any_0 K)
def ref19_Any (K : Nat) (x0 : (List Bool)) : Option ((Bool × Unit) × Unit) :=
  (ref19_Any_26 K K x0 0).bind fun y4 =>
    match y4 with
    | .inl y5 =>
      some ((false, ()), ())
    | .inr y6 =>
      some ((y6.1.1, ()), ())
@[reducible] def p_ref19_Any (K : Nat) : Piece := { slots := [(0, (.v (.slice .bool)))], objs := [], outs := [{ ex := .ret, slots := [(0, (.v .bool))], objs := [] }], asg := [], nt := 14, fn := fun x => ref19_Any K x.1.1 }
theorem s_ref19_Any (K : Nat) (hB : Base Try.prog tabs (fs_ref19_Core K)) : FnSound Try.prog 29 (p_ref19_Any K) :=
  fun_thm hB (o_ref19_Any_26 K hB) Try.func29 (body := b_ref19_Any) rfl (p_ref19_Any K) (rs := [.tmp 2]) rfl (Nat.le_of_ble_eq_true (by kernel_rfl)) (fun x => by kernel_rfl)
noncomputable def fs_ref19_Any (K : Nat) : List (Nat × Piece) := (29, p_ref19_Any K) :: fs_ref19_Core K
theorem base_ref19_Any (K : Nat) : Base Try.prog tabs (fs_ref19_Any K) := ⟨(base_ref19_Core K).mixed, (base_ref19_Core K).tabs, FnsOk.cons (s_ref19_Any K (base_ref19_Core K)) (by kernel_rfl) (base_ref19_Core K).fns⟩
/-! "selfstab/selfstabref20.begin" -/
noncomputable def b_ref20_begin : Code := codeOf Try.f35
noncomputable def c_ref20_begin_0 (K : Nat) : List (Nat × Piece) := []
theorem o_ref20_begin_0 (K : Nat) : PcsOk Try.prog b_ref20_begin (c_ref20_begin_0 K) := PcsOk.nil
def ref20_begin (K : Nat) (x0 : ((List Int) × ((List (List (Int × (Int × Unit)))) × Unit))) (x1 : (List Bool)) : Option ((Int × Unit) × Unit) :=
  (ref19_Core K x0 x1).bind fun y2 =>
    if !decide (y2.1.1.2.1 = 0) then
      some ((y2.1.1.2.1, ()), ())
    else
      (ref19_Any K y2.2.1).bind fun y6 =>
        if y6.1.1 then
          some ((14, ()), ())
        else
          some ((0, ()), ())
@[reducible] def p_ref20_begin (K : Nat) : Piece := { slots := [(0, (.v (.pair (.slice (.int .u32)) (.pair (.slice (.slice (.pair (.int .u32) (.pair (.int .i64) .unit)))) .unit)))), (1, (.v (.slice .bool)))], objs := [], outs := [{ ex := .ret, slots := [(0, (.v (.int .i64)))], objs := [] }], asg := [], nt := 18, fn := fun x => ref20_begin K x.1.1 x.1.2.1 }
theorem s_ref20_begin (K : Nat) (hB : Base Try.prog tabs (fs_ref19_Any K)) : FnSound Try.prog 35 (p_ref20_begin K) :=
  fun_thm hB (o_ref20_begin_0 K) Try.func35 (body := b_ref20_begin) rfl (p_ref20_begin K) (rs := [.tmp 4]) rfl (Nat.le_of_ble_eq_true (by kernel_rfl)) (fun x => by kernel_rfl)
noncomputable def fs_ref20_begin (K : Nat) : List (Nat × Piece) := (35, p_ref20_begin K) :: fs_ref19_Any K
theorem base_ref20_begin (K : Nat) : Base Try.prog tabs (fs_ref20_begin K) := ⟨(base_ref19_Any K).mixed, (base_ref19_Any K).tabs, FnsOk.cons (s_ref20_begin K (base_ref19_Any K)) (by kernel_rfl) (base_ref19_Any K).fns⟩
/-! "selfstab/selfstabref20.place" -/
noncomputable def b_ref20_place : Code := codeOf Try.f38
noncomputable def c_ref20_place_0 (K : Nat) : List (Nat × Piece) := []
theorem o_ref20_place_0 (K : Nat) : PcsOk Try.prog b_ref20_place (c_ref20_place_0 K) := PcsOk.nil
def ref20_place_26 (K : Nat) : (k : Nat) → (x0 : (List (Int × (Int × Unit)))) → (x1 : Int) → (x5 : Int) → Option ((Unit × Unit) ⊕ ((Int × Unit) × Unit))
  | 0, _, _, _ => none
  | k + 1, x0, x1, x5 =>
    if decide (x5 < (x0.length : Int)) then
      if decide (0 ≤ x5 ∧ x5 < (x0.length : Int)) then
        if decide (((x0.getD x5.toNat (0, (0, ()))).1) = x1) then
          some (.inr ((x5, ()), ()))
        else
          ref20_place_26 K k x0 x1 (IntKind.i64.wrap (x5 + 1))
      else
        none
    else
      some (.inl ((), ()))
@[reducible] def p_ref20_place_26 (K k : Nat) : Piece := { slots := [(0, (.v (.slice (.pair (.int .u32) (.pair (.int .i64) .unit))))), (1, (.v (.int .u32))), (5, (.v (.int .i64)))], objs := [], outs := [{ ex := (.exit 0), slots := [], objs := [] }, { ex := .ret, slots := [(4, (.v (.int .i64)))], objs := [] }], asg := [4, 5, 6, 7, 8, 9, 10, 11, 12, 13, 14, 15, 16, 17, 18, 19], nt := 20, fn := fun x => ref20_place_26 K k x.1.1 x.1.2.1 x.1.2.2.1 }
theorem k_ref20_place_26 (K : Nat) (hB : Base Try.prog tabs (fs_ref20_begin K)) : PcOk Try.prog (codeAt b_ref20_place 26) (p_ref20_place_26 K K) :=
  loop_thm hB (o_ref20_place_0 K) 26 (p_ref20_place_26 K 0) (l := fun k x => ref20_place_26 K k x.1.1 x.1.2.1 x.1.2.2.1) (c := codeAt b_ref20_place 52) (by kernel_rfl) (by kernel_rfl) (by kernel_rfl) (by kernel_rfl) (fun x => by kernel_rfl) (fun k x => by kernel_rfl) K
noncomputable def c_ref20_place_26 (K : Nat) : List (Nat × Piece) := (26, p_ref20_place_26 K K) :: c_ref20_place_0 K
theorem o_ref20_place_26 (K : Nat) (hB : Base Try.prog tabs (fs_ref20_begin K)) : PcsOk Try.prog b_ref20_place (c_ref20_place_26 K) := PcsOk.cons (k_ref20_place_26 K hB) (o_ref20_place_0 K)
def ref20_place (K : Nat) (x0 : (List (Int × (Int × Unit)))) (x1 : Int) : Option ((Int × Unit) × Unit) :=
  (ref20_place_26 K K x0 x1 0).bind fun y4 =>
    match y4 with
    | .inl y5 =>
      some (((-1), ()), ())
    | .inr y6 =>
      some ((y6.1.1, ()), ())
@[reducible] def p_ref20_place (K : Nat) : Piece := { slots := [(0, (.v (.slice (.pair (.int .u32) (.pair (.int .i64) .unit))))), (1, (.v (.int .u32)))], objs := [], outs := [{ ex := .ret, slots := [(0, (.v (.int .i64)))], objs := [] }], asg := [], nt := 20, fn := fun x => ref20_place K x.1.1 x.1.2.1 }
theorem s_ref20_place (K : Nat) (hB : Base Try.prog tabs (fs_ref20_begin K)) : FnSound Try.prog 38 (p_ref20_place K) :=
  fun_thm hB (o_ref20_place_26 K hB) Try.func38 (body := b_ref20_place) rfl (p_ref20_place K) (rs := [.tmp 4]) rfl (Nat.le_of_ble_eq_true (by kernel_rfl)) (fun x => by kernel_rfl)
noncomputable def fs_ref20_place (K : Nat) : List (Nat × Piece) := (38, p_ref20_place K) :: fs_ref20_begin K
theorem base_ref20_place (K : Nat) : Base Try.prog tabs (fs_ref20_place K) := ⟨(base_ref20_begin K).mixed, (base_ref20_begin K).tabs, FnsOk.cons (s_ref20_place K (base_ref20_begin K)) (by kernel_rfl) (base_ref20_begin K).fns⟩
/-! "selfstab/selfstabref20.left" -/
noncomputable def b_ref20_left : Code := codeOf Try.f57
noncomputable def c_ref20_left_0 (K : Nat) : List (Nat × Piece) := []
theorem o_ref20_left_0 (K : Nat) : PcsOk Try.prog b_ref20_left (c_ref20_left_0 K) := PcsOk.nil
def ref20_left (K : Nat) (x0 : ((List Int) × ((List (List (Int × (Int × Unit)))) × Unit))) (x1 : Int) (x2 : (Int × (Int × Unit))) : Option ((Int × Unit) × Unit) :=
  if decide (0 ≤ x2.2.1 ∧ x2.2.1 < (x0.1.length : Int)) then
    some ((iand .u32 (iandNot .u32 x1 x2.1) (x0.1.getD x2.2.1.toNat 0), ()), ())
  else
    none
@[reducible] def p_ref20_left (K : Nat) : Piece := { slots := [(0, (.v (.pair (.slice (.int .u32)) (.pair (.slice (.slice (.pair (.int .u32) (.pair (.int .i64) .unit)))) .unit)))), (1, (.v (.int .u32))), (2, (.v (.pair (.int .u32) (.pair (.int .i64) .unit))))], objs := [], outs := [{ ex := .ret, slots := [(0, (.v (.int .u32)))], objs := [] }], asg := [], nt := 18, fn := fun x => ref20_left K x.1.1 x.1.2.1 x.1.2.2.1 }
theorem s_ref20_left (K : Nat) (hB : Base Try.prog tabs (fs_ref20_place K)) : FnSound Try.prog 57 (p_ref20_left K) :=
  fun_thm hB (o_ref20_left_0 K) Try.func57 (body := b_ref20_left) rfl (p_ref20_left K) (rs := [.tmp 6]) rfl (Nat.le_of_ble_eq_true (by kernel_rfl)) (fun x => by kernel_rfl)
noncomputable def fs_ref20_left (K : Nat) : List (Nat × Piece) := (57, p_ref20_left K) :: fs_ref20_place K
theorem base_ref20_left (K : Nat) : Base Try.prog tabs (fs_ref20_left K) := ⟨(base_ref20_place K).mixed, (base_ref20_place K).tabs, FnsOk.cons (s_ref20_left K (base_ref20_place K)) (by kernel_rfl) (base_ref20_place K).fns⟩
/-! "selfstab/selfstabref20.after" -/
noncomputable def b_ref20_after : Code := codeOf Try.f56
noncomputable def c_ref20_after_0 (K : Nat) : List (Nat × Piece) := []
theorem o_ref20_after_0 (K : Nat) : PcsOk Try.prog b_ref20_after (c_ref20_after_0 K) := PcsOk.nil
def ref20_after (K : Nat) (x0 : ((List Int) × ((List (List (Int × (Int × Unit)))) × Unit))) (x1 : Int) (x2 : (Int × (Int × Unit))) : Option ((Int × Unit) × Unit) :=
  (ref20_left K x0 x1 x2).bind fun y4 =>
    if !decide (y4.1.1 = 0) then
      some ((y4.1.1, ()), ())
    else
      if decide (0 ≤ x2.2.1 ∧ x2.2.1 < (x0.1.length : Int)) then
        some ((x0.1.getD x2.2.1.toNat 0, ()), ())
      else
        none
@[reducible] def p_ref20_after (K : Nat) : Piece := { slots := [(0, (.v (.pair (.slice (.int .u32)) (.pair (.slice (.slice (.pair (.int .u32) (.pair (.int .i64) .unit)))) .unit)))), (1, (.v (.int .u32))), (2, (.v (.pair (.int .u32) (.pair (.int .i64) .unit))))], objs := [], outs := [{ ex := .ret, slots := [(0, (.v (.int .u32)))], objs := [] }], asg := [], nt := 21, fn := fun x => ref20_after K x.1.1 x.1.2.1 x.1.2.2.1 }
theorem s_ref20_after (K : Nat) (hB : Base Try.prog tabs (fs_ref20_left K)) : FnSound Try.prog 56 (p_ref20_after K) :=
  fun_thm hB (o_ref20_after_0 K) Try.func56 (body := b_ref20_after) rfl (p_ref20_after K) (rs := [.tmp 6]) rfl (Nat.le_of_ble_eq_true (by kernel_rfl)) (fun x => by kernel_rfl)
noncomputable def fs_ref20_after (K : Nat) : List (Nat × Piece) := (56, p_ref20_after K) :: fs_ref20_left K
theorem base_ref20_after (K : Nat) : Base Try.prog tabs (fs_ref20_after K) := ⟨(base_ref20_left K).mixed, (base_ref20_left K).tabs, FnsOk.cons (s_ref20_after K (base_ref20_left K)) (by kernel_rfl) (base_ref20_left K).fns⟩
/-! "selfstab/selfstabref20.reach" -/
noncomputable def b_ref20_reach : Code := codeOf Try.f36
noncomputable def c_ref20_reach_0 (K : Nat) : List (Nat × Piece) := []
theorem o_ref20_reach_0 (K : Nat) : PcsOk Try.prog b_ref20_reach (c_ref20_reach_0 K) := PcsOk.nil
def ref20_reach_250 (K : Nat) : (k : Nat) → (x1 : (List Bool)) → (x9 : Int) → (o0 : ((List Int) × ((List (List (Int × (Int × Unit)))) × Unit))) → (o1 : (List (Int × (Int × Unit)))) → Option ((Unit × Unit) × ((List (Int × (Int × Unit))) × (((List Int) × ((List (List (Int × (Int × Unit)))) × Unit)) × Unit)))
  | 0, _, _, _, _ => none
  | k + 1, x1, x9, o0, o1 =>
    if decide (x9 < (x1.length : Int)) then
      if decide (0 ≤ x9 ∧ x9 < (x1.length : Int)) then
        if !(x1.getD x9.toNat false) then
          if decide (0 ≤ x9 ∧ x9 < (o0.1.length : Int)) then
            if decide (o1.length + ([(o0.1.getD x9.toNat 0, (x9, ()))]).length ≤ 4294967296) then
              ref20_reach_250 K k x1 (IntKind.i64.wrap (x9 + 1)) o0 (o1 ++ [(o0.1.getD x9.toNat 0, (x9, ()))])
            else
              none
          else
            none
        else
          ref20_reach_250 K k x1 (IntKind.i64.wrap (x9 + 1)) o0 o1
      else
        none
    else
      some (((), ()), (o1, (o0, ())))
@[reducible] def p_ref20_reach_250 (K k : Nat) : Piece := { slots := [(1, (.v (.slice .bool))), (2, (.ref 0 (.pair (.slice (.int .u32)) (.pair (.slice (.slice (.pair (.int .u32) (.pair (.int .i64) .unit)))) .unit)))), (8, (.href 1)), (9, (.v (.int .i64)))], objs := [(.box (.pair (.slice (.int .u32)) (.pair (.slice (.slice (.pair (.int .u32) (.pair (.int .i64) .unit)))) .unit)) (.v (.pair (.slice (.int .u32)) (.pair (.slice (.slice (.pair (.int .u32) (.pair (.int .i64) .unit)))) .unit)))), (.row (.pair (.int .u32) (.pair (.int .i64) .unit)))], outs := [{ ex := (.exit 0), slots := [(8, (.href 0))], objs := [(none, (.row (.pair (.int .u32) (.pair (.int .i64) .unit)))), (some 0, (.box (.pair (.slice (.int .u32)) (.pair (.slice (.slice (.pair (.int .u32) (.pair (.int .i64) .unit)))) .unit)) (.v (.pair (.slice (.int .u32)) (.pair (.slice (.slice (.pair (.int .u32) (.pair (.int .i64) .unit)))) .unit)))))] }], asg := [8, 9, 16, 17, 18, 19, 20, 21, 22, 23, 24, 25, 26, 27, 28, 29, 30, 31, 32, 33, 34, 35, 36], nt := 116, fn := fun x => ref20_reach_250 K k x.1.1 x.1.2.2.2.1 x.2.1 x.2.2.1 }
theorem k_ref20_reach_250 (K : Nat) (hB : Base Try.prog tabs (fs_ref20_after K)) : PcOk Try.prog (codeAt b_ref20_reach 250) (p_ref20_reach_250 K K) :=
  loop_thm hB (o_ref20_reach_0 K) 250 (p_ref20_reach_250 K 0) (l := fun k x => ref20_reach_250 K k x.1.1 x.1.2.2.2.1 x.2.1 x.2.2.1) (c := codeAt b_ref20_reach 500) (by kernel_rfl) (by kernel_rfl) (by kernel_rfl) (by kernel_rfl) (fun x => by kernel_rfl) (fun k x => by kernel_rfl) K
noncomputable def c_ref20_reach_250 (K : Nat) : List (Nat × Piece) := (250, p_ref20_reach_250 K K) :: c_ref20_reach_0 K
theorem o_ref20_reach_250 (K : Nat) (hB : Base Try.prog tabs (fs_ref20_after K)) : PcsOk Try.prog b_ref20_reach (c_ref20_reach_250 K) := PcsOk.cons (k_ref20_reach_250 K hB) (o_ref20_reach_0 K)
def ref20_reach_516862 (K : Nat) : (k : Nat) → (x1 : (List Bool)) → (x11 : Int) → (o0 : ((List Int) × ((List (List (Int × (Int × Unit)))) × Unit))) → (o1 : (List (Int × (Int × Unit)))) → (o2 : (Int × (Int × Unit))) → Option ((Unit × Unit) × ((List (Int × (Int × Unit))) × (((List Int) × ((List (List (Int × (Int × Unit)))) × Unit)) × Unit)))
  | 0, _, _, _, _, _ => none
  | k + 1, x1, x11, o0, o1, o2 =>
    if decide (0 ≤ o2.2.1 ∧ o2.2.1 < (o0.2.1.length : Int)) then
      if decide (x11 < ((o0.2.1.getD o2.2.1.toNat []).length : Int)) then
        if decide (0 ≤ o2.2.1 ∧ o2.2.1 < (o0.2.1.length : Int)) then
          if decide (0 ≤ x11 ∧ x11 < ((o0.2.1.getD o2.2.1.toNat []).length : Int)) then
            if decide (0 ≤ (((o0.2.1.getD o2.2.1.toNat []).getD x11.toNat (0, (0, ()))).2).1 ∧ (((o0.2.1.getD o2.2.1.toNat []).getD x11.toNat (0, (0, ()))).2).1 < (x1.length : Int)) then
              if !(x1.getD (((((o0.2.1.getD o2.2.1.toNat []).getD x11.toNat (0, (0, ()))).2).1).toNat) false) then
                (ref20_after K o0 o2.1 ((o0.2.1.getD o2.2.1.toNat []).getD x11.toNat (0, (0, ())))).bind fun y2 =>
                  if decide (o1.length + ([(y2.1.1, ((((o0.2.1.getD o2.2.1.toNat []).getD x11.toNat (0, (0, ()))).2).1, ()))]).length ≤ 4294967296) then
                    ref20_reach_516862 K k x1 (IntKind.i64.wrap (x11 + 1)) o0 (o1 ++ [(y2.1.1, ((((o0.2.1.getD o2.2.1.toNat []).getD x11.toNat (0, (0, ()))).2).1, ()))]) o2
                  else
                    none
              else
                ref20_reach_516862 K k x1 (IntKind.i64.wrap (x11 + 1)) o0 o1 o2
            else
              none
          else
            none
        else
          none
      else
        some (((), ()), (o1, (o0, ())))
    else
      none
@[reducible] def p_ref20_reach_516862 (K k : Nat) : Piece := { slots := [(1, (.v (.slice .bool))), (2, (.ref 0 (.pair (.slice (.int .u32)) (.pair (.slice (.slice (.pair (.int .u32) (.pair (.int .i64) .unit)))) .unit)))), (8, (.href 1)), (10, (.ref 2 (.pair (.int .u32) (.pair (.int .i64) .unit)))), (11, (.v (.int .i64)))], objs := [(.box (.pair (.slice (.int .u32)) (.pair (.slice (.slice (.pair (.int .u32) (.pair (.int .i64) .unit)))) .unit)) (.v (.pair (.slice (.int .u32)) (.pair (.slice (.slice (.pair (.int .u32) (.pair (.int .i64) .unit)))) .unit)))), (.row (.pair (.int .u32) (.pair (.int .i64) .unit))), (.box (.pair (.int .u32) (.pair (.int .i64) .unit)) (.v (.pair (.int .u32) (.pair (.int .i64) .unit))))], outs := [{ ex := (.exit 4), slots := [(8, (.href 0))], objs := [(none, (.row (.pair (.int .u32) (.pair (.int .i64) .unit)))), (some 0, (.box (.pair (.slice (.int .u32)) (.pair (.slice (.slice (.pair (.int .u32) (.pair (.int .i64) .unit)))) .unit)) (.v (.pair (.slice (.int .u32)) (.pair (.slice (.slice (.pair (.int .u32) (.pair (.int .i64) .unit)))) .unit)))))] }], asg := [8, 11, 12, 78, 79, 80, 81, 82, 83, 84, 85, 86, 87, 88, 89, 90, 91, 92, 93, 94, 95, 96, 97, 98, 99, 100, 101, 102, 103, 104, 105, 106, 107, 108, 109, 110, 111, 112, 113, 114], nt := 116, fn := fun x => ref20_reach_516862 K k x.1.1 x.1.2.2.2.2.1 x.2.1 x.2.2.1 x.2.2.2.1 }
theorem k_ref20_reach_516862 (K : Nat) (hB : Base Try.prog tabs (fs_ref20_after K)) : PcOk Try.prog (codeAt b_ref20_reach 516862) (p_ref20_reach_516862 K K) :=
  loop_thm hB (o_ref20_reach_250 K hB) 516862 (p_ref20_reach_516862 K 0) (l := fun k x => ref20_reach_516862 K k x.1.1 x.1.2.2.2.2.1 x.2.1 x.2.2.1 x.2.2.2.1) (c := codeAt b_ref20_reach 1033724) (by kernel_rfl) (by kernel_rfl) (by kernel_rfl) (by kernel_rfl) (fun x => by kernel_rfl) (fun k x => by kernel_rfl) K
noncomputable def c_ref20_reach_516862 (K : Nat) : List (Nat × Piece) := (516862, p_ref20_reach_516862 K K) :: c_ref20_reach_250 K
theorem o_ref20_reach_516862 (K : Nat) (hB : Base Try.prog tabs (fs_ref20_after K)) : PcsOk Try.prog b_ref20_reach (c_ref20_reach_516862 K) := PcsOk.cons (k_ref20_reach_516862 K hB) (o_ref20_reach_250 K hB)
def ref20_reach_252 (K : Nat) : (k : Nat) → (x1 : (List Bool)) → (x7 : Int) → (o0 : ((List Int) × ((List (List (Int × (Int × Unit)))) × Unit))) → (o1 : (List (List (Int × (Int × Unit))))) → (o2 : (List (Int × (Int × Unit)))) → Option ((Unit × ((List (List (Int × (Int × Unit)))) × Unit)) ⊕ ((Unit × (Bool × Unit)) × ((List (List (Int × (Int × Unit)))) × Unit)))
  | 0, _, _, _, _, _ => none
  | k + 1, x1, x7, o0, o1, o2 =>
    if decide (0 < (o2.length : Int)) then
      if decide (0 ≤ IntKind.i64.wrap ((o2.length : Int) - 1) ∧ IntKind.i64.wrap ((o2.length : Int) - 1) < (o2.length : Int)) then
        if decide (0 ≤ IntKind.i64.wrap ((o2.length : Int) - 1) ∧ IntKind.i64.wrap ((o2.length : Int) - 1) ≤ (o2.length : Int)) then
          if decide (0 ≤ ((o2.getD ((IntKind.i64.wrap ((o2.length : Int) - 1)).toNat) (0, (0, ()))).2).1 ∧ ((o2.getD ((IntKind.i64.wrap ((o2.length : Int) - 1)).toNat) (0, (0, ()))).2).1 < (o1.length : Int)) then
            (ref20_place K (o1.getD ((((o2.getD ((IntKind.i64.wrap ((o2.length : Int) - 1)).toNat) (0, (0, ()))).2).1).toNat) []) ((o2.getD ((IntKind.i64.wrap ((o2.length : Int) - 1)).toNat) (0, (0, ()))).1)).bind fun y4 =>
              if decide (0 ≤ y4.1.1) then
                ref20_reach_252 K k x1 x7 o0 o1 (o2.take ((IntKind.i64.wrap ((o2.length : Int) - 1)).toNat))
              else
                if decide (0 ≤ ((o2.getD ((IntKind.i64.wrap ((o2.length : Int) - 1)).toNat) (0, (0, ()))).2).1 ∧ ((o2.getD ((IntKind.i64.wrap ((o2.length : Int) - 1)).toNat) (0, (0, ()))).2).1 < (o1.length : Int)) then
                  if decide ((o1.getD ((((o2.getD ((IntKind.i64.wrap ((o2.length : Int) - 1)).toNat) (0, (0, ()))).2).1).toNat) []).length + ([((o2.getD ((IntKind.i64.wrap ((o2.length : Int) - 1)).toNat) (0, (0, ()))).1, (0, ()))]).length ≤ 4294967296) then
                    if decide (0 ≤ ((o2.getD ((IntKind.i64.wrap ((o2.length : Int) - 1)).toNat) (0, (0, ()))).2).1 ∧ ((o2.getD ((IntKind.i64.wrap ((o2.length : Int) - 1)).toNat) (0, (0, ()))).2).1 < (o1.length : Int)) then
                      if decide ((((o2.getD ((IntKind.i64.wrap ((o2.length : Int) - 1)).toNat) (0, (0, ()))).2).1).toNat = (((o2.getD ((IntKind.i64.wrap ((o2.length : Int) - 1)).toNat) (0, (0, ()))).2).1).toNat) then
                        if decide (262144 < (IntKind.i64.wrap (x7 + 1))) then
                          some (.inr (((), (false, ())), ([], ())))
                        else
                          (ref20_reach_516862 K K x1 0 o0 (o2.take ((IntKind.i64.wrap ((o2.length : Int) - 1)).toNat)) (o2.getD ((IntKind.i64.wrap ((o2.length : Int) - 1)).toNat) (0, (0, ())))).bind fun y5 =>
                            ref20_reach_252 K k x1 (IntKind.i64.wrap (x7 + 1)) y5.2.2.1 (o1.set ((((o2.getD ((IntKind.i64.wrap ((o2.length : Int) - 1)).toNat) (0, (0, ()))).2).1).toNat) (o1.getD ((((o2.getD ((IntKind.i64.wrap ((o2.length : Int) - 1)).toNat) (0, (0, ()))).2).1).toNat) [] ++ [((o2.getD ((IntKind.i64.wrap ((o2.length : Int) - 1)).toNat) (0, (0, ()))).1, (0, ()))])) y5.2.1
                      else
                        none
                    else
                      none
                  else
                    none
                else
                  none
          else
            none
        else
          none
      else
        none
    else
      some (.inl ((), (o1, ())))
@[reducible] def p_ref20_reach_252 (K k : Nat) : Piece := { slots := [(1, (.v (.slice .bool))), (2, (.ref 0 (.pair (.slice (.int .u32)) (.pair (.slice (.slice (.pair (.int .u32) (.pair (.int .i64) .unit)))) .unit)))), (6, (.href 1)), (7, (.v (.int .i64))), (8, (.href 2))], objs := [(.box (.pair (.slice (.int .u32)) (.pair (.slice (.slice (.pair (.int .u32) (.pair (.int .i64) .unit)))) .unit)) (.v (.pair (.slice (.int .u32)) (.pair (.slice (.slice (.pair (.int .u32) (.pair (.int .i64) .unit)))) .unit)))), (.row2 (.pair (.int .u32) (.pair (.int .i64) .unit))), (.row (.pair (.int .u32) (.pair (.int .i64) .unit)))], outs := [{ ex := (.exit 2), slots := [], objs := [(some 1, (.row2 (.pair (.int .u32) (.pair (.int .i64) .unit))))] }, { ex := .ret, slots := [(4, (.href 0)), (5, (.v .bool))], objs := [(none, (.row2 (.pair (.int .u32) (.pair (.int .i64) .unit))))] }], asg := [4, 5, 7, 8, 10, 11, 12, 37, 38, 39, 40, 41, 42, 43, 44, 45, 46, 47, 48, 49, 50, 51, 52, 53, 54, 55, 56, 57, 58, 59, 60, 61, 62, 63, 64, 65, 66, 67, 68, 69, 70, 71, 72, 73, 74, 75, 76, 77, 78, 79, 80, 81, 82, 83, 84, 85, 86, 87, 88, 89, 90, 91, 92, 93, 94, 95, 96, 97, 98, 99, 100, 101, 102, 103, 104, 105, 106, 107, 108, 109, 110, 111, 112, 113, 114], nt := 116, fn := fun x => ref20_reach_252 K k x.1.1 x.1.2.2.2.1 x.2.1 x.2.2.1 x.2.2.2.1 }
theorem k_ref20_reach_252 (K : Nat) (hB : Base Try.prog tabs (fs_ref20_after K)) : PcOk Try.prog (codeAt b_ref20_reach 252) (p_ref20_reach_252 K K) :=
  loop_thm hB (o_ref20_reach_516862 K hB) 252 (p_ref20_reach_252 K 0) (l := fun k x => ref20_reach_252 K k x.1.1 x.1.2.2.2.1 x.2.1 x.2.2.1 x.2.2.2.1) (c := codeAt b_ref20_reach 504) (by kernel_rfl) (by kernel_rfl) (by kernel_rfl) (by kernel_rfl) (fun x => by kernel_rfl) (fun k x => by kernel_rfl) K
noncomputable def c_ref20_reach_252 (K : Nat) : List (Nat × Piece) := (252, p_ref20_reach_252 K K) :: c_ref20_reach_516862 K
theorem o_ref20_reach_252 (K : Nat) (hB : Base Try.prog tabs (fs_ref20_after K)) : PcsOk Try.prog b_ref20_reach (c_ref20_reach_252 K) := PcsOk.cons (k_ref20_reach_252 K hB) (o_ref20_reach_516862 K hB)
def ref20_reach (K : Nat) (x0 : ((List Int) × ((List (List (Int × (Int × Unit)))) × Unit))) (x1 : (List Bool)) : Option (((Unit × (Bool × Unit)) × Unit) × ((List (List (Int × (Int × Unit)))) × Unit)) :=
  if decide (0 ≤ (x1.length : Int) ∧ (x1.length : Int) ≤ (x1.length : Int) ∧ (x1.length : Int) ≤ 4294967296) then
    (ref20_reach_250 K K x1 0 x0 []).bind fun y2 =>
      (ref20_reach_252 K K x1 0 y2.2.2.1 (List.replicate (x1.length : Int).toNat []) y2.2.1).bind fun y6 =>
        match y6 with
        | .inl y7 =>
          some ((((), (true, ())), ()), (y7.2.1, ()))
        | .inr y8 =>
          some ((((), (y8.1.2.1, ())), ()), (y8.2.1, ()))
  else
    none
@[reducible] def p_ref20_reach (K : Nat) : Piece := { slots := [(0, (.v (.pair (.slice (.int .u32)) (.pair (.slice (.slice (.pair (.int .u32) (.pair (.int .i64) .unit)))) .unit)))), (1, (.v (.slice .bool)))], objs := [], outs := [{ ex := .ret, slots := [(0, (.tup (.cons (.href 0) (.cons (.v .bool) .nil))))], objs := [(none, (.row2 (.pair (.int .u32) (.pair (.int .i64) .unit))))] }], asg := [], nt := 116, fn := fun x => ref20_reach K x.1.1 x.1.2.1 }
theorem s_ref20_reach (K : Nat) (hB : Base Try.prog tabs (fs_ref20_after K)) : FnSound Try.prog 36 (p_ref20_reach K) :=
  fun_thm hB (o_ref20_reach_252 K hB) Try.func36 (body := b_ref20_reach) rfl (p_ref20_reach K) (rs := [.tmp 4, .tmp 5]) rfl (Nat.le_of_ble_eq_true (by kernel_rfl)) (fun x => by kernel_rfl)
noncomputable def fs_ref20_reach (K : Nat) : List (Nat × Piece) := (36, p_ref20_reach K) :: fs_ref20_after K
theorem base_ref20_reach (K : Nat) : Base Try.prog tabs (fs_ref20_reach K) := ⟨(base_ref20_after K).mixed, (base_ref20_after K).tabs, FnsOk.cons (s_ref20_reach K (base_ref20_after K)) (by kernel_rfl) (base_ref20_after K).fns⟩
/-! "selfstab/selfstabref20.through" -/
noncomputable def b_ref20_through : Code := codeOf Try.f37
noncomputable def c_ref20_through_0 (K : Nat) : List (Nat × Piece) := []
theorem o_ref20_through_0 (K : Nat) : PcsOk Try.prog b_ref20_through (c_ref20_through_0 K) := PcsOk.nil
def ref20_through (K : Nat) (x0 : ((List Int) × ((List (List (Int × (Int × Unit)))) × Unit))) (x1 : (List Bool)) (x2 : (List (List (Int × (Int × Unit))))) (x3 : Int) (x4 : (Int × (Int × Unit))) : Option ((Int × Unit) × Unit) :=
  if decide (0 ≤ x4.2.1 ∧ x4.2.1 < (x1.length : Int)) then
    if x1.getD x4.2.1.toNat false then
      some ((1, ()), ())
    else
      if decide (0 ≤ x4.2.1 ∧ x4.2.1 < (x2.length : Int)) then
        if decide (0 ≤ x4.2.1 ∧ x4.2.1 < (x2.length : Int)) then
          (ref20_after K x0 x3 x4).bind fun y3 =>
            (ref20_place K (x2.getD x4.2.1.toNat []) y3.1.1).bind fun y4 =>
              if decide (0 ≤ y4.1.1 ∧ y4.1.1 < ((x2.getD x4.2.1.toNat []).length : Int)) then
                (ref20_left K x0 x3 x4).bind fun y8 =>
                  if decide (y8.1.1 = 0) then
                    some ((IntKind.i64.wrap (((((x2.getD x4.2.1.toNat []).getD y4.1.1.toNat (0, (0, ()))).2).1) + 1), ()), ())
                  else
                    some (((((x2.getD x4.2.1.toNat []).getD y4.1.1.toNat (0, (0, ()))).2).1, ()), ())
              else
                none
        else
          none
      else
        none
  else
    none
@[reducible] def p_ref20_through (K : Nat) : Piece := { slots := [(0, (.v (.pair (.slice (.int .u32)) (.pair (.slice (.slice (.pair (.int .u32) (.pair (.int .i64) .unit)))) .unit)))), (1, (.v (.slice .bool))), (2, (.v (.slice (.slice (.pair (.int .u32) (.pair (.int .i64) .unit)))))), (3, (.v (.int .u32))), (4, (.v (.pair (.int .u32) (.pair (.int .i64) .unit))))], objs := [], outs := [{ ex := .ret, slots := [(0, (.v (.int .i64)))], objs := [] }], asg := [], nt := 43, fn := fun x => ref20_through K x.1.1 x.1.2.1 x.1.2.2.1 x.1.2.2.2.1 x.1.2.2.2.2.1 }
theorem s_ref20_through (K : Nat) (hB : Base Try.prog tabs (fs_ref20_reach K)) : FnSound Try.prog 37 (p_ref20_through K) :=
  fun_thm hB (o_ref20_through_0 K) Try.func37 (body := b_ref20_through) rfl (p_ref20_through K) (rs := [.tmp 10]) rfl (Nat.le_of_ble_eq_true (by kernel_rfl)) (fun x => by kernel_rfl)
noncomputable def fs_ref20_through (K : Nat) : List (Nat × Piece) := (37, p_ref20_through K) :: fs_ref20_reach K
theorem base_ref20_through (K : Nat) : Base Try.prog tabs (fs_ref20_through K) := ⟨(base_ref20_reach K).mixed, (base_ref20_reach K).tabs, FnsOk.cons (s_ref20_through K (base_ref20_reach K)) (by kernel_rfl) (base_ref20_reach K).fns⟩
end Go.Proofs.Ytafndpkfoajpnaa.G
