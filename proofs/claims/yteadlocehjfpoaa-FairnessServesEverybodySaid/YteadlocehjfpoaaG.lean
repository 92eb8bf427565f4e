/- Printed by a program of this work: for each function that is reached, what it computes, and that the code computes it. -/
import Derived.Test.YteadlocehjfpoaaFwE
import Derived.Test.YteadlocehjfpoaaProg
import Derived.KernelRfl
namespace Go.Proofs.Yteadlocehjfpoaa.G
open Go Go.Fw Go.Proofs
set_option maxRecDepth 100000
set_option linter.unusedVariables false
@[reducible] def tabs : Tabs := { ty := [(3, (.int .i64)), (4, .bool), (5, (.int .u8)), (22, (.slice (.int .u32))), (23, (.slice (.slice (.pair (.int .u32) (.pair (.int .i64) .unit))))), (25, (.pair (.slice (.int .u32)) (.pair (.slice (.slice (.pair (.int .u32) (.pair (.int .i64) .unit)))) .unit))), (26, (.slice .bool)), (33, (.slice (.int .i64))), (38, (.slice (.pair (.int .u32) (.pair (.int .i64) .unit)))), (39, (.int .u32)), (41, (.pair (.int .u32) (.pair (.int .i64) .unit))), (42, (.slice (.int .u8))), (52, (.slice (.slice (.int .i64)))), (58, (.int .u64)), (60, (.pair (.pair (.slice (.int .u32)) (.pair (.slice (.slice (.pair (.int .u32) (.pair (.int .i64) .unit)))) .unit)) (.pair (.slice .bool) (.pair (.slice (.int .i64)) (.pair (.slice (.int .i64)) (.pair (.slice .bool) (.pair (.slice (.int .i64)) (.pair (.slice (.int .i64)) (.pair (.int .i64) .unit))))))))), (62, .opq)], eq := [4], mt := [(62, ((.int .i64), (.int .i64)))] }
noncomputable def codeOf (f : Func) : Code := match f.body with | some c => c | none => .skip
noncomputable def fs_0 (K : Nat) : List (Nat × Piece) := []
theorem base_0 (K : Nat) : Base Try.prog tabs (fs_0 K) := ⟨by kernel_rfl, by kernel_rfl, FnsOk.nil⟩
/-! "selfstab/selfstablaw21.light" -/
noncomputable def b_law21_light : Code := codeOf Try.f10
noncomputable def c_law21_light_0 (K : Nat) : List (Nat × Piece) := []
theorem o_law21_light_0 (K : Nat) : PcsOk Try.prog b_law21_light (c_law21_light_0 K) := PcsOk.nil
def law21_light_58 (K : Nat) : (k : Nat) → (x5 : Int) → (o0 : ((List Int) × ((List (List (Int × (Int × Unit)))) × Unit))) → Option ((Unit × Unit) ⊕ ((Bool × Unit) × Unit))
  | 0, _, _ => none
  | k + 1, x5, o0 =>
    if decide (x5 < (o0.2.1.length : Int)) then
      if decide (0 ≤ x5 ∧ x5 < (o0.2.1.length : Int)) then
        if decide (40 < ((o0.2.1.getD x5.toNat []).length : Int)) then
          some (.inr ((false, ()), ()))
        else
          law21_light_58 K k (IntKind.i64.wrap (x5 + 1)) o0
      else
        none
    else
      some (.inl ((), ()))
@[reducible] def p_law21_light_58 (K k : Nat) : Piece := { slots := [(2, (.ref 0 (.pair (.slice (.int .u32)) (.pair (.slice (.slice (.pair (.int .u32) (.pair (.int .i64) .unit)))) .unit)))), (5, (.v (.int .i64)))], objs := [(.box (.pair (.slice (.int .u32)) (.pair (.slice (.slice (.pair (.int .u32) (.pair (.int .i64) .unit)))) .unit)) (.v (.pair (.slice (.int .u32)) (.pair (.slice (.slice (.pair (.int .u32) (.pair (.int .i64) .unit)))) .unit))))], outs := [{ ex := (.exit 0), slots := [], objs := [] }, { ex := .ret, slots := [(4, (.v .bool))], objs := [] }], asg := [4, 5, 21, 22, 23, 24, 25, 26, 27, 28, 29, 30, 31, 32, 33, 34], nt := 35, fn := fun x => law21_light_58 K k x.1.2.1 x.2.1 }
theorem k_law21_light_58 (K : Nat) (hB : Base Try.prog tabs (fs_0 K)) : PcOk Try.prog (codeAt b_law21_light 58) (p_law21_light_58 K K) :=
  loop_thm hB (o_law21_light_0 K) 58 (p_law21_light_58 K 0) (l := fun k x => law21_light_58 K k x.1.2.1 x.2.1) (c := codeAt b_law21_light 116) (by kernel_rfl) (by kernel_rfl) (by kernel_rfl) (by kernel_rfl) (fun x => by kernel_rfl) (fun k x => by kernel_rfl) K
noncomputable def c_law21_light_58 (K : Nat) : List (Nat × Piece) := (58, p_law21_light_58 K K) :: c_law21_light_0 K
theorem o_law21_light_58 (K : Nat) (hB : Base Try.prog tabs (fs_0 K)) : PcsOk Try.prog b_law21_light (c_law21_light_58 K) := PcsOk.cons (k_law21_light_58 K hB) (o_law21_light_0 K)
def law21_light (K : Nat) (x0 : ((List Int) × ((List (List (Int × (Int × Unit)))) × Unit))) (x1 : (List Bool)) : Option ((Bool × Unit) × Unit) :=
  if decide (120 < (x0.1.length : Int)) then
    some ((false, ()), ())
  else
    if decide (120 < (x0.2.1.length : Int)) then
      some ((false, ()), ())
    else
      if decide (130 < (x1.length : Int)) then
        some ((false, ()), ())
      else
        (law21_light_58 K K 0 x0).bind fun y4 =>
          match y4 with
          | .inl y5 =>
            some ((true, ()), ())
          | .inr y6 =>
            some ((y6.1.1, ()), ())
@[reducible] def p_law21_light (K : Nat) : Piece := { slots := [(0, (.v (.pair (.slice (.int .u32)) (.pair (.slice (.slice (.pair (.int .u32) (.pair (.int .i64) .unit)))) .unit)))), (1, (.v (.slice .bool)))], objs := [], outs := [{ ex := .ret, slots := [(0, (.v .bool))], objs := [] }], asg := [], nt := 35, fn := fun x => law21_light K x.1.1 x.1.2.1 }
theorem s_law21_light (K : Nat) (hB : Base Try.prog tabs (fs_0 K)) : FnSound Try.prog 10 (p_law21_light K) :=
  fun_thm hB (o_law21_light_58 K hB) Try.func10 (body := b_law21_light) rfl (p_law21_light K) (rs := [.tmp 4]) rfl (Nat.le_of_ble_eq_true (by kernel_rfl)) (fun x => by kernel_rfl)
noncomputable def fs_law21_light (K : Nat) : List (Nat × Piece) := (10, p_law21_light K) :: fs_0 K
theorem base_law21_light (K : Nat) : Base Try.prog tabs (fs_law21_light K) := ⟨(base_0 K).mixed, (base_0 K).tabs, FnsOk.cons (s_law21_light K (base_0 K)) (by kernel_rfl) (base_0 K).fns⟩
/-! "selfstab/selfstabref01.In" -/
noncomputable def b_ref01_In : Code := codeOf Try.f37
noncomputable def c_ref01_In_0 (K : Nat) : List (Nat × Piece) := []
theorem o_ref01_In_0 (K : Nat) : PcsOk Try.prog b_ref01_In (c_ref01_In_0 K) := PcsOk.nil
def ref01_In (K : Nat) (x0 : Int) (x1 : Int) (x2 : Int) : Option ((Bool × Unit) × Unit) :=
  if decide (x1 ≤ x0) then
    some ((decide (x0 ≤ x2), ()), ())
  else
    some ((false, ()), ())
@[reducible] def p_ref01_In (K : Nat) : Piece := { slots := [(0, (.v (.int .i64))), (1, (.v (.int .i64))), (2, (.v (.int .i64)))], objs := [], outs := [{ ex := .ret, slots := [(0, (.v .bool))], objs := [] }], asg := [], nt := 15, fn := fun x => ref01_In K x.1.1 x.1.2.1 x.1.2.2.1 }
theorem s_ref01_In (K : Nat) (hB : Base Try.prog tabs (fs_law21_light K)) : FnSound Try.prog 37 (p_ref01_In K) :=
  fun_thm hB (o_ref01_In_0 K) Try.func37 (body := b_ref01_In) rfl (p_ref01_In K) (rs := [.tmp 6]) rfl (Nat.le_of_ble_eq_true (by kernel_rfl)) (fun x => by kernel_rfl)
noncomputable def fs_ref01_In (K : Nat) : List (Nat × Piece) := (37, p_ref01_In K) :: fs_law21_light K
theorem base_ref01_In (K : Nat) : Base Try.prog tabs (fs_ref01_In K) := ⟨(base_law21_light K).mixed, (base_law21_light K).tabs, FnsOk.cons (s_ref01_In K (base_law21_light K)) (by kernel_rfl) (base_law21_light K).fns⟩
/-! "selfstab/selfstabref01.All" -/
noncomputable def b_ref01_All : Code := codeOf Try.f19
noncomputable def c_ref01_All_0 (K : Nat) : List (Nat × Piece) := []
theorem o_ref01_All_0 (K : Nat) : PcsOk Try.prog b_ref01_All (c_ref01_All_0 K) := PcsOk.nil
def ref01_All_58 (K : Nat) : (k : Nat) → (x0 : Int) → (x3 : Int) → (x4 : Int) → Option ((Int × Unit) × Unit)
  | 0, _, _, _ => none
  | k + 1, x0, x3, x4 =>
    if decide (x4 < x0) then
      if decide (x4 < 32) then
        if decide ((IntKind.u64.wrap (x4)) < 0) then
          none
        else
          ref01_All_58 K k x0 (ior .u32 x3 (ishl .u32 1 (IntKind.u64.wrap (x4)))) (IntKind.i64.wrap (x4 + 1))
      else
        some ((x3, ()), ())
    else
      some ((x3, ()), ())
@[reducible] def p_ref01_All_58 (K k : Nat) : Piece := { slots := [(0, (.v (.int .i64))), (3, (.v (.int .u32))), (4, (.v (.int .i64)))], objs := [], outs := [{ ex := (.exit 0), slots := [(3, (.v (.int .u32)))], objs := [] }], asg := [3, 4, 5, 6, 7, 8, 9, 10, 11, 12, 13, 14, 15, 16, 17, 18], nt := 20, fn := fun x => ref01_All_58 K k x.1.1 x.1.2.1 x.1.2.2.1 }
theorem k_ref01_All_58 (K : Nat) (hB : Base Try.prog tabs (fs_ref01_In K)) : PcOk Try.prog (codeAt b_ref01_All 58) (p_ref01_All_58 K K) :=
  loop_thm hB (o_ref01_All_0 K) 58 (p_ref01_All_58 K 0) (l := fun k x => ref01_All_58 K k x.1.1 x.1.2.1 x.1.2.2.1) (c := codeAt b_ref01_All 116) (by kernel_rfl) (by kernel_rfl) (by kernel_rfl) (by kernel_rfl) (fun x => by kernel_rfl) (fun k x => by kernel_rfl) K
noncomputable def c_ref01_All_58 (K : Nat) : List (Nat × Piece) := (58, p_ref01_All_58 K K) :: c_ref01_All_0 K
theorem o_ref01_All_58 (K : Nat) (hB : Base Try.prog tabs (fs_ref01_In K)) : PcsOk Try.prog b_ref01_All (c_ref01_All_58 K) := PcsOk.cons (k_ref01_All_58 K hB) (o_ref01_All_0 K)
def ref01_All (K : Nat) (x0 : Int) : Option ((Int × Unit) × Unit) :=
  (ref01_All_58 K K x0 0 0).bind fun y2 =>
    some ((y2.1.1, ()), ())
@[reducible] def p_ref01_All (K : Nat) : Piece := { slots := [(0, (.v (.int .i64)))], objs := [], outs := [{ ex := .ret, slots := [(0, (.v (.int .u32)))], objs := [] }], asg := [], nt := 20, fn := fun x => ref01_All K x.1.1 }
theorem s_ref01_All (K : Nat) (hB : Base Try.prog tabs (fs_ref01_In K)) : FnSound Try.prog 19 (p_ref01_All K) :=
  fun_thm hB (o_ref01_All_58 K hB) Try.func19 (body := b_ref01_All) rfl (p_ref01_All K) (rs := [.tmp 2]) rfl (Nat.le_of_ble_eq_true (by kernel_rfl)) (fun x => by kernel_rfl)
noncomputable def fs_ref01_All (K : Nat) : List (Nat × Piece) := (19, p_ref01_All K) :: fs_ref01_In K
theorem base_ref01_All (K : Nat) : Base Try.prog tabs (fs_ref01_All K) := ⟨(base_ref01_In K).mixed, (base_ref01_In K).tabs, FnsOk.cons (s_ref01_All K (base_ref01_In K)) (by kernel_rfl) (base_ref01_In K).fns⟩
/-! "selfstab/selfstabref18.arcs" -/
noncomputable def b_ref18_arcs : Code := codeOf Try.f38
noncomputable def c_ref18_arcs_0 (K : Nat) : List (Nat × Piece) := []
theorem o_ref18_arcs_0 (K : Nat) : PcsOk Try.prog b_ref18_arcs (c_ref18_arcs_0 K) := PcsOk.nil
def ref18_arcs_1865 (K : Nat) (x64 : Bool) : Option ((Unit × Unit) ⊕ ((Bool × Unit) × Unit)) :=
  if x64 then
    some (.inr ((false, ()), ()))
  else
    some (.inl ((), ()))
@[reducible] def p_ref18_arcs_1865 (K : Nat) : Piece := { slots := [(64, (.v .bool))], objs := [], outs := [{ ex := .normal, slots := [], objs := [] }, { ex := .ret, slots := [(6, (.v .bool))], objs := [] }], asg := [6], nt := 65, fn := fun x => ref18_arcs_1865 K x.1.1 }
theorem k_ref18_arcs_1865 (K : Nat) (hB : Base Try.prog tabs (fs_ref01_All K)) : PcOk Try.prog (codeAt b_ref18_arcs 1865) (p_ref18_arcs_1865 K) :=
  seg_thm hB (o_ref18_arcs_0 K) 1865 (p_ref18_arcs_1865 K) (by kernel_rfl) (by kernel_rfl) (by kernel_rfl) (fun x => by kernel_rfl)
noncomputable def c_ref18_arcs_1865 (K : Nat) : List (Nat × Piece) := (1865, p_ref18_arcs_1865 K) :: c_ref18_arcs_0 K
theorem o_ref18_arcs_1865 (K : Nat) (hB : Base Try.prog tabs (fs_ref01_All K)) : PcsOk Try.prog b_ref18_arcs (c_ref18_arcs_1865 K) := PcsOk.cons (k_ref18_arcs_1865 K hB) (o_ref18_arcs_0 K)
def ref18_arcs_467 (K : Nat) (x7 : Int) : Option ((Int × Unit) × Unit) :=
  some ((IntKind.i64.wrap (x7 + 1), ()), ())
@[reducible] def p_ref18_arcs_467 (K : Nat) : Piece := { slots := [(7, (.v (.int .i64)))], objs := [], outs := [{ ex := .normal, slots := [(7, (.v (.int .i64)))], objs := [] }], asg := [7, 18, 19], nt := 65, fn := fun x => ref18_arcs_467 K x.1.1 }
theorem k_ref18_arcs_467 (K : Nat) (hB : Base Try.prog tabs (fs_ref01_All K)) : PcOk Try.prog (codeAt b_ref18_arcs 467) (p_ref18_arcs_467 K) :=
  seg_thm hB (o_ref18_arcs_1865 K hB) 467 (p_ref18_arcs_467 K) (by kernel_rfl) (by kernel_rfl) (by kernel_rfl) (fun x => by kernel_rfl)
noncomputable def c_ref18_arcs_467 (K : Nat) : List (Nat × Piece) := (467, p_ref18_arcs_467 K) :: c_ref18_arcs_1865 K
theorem o_ref18_arcs_467 (K : Nat) (hB : Base Try.prog tabs (fs_ref01_All K)) : PcsOk Try.prog b_ref18_arcs (c_ref18_arcs_467 K) := PcsOk.cons (k_ref18_arcs_467 K hB) (o_ref18_arcs_1865 K hB)
def ref18_arcs_58 (K : Nat) : (k : Nat) → (x0 : (List (Int × (Int × Unit)))) → (x1 : Int) → (x2 : Int) → (x7 : Int) → Option ((Unit × Unit) ⊕ ((Bool × Unit) × Unit))
  | 0, _, _, _, _ => none
  | k + 1, x0, x1, x2, x7 =>
    if decide (x7 < (x0.length : Int)) then
      if decide (0 ≤ x7 ∧ x7 < (x0.length : Int)) then
        if decide (((x0.getD x7.toNat (0, (0, ()))).1) = 0) then
          (ref18_arcs_1865 K true).bind fun y1 =>
            match y1 with
            | .inl y2 =>
              (ref18_arcs_467 K x7).bind fun y4 =>
                ref18_arcs_58 K k x0 x1 x2 y4.1.1
            | .inr y3 =>
              some (.inr ((y3.1.1, ()), ()))
        else
          if decide (0 ≤ x7 ∧ x7 < (x0.length : Int)) then
            if !decide ((iandNot .u32 ((x0.getD x7.toNat (0, (0, ()))).1) x1) = 0) then
              (ref18_arcs_1865 K true).bind fun y5 =>
                match y5 with
                | .inl y6 =>
                  (ref18_arcs_467 K x7).bind fun y8 =>
                    ref18_arcs_58 K k x0 x1 x2 y8.1.1
                | .inr y7 =>
                  some (.inr ((y7.1.1, ()), ()))
            else
              if decide (0 < x7) then
                if decide (0 ≤ x7 ∧ x7 < (x0.length : Int)) then
                  if decide (0 ≤ IntKind.i64.wrap (x7 - 1) ∧ IntKind.i64.wrap (x7 - 1) < (x0.length : Int)) then
                    if decide (((x0.getD x7.toNat (0, (0, ()))).1) ≤ ((x0.getD ((IntKind.i64.wrap (x7 - 1)).toNat) (0, (0, ()))).1)) then
                      (ref18_arcs_1865 K true).bind fun y9 =>
                        match y9 with
                        | .inl y10 =>
                          (ref18_arcs_467 K x7).bind fun y12 =>
                            ref18_arcs_58 K k x0 x1 x2 y12.1.1
                        | .inr y11 =>
                          some (.inr ((y11.1.1, ()), ()))
                    else
                      if decide (0 ≤ x7 ∧ x7 < (x0.length : Int)) then
                        (ref01_In K (((x0.getD x7.toNat (0, (0, ()))).2).1) 0 (IntKind.i64.wrap (x2 - 1))).bind fun y13 =>
                          (ref18_arcs_1865 K (!y13.1.1)).bind fun y14 =>
                            match y14 with
                            | .inl y15 =>
                              (ref18_arcs_467 K x7).bind fun y17 =>
                                ref18_arcs_58 K k x0 x1 x2 y17.1.1
                            | .inr y16 =>
                              some (.inr ((y16.1.1, ()), ()))
                      else
                        none
                  else
                    none
                else
                  none
              else
                if decide (0 ≤ x7 ∧ x7 < (x0.length : Int)) then
                  (ref01_In K (((x0.getD x7.toNat (0, (0, ()))).2).1) 0 (IntKind.i64.wrap (x2 - 1))).bind fun y18 =>
                    (ref18_arcs_1865 K (!y18.1.1)).bind fun y19 =>
                      match y19 with
                      | .inl y20 =>
                        (ref18_arcs_467 K x7).bind fun y22 =>
                          ref18_arcs_58 K k x0 x1 x2 y22.1.1
                      | .inr y21 =>
                        some (.inr ((y21.1.1, ()), ()))
                else
                  none
          else
            none
      else
        none
    else
      some (.inl ((), ()))
@[reducible] def p_ref18_arcs_58 (K k : Nat) : Piece := { slots := [(0, (.v (.slice (.pair (.int .u32) (.pair (.int .i64) .unit))))), (1, (.v (.int .u32))), (2, (.v (.int .i64))), (7, (.v (.int .i64)))], objs := [], outs := [{ ex := (.exit 0), slots := [], objs := [] }, { ex := .ret, slots := [(6, (.v .bool))], objs := [] }], asg := [6, 7, 14, 15, 16, 17, 18, 19, 20, 21, 22, 23, 24, 25, 26, 27, 28, 29, 30, 31, 32, 33, 34, 35, 36, 37, 38, 39, 40, 41, 42, 43, 44, 45, 46, 47, 48, 49, 50, 51, 52, 53, 54, 55, 56, 57, 58, 59, 60, 61, 62, 63, 64], nt := 65, fn := fun x => ref18_arcs_58 K k x.1.1 x.1.2.1 x.1.2.2.1 x.1.2.2.2.1 }
theorem k_ref18_arcs_58 (K : Nat) (hB : Base Try.prog tabs (fs_ref01_All K)) : PcOk Try.prog (codeAt b_ref18_arcs 58) (p_ref18_arcs_58 K K) :=
  loop_thm hB (o_ref18_arcs_467 K hB) 58 (p_ref18_arcs_58 K 0) (l := fun k x => ref18_arcs_58 K k x.1.1 x.1.2.1 x.1.2.2.1 x.1.2.2.2.1) (c := codeAt b_ref18_arcs 116) (by kernel_rfl) (by kernel_rfl) (by kernel_rfl) (by kernel_rfl) (fun x => by kernel_rfl) (fun k x => by kernel_rfl) K
noncomputable def c_ref18_arcs_58 (K : Nat) : List (Nat × Piece) := (58, p_ref18_arcs_58 K K) :: c_ref18_arcs_467 K
theorem o_ref18_arcs_58 (K : Nat) (hB : Base Try.prog tabs (fs_ref01_All K)) : PcsOk Try.prog b_ref18_arcs (c_ref18_arcs_58 K) := PcsOk.cons (k_ref18_arcs_58 K hB) (o_ref18_arcs_467 K hB)
def ref18_arcs (K : Nat) (x0 : (List (Int × (Int × Unit)))) (x1 : Int) (x2 : Int) : Option ((Bool × Unit) × Unit) :=
  if !(GTy.beq .bool (decide (0 < (x0.length : Int))) (!decide (x1 = 0))) then
    some ((false, ()), ())
  else
    (ref18_arcs_58 K K x0 x1 x2 0).bind fun y4 =>
      match y4 with
      | .inl y5 =>
        some ((true, ()), ())
      | .inr y6 =>
        some ((y6.1.1, ()), ())
@[reducible] def p_ref18_arcs (K : Nat) : Piece := { slots := [(0, (.v (.slice (.pair (.int .u32) (.pair (.int .i64) .unit))))), (1, (.v (.int .u32))), (2, (.v (.int .i64)))], objs := [], outs := [{ ex := .ret, slots := [(0, (.v .bool))], objs := [] }], asg := [], nt := 65, fn := fun x => ref18_arcs K x.1.1 x.1.2.1 x.1.2.2.1 }
theorem s_ref18_arcs (K : Nat) (hB : Base Try.prog tabs (fs_ref01_All K)) : FnSound Try.prog 38 (p_ref18_arcs K) :=
  fun_thm hB (o_ref18_arcs_58 K hB) Try.func38 (body := b_ref18_arcs) rfl (p_ref18_arcs K) (rs := [.tmp 6]) rfl (Nat.le_of_ble_eq_true (by kernel_rfl)) (fun x => by kernel_rfl)
noncomputable def fs_ref18_arcs (K : Nat) : List (Nat × Piece) := (38, p_ref18_arcs K) :: fs_ref01_All K
theorem base_ref18_arcs (K : Nat) : Base Try.prog tabs (fs_ref18_arcs K) := ⟨(base_ref01_All K).mixed, (base_ref01_All K).tabs, FnsOk.cons (s_ref18_arcs K (base_ref01_All K)) (by kernel_rfl) (base_ref01_All K).fns⟩
/-! "selfstab/selfstabref18.Valid" -/
noncomputable def b_ref18_Valid : Code := codeOf Try.f32
noncomputable def c_ref18_Valid_0 (K : Nat) : List (Nat × Piece) := []
theorem o_ref18_Valid_0 (K : Nat) : PcsOk Try.prog b_ref18_Valid (c_ref18_Valid_0 K) := PcsOk.nil
def ref18_Valid_250 (K : Nat) : (k : Nat) → (x3 : Int) → (x4 : Int) → (x5 : Int) → (o0 : ((List Int) × ((List (List (Int × (Int × Unit)))) × Unit))) → Option ((Unit × Unit) ⊕ ((Bool × Unit) × Unit))
  | 0, _, _, _, _ => none
  | k + 1, x3, x4, x5, o0 =>
    if decide (x5 < x3) then
      if decide (0 ≤ x5 ∧ x5 < (o0.2.1.length : Int)) then
        if decide (262144 < (IntKind.i64.wrap (x4 + ((o0.2.1.getD x5.toNat []).length : Int)))) then
          some (.inr ((false, ()), ()))
        else
          if decide (0 ≤ x5 ∧ x5 < (o0.1.length : Int)) then
            (ref01_All K 24).bind fun y7 =>
              if !decide ((iandNot .u32 (o0.1.getD x5.toNat 0) y7.1.1) = 0) then
                some (.inr ((false, ()), ()))
              else
                if decide (0 ≤ x5 ∧ x5 < (o0.2.1.length : Int)) then
                  if decide (0 ≤ x5 ∧ x5 < (o0.1.length : Int)) then
                    (ref18_arcs K (o0.2.1.getD x5.toNat []) (o0.1.getD x5.toNat 0) x3).bind fun y8 =>
                      if !y8.1.1 then
                        some (.inr ((false, ()), ()))
                      else
                        ref18_Valid_250 K k x3 (IntKind.i64.wrap (x4 + ((o0.2.1.getD x5.toNat []).length : Int))) (IntKind.i64.wrap (x5 + 1)) o0
                  else
                    none
                else
                  none
          else
            none
      else
        none
    else
      some (.inl ((), ()))
@[reducible] def p_ref18_Valid_250 (K k : Nat) : Piece := { slots := [(1, (.ref 0 (.pair (.slice (.int .u32)) (.pair (.slice (.slice (.pair (.int .u32) (.pair (.int .i64) .unit)))) .unit)))), (3, (.v (.int .i64))), (4, (.v (.int .i64))), (5, (.v (.int .i64)))], objs := [(.box (.pair (.slice (.int .u32)) (.pair (.slice (.slice (.pair (.int .u32) (.pair (.int .i64) .unit)))) .unit)) (.v (.pair (.slice (.int .u32)) (.pair (.slice (.slice (.pair (.int .u32) (.pair (.int .i64) .unit)))) .unit))))], outs := [{ ex := (.exit 0), slots := [], objs := [] }, { ex := .ret, slots := [(2, (.v .bool))], objs := [] }], asg := [2, 4, 5, 19, 20, 21, 22, 23, 24, 25, 26, 27, 28, 29, 30, 31, 32, 33, 34, 35, 36, 37, 38, 39, 40, 41, 42, 43, 44, 45, 46, 47, 48, 49, 50, 51, 52, 53, 54, 55, 56, 57, 58], nt := 59, fn := fun x => ref18_Valid_250 K k x.1.2.1 x.1.2.2.1 x.1.2.2.2.1 x.2.1 }
theorem k_ref18_Valid_250 (K : Nat) (hB : Base Try.prog tabs (fs_ref18_arcs K)) : PcOk Try.prog (codeAt b_ref18_Valid 250) (p_ref18_Valid_250 K K) :=
  loop_thm hB (o_ref18_Valid_0 K) 250 (p_ref18_Valid_250 K 0) (l := fun k x => ref18_Valid_250 K k x.1.2.1 x.1.2.2.1 x.1.2.2.2.1 x.2.1) (c := codeAt b_ref18_Valid 500) (by kernel_rfl) (by kernel_rfl) (by kernel_rfl) (by kernel_rfl) (fun x => by kernel_rfl) (fun k x => by kernel_rfl) K
noncomputable def c_ref18_Valid_250 (K : Nat) : List (Nat × Piece) := (250, p_ref18_Valid_250 K K) :: c_ref18_Valid_0 K
theorem o_ref18_Valid_250 (K : Nat) (hB : Base Try.prog tabs (fs_ref18_arcs K)) : PcsOk Try.prog b_ref18_Valid (c_ref18_Valid_250 K) := PcsOk.cons (k_ref18_Valid_250 K hB) (o_ref18_Valid_0 K)
def ref18_Valid (K : Nat) (x0 : ((List Int) × ((List (List (Int × (Int × Unit)))) × Unit))) : Option ((Bool × Unit) × Unit) :=
  (ref01_In K (x0.1.length : Int) 1 32768).bind fun y4 =>
    if !y4.1.1 then
      some ((false, ()), ())
    else
      if !decide ((x0.2.1.length : Int) = (x0.1.length : Int)) then
        some ((false, ()), ())
      else
        (ref18_Valid_250 K K (x0.1.length : Int) 0 0 x0).bind fun y8 =>
          match y8 with
          | .inl y9 =>
            some ((true, ()), ())
          | .inr y10 =>
            some ((y10.1.1, ()), ())
@[reducible] def p_ref18_Valid (K : Nat) : Piece := { slots := [(0, (.v (.pair (.slice (.int .u32)) (.pair (.slice (.slice (.pair (.int .u32) (.pair (.int .i64) .unit)))) .unit))))], objs := [], outs := [{ ex := .ret, slots := [(0, (.v .bool))], objs := [] }], asg := [], nt := 59, fn := fun x => ref18_Valid K x.1.1 }
theorem s_ref18_Valid (K : Nat) (hB : Base Try.prog tabs (fs_ref18_arcs K)) : FnSound Try.prog 32 (p_ref18_Valid K) :=
  fun_thm hB (o_ref18_Valid_250 K hB) Try.func32 (body := b_ref18_Valid) rfl (p_ref18_Valid K) (rs := [.tmp 2]) rfl (Nat.le_of_ble_eq_true (by kernel_rfl)) (fun x => by kernel_rfl)
noncomputable def fs_ref18_Valid (K : Nat) : List (Nat × Piece) := (32, p_ref18_Valid K) :: fs_ref18_arcs K
theorem base_ref18_Valid (K : Nat) : Base Try.prog tabs (fs_ref18_Valid K) := ⟨(base_ref18_arcs K).mixed, (base_ref18_arcs K).tabs, FnsOk.cons (s_ref18_Valid K (base_ref18_arcs K)) (by kernel_rfl) (base_ref18_arcs K).fns⟩
/-! "selfstab/selfstablaw21.fair" -/
noncomputable def b_law21_fair : Code := codeOf Try.f15
noncomputable def c_law21_fair_0 (K : Nat) : List (Nat × Piece) := []
theorem o_law21_fair_0 (K : Nat) : PcsOk Try.prog b_law21_fair (c_law21_fair_0 K) := PcsOk.nil
def law21_fair (K : Nat) (x0 : ((List Int) × ((List (List (Int × (Int × Unit)))) × Unit))) (x1 : (List Bool)) : Option ((Bool × Unit) × Unit) :=
  (law21_light K x0 x1).bind fun y1 =>
    if y1.1.1 then
      (ref18_Valid K x0).bind fun y2 =>
        if y2.1.1 then
          some ((decide ((x1.length : Int) = (x0.1.length : Int)), ()), ())
        else
          some ((false, ()), ())
    else
      some ((false, ()), ())
@[reducible] def p_law21_fair (K : Nat) : Piece := { slots := [(0, (.v (.pair (.slice (.int .u32)) (.pair (.slice (.slice (.pair (.int .u32) (.pair (.int .i64) .unit)))) .unit)))), (1, (.v (.slice .bool)))], objs := [], outs := [{ ex := .ret, slots := [(0, (.v .bool))], objs := [] }], asg := [], nt := 20, fn := fun x => law21_fair K x.1.1 x.1.2.1 }
theorem s_law21_fair (K : Nat) (hB : Base Try.prog tabs (fs_ref18_Valid K)) : FnSound Try.prog 15 (p_law21_fair K) :=
  fun_thm hB (o_law21_fair_0 K) Try.func15 (body := b_law21_fair) rfl (p_law21_fair K) (rs := [.tmp 4]) rfl (Nat.le_of_ble_eq_true (by kernel_rfl)) (fun x => by kernel_rfl)
noncomputable def fs_law21_fair (K : Nat) : List (Nat × Piece) := (15, p_law21_fair K) :: fs_ref18_Valid K
theorem base_law21_fair (K : Nat) : Base Try.prog tabs (fs_law21_fair K) := ⟨(base_ref18_Valid K).mixed, (base_ref18_Valid K).tabs, FnsOk.cons (s_law21_fair K (base_ref18_Valid K)) (by kernel_rfl) (base_ref18_Valid K).fns⟩
/-! "selfstab/selfstablaw21.example" -/
noncomputable def b_law21_example : Code := codeOf Try.f24
noncomputable def c_law21_example_0 (K : Nat) : List (Nat × Piece) := []
theorem o_law21_example_0 (K : Nat) : PcsOk Try.prog b_law21_example (c_law21_example_0 K) := PcsOk.nil
def law21_example (K : Nat) : Option (((Unit × (Unit × Unit)) × Unit) × ((List Int) × ((List (List (Int × (Int × Unit)))) × Unit))) :=
  some ((((), ((), ())), ()), ([0, 3], ([[], [(1, (1, ())), (2, (0, ()))]], ())))
@[reducible] def p_law21_example (K : Nat) : Piece := { slots := [], objs := [], outs := [{ ex := .ret, slots := [(0, (.cons (.href 0) (.cons (.href 1) (.v .unit))))], objs := [(none, (.row (.int .u32))), (none, (.row2 (.pair (.int .u32) (.pair (.int .i64) .unit))))] }], asg := [], nt := 7, fn := fun x => law21_example K }
theorem s_law21_example (K : Nat) (hB : Base Try.prog tabs (fs_law21_fair K)) : FnSound Try.prog 24 (p_law21_example K) :=
  fun_thm hB (o_law21_example_0 K) Try.func24 (body := b_law21_example) rfl (p_law21_example K) (rs := [.cell 0 25]) rfl (Nat.le_of_ble_eq_true (by kernel_rfl)) (fun x => by kernel_rfl)
noncomputable def fs_law21_example (K : Nat) : List (Nat × Piece) := (24, p_law21_example K) :: fs_law21_fair K
theorem base_law21_example (K : Nat) : Base Try.prog tabs (fs_law21_example K) := ⟨(base_law21_fair K).mixed, (base_law21_fair K).tabs, FnsOk.cons (s_law21_example K (base_law21_fair K)) (by kernel_rfl) (base_law21_fair K).fns⟩
/-! "selfstab/space.state" -/
noncomputable def b_space_state : Code := codeOf Try.f39
noncomputable def c_space_state_0 (K : Nat) : List (Nat × Piece) := []
theorem o_space_state_0 (K : Nat) : PcsOk Try.prog b_space_state (c_space_state_0 K) := PcsOk.nil
def space_state_58 (K : Nat) : (k : Nat) → (x0 : Int) → (x2 : Int) → (x7 : Int) → (x10 : (List (Int × (Int × Unit)))) → (x11 : Int) → (x12 : Int) → Option ((Unit × Unit) ⊕ ((Bool × Unit) × Unit))
  | 0, _, _, _, _, _, _ => none
  | k + 1, x0, x2, x7, x10, x11, x12 =>
    if decide (x12 < x11) then
      if decide (0 ≤ x12 ∧ x12 < (x10.length : Int)) then
        if decide (((x10.getD x12.toNat (0, (0, ()))).1) ≤ x7) then
          some (.inr ((false, ()), ()))
        else
          if !decide ((iandNot .u32 ((x10.getD x12.toNat (0, (0, ()))).1) x0) = 0) then
            some (.inr ((false, ()), ()))
          else
            if decide ((((x10.getD x12.toNat (0, (0, ()))).2).1) < 0) then
              some (.inr ((false, ()), ()))
            else
              if decide (x2 ≤ (((x10.getD x12.toNat (0, (0, ()))).2).1)) then
                some (.inr ((false, ()), ()))
              else
                space_state_58 K k x0 x2 ((x10.getD x12.toNat (0, (0, ()))).1) x10 x11 (IntKind.i64.wrap (x12 + 1))
      else
        none
    else
      some (.inl ((), ()))
@[reducible] def p_space_state_58 (K k : Nat) : Piece := { slots := [(0, (.v (.int .u32))), (2, (.v (.int .i64))), (7, (.v (.int .u32))), (10, (.v (.slice (.pair (.int .u32) (.pair (.int .i64) .unit))))), (11, (.v (.int .i64))), (12, (.v (.int .i64)))], objs := [], outs := [{ ex := (.exit 0), slots := [], objs := [] }, { ex := .ret, slots := [(6, (.v .bool))], objs := [] }], asg := [6, 7, 9, 12, 13, 14, 15, 16, 17, 18, 19, 20, 21, 22, 23, 24, 25, 26, 27, 28, 29, 30, 31, 32, 33, 34, 35, 36, 37, 38, 39, 40], nt := 52, fn := fun x => space_state_58 K k x.1.1 x.1.2.1 x.1.2.2.1 x.1.2.2.2.1 x.1.2.2.2.2.1 x.1.2.2.2.2.2.1 }
theorem k_space_state_58 (K : Nat) (hB : Base Try.prog tabs (fs_law21_example K)) : PcOk Try.prog (codeAt b_space_state 58) (p_space_state_58 K K) :=
  loop_thm hB (o_space_state_0 K) 58 (p_space_state_58 K 0) (l := fun k x => space_state_58 K k x.1.1 x.1.2.1 x.1.2.2.1 x.1.2.2.2.1 x.1.2.2.2.2.1 x.1.2.2.2.2.2.1) (c := codeAt b_space_state 116) (by kernel_rfl) (by kernel_rfl) (by kernel_rfl) (by kernel_rfl) (fun x => by kernel_rfl) (fun k x => by kernel_rfl) K
noncomputable def c_space_state_58 (K : Nat) : List (Nat × Piece) := (58, p_space_state_58 K K) :: c_space_state_0 K
theorem o_space_state_58 (K : Nat) (hB : Base Try.prog tabs (fs_law21_example K)) : PcsOk Try.prog b_space_state (c_space_state_58 K) := PcsOk.cons (k_space_state_58 K hB) (o_space_state_0 K)
def space_state (K : Nat) (x0 : Int) (x1 : (List (Int × (Int × Unit)))) (x2 : Int) : Option ((Bool × Unit) × Unit) :=
  (space_state_58 K K x0 x2 0 x1 (x1.length : Int) 0).bind fun y4 =>
    match y4 with
    | .inl y5 =>
      if decide ((ishr .u32 x0 24) = 0) then
        some ((GTy.beq .bool (decide (0 < (x1.length : Int))) (!decide (x0 = 0)), ()), ())
      else
        some ((false, ()), ())
    | .inr y6 =>
      some ((y6.1.1, ()), ())
@[reducible] def p_space_state (K : Nat) : Piece := { slots := [(0, (.v (.int .u32))), (1, (.v (.slice (.pair (.int .u32) (.pair (.int .i64) .unit))))), (2, (.v (.int .i64)))], objs := [], outs := [{ ex := .ret, slots := [(0, (.v .bool))], objs := [] }], asg := [], nt := 52, fn := fun x => space_state K x.1.1 x.1.2.1 x.1.2.2.1 }
theorem s_space_state (K : Nat) (hB : Base Try.prog tabs (fs_law21_example K)) : FnSound Try.prog 39 (p_space_state K) :=
  fun_thm hB (o_space_state_58 K hB) Try.func39 (body := b_space_state) rfl (p_space_state K) (rs := [.tmp 6]) rfl (Nat.le_of_ble_eq_true (by kernel_rfl)) (fun x => by kernel_rfl)
noncomputable def fs_space_state (K : Nat) : List (Nat × Piece) := (39, p_space_state K) :: fs_law21_example K
theorem base_space_state (K : Nat) : Base Try.prog tabs (fs_space_state K) := ⟨(base_law21_example K).mixed, (base_law21_example K).tabs, FnsOk.cons (s_space_state K (base_law21_example K)) (by kernel_rfl) (base_law21_example K).fns⟩
/-! "selfstab/space.Valid" -/
noncomputable def b_space_Valid : Code := codeOf Try.f34
noncomputable def c_space_Valid_0 (K : Nat) : List (Nat × Piece) := []
theorem o_space_Valid_0 (K : Nat) : PcsOk Try.prog b_space_Valid (c_space_Valid_0 K) := PcsOk.nil
def space_Valid_122 (K : Nat) : (k : Nat) → (x3 : Int) → (x4 : Int) → (x24 : (List (List (Int × (Int × Unit))))) → (x25 : Int) → (x26 : Int) → (o0 : ((List Int) × ((List (List (Int × (Int × Unit)))) × Unit))) → Option ((Unit × Unit) ⊕ ((Bool × Unit) × Unit))
  | 0, _, _, _, _, _, _ => none
  | k + 1, x3, x4, x24, x25, x26, o0 =>
    if decide (x26 < x25) then
      if decide (0 ≤ x26 ∧ x26 < (x24.length : Int)) then
        if decide (262144 < (IntKind.i64.wrap (x4 + ((x24.getD x26.toNat []).length : Int)))) then
          some (.inr ((false, ()), ()))
        else
          if decide (0 ≤ x26 ∧ x26 < (o0.1.length : Int)) then
            (space_state K (o0.1.getD x26.toNat 0) (x24.getD x26.toNat []) x3).bind fun y4 =>
              if !y4.1.1 then
                some (.inr ((false, ()), ()))
              else
                space_Valid_122 K k x3 (IntKind.i64.wrap (x4 + ((x24.getD x26.toNat []).length : Int))) x24 x25 (IntKind.i64.wrap (x26 + 1)) o0
          else
            none
      else
        none
    else
      some (.inl ((), ()))
@[reducible] def p_space_Valid_122 (K k : Nat) : Piece := { slots := [(1, (.ref 0 (.pair (.slice (.int .u32)) (.pair (.slice (.slice (.pair (.int .u32) (.pair (.int .i64) .unit)))) .unit)))), (3, (.v (.int .i64))), (4, (.v (.int .i64))), (24, (.v (.slice (.slice (.pair (.int .u32) (.pair (.int .i64) .unit)))))), (25, (.v (.int .i64))), (26, (.v (.int .i64)))], objs := [(.box (.pair (.slice (.int .u32)) (.pair (.slice (.slice (.pair (.int .u32) (.pair (.int .i64) .unit)))) .unit)) (.v (.pair (.slice (.int .u32)) (.pair (.slice (.slice (.pair (.int .u32) (.pair (.int .i64) .unit)))) .unit))))], outs := [{ ex := (.exit 0), slots := [], objs := [] }, { ex := .ret, slots := [(2, (.v .bool))], objs := [] }], asg := [2, 4, 5, 6, 26, 27, 28, 29, 30, 31, 32, 33, 34, 35, 36, 37, 38, 39, 40, 41, 42, 43, 44, 45, 46, 47, 48], nt := 49, fn := fun x => space_Valid_122 K k x.1.2.1 x.1.2.2.1 x.1.2.2.2.1 x.1.2.2.2.2.1 x.1.2.2.2.2.2.1 x.2.1 }
theorem k_space_Valid_122 (K : Nat) (hB : Base Try.prog tabs (fs_space_state K)) : PcOk Try.prog (codeAt b_space_Valid 122) (p_space_Valid_122 K K) :=
  loop_thm hB (o_space_Valid_0 K) 122 (p_space_Valid_122 K 0) (l := fun k x => space_Valid_122 K k x.1.2.1 x.1.2.2.1 x.1.2.2.2.1 x.1.2.2.2.2.1 x.1.2.2.2.2.2.1 x.2.1) (c := codeAt b_space_Valid 244) (by kernel_rfl) (by kernel_rfl) (by kernel_rfl) (by kernel_rfl) (fun x => by kernel_rfl) (fun k x => by kernel_rfl) K
noncomputable def c_space_Valid_122 (K : Nat) : List (Nat × Piece) := (122, p_space_Valid_122 K K) :: c_space_Valid_0 K
theorem o_space_Valid_122 (K : Nat) (hB : Base Try.prog tabs (fs_space_state K)) : PcsOk Try.prog b_space_Valid (c_space_Valid_122 K) := PcsOk.cons (k_space_Valid_122 K hB) (o_space_Valid_0 K)
def space_Valid (K : Nat) (x0 : ((List Int) × ((List (List (Int × (Int × Unit)))) × Unit))) : Option ((Bool × Unit) × Unit) :=
  if decide ((x0.1.length : Int) < 1) then
    some ((false, ()), ())
  else
    if decide (32768 < (x0.1.length : Int)) then
      some ((false, ()), ())
    else
      if !decide ((x0.2.1.length : Int) = (x0.1.length : Int)) then
        some ((false, ()), ())
      else
        (space_Valid_122 K K (x0.1.length : Int) 0 x0.2.1 (x0.2.1.length : Int) 0 x0).bind fun y4 =>
          match y4 with
          | .inl y5 =>
            some ((true, ()), ())
          | .inr y6 =>
            some ((y6.1.1, ()), ())
@[reducible] def p_space_Valid (K : Nat) : Piece := { slots := [(0, (.v (.pair (.slice (.int .u32)) (.pair (.slice (.slice (.pair (.int .u32) (.pair (.int .i64) .unit)))) .unit))))], objs := [], outs := [{ ex := .ret, slots := [(0, (.v .bool))], objs := [] }], asg := [], nt := 49, fn := fun x => space_Valid K x.1.1 }
theorem s_space_Valid (K : Nat) (hB : Base Try.prog tabs (fs_space_state K)) : FnSound Try.prog 34 (p_space_Valid K) :=
  fun_thm hB (o_space_Valid_122 K hB) Try.func34 (body := b_space_Valid) rfl (p_space_Valid K) (rs := [.tmp 2]) rfl (Nat.le_of_ble_eq_true (by kernel_rfl)) (fun x => by kernel_rfl)
noncomputable def fs_space_Valid (K : Nat) : List (Nat × Piece) := (34, p_space_Valid K) :: fs_space_state K
theorem base_space_Valid (K : Nat) : Base Try.prog tabs (fs_space_Valid K) := ⟨(base_space_state K).mixed, (base_space_state K).tabs, FnsOk.cons (s_space_Valid K (base_space_state K)) (by kernel_rfl) (base_space_state K).fns⟩
/-! "selfstab/fairness.check" -/
noncomputable def b_fairness_check : Code := codeOf Try.f25
noncomputable def c_fairness_check_0 (K : Nat) : List (Nat × Piece) := []
theorem o_fairness_check_0 (K : Nat) : PcsOk Try.prog b_fairness_check (c_fairness_check_0 K) := PcsOk.nil
def fairness_check (K : Nat) (x0 : ((List Int) × ((List (List (Int × (Int × Unit)))) × Unit))) (x1 : (List Bool)) : Option ((Int × Unit) × Unit) :=
  (space_Valid K x0).bind fun y4 =>
    if !y4.1.1 then
      some ((13, ()), ())
    else
      if !decide ((x1.length : Int) = (x0.2.1.length : Int)) then
        some ((7, ()), ())
      else
        some ((0, ()), ())
@[reducible] def p_fairness_check (K : Nat) : Piece := { slots := [(0, (.v (.pair (.slice (.int .u32)) (.pair (.slice (.slice (.pair (.int .u32) (.pair (.int .i64) .unit)))) .unit)))), (1, (.v (.slice .bool)))], objs := [], outs := [{ ex := .ret, slots := [(0, (.v (.int .i64)))], objs := [] }], asg := [], nt := 14, fn := fun x => fairness_check K x.1.1 x.1.2.1 }
theorem s_fairness_check (K : Nat) (hB : Base Try.prog tabs (fs_space_Valid K)) : FnSound Try.prog 25 (p_fairness_check K) :=
  fun_thm hB (o_fairness_check_0 K) Try.func25 (body := b_fairness_check) rfl (p_fairness_check K) (rs := [.tmp 4]) rfl (Nat.le_of_ble_eq_true (by kernel_rfl)) (fun x => by kernel_rfl)
noncomputable def fs_fairness_check (K : Nat) : List (Nat × Piece) := (25, p_fairness_check K) :: fs_space_Valid K
theorem base_fairness_check (K : Nat) : Base Try.prog tabs (fs_fairness_check K) := ⟨(base_space_Valid K).mixed, (base_space_Valid K).tabs, FnsOk.cons (s_fairness_check K (base_space_Valid K)) (by kernel_rfl) (base_space_Valid K).fns⟩
/-! "(*selfstab/fairness.finder).visit" -/
noncomputable def b_fairness_finder_visit : Code := codeOf Try.f35
def fairness_finder_visit_122 (K : Nat) (r : Int → ((List Int) × ((List (List (Int × (Int × Unit)))) × Unit)) → (List Bool) → (Int × Unit) → (List Int) → (List Int) → (List Bool) → (List Int) → (List Int) → Option ((Unit × Unit) × ((((List Int) × ((List (List (Int × (Int × Unit)))) × Unit)) × ((List Bool) × (Unit × (Unit × (Unit × (Unit × (Unit × (Int × Unit)))))))) × ((List Int) × ((List Int) × ((List Bool) × ((List Int) × ((List Int) × Unit)))))))) : (k : Nat) → (x1 : Int) → (x58 : (List (Int × (Int × Unit)))) → (x59 : Int) → (x60 : Int) → (o0 : ((List Int) × ((List (List (Int × (Int × Unit)))) × Unit))) → (o0_1 : (List Bool)) → (o0_2 : (Int × Unit)) → (o1 : (List Int)) → (o2 : (List Int)) → (o3 : (List Bool)) → (o4 : (List Int)) → (o5 : (List Int)) → Option (Unit × ((((List Int) × ((List (List (Int × (Int × Unit)))) × Unit)) × ((List Bool) × (Unit × (Unit × (Unit × (Unit × (Unit × (Int × Unit)))))))) × ((List Int) × ((List Int) × ((List Bool) × ((List Int) × ((List Int) × Unit)))))))
  | 0, _, _, _, _, _, _, _, _, _, _, _, _ => none
  | k + 1, x1, x58, x59, x60, o0, o0_1, o0_2, o1, o2, o3, o4, o5 =>
    if decide (x60 < x59) then
      if decide (0 ≤ x60 ∧ x60 < (x58.length : Int)) then
        if decide (0 ≤ ((x58.getD x60.toNat (0, (0, ()))).2).1 ∧ ((x58.getD x60.toNat (0, (0, ()))).2).1 < (o0_1.length : Int)) then
          if o0_1.getD ((((x58.getD x60.toNat (0, (0, ()))).2).1).toNat) false then
            fairness_finder_visit_122 K r k x1 x58 x59 (IntKind.i64.wrap (x60 + 1)) o0 o0_1 o0_2 o1 o2 o3 o4 o5
          else
            if decide (0 ≤ ((x58.getD x60.toNat (0, (0, ()))).2).1 ∧ ((x58.getD x60.toNat (0, (0, ()))).2).1 < (o1.length : Int)) then
              if decide ((o1.getD ((((x58.getD x60.toNat (0, (0, ()))).2).1).toNat) 0) = 0) then
                (r (((x58.getD x60.toNat (0, (0, ()))).2).1) o0 o0_1 o0_2 o1 o2 o3 o4 o5).bind fun y4 =>
                  if decide (0 ≤ x1 ∧ x1 < (y4.2.2.2.1.length : Int)) then
                    if decide (0 ≤ ((x58.getD x60.toNat (0, (0, ()))).2).1 ∧ ((x58.getD x60.toNat (0, (0, ()))).2).1 < (y4.2.2.2.1.length : Int)) then
                      if decide (0 ≤ x1 ∧ x1 < (y4.2.2.2.1.length : Int)) then
                        fairness_finder_visit_122 K r k x1 x58 x59 (IntKind.i64.wrap (x60 + 1)) y4.2.1.1 y4.2.1.2.1 y4.2.1.2.2.2.2.2.2.2 y4.2.2.1 (y4.2.2.2.1.set x1.toNat (if y4.2.2.2.1.getD ((((x58.getD x60.toNat (0, (0, ()))).2).1).toNat) 0 < y4.2.2.2.1.getD x1.toNat 0 then y4.2.2.2.1.getD ((((x58.getD x60.toNat (0, (0, ()))).2).1).toNat) 0 else y4.2.2.2.1.getD x1.toNat 0)) y4.2.2.2.2.1 y4.2.2.2.2.2.1 y4.2.2.2.2.2.2.1
                      else
                        none
                    else
                      none
                  else
                    none
              else
                if decide (0 ≤ ((x58.getD x60.toNat (0, (0, ()))).2).1 ∧ ((x58.getD x60.toNat (0, (0, ()))).2).1 < (o3.length : Int)) then
                  if o3.getD ((((x58.getD x60.toNat (0, (0, ()))).2).1).toNat) false then
                    if decide (0 ≤ x1 ∧ x1 < (o2.length : Int)) then
                      if decide (0 ≤ ((x58.getD x60.toNat (0, (0, ()))).2).1 ∧ ((x58.getD x60.toNat (0, (0, ()))).2).1 < (o1.length : Int)) then
                        if decide (0 ≤ x1 ∧ x1 < (o2.length : Int)) then
                          fairness_finder_visit_122 K r k x1 x58 x59 (IntKind.i64.wrap (x60 + 1)) o0 o0_1 o0_2 o1 (o2.set x1.toNat (if o1.getD ((((x58.getD x60.toNat (0, (0, ()))).2).1).toNat) 0 < o2.getD x1.toNat 0 then o1.getD ((((x58.getD x60.toNat (0, (0, ()))).2).1).toNat) 0 else o2.getD x1.toNat 0)) o3 o4 o5
                        else
                          none
                      else
                        none
                    else
                      none
                  else
                    fairness_finder_visit_122 K r k x1 x58 x59 (IntKind.i64.wrap (x60 + 1)) o0 o0_1 o0_2 o1 o2 o3 o4 o5
                else
                  none
            else
              none
        else
          none
      else
        none
    else
      some ((), ((o0, (o0_1, ((), ((), ((), ((), ((), o0_2))))))), (o1, (o2, (o3, (o4, (o5, ())))))))
def fairness_finder_visit_126 (K : Nat) (r : Int → ((List Int) × ((List (List (Int × (Int × Unit)))) × Unit)) → (List Bool) → (Int × Unit) → (List Int) → (List Int) → (List Bool) → (List Int) → (List Int) → Option ((Unit × Unit) × ((((List Int) × ((List (List (Int × (Int × Unit)))) × Unit)) × ((List Bool) × (Unit × (Unit × (Unit × (Unit × (Unit × (Int × Unit)))))))) × ((List Int) × ((List Int) × ((List Bool) × ((List Int) × ((List Int) × Unit)))))))) : (k : Nat) → (x1 : Int) → (o0 : ((List Int) × ((List (List (Int × (Int × Unit)))) × Unit))) → (o0_1 : (List Bool)) → (o0_2 : (Int × Unit)) → (o1 : (List Int)) → (o2 : (List Int)) → (o3 : (List Bool)) → (o4 : (List Int)) → (o5 : (List Int)) → Option (Unit × ((((List Int) × ((List (List (Int × (Int × Unit)))) × Unit)) × ((List Bool) × (Unit × (Unit × (Unit × (Unit × (Unit × (Int × Unit)))))))) × ((List Int) × ((List Int) × ((List Bool) × ((List Int) × ((List Int) × Unit)))))))
  | 0, _, _, _, _, _, _, _, _, _ => none
  | k + 1, x1, o0, o0_1, o0_2, o1, o2, o3, o4, o5 =>
    if decide (0 ≤ IntKind.i64.wrap ((o4.length : Int) - 1) ∧ IntKind.i64.wrap ((o4.length : Int) - 1) < (o4.length : Int)) then
      if decide (0 ≤ IntKind.i64.wrap ((o4.length : Int) - 1) ∧ IntKind.i64.wrap ((o4.length : Int) - 1) ≤ (o4.length : Int)) then
        if decide (0 ≤ o4.getD ((IntKind.i64.wrap ((o4.length : Int) - 1)).toNat) 0 ∧ o4.getD ((IntKind.i64.wrap ((o4.length : Int) - 1)).toNat) 0 < (o3.length : Int)) then
          if decide (0 ≤ o4.getD ((IntKind.i64.wrap ((o4.length : Int) - 1)).toNat) 0 ∧ o4.getD ((IntKind.i64.wrap ((o4.length : Int) - 1)).toNat) 0 < (o5.length : Int)) then
            if decide ((o4.getD ((IntKind.i64.wrap ((o4.length : Int) - 1)).toNat) 0) = x1) then
              some ((), ((o0, (o0_1, ((), ((), ((), ((), ((), o0_2))))))), (o1, (o2, (o3.set ((o4.getD ((IntKind.i64.wrap ((o4.length : Int) - 1)).toNat) 0).toNat) false, (o4.take ((IntKind.i64.wrap ((o4.length : Int) - 1)).toNat), (o5.set ((o4.getD ((IntKind.i64.wrap ((o4.length : Int) - 1)).toNat) 0).toNat) x1, ())))))))
            else
              fairness_finder_visit_126 K r k x1 o0 o0_1 o0_2 o1 o2 (o3.set ((o4.getD ((IntKind.i64.wrap ((o4.length : Int) - 1)).toNat) 0).toNat) false) (o4.take ((IntKind.i64.wrap ((o4.length : Int) - 1)).toNat)) (o5.set ((o4.getD ((IntKind.i64.wrap ((o4.length : Int) - 1)).toNat) 0).toNat) x1)
          else
            none
        else
          none
      else
        none
    else
      none
def fairness_finder_visit_body (K : Nat) (r : Int → ((List Int) × ((List (List (Int × (Int × Unit)))) × Unit)) → (List Bool) → (Int × Unit) → (List Int) → (List Int) → (List Bool) → (List Int) → (List Int) → Option ((Unit × Unit) × ((((List Int) × ((List (List (Int × (Int × Unit)))) × Unit)) × ((List Bool) × (Unit × (Unit × (Unit × (Unit × (Unit × (Int × Unit)))))))) × ((List Int) × ((List Int) × ((List Bool) × ((List Int) × ((List Int) × Unit)))))))) (x1 : Int) (o0 : ((List Int) × ((List (List (Int × (Int × Unit)))) × Unit))) (o0_1 : (List Bool)) (o0_2 : (Int × Unit)) (o1 : (List Int)) (o2 : (List Int)) (o3 : (List Bool)) (o4 : (List Int)) (o5 : (List Int)) : Option ((Unit × Unit) × ((((List Int) × ((List (List (Int × (Int × Unit)))) × Unit)) × ((List Bool) × (Unit × (Unit × (Unit × (Unit × (Unit × (Int × Unit)))))))) × ((List Int) × ((List Int) × ((List Bool) × ((List Int) × ((List Int) × Unit))))))) :=
  if decide (0 ≤ x1 ∧ x1 < (o1.length : Int)) then
    if decide (0 ≤ x1 ∧ x1 < (o2.length : Int)) then
      if decide (o4.length + ([x1]).length ≤ 4294967296) then
        if decide (0 ≤ x1 ∧ x1 < (o3.length : Int)) then
          if decide (0 ≤ x1 ∧ x1 < (o0.2.1.length : Int)) then
            (fairness_finder_visit_122 K r K x1 (o0.2.1.getD x1.toNat []) ((o0.2.1.getD x1.toNat []).length : Int) 0 o0 o0_1 (IntKind.i64.wrap (o0_2.1 + 1), o0_2.2) (o1.set x1.toNat (IntKind.i64.wrap (o0_2.1 + 1))) (o2.set x1.toNat (IntKind.i64.wrap (o0_2.1 + 1))) (o3.set x1.toNat true) (o4 ++ [x1]) o5).bind fun y2 =>
              if decide (0 ≤ x1 ∧ x1 < (y2.2.2.2.1.length : Int)) then
                if decide (0 ≤ x1 ∧ x1 < (y2.2.2.1.length : Int)) then
                  if !decide ((y2.2.2.2.1.getD x1.toNat 0) = (y2.2.2.1.getD x1.toNat 0)) then
                    some (((), ()), ((y2.2.1.1, (y2.2.1.2.1, ((), ((), ((), ((), ((), y2.2.1.2.2.2.2.2.2.2))))))), (y2.2.2.1, (y2.2.2.2.1, (y2.2.2.2.2.1, (y2.2.2.2.2.2.1, (y2.2.2.2.2.2.2.1, ())))))))
                  else
                    (fairness_finder_visit_126 K r K x1 y2.2.1.1 y2.2.1.2.1 y2.2.1.2.2.2.2.2.2.2 y2.2.2.1 y2.2.2.2.1 y2.2.2.2.2.1 y2.2.2.2.2.2.1 y2.2.2.2.2.2.2.1).bind fun y3 =>
                      some (((), ()), ((y3.2.1.1, (y3.2.1.2.1, ((), ((), ((), ((), ((), y3.2.1.2.2.2.2.2.2.2))))))), (y3.2.2.1, (y3.2.2.2.1, (y3.2.2.2.2.1, (y3.2.2.2.2.2.1, (y3.2.2.2.2.2.2.1, ())))))))
                else
                  none
              else
                none
          else
            none
        else
          none
      else
        none
    else
      none
  else
    none
def fairness_finder_visit (K : Nat) : (j : Nat) → Int → ((List Int) × ((List (List (Int × (Int × Unit)))) × Unit)) → (List Bool) → (Int × Unit) → (List Int) → (List Int) → (List Bool) → (List Int) → (List Int) → Option ((Unit × Unit) × ((((List Int) × ((List (List (Int × (Int × Unit)))) × Unit)) × ((List Bool) × (Unit × (Unit × (Unit × (Unit × (Unit × (Int × Unit)))))))) × ((List Int) × ((List Int) × ((List Bool) × ((List Int) × ((List Int) × Unit)))))))
  | 0, _, _, _, _, _, _, _, _, _ => none
  | j + 1, x1, o0, o0_1, o0_2, o1, o2, o3, o4, o5 => fairness_finder_visit_body K (fairness_finder_visit K j) x1 o0 o0_1 o0_2 o1 o2 o3 o4 o5
@[reducible] def p_fairness_finder_visit (K j : Nat) : Piece := { slots := [(0, (.ref 0 (.pair (.pair (.slice (.int .u32)) (.pair (.slice (.slice (.pair (.int .u32) (.pair (.int .i64) .unit)))) .unit)) (.pair (.slice .bool) (.pair (.slice (.int .i64)) (.pair (.slice (.int .i64)) (.pair (.slice .bool) (.pair (.slice (.int .i64)) (.pair (.slice (.int .i64)) (.pair (.int .i64) .unit)))))))))), (1, (.v (.int .i64)))], objs := [(.box (.pair (.pair (.slice (.int .u32)) (.pair (.slice (.slice (.pair (.int .u32) (.pair (.int .i64) .unit)))) .unit)) (.pair (.slice .bool) (.pair (.slice (.int .i64)) (.pair (.slice (.int .i64)) (.pair (.slice .bool) (.pair (.slice (.int .i64)) (.pair (.slice (.int .i64)) (.pair (.int .i64) .unit)))))))) (.cons (.v (.pair (.slice (.int .u32)) (.pair (.slice (.slice (.pair (.int .u32) (.pair (.int .i64) .unit)))) .unit))) (.cons (.v (.slice .bool)) (.cons (.href 1) (.cons (.href 2) (.cons (.href 3) (.cons (.href 4) (.cons (.href 5) (.v (.pair (.int .i64) .unit)))))))))), (.row (.int .i64)), (.row (.int .i64)), (.row .bool), (.row (.int .i64)), (.row (.int .i64))], outs := [{ ex := .ret, slots := [(0, (.tup .nil))], objs := [(some 0, (.box (.pair (.pair (.slice (.int .u32)) (.pair (.slice (.slice (.pair (.int .u32) (.pair (.int .i64) .unit)))) .unit)) (.pair (.slice .bool) (.pair (.slice (.int .i64)) (.pair (.slice (.int .i64)) (.pair (.slice .bool) (.pair (.slice (.int .i64)) (.pair (.slice (.int .i64)) (.pair (.int .i64) .unit)))))))) (.cons (.v (.pair (.slice (.int .u32)) (.pair (.slice (.slice (.pair (.int .u32) (.pair (.int .i64) .unit)))) .unit))) (.cons (.v (.slice .bool)) (.cons (.href 1) (.cons (.href 2) (.cons (.href 3) (.cons (.href 4) (.cons (.href 5) (.v (.pair (.int .i64) .unit))))))))))), (some 1, (.row (.int .i64))), (some 2, (.row (.int .i64))), (some 3, (.row .bool)), (none, (.row (.int .i64))), (some 5, (.row (.int .i64)))] }], asg := [], nt := 194, fn := fun x => fairness_finder_visit K j x.1.2.1 x.2.1.1 x.2.1.2.1 x.2.1.2.2.2.2.2.2.2 x.2.2.1 x.2.2.2.1 x.2.2.2.2.1 x.2.2.2.2.2.1 x.2.2.2.2.2.2.1 }
@[reducible] def p_fairness_finder_visit_122 (K j k : Nat) : Piece := { slots := [(0, (.ref 0 (.pair (.pair (.slice (.int .u32)) (.pair (.slice (.slice (.pair (.int .u32) (.pair (.int .i64) .unit)))) .unit)) (.pair (.slice .bool) (.pair (.slice (.int .i64)) (.pair (.slice (.int .i64)) (.pair (.slice .bool) (.pair (.slice (.int .i64)) (.pair (.slice (.int .i64)) (.pair (.int .i64) .unit)))))))))), (1, (.v (.int .i64))), (58, (.v (.slice (.pair (.int .u32) (.pair (.int .i64) .unit))))), (59, (.v (.int .i64))), (60, (.v (.int .i64)))], objs := [(.box (.pair (.pair (.slice (.int .u32)) (.pair (.slice (.slice (.pair (.int .u32) (.pair (.int .i64) .unit)))) .unit)) (.pair (.slice .bool) (.pair (.slice (.int .i64)) (.pair (.slice (.int .i64)) (.pair (.slice .bool) (.pair (.slice (.int .i64)) (.pair (.slice (.int .i64)) (.pair (.int .i64) .unit)))))))) (.cons (.v (.pair (.slice (.int .u32)) (.pair (.slice (.slice (.pair (.int .u32) (.pair (.int .i64) .unit)))) .unit))) (.cons (.v (.slice .bool)) (.cons (.href 1) (.cons (.href 2) (.cons (.href 3) (.cons (.href 4) (.cons (.href 5) (.v (.pair (.int .i64) .unit)))))))))), (.row (.int .i64)), (.row (.int .i64)), (.row .bool), (.row (.int .i64)), (.row (.int .i64))], outs := [{ ex := (.exit 0), slots := [], objs := [(some 0, (.box (.pair (.pair (.slice (.int .u32)) (.pair (.slice (.slice (.pair (.int .u32) (.pair (.int .i64) .unit)))) .unit)) (.pair (.slice .bool) (.pair (.slice (.int .i64)) (.pair (.slice (.int .i64)) (.pair (.slice .bool) (.pair (.slice (.int .i64)) (.pair (.slice (.int .i64)) (.pair (.int .i64) .unit)))))))) (.cons (.v (.pair (.slice (.int .u32)) (.pair (.slice (.slice (.pair (.int .u32) (.pair (.int .i64) .unit)))) .unit))) (.cons (.v (.slice .bool)) (.cons (.href 1) (.cons (.href 2) (.cons (.href 3) (.cons (.href 4) (.cons (.href 5) (.v (.pair (.int .i64) .unit))))))))))), (some 1, (.row (.int .i64))), (some 2, (.row (.int .i64))), (some 3, (.row .bool)), (none, (.row (.int .i64))), (some 5, (.row (.int .i64)))] }], asg := [5, 6, 60, 61, 62, 63, 64, 65, 66, 67, 68, 69, 70, 71, 72, 73, 74, 75, 76, 77, 78, 79, 80, 81, 82, 83, 84, 85, 86, 87, 88, 89, 90, 91, 92, 93, 94, 95, 96, 97, 98, 99, 100, 101, 102, 103, 104, 105, 106, 107, 108, 109, 110, 111, 112, 113, 114, 115, 116, 117, 118, 119, 120, 121, 122, 123, 124, 125, 126, 127, 128, 129, 130, 131, 132, 133, 134, 135, 136], nt := 194, fn := fun x => fairness_finder_visit_122 K (fairness_finder_visit K j) k x.1.2.1 x.1.2.2.1 x.1.2.2.2.1 x.1.2.2.2.2.1 x.2.1.1 x.2.1.2.1 x.2.1.2.2.2.2.2.2.2 x.2.2.1 x.2.2.2.1 x.2.2.2.2.1 x.2.2.2.2.2.1 x.2.2.2.2.2.2.1 }
@[reducible] def p_fairness_finder_visit_126 (K j k : Nat) : Piece := { slots := [(0, (.ref 0 (.pair (.pair (.slice (.int .u32)) (.pair (.slice (.slice (.pair (.int .u32) (.pair (.int .i64) .unit)))) .unit)) (.pair (.slice .bool) (.pair (.slice (.int .i64)) (.pair (.slice (.int .i64)) (.pair (.slice .bool) (.pair (.slice (.int .i64)) (.pair (.slice (.int .i64)) (.pair (.int .i64) .unit)))))))))), (1, (.v (.int .i64)))], objs := [(.box (.pair (.pair (.slice (.int .u32)) (.pair (.slice (.slice (.pair (.int .u32) (.pair (.int .i64) .unit)))) .unit)) (.pair (.slice .bool) (.pair (.slice (.int .i64)) (.pair (.slice (.int .i64)) (.pair (.slice .bool) (.pair (.slice (.int .i64)) (.pair (.slice (.int .i64)) (.pair (.int .i64) .unit)))))))) (.cons (.v (.pair (.slice (.int .u32)) (.pair (.slice (.slice (.pair (.int .u32) (.pair (.int .i64) .unit)))) .unit))) (.cons (.v (.slice .bool)) (.cons (.href 1) (.cons (.href 2) (.cons (.href 3) (.cons (.href 4) (.cons (.href 5) (.v (.pair (.int .i64) .unit)))))))))), (.row (.int .i64)), (.row (.int .i64)), (.row .bool), (.row (.int .i64)), (.row (.int .i64))], outs := [{ ex := .ret, slots := [], objs := [(some 0, (.box (.pair (.pair (.slice (.int .u32)) (.pair (.slice (.slice (.pair (.int .u32) (.pair (.int .i64) .unit)))) .unit)) (.pair (.slice .bool) (.pair (.slice (.int .i64)) (.pair (.slice (.int .i64)) (.pair (.slice .bool) (.pair (.slice (.int .i64)) (.pair (.slice (.int .i64)) (.pair (.int .i64) .unit)))))))) (.cons (.v (.pair (.slice (.int .u32)) (.pair (.slice (.slice (.pair (.int .u32) (.pair (.int .i64) .unit)))) .unit))) (.cons (.v (.slice .bool)) (.cons (.href 1) (.cons (.href 2) (.cons (.href 3) (.cons (.href 4) (.cons (.href 5) (.v (.pair (.int .i64) .unit))))))))))), (some 1, (.row (.int .i64))), (some 2, (.row (.int .i64))), (some 3, (.row .bool)), (none, (.row (.int .i64))), (some 5, (.row (.int .i64)))] }], asg := [7, 152, 153, 154, 155, 156, 157, 158, 159, 160, 161, 162, 163, 164, 165, 166, 167, 168, 169, 170, 171, 172, 173, 174, 175, 176, 177, 178, 179, 180, 181, 182, 183, 184, 185, 186, 187, 188, 189, 190, 191, 192, 193], nt := 194, fn := fun x => fairness_finder_visit_126 K (fairness_finder_visit K j) k x.1.2.1 x.2.1.1 x.2.1.2.1 x.2.1.2.2.2.2.2.2.2 x.2.2.1 x.2.2.2.1 x.2.2.2.2.1 x.2.2.2.2.2.1 x.2.2.2.2.2.2.1 }
noncomputable def fs_fairness_finder_visit_r (K j : Nat) : List (Nat × Piece) := (35, p_fairness_finder_visit K j) :: fs_fairness_check K
noncomputable def c_fairness_finder_visit_0 (K j : Nat) : List (Nat × Piece) := []
theorem o_fairness_finder_visit_0 (K j : Nat) : PcsOk Try.prog b_fairness_finder_visit (c_fairness_finder_visit_0 K j) := PcsOk.nil
theorem k_fairness_finder_visit_122 (K j : Nat) (hB : Base Try.prog tabs (fs_fairness_finder_visit_r K j)) : PcOk Try.prog (codeAt b_fairness_finder_visit 122) (p_fairness_finder_visit_122 K j K) :=
  loop_thm hB (o_fairness_finder_visit_0 K j) 122 (p_fairness_finder_visit_122 K j 0) (l := fun k x => fairness_finder_visit_122 K (fairness_finder_visit K j) k x.1.2.1 x.1.2.2.1 x.1.2.2.2.1 x.1.2.2.2.2.1 x.2.1.1 x.2.1.2.1 x.2.1.2.2.2.2.2.2.2 x.2.2.1 x.2.2.2.1 x.2.2.2.2.1 x.2.2.2.2.2.1 x.2.2.2.2.2.2.1) (c := codeAt b_fairness_finder_visit 244) (by kernel_rfl) (by kernel_rfl) (by kernel_rfl) (by kernel_rfl) (fun x => by kernel_rfl) (fun k x => by kernel_rfl) K
noncomputable def c_fairness_finder_visit_122 (K j : Nat) : List (Nat × Piece) := (122, p_fairness_finder_visit_122 K j K) :: c_fairness_finder_visit_0 K j
theorem o_fairness_finder_visit_122 (K j : Nat) (hB : Base Try.prog tabs (fs_fairness_finder_visit_r K j)) : PcsOk Try.prog b_fairness_finder_visit (c_fairness_finder_visit_122 K j) := PcsOk.cons (k_fairness_finder_visit_122 K j hB) (o_fairness_finder_visit_0 K j)
theorem k_fairness_finder_visit_126 (K j : Nat) (hB : Base Try.prog tabs (fs_fairness_finder_visit_r K j)) : PcOk Try.prog (codeAt b_fairness_finder_visit 126) (p_fairness_finder_visit_126 K j K) :=
  loop_thm hB (o_fairness_finder_visit_122 K j hB) 126 (p_fairness_finder_visit_126 K j 0) (l := fun k x => fairness_finder_visit_126 K (fairness_finder_visit K j) k x.1.2.1 x.2.1.1 x.2.1.2.1 x.2.1.2.2.2.2.2.2.2 x.2.2.1 x.2.2.2.1 x.2.2.2.2.1 x.2.2.2.2.2.1 x.2.2.2.2.2.2.1) (c := codeAt b_fairness_finder_visit 252) (by kernel_rfl) (by kernel_rfl) (by kernel_rfl) (by kernel_rfl) (fun x => by kernel_rfl) (fun k x => by kernel_rfl) K
noncomputable def c_fairness_finder_visit_126 (K j : Nat) : List (Nat × Piece) := (126, p_fairness_finder_visit_126 K j K) :: c_fairness_finder_visit_122 K j
theorem o_fairness_finder_visit_126 (K j : Nat) (hB : Base Try.prog tabs (fs_fairness_finder_visit_r K j)) : PcsOk Try.prog b_fairness_finder_visit (c_fairness_finder_visit_126 K j) := PcsOk.cons (k_fairness_finder_visit_126 K j hB) (o_fairness_finder_visit_122 K j hB)
theorem s_fairness_finder_visit (K : Nat) (hB0 : Base Try.prog tabs (fs_fairness_check K)) : ∀ j, FnSound Try.prog 35 (p_fairness_finder_visit K j)
  | 0 => fun x y h => nomatch h
  | j + 1 => by
    have hB : Base Try.prog tabs (fs_fairness_finder_visit_r K j) := ⟨hB0.mixed, hB0.tabs, FnsOk.cons (s_fairness_finder_visit K hB0 j) (by kernel_rfl) hB0.fns⟩
    exact fun_thm hB (o_fairness_finder_visit_126 K j hB) Try.func35 (body := b_fairness_finder_visit) rfl (p_fairness_finder_visit K (j + 1)) (rs := []) rfl (Nat.le_of_ble_eq_true (by kernel_rfl)) (fun x => by kernel_rfl)
noncomputable def fs_fairness_finder_visit (K : Nat) : List (Nat × Piece) := (35, p_fairness_finder_visit K K) :: fs_fairness_check K
theorem base_fairness_finder_visit (K : Nat) : Base Try.prog tabs (fs_fairness_finder_visit K) := ⟨(base_fairness_check K).mixed, (base_fairness_check K).tabs, FnsOk.cons (s_fairness_finder_visit K (base_fairness_check K) K) (by kernel_rfl) (base_fairness_check K).fns⟩
/-! "selfstab/fairness.components" -/
noncomputable def b_fairness_components : Code := codeOf Try.f26
noncomputable def c_fairness_components_0 (K : Nat) : List (Nat × Piece) := []
theorem o_fairness_components_0 (K : Nat) : PcsOk Try.prog b_fairness_components (c_fairness_components_0 K) := PcsOk.nil
def fairness_components_122 (K : Nat) : (k : Nat) → (x1 : (List Bool)) → (x27 : Int) → (x28 : Int) → (o0 : ((List Int) × ((List (List (Int × (Int × Unit)))) × Unit))) → (o0_1 : (List Bool)) → (o0_2 : (Int × Unit)) → (o1 : (List Int)) → (o2 : (List Int)) → (o3 : (List Bool)) → (o4 : (List Int)) → (o5 : (List Int)) → Option (Unit × ((((List Int) × ((List (List (Int × (Int × Unit)))) × Unit)) × ((List Bool) × (Unit × (Unit × (Unit × (Unit × (Unit × (Int × Unit)))))))) × ((List Int) × ((List Int) × ((List Bool) × ((List Int) × ((List Int) × Unit)))))))
  | 0, _, _, _, _, _, _, _, _, _, _, _ => none
  | k + 1, x1, x27, x28, o0, o0_1, o0_2, o1, o2, o3, o4, o5 =>
    if decide (x28 < x27) then
      if decide (0 ≤ x28 ∧ x28 < (x1.length : Int)) then
        if !(x1.getD x28.toNat false) then
          if decide (0 ≤ x28 ∧ x28 < (o1.length : Int)) then
            if decide ((o1.getD x28.toNat 0) = 0) then
              (fairness_finder_visit K K x28 o0 o0_1 o0_2 o1 o2 o3 o4 o5).bind fun y2 =>
                fairness_components_122 K k x1 x27 (IntKind.i64.wrap (x28 + 1)) y2.2.1.1 y2.2.1.2.1 y2.2.1.2.2.2.2.2.2.2 y2.2.2.1 y2.2.2.2.1 y2.2.2.2.2.1 y2.2.2.2.2.2.1 y2.2.2.2.2.2.2.1
            else
              fairness_components_122 K k x1 x27 (IntKind.i64.wrap (x28 + 1)) o0 o0_1 o0_2 o1 o2 o3 o4 o5
          else
            none
        else
          fairness_components_122 K k x1 x27 (IntKind.i64.wrap (x28 + 1)) o0 o0_1 o0_2 o1 o2 o3 o4 o5
      else
        none
    else
      some ((), ((o0, (o0_1, ((), ((), ((), ((), ((), o0_2))))))), (o1, (o2, (o3, (o4, (o5, ())))))))
@[reducible] def p_fairness_components_122 (K k : Nat) : Piece := { slots := [(1, (.v (.slice .bool))), (7, (.ref 0 (.pair (.pair (.slice (.int .u32)) (.pair (.slice (.slice (.pair (.int .u32) (.pair (.int .i64) .unit)))) .unit)) (.pair (.slice .bool) (.pair (.slice (.int .i64)) (.pair (.slice (.int .i64)) (.pair (.slice .bool) (.pair (.slice (.int .i64)) (.pair (.slice (.int .i64)) (.pair (.int .i64) .unit)))))))))), (27, (.v (.int .i64))), (28, (.v (.int .i64)))], objs := [(.box (.pair (.pair (.slice (.int .u32)) (.pair (.slice (.slice (.pair (.int .u32) (.pair (.int .i64) .unit)))) .unit)) (.pair (.slice .bool) (.pair (.slice (.int .i64)) (.pair (.slice (.int .i64)) (.pair (.slice .bool) (.pair (.slice (.int .i64)) (.pair (.slice (.int .i64)) (.pair (.int .i64) .unit)))))))) (.cons (.v (.pair (.slice (.int .u32)) (.pair (.slice (.slice (.pair (.int .u32) (.pair (.int .i64) .unit)))) .unit))) (.cons (.v (.slice .bool)) (.cons (.href 1) (.cons (.href 2) (.cons (.href 3) (.cons (.href 4) (.cons (.href 5) (.v (.pair (.int .i64) .unit)))))))))), (.row (.int .i64)), (.row (.int .i64)), (.row .bool), (.row (.int .i64)), (.row (.int .i64))], outs := [{ ex := (.exit 0), slots := [], objs := [(some 0, (.box (.pair (.pair (.slice (.int .u32)) (.pair (.slice (.slice (.pair (.int .u32) (.pair (.int .i64) .unit)))) .unit)) (.pair (.slice .bool) (.pair (.slice (.int .i64)) (.pair (.slice (.int .i64)) (.pair (.slice .bool) (.pair (.slice (.int .i64)) (.pair (.slice (.int .i64)) (.pair (.int .i64) .unit)))))))) (.cons (.v (.pair (.slice (.int .u32)) (.pair (.slice (.slice (.pair (.int .u32) (.pair (.int .i64) .unit)))) .unit))) (.cons (.v (.slice .bool)) (.cons (.href 1) (.cons (.href 2) (.cons (.href 3) (.cons (.href 4) (.cons (.href 5) (.v (.pair (.int .i64) .unit))))))))))), (some 1, (.row (.int .i64))), (some 2, (.row (.int .i64))), (some 3, (.row .bool)), (none, (.row (.int .i64))), (some 5, (.row (.int .i64)))] }], asg := [8, 28, 29, 30, 31, 32, 33, 34, 35, 36, 37, 38, 39, 40, 41, 42, 43, 44, 45, 46], nt := 95, fn := fun x => fairness_components_122 K k x.1.1 x.1.2.2.1 x.1.2.2.2.1 x.2.1.1 x.2.1.2.1 x.2.1.2.2.2.2.2.2.2 x.2.2.1 x.2.2.2.1 x.2.2.2.2.1 x.2.2.2.2.2.1 x.2.2.2.2.2.2.1 }
theorem k_fairness_components_122 (K : Nat) (hB : Base Try.prog tabs (fs_fairness_finder_visit K)) : PcOk Try.prog (codeAt b_fairness_components 122) (p_fairness_components_122 K K) :=
  loop_thm hB (o_fairness_components_0 K) 122 (p_fairness_components_122 K 0) (l := fun k x => fairness_components_122 K k x.1.1 x.1.2.2.1 x.1.2.2.2.1 x.2.1.1 x.2.1.2.1 x.2.1.2.2.2.2.2.2.2 x.2.2.1 x.2.2.2.1 x.2.2.2.2.1 x.2.2.2.2.2.1 x.2.2.2.2.2.2.1) (c := codeAt b_fairness_components 244) (by kernel_rfl) (by kernel_rfl) (by kernel_rfl) (by kernel_rfl) (fun x => by kernel_rfl) (fun k x => by kernel_rfl) K
noncomputable def c_fairness_components_122 (K : Nat) : List (Nat × Piece) := (122, p_fairness_components_122 K K) :: c_fairness_components_0 K
theorem o_fairness_components_122 (K : Nat) (hB : Base Try.prog tabs (fs_fairness_finder_visit K)) : PcsOk Try.prog b_fairness_components (c_fairness_components_122 K) := PcsOk.cons (k_fairness_components_122 K hB) (o_fairness_components_0 K)
def fairness_components_259279 (K : Nat) (x11 : Int) (o0 : ((List Int) × ((List (List (Int × (Int × Unit)))) × Unit))) (o0_1 : (List Bool)) (o0_2 : (Int × Unit)) (o1 : (List Int)) (o2 : (List Int)) (o3 : (List Bool)) (o4 : (List Int)) (o5 : (List Int)) (o6 : (List Int)) (o7 : (List (Int × Int))) : Option (Unit × ((((List Int) × ((List (List (Int × (Int × Unit)))) × Unit)) × ((List Bool) × (Unit × (Unit × (Unit × (Unit × (Unit × (Int × Unit)))))))) × ((List Int) × ((List Int) × ((List Bool) × ((List Int) × ((List Int) × ((List Int) × ((List (Int × Int)) × Unit))))))))) :=
  if decide (0 ≤ x11 ∧ x11 < (o5.length : Int)) then
    if decide (0 ≤ x11 ∧ x11 < (o6.length : Int)) then
      some ((), ((o0, (o0_1, ((), ((), ((), ((), ((), o0_2))))))), (o1, (o2, (o3, (o4, (o5, (o6.set x11.toNat ((mget (.int .i64) o7 (o5.getD x11.toNat 0)).getD 0), (o7, ())))))))))
    else
      none
  else
    none
@[reducible] def p_fairness_components_259279 (K : Nat) : Piece := { slots := [(7, (.ref 0 (.pair (.pair (.slice (.int .u32)) (.pair (.slice (.slice (.pair (.int .u32) (.pair (.int .i64) .unit)))) .unit)) (.pair (.slice .bool) (.pair (.slice (.int .i64)) (.pair (.slice (.int .i64)) (.pair (.slice .bool) (.pair (.slice (.int .i64)) (.pair (.slice (.int .i64)) (.pair (.int .i64) .unit)))))))))), (9, (.href 6)), (10, (.mref 7)), (11, (.v (.int .i64)))], objs := [(.box (.pair (.pair (.slice (.int .u32)) (.pair (.slice (.slice (.pair (.int .u32) (.pair (.int .i64) .unit)))) .unit)) (.pair (.slice .bool) (.pair (.slice (.int .i64)) (.pair (.slice (.int .i64)) (.pair (.slice .bool) (.pair (.slice (.int .i64)) (.pair (.slice (.int .i64)) (.pair (.int .i64) .unit)))))))) (.cons (.v (.pair (.slice (.int .u32)) (.pair (.slice (.slice (.pair (.int .u32) (.pair (.int .i64) .unit)))) .unit))) (.cons (.v (.slice .bool)) (.cons (.href 1) (.cons (.href 2) (.cons (.href 3) (.cons (.href 4) (.cons (.href 5) (.v (.pair (.int .i64) .unit)))))))))), (.row (.int .i64)), (.row (.int .i64)), (.row .bool), (.row (.int .i64)), (.row (.int .i64)), (.row (.int .i64)), (.map (.int .i64) (.int .i64))], outs := [{ ex := .normal, slots := [], objs := [(some 0, (.box (.pair (.pair (.slice (.int .u32)) (.pair (.slice (.slice (.pair (.int .u32) (.pair (.int .i64) .unit)))) .unit)) (.pair (.slice .bool) (.pair (.slice (.int .i64)) (.pair (.slice (.int .i64)) (.pair (.slice .bool) (.pair (.slice (.int .i64)) (.pair (.slice (.int .i64)) (.pair (.int .i64) .unit)))))))) (.cons (.v (.pair (.slice (.int .u32)) (.pair (.slice (.slice (.pair (.int .u32) (.pair (.int .i64) .unit)))) .unit))) (.cons (.v (.slice .bool)) (.cons (.href 1) (.cons (.href 2) (.cons (.href 3) (.cons (.href 4) (.cons (.href 5) (.v (.pair (.int .i64) .unit))))))))))), (some 1, (.row (.int .i64))), (some 2, (.row (.int .i64))), (some 3, (.row .bool)), (some 4, (.row (.int .i64))), (some 5, (.row (.int .i64))), (some 6, (.row (.int .i64))), (some 7, (.map (.int .i64) (.int .i64)))] }], asg := [81, 82, 83, 84, 85, 86, 87, 88, 89, 90], nt := 95, fn := fun x => fairness_components_259279 K x.1.2.2.2.1 x.2.1.1 x.2.1.2.1 x.2.1.2.2.2.2.2.2.2 x.2.2.1 x.2.2.2.1 x.2.2.2.2.1 x.2.2.2.2.2.1 x.2.2.2.2.2.2.1 x.2.2.2.2.2.2.2.1 x.2.2.2.2.2.2.2.2.1 }
theorem k_fairness_components_259279 (K : Nat) (hB : Base Try.prog tabs (fs_fairness_finder_visit K)) : PcOk Try.prog (codeAt b_fairness_components 259279) (p_fairness_components_259279 K) :=
  seg_thm hB (o_fairness_components_122 K hB) 259279 (p_fairness_components_259279 K) (by kernel_rfl) (by kernel_rfl) (by kernel_rfl) (fun x => by kernel_rfl)
noncomputable def c_fairness_components_259279 (K : Nat) : List (Nat × Piece) := (259279, p_fairness_components_259279 K) :: c_fairness_components_122 K
theorem o_fairness_components_259279 (K : Nat) (hB : Base Try.prog tabs (fs_fairness_finder_visit K)) : PcsOk Try.prog b_fairness_components (c_fairness_components_259279 K) := PcsOk.cons (k_fairness_components_259279 K hB) (o_fairness_components_122 K hB)
def fairness_components_506 (K : Nat) : (k : Nat) → (x1 : (List Bool)) → (x50 : Int) → (x51 : Int) → (o0 : ((List Int) × ((List (List (Int × (Int × Unit)))) × Unit))) → (o0_1 : (List Bool)) → (o0_2 : (Int × Unit)) → (o1 : (List Int)) → (o2 : (List Int)) → (o3 : (List Bool)) → (o4 : (List Int)) → (o5 : (List Int)) → (o6 : (List Int)) → (o7 : (List (Int × Int))) → Option (Unit × ((List Int) × ((List (Int × Int)) × Unit)))
  | 0, _, _, _, _, _, _, _, _, _, _, _, _, _ => none
  | k + 1, x1, x50, x51, o0, o0_1, o0_2, o1, o2, o3, o4, o5, o6, o7 =>
    if decide (x51 < x50) then
      if decide (0 ≤ x51 ∧ x51 < (o6.length : Int)) then
        if decide (0 ≤ x51 ∧ x51 < (x1.length : Int)) then
          if x1.getD x51.toNat false then
            fairness_components_506 K k x1 x50 (IntKind.i64.wrap (x51 + 1)) o0 o0_1 o0_2 o1 o2 o3 o4 o5 (o6.set x51.toNat (-1)) o7
          else
            if decide (0 ≤ x51 ∧ x51 < (o5.length : Int)) then
              if !((mget (.int .i64) o7 (o5.getD x51.toNat 0)).isSome) then
                if decide (0 ≤ x51 ∧ x51 < (o5.length : Int)) then
                  if decide (o7.length ≤ 9223372036854775807) then
                    (fairness_components_259279 K x51 o0 o0_1 o0_2 o1 o2 o3 o4 o5 (o6.set x51.toNat (-1)) (mput (.int .i64) o7 (o5.getD x51.toNat 0) (o7.length : Int))).bind fun y3 =>
                      fairness_components_506 K k x1 x50 (IntKind.i64.wrap (x51 + 1)) y3.2.1.1 y3.2.1.2.1 y3.2.1.2.2.2.2.2.2.2 y3.2.2.1 y3.2.2.2.1 y3.2.2.2.2.1 y3.2.2.2.2.2.1 y3.2.2.2.2.2.2.1 y3.2.2.2.2.2.2.2.1 y3.2.2.2.2.2.2.2.2.1
                  else
                    none
                else
                  none
              else
                (fairness_components_259279 K x51 o0 o0_1 o0_2 o1 o2 o3 o4 o5 (o6.set x51.toNat (-1)) o7).bind fun y4 =>
                  fairness_components_506 K k x1 x50 (IntKind.i64.wrap (x51 + 1)) y4.2.1.1 y4.2.1.2.1 y4.2.1.2.2.2.2.2.2.2 y4.2.2.1 y4.2.2.2.1 y4.2.2.2.2.1 y4.2.2.2.2.2.1 y4.2.2.2.2.2.2.1 y4.2.2.2.2.2.2.2.1 y4.2.2.2.2.2.2.2.2.1
            else
              none
        else
          none
      else
        none
    else
      some ((), (o6, (o7, ())))
@[reducible] def p_fairness_components_506 (K k : Nat) : Piece := { slots := [(1, (.v (.slice .bool))), (7, (.ref 0 (.pair (.pair (.slice (.int .u32)) (.pair (.slice (.slice (.pair (.int .u32) (.pair (.int .i64) .unit)))) .unit)) (.pair (.slice .bool) (.pair (.slice (.int .i64)) (.pair (.slice (.int .i64)) (.pair (.slice .bool) (.pair (.slice (.int .i64)) (.pair (.slice (.int .i64)) (.pair (.int .i64) .unit)))))))))), (9, (.href 6)), (10, (.mref 7)), (50, (.v (.int .i64))), (51, (.v (.int .i64)))], objs := [(.box (.pair (.pair (.slice (.int .u32)) (.pair (.slice (.slice (.pair (.int .u32) (.pair (.int .i64) .unit)))) .unit)) (.pair (.slice .bool) (.pair (.slice (.int .i64)) (.pair (.slice (.int .i64)) (.pair (.slice .bool) (.pair (.slice (.int .i64)) (.pair (.slice (.int .i64)) (.pair (.int .i64) .unit)))))))) (.cons (.v (.pair (.slice (.int .u32)) (.pair (.slice (.slice (.pair (.int .u32) (.pair (.int .i64) .unit)))) .unit))) (.cons (.v (.slice .bool)) (.cons (.href 1) (.cons (.href 2) (.cons (.href 3) (.cons (.href 4) (.cons (.href 5) (.v (.pair (.int .i64) .unit)))))))))), (.row (.int .i64)), (.row (.int .i64)), (.row .bool), (.row (.int .i64)), (.row (.int .i64)), (.row (.int .i64)), (.map (.int .i64) (.int .i64))], outs := [{ ex := (.exit 2), slots := [], objs := [(some 6, (.row (.int .i64))), (some 7, (.map (.int .i64) (.int .i64)))] }], asg := [11, 12, 13, 51, 52, 53, 54, 55, 56, 57, 58, 59, 60, 61, 62, 63, 64, 65, 66, 67, 68, 69, 70, 71, 72, 73, 74, 75, 76, 77, 78, 79, 80, 81, 82, 83, 84, 85, 86, 87, 88, 89, 90, 91], nt := 95, fn := fun x => fairness_components_506 K k x.1.1 x.1.2.2.2.2.1 x.1.2.2.2.2.2.1 x.2.1.1 x.2.1.2.1 x.2.1.2.2.2.2.2.2.2 x.2.2.1 x.2.2.2.1 x.2.2.2.2.1 x.2.2.2.2.2.1 x.2.2.2.2.2.2.1 x.2.2.2.2.2.2.2.1 x.2.2.2.2.2.2.2.2.1 }
theorem k_fairness_components_506 (K : Nat) (hB : Base Try.prog tabs (fs_fairness_finder_visit K)) : PcOk Try.prog (codeAt b_fairness_components 506) (p_fairness_components_506 K K) :=
  loop_thm hB (o_fairness_components_259279 K hB) 506 (p_fairness_components_506 K 0) (l := fun k x => fairness_components_506 K k x.1.1 x.1.2.2.2.2.1 x.1.2.2.2.2.2.1 x.2.1.1 x.2.1.2.1 x.2.1.2.2.2.2.2.2.2 x.2.2.1 x.2.2.2.1 x.2.2.2.2.1 x.2.2.2.2.2.1 x.2.2.2.2.2.2.1 x.2.2.2.2.2.2.2.1 x.2.2.2.2.2.2.2.2.1) (c := codeAt b_fairness_components 1012) (by kernel_rfl) (by kernel_rfl) (by kernel_rfl) (by kernel_rfl) (fun x => by kernel_rfl) (fun k x => by kernel_rfl) K
noncomputable def c_fairness_components_506 (K : Nat) : List (Nat × Piece) := (506, p_fairness_components_506 K K) :: c_fairness_components_259279 K
theorem o_fairness_components_506 (K : Nat) (hB : Base Try.prog tabs (fs_fairness_finder_visit K)) : PcsOk Try.prog b_fairness_components (c_fairness_components_506 K) := PcsOk.cons (k_fairness_components_506 K hB) (o_fairness_components_259279 K hB)
def fairness_components (K : Nat) (x0 : ((List Int) × ((List (List (Int × (Int × Unit)))) × Unit))) (x1 : (List Bool)) : Option (((Unit × (Int × Unit)) × Unit) × ((List Int) × Unit)) :=
  if decide (0 ≤ (x1.length : Int) ∧ (x1.length : Int) ≤ (x1.length : Int) ∧ (x1.length : Int) ≤ 4294967296) then
    if decide (0 ≤ (x1.length : Int) ∧ (x1.length : Int) ≤ (x1.length : Int) ∧ (x1.length : Int) ≤ 4294967296) then
      if decide (0 ≤ (x1.length : Int) ∧ (x1.length : Int) ≤ (x1.length : Int) ∧ (x1.length : Int) ≤ 4294967296) then
        if decide (0 ≤ (x1.length : Int) ∧ (x1.length : Int) ≤ (x1.length : Int) ∧ (x1.length : Int) ≤ 4294967296) then
          (fairness_components_122 K K x1 (x1.length : Int) 0 x0 x1 (0, ()) (List.replicate (x1.length : Int).toNat 0) (List.replicate (x1.length : Int).toNat 0) (List.replicate (x1.length : Int).toNat false) [] (List.replicate (x1.length : Int).toNat 0)).bind fun y2 =>
            if decide (0 ≤ (x1.length : Int) ∧ (x1.length : Int) ≤ (x1.length : Int) ∧ (x1.length : Int) ≤ 4294967296) then
              (fairness_components_506 K K x1 (x1.length : Int) 0 y2.2.1.1 y2.2.1.2.1 y2.2.1.2.2.2.2.2.2.2 y2.2.2.1 y2.2.2.2.1 y2.2.2.2.2.1 y2.2.2.2.2.2.1 y2.2.2.2.2.2.2.1 (List.replicate (x1.length : Int).toNat 0) []).bind fun y4 =>
                if decide (y4.2.2.1.length ≤ 9223372036854775807) then
                  some ((((), ((y4.2.2.1.length : Int), ())), ()), (y4.2.1, ()))
                else
                  none
            else
              none
        else
          none
      else
        none
    else
      none
  else
    none
@[reducible] def p_fairness_components (K : Nat) : Piece := { slots := [(0, (.v (.pair (.slice (.int .u32)) (.pair (.slice (.slice (.pair (.int .u32) (.pair (.int .i64) .unit)))) .unit)))), (1, (.v (.slice .bool)))], objs := [], outs := [{ ex := .ret, slots := [(0, (.tup (.cons (.href 0) (.cons (.v (.int .i64)) .nil))))], objs := [(none, (.row (.int .i64)))] }], asg := [], nt := 95, fn := fun x => fairness_components K x.1.1 x.1.2.1 }
theorem s_fairness_components (K : Nat) (hB : Base Try.prog tabs (fs_fairness_finder_visit K)) : FnSound Try.prog 26 (p_fairness_components K) :=
  fun_thm hB (o_fairness_components_506 K hB) Try.func26 (body := b_fairness_components) rfl (p_fairness_components K) (rs := [.tmp 4, .tmp 5]) rfl (Nat.le_of_ble_eq_true (by kernel_rfl)) (fun x => by kernel_rfl)
noncomputable def fs_fairness_components (K : Nat) : List (Nat × Piece) := (26, p_fairness_components K) :: fs_fairness_finder_visit K
theorem base_fairness_components (K : Nat) : Base Try.prog tabs (fs_fairness_components K) := ⟨(base_fairness_finder_visit K).mixed, (base_fairness_finder_visit K).tabs, FnsOk.cons (s_fairness_components K (base_fairness_finder_visit K)) (by kernel_rfl) (base_fairness_finder_visit K).fns⟩
/-! "selfstab/fairness.kept" -/
noncomputable def b_fairness_kept : Code := codeOf Try.f27
noncomputable def c_fairness_kept_0 (K : Nat) : List (Nat × Piece) := []
theorem o_fairness_kept_0 (K : Nat) : PcsOk Try.prog b_fairness_kept (c_fairness_kept_0 K) := PcsOk.nil
def fairness_kept_59806 (K : Nat) : (k : Nat) → (x1 : (List Int)) → (x9 : Int) → (x46 : (List (Int × (Int × Unit)))) → (x47 : Int) → (x48 : Int) → (o0 : (List Bool)) → (o1 : (List Int)) → Option (Unit × ((List Bool) × ((List Int) × Unit)))
  | 0, _, _, _, _, _, _, _ => none
  | k + 1, x1, x9, x46, x47, x48, o0, o1 =>
    if decide (x48 < x47) then
      if decide (0 ≤ x48 ∧ x48 < (x46.length : Int)) then
        if decide (0 ≤ ((x46.getD x48.toNat (0, (0, ()))).2).1 ∧ ((x46.getD x48.toNat (0, (0, ()))).2).1 < (x1.length : Int)) then
          if decide (0 ≤ x9 ∧ x9 < (x1.length : Int)) then
            if decide ((x1.getD ((((x46.getD x48.toNat (0, (0, ()))).2).1).toNat) 0) = (x1.getD x9.toNat 0)) then
              if decide (0 ≤ x9 ∧ x9 < (x1.length : Int)) then
                if decide (0 ≤ x1.getD x9.toNat 0 ∧ x1.getD x9.toNat 0 < (o0.length : Int)) then
                  if decide (0 ≤ x9 ∧ x9 < (x1.length : Int)) then
                    if decide (0 ≤ x1.getD x9.toNat 0 ∧ x1.getD x9.toNat 0 < (o1.length : Int)) then
                      if decide (0 ≤ x1.getD x9.toNat 0 ∧ x1.getD x9.toNat 0 < (o1.length : Int)) then
                        fairness_kept_59806 K k x1 x9 x46 x47 (IntKind.i64.wrap (x48 + 1)) (o0.set ((x1.getD x9.toNat 0).toNat) true) (o1.set ((x1.getD x9.toNat 0).toNat) (ior .u32 (o1.getD ((x1.getD x9.toNat 0).toNat) 0) ((x46.getD x48.toNat (0, (0, ()))).1)))
                      else
                        none
                    else
                      none
                  else
                    none
                else
                  none
              else
                none
            else
              fairness_kept_59806 K k x1 x9 x46 x47 (IntKind.i64.wrap (x48 + 1)) o0 o1
          else
            none
        else
          none
      else
        none
    else
      some ((), (o0, (o1, ())))
@[reducible] def p_fairness_kept_59806 (K k : Nat) : Piece := { slots := [(1, (.v (.slice (.int .i64)))), (7, (.href 0)), (8, (.href 1)), (9, (.v (.int .i64))), (46, (.v (.slice (.pair (.int .u32) (.pair (.int .i64) .unit))))), (47, (.v (.int .i64))), (48, (.v (.int .i64)))], objs := [(.row .bool), (.row (.int .u32))], outs := [{ ex := (.exit 2), slots := [], objs := [(some 0, (.row .bool)), (some 1, (.row (.int .u32)))] }], asg := [12, 48, 49, 50, 51, 52, 53, 54, 55, 56, 57, 58, 59, 60, 61, 62, 63, 64, 65, 66, 67, 68, 69, 70, 71, 72, 73, 74, 75, 76, 77, 78, 79], nt := 103, fn := fun x => fairness_kept_59806 K k x.1.1 x.1.2.2.2.1 x.1.2.2.2.2.1 x.1.2.2.2.2.2.1 x.1.2.2.2.2.2.2.1 x.2.1 x.2.2.1 }
theorem k_fairness_kept_59806 (K : Nat) (hB : Base Try.prog tabs (fs_fairness_components K)) : PcOk Try.prog (codeAt b_fairness_kept 59806) (p_fairness_kept_59806 K K) :=
  loop_thm hB (o_fairness_kept_0 K) 59806 (p_fairness_kept_59806 K 0) (l := fun k x => fairness_kept_59806 K k x.1.1 x.1.2.2.2.1 x.1.2.2.2.2.1 x.1.2.2.2.2.2.1 x.1.2.2.2.2.2.2.1 x.2.1 x.2.2.1) (c := codeAt b_fairness_kept 119612) (by kernel_rfl) (by kernel_rfl) (by kernel_rfl) (by kernel_rfl) (fun x => by kernel_rfl) (fun k x => by kernel_rfl) K
noncomputable def c_fairness_kept_59806 (K : Nat) : List (Nat × Piece) := (59806, p_fairness_kept_59806 K K) :: c_fairness_kept_0 K
theorem o_fairness_kept_59806 (K : Nat) (hB : Base Try.prog tabs (fs_fairness_components K)) : PcsOk Try.prog b_fairness_kept (c_fairness_kept_59806 K) := PcsOk.cons (k_fairness_kept_59806 K hB) (o_fairness_kept_0 K)
def fairness_kept_58 (K : Nat) : (k : Nat) → (x1 : (List Int)) → (x19 : (List (List (Int × (Int × Unit))))) → (x20 : Int) → (x21 : Int) → (o0 : ((List Int) × ((List (List (Int × (Int × Unit)))) × Unit))) → (o1 : (List Bool)) → (o2 : (List Int)) → Option (Unit × ((List Bool) × ((List Int) × Unit)))
  | 0, _, _, _, _, _, _, _ => none
  | k + 1, x1, x19, x20, x21, o0, o1, o2 =>
    if decide (x21 < x20) then
      if decide (0 ≤ x21 ∧ x21 < (x19.length : Int)) then
        if decide (0 ≤ x21 ∧ x21 < (x1.length : Int)) then
          if decide ((x1.getD x21.toNat 0) < 0) then
            fairness_kept_58 K k x1 x19 x20 (IntKind.i64.wrap (x21 + 1)) o0 o1 o2
          else
            if decide (0 ≤ x21 ∧ x21 < (x1.length : Int)) then
              if decide (0 ≤ x1.getD x21.toNat 0 ∧ x1.getD x21.toNat 0 < (o2.length : Int)) then
                if decide (0 ≤ x21 ∧ x21 < (o0.1.length : Int)) then
                  if decide (0 ≤ x1.getD x21.toNat 0 ∧ x1.getD x21.toNat 0 < (o2.length : Int)) then
                    (fairness_kept_59806 K K x1 x21 (x19.getD x21.toNat []) ((x19.getD x21.toNat []).length : Int) 0 o1 (o2.set ((x1.getD x21.toNat 0).toNat) (ior .u32 (o2.getD ((x1.getD x21.toNat 0).toNat) 0) (ixor .u32 4294967295 (o0.1.getD x21.toNat 0))))).bind fun y2 =>
                      fairness_kept_58 K k x1 x19 x20 (IntKind.i64.wrap (x21 + 1)) o0 y2.2.1 y2.2.2.1
                  else
                    none
                else
                  none
              else
                none
            else
              none
        else
          none
      else
        none
    else
      some ((), (o1, (o2, ())))
@[reducible] def p_fairness_kept_58 (K k : Nat) : Piece := { slots := [(1, (.v (.slice (.int .i64)))), (3, (.ref 0 (.pair (.slice (.int .u32)) (.pair (.slice (.slice (.pair (.int .u32) (.pair (.int .i64) .unit)))) .unit)))), (7, (.href 1)), (8, (.href 2)), (19, (.v (.slice (.slice (.pair (.int .u32) (.pair (.int .i64) .unit)))))), (20, (.v (.int .i64))), (21, (.v (.int .i64)))], objs := [(.box (.pair (.slice (.int .u32)) (.pair (.slice (.slice (.pair (.int .u32) (.pair (.int .i64) .unit)))) .unit)) (.v (.pair (.slice (.int .u32)) (.pair (.slice (.slice (.pair (.int .u32) (.pair (.int .i64) .unit)))) .unit)))), (.row .bool), (.row (.int .u32))], outs := [{ ex := (.exit 0), slots := [], objs := [(some 1, (.row .bool)), (some 2, (.row (.int .u32)))] }], asg := [9, 10, 12, 21, 22, 23, 24, 25, 26, 27, 28, 29, 30, 31, 32, 33, 34, 35, 36, 37, 38, 39, 40, 41, 42, 43, 44, 45, 46, 47, 48, 49, 50, 51, 52, 53, 54, 55, 56, 57, 58, 59, 60, 61, 62, 63, 64, 65, 66, 67, 68, 69, 70, 71, 72, 73, 74, 75, 76, 77, 78, 79, 80], nt := 103, fn := fun x => fairness_kept_58 K k x.1.1 x.1.2.2.2.2.1 x.1.2.2.2.2.2.1 x.1.2.2.2.2.2.2.1 x.2.1 x.2.2.1 x.2.2.2.1 }
theorem k_fairness_kept_58 (K : Nat) (hB : Base Try.prog tabs (fs_fairness_components K)) : PcOk Try.prog (codeAt b_fairness_kept 58) (p_fairness_kept_58 K K) :=
  loop_thm hB (o_fairness_kept_59806 K hB) 58 (p_fairness_kept_58 K 0) (l := fun k x => fairness_kept_58 K k x.1.1 x.1.2.2.2.2.1 x.1.2.2.2.2.2.1 x.1.2.2.2.2.2.2.1 x.2.1 x.2.2.1 x.2.2.2.1) (c := codeAt b_fairness_kept 116) (by kernel_rfl) (by kernel_rfl) (by kernel_rfl) (by kernel_rfl) (fun x => by kernel_rfl) (fun k x => by kernel_rfl) K
noncomputable def c_fairness_kept_58 (K : Nat) : List (Nat × Piece) := (58, p_fairness_kept_58 K K) :: c_fairness_kept_59806 K
theorem o_fairness_kept_58 (K : Nat) (hB : Base Try.prog tabs (fs_fairness_components K)) : PcsOk Try.prog b_fairness_kept (c_fairness_kept_58 K) := PcsOk.cons (k_fairness_kept_58 K hB) (o_fairness_kept_59806 K hB)
def fairness_kept_122 (K : Nat) : (k : Nat) → (x8 : (List Int)) → (x82 : Int) → (x83 : Int) → (o0 : (List Bool)) → Option (Unit × ((List Bool) × Unit))
  | 0, _, _, _, _ => none
  | k + 1, x8, x82, x83, o0 =>
    if decide (x83 < x82) then
      if decide (0 ≤ x83 ∧ x83 < (o0.length : Int)) then
        if o0.getD x83.toNat false then
          if decide (0 ≤ x83 ∧ x83 < (x8.length : Int)) then
            if decide (0 ≤ x83 ∧ x83 < (o0.length : Int)) then
              fairness_kept_122 K k x8 x82 (IntKind.i64.wrap (x83 + 1)) (o0.set x83.toNat (decide ((iand .u32 (x8.getD x83.toNat 0) 16777215) = 16777215)))
            else
              none
          else
            none
        else
          if decide (0 ≤ x83 ∧ x83 < (o0.length : Int)) then
            fairness_kept_122 K k x8 x82 (IntKind.i64.wrap (x83 + 1)) (o0.set x83.toNat false)
          else
            none
      else
        none
    else
      some ((), (o0, ()))
@[reducible] def p_fairness_kept_122 (K k : Nat) : Piece := { slots := [(7, (.href 0)), (8, (.v (.slice (.int .u32)))), (82, (.v (.int .i64))), (83, (.v (.int .i64)))], objs := [(.row .bool)], outs := [{ ex := (.exit 4), slots := [], objs := [(some 0, (.row .bool))] }], asg := [13, 83, 84, 85, 86, 87, 88, 89, 90, 91, 92, 93, 94, 95, 96, 97, 98, 99, 100, 101], nt := 103, fn := fun x => fairness_kept_122 K k x.1.2.1 x.1.2.2.1 x.1.2.2.2.1 x.2.1 }
theorem k_fairness_kept_122 (K : Nat) (hB : Base Try.prog tabs (fs_fairness_components K)) : PcOk Try.prog (codeAt b_fairness_kept 122) (p_fairness_kept_122 K K) :=
  loop_thm hB (o_fairness_kept_58 K hB) 122 (p_fairness_kept_122 K 0) (l := fun k x => fairness_kept_122 K k x.1.2.1 x.1.2.2.1 x.1.2.2.2.1 x.2.1) (c := codeAt b_fairness_kept 244) (by kernel_rfl) (by kernel_rfl) (by kernel_rfl) (by kernel_rfl) (fun x => by kernel_rfl) (fun k x => by kernel_rfl) K
noncomputable def c_fairness_kept_122 (K : Nat) : List (Nat × Piece) := (122, p_fairness_kept_122 K K) :: c_fairness_kept_58 K
theorem o_fairness_kept_122 (K : Nat) (hB : Base Try.prog tabs (fs_fairness_components K)) : PcsOk Try.prog b_fairness_kept (c_fairness_kept_122 K) := PcsOk.cons (k_fairness_kept_122 K hB) (o_fairness_kept_58 K hB)
def fairness_kept (K : Nat) (x0 : ((List Int) × ((List (List (Int × (Int × Unit)))) × Unit))) (x1 : (List Int)) (x2 : Int) : Option ((Unit × Unit) × ((List Bool) × Unit)) :=
  if decide (0 ≤ x2 ∧ x2 ≤ x2 ∧ x2 ≤ 4294967296) then
    if decide (0 ≤ x2 ∧ x2 ≤ x2 ∧ x2 ≤ 4294967296) then
      (fairness_kept_58 K K x1 x0.2.1 (x0.2.1.length : Int) 0 x0 (List.replicate x2.toNat false) (List.replicate x2.toNat 0)).bind fun y2 =>
        (fairness_kept_122 K K y2.2.2.1 (y2.2.1.length : Int) 0 y2.2.1).bind fun y4 =>
          some (((), ()), (y4.2.1, ()))
    else
      none
  else
    none
@[reducible] def p_fairness_kept (K : Nat) : Piece := { slots := [(0, (.v (.pair (.slice (.int .u32)) (.pair (.slice (.slice (.pair (.int .u32) (.pair (.int .i64) .unit)))) .unit)))), (1, (.v (.slice (.int .i64)))), (2, (.v (.int .i64)))], objs := [], outs := [{ ex := .ret, slots := [(0, (.href 0))], objs := [(none, (.row .bool))] }], asg := [], nt := 103, fn := fun x => fairness_kept K x.1.1 x.1.2.1 x.1.2.2.1 }
theorem s_fairness_kept (K : Nat) (hB : Base Try.prog tabs (fs_fairness_components K)) : FnSound Try.prog 27 (p_fairness_kept K) :=
  fun_thm hB (o_fairness_kept_122 K hB) Try.func27 (body := b_fairness_kept) rfl (p_fairness_kept K) (rs := [.tmp 6]) rfl (Nat.le_of_ble_eq_true (by kernel_rfl)) (fun x => by kernel_rfl)
noncomputable def fs_fairness_kept (K : Nat) : List (Nat × Piece) := (27, p_fairness_kept K) :: fs_fairness_components K
theorem base_fairness_kept (K : Nat) : Base Try.prog tabs (fs_fairness_kept K) := ⟨(base_fairness_components K).mixed, (base_fairness_components K).tabs, FnsOk.cons (s_fairness_kept K (base_fairness_components K)) (by kernel_rfl) (base_fairness_components K).fns⟩
/-! "selfstab/fairness.Core" -/
noncomputable def b_fairness_Core : Code := codeOf Try.f12
noncomputable def c_fairness_Core_0 (K : Nat) : List (Nat × Piece) := []
theorem o_fairness_Core_0 (K : Nat) : PcsOk Try.prog b_fairness_Core (c_fairness_Core_0 K) := PcsOk.nil
def fairness_Core_2091418 (K : Nat) : (k : Nat) → (x13 : Int) → (x54 : (List (Int × (Int × Unit)))) → (x55 : Int) → (x56 : Int) → (o0 : (List (List Int))) → Option (Unit × ((List (List Int)) × Unit))
  | 0, _, _, _, _, _ => none
  | k + 1, x13, x54, x55, x56, o0 =>
    if decide (x56 < x55) then
      if decide (0 ≤ x56 ∧ x56 < (x54.length : Int)) then
        if decide (0 ≤ ((x54.getD x56.toNat (0, (0, ()))).2).1 ∧ ((x54.getD x56.toNat (0, (0, ()))).2).1 < (o0.length : Int)) then
          if decide ((o0.getD ((((x54.getD x56.toNat (0, (0, ()))).2).1).toNat) []).length + ([x13]).length ≤ 4294967296) then
            if decide (0 ≤ ((x54.getD x56.toNat (0, (0, ()))).2).1 ∧ ((x54.getD x56.toNat (0, (0, ()))).2).1 < (o0.length : Int)) then
              if decide ((((x54.getD x56.toNat (0, (0, ()))).2).1).toNat = (((x54.getD x56.toNat (0, (0, ()))).2).1).toNat) then
                fairness_Core_2091418 K k x13 x54 x55 (IntKind.i64.wrap (x56 + 1)) (o0.set ((((x54.getD x56.toNat (0, (0, ()))).2).1).toNat) (o0.getD ((((x54.getD x56.toNat (0, (0, ()))).2).1).toNat) [] ++ [x13]))
              else
                none
            else
              none
          else
            none
        else
          none
      else
        none
    else
      some ((), (o0, ()))
@[reducible] def p_fairness_Core_2091418 (K k : Nat) : Piece := { slots := [(11, (.href 0)), (13, (.v (.int .i64))), (54, (.v (.slice (.pair (.int .u32) (.pair (.int .i64) .unit))))), (55, (.v (.int .i64))), (56, (.v (.int .i64)))], objs := [(.row2 (.int .i64))], outs := [{ ex := (.exit 2), slots := [], objs := [(some 0, (.row2 (.int .i64)))] }], asg := [16, 56, 57, 58, 59, 60, 61, 62, 63, 64, 65, 66, 67, 68, 69, 70, 71, 72], nt := 130, fn := fun x => fairness_Core_2091418 K k x.1.2.1 x.1.2.2.1 x.1.2.2.2.1 x.1.2.2.2.2.1 x.2.1 }
theorem k_fairness_Core_2091418 (K : Nat) (hB : Base Try.prog tabs (fs_fairness_kept K)) : PcOk Try.prog (codeAt b_fairness_Core 2091418) (p_fairness_Core_2091418 K K) :=
  loop_thm hB (o_fairness_Core_0 K) 2091418 (p_fairness_Core_2091418 K 0) (l := fun k x => fairness_Core_2091418 K k x.1.2.1 x.1.2.2.1 x.1.2.2.2.1 x.1.2.2.2.2.1 x.2.1) (c := codeAt b_fairness_Core 4182836) (by kernel_rfl) (by kernel_rfl) (by kernel_rfl) (by kernel_rfl) (fun x => by kernel_rfl) (fun k x => by kernel_rfl) K
noncomputable def c_fairness_Core_2091418 (K : Nat) : List (Nat × Piece) := (2091418, p_fairness_Core_2091418 K K) :: c_fairness_Core_0 K
theorem o_fairness_Core_2091418 (K : Nat) (hB : Base Try.prog tabs (fs_fairness_kept K)) : PcsOk Try.prog b_fairness_Core (c_fairness_Core_2091418 K) := PcsOk.cons (k_fairness_Core_2091418 K hB) (o_fairness_Core_0 K)
def fairness_Core_1045711 (K : Nat) (x13 : Int) (x84 : Bool) (o0 : (List Bool)) (o1 : (List Int)) : Option ((Unit × Unit) × ((List Int) × ((List Bool) × Unit))) :=
  if x84 then
    if decide (o1.length + ([x13]).length ≤ 4294967296) then
      if decide (0 ≤ x13 ∧ x13 < (o0.length : Int)) then
        some (((), ()), ((o1 ++ [x13]), (o0.set x13.toNat true, ())))
      else
        none
    else
      none
  else
    some (((), ()), (o1, (o0, ())))
@[reducible] def p_fairness_Core_1045711 (K : Nat) : Piece := { slots := [(10, (.href 0)), (12, (.href 1)), (13, (.v (.int .i64))), (84, (.v .bool))], objs := [(.row .bool), (.row (.int .i64))], outs := [{ ex := .normal, slots := [(12, (.href 0))], objs := [(none, (.row (.int .i64))), (some 0, (.row .bool))] }], asg := [12, 85, 86, 87, 88, 89, 90, 91], nt := 130, fn := fun x => fairness_Core_1045711 K x.1.2.2.1 x.1.2.2.2.1 x.2.1 x.2.2.1 }
theorem k_fairness_Core_1045711 (K : Nat) (hB : Base Try.prog tabs (fs_fairness_kept K)) : PcOk Try.prog (codeAt b_fairness_Core 1045711) (p_fairness_Core_1045711 K) :=
  seg_thm hB (o_fairness_Core_2091418 K hB) 1045711 (p_fairness_Core_1045711 K) (by kernel_rfl) (by kernel_rfl) (by kernel_rfl) (fun x => by kernel_rfl)
noncomputable def c_fairness_Core_1045711 (K : Nat) : List (Nat × Piece) := (1045711, p_fairness_Core_1045711 K) :: c_fairness_Core_2091418 K
theorem o_fairness_Core_1045711 (K : Nat) (hB : Base Try.prog tabs (fs_fairness_kept K)) : PcsOk Try.prog b_fairness_Core (c_fairness_Core_1045711 K) := PcsOk.cons (k_fairness_Core_1045711 K hB) (o_fairness_Core_2091418 K hB)
def fairness_Core_2042 (K : Nat) : (k : Nat) → (x1 : (List Bool)) → (x7 : (List Int)) → (x9 : (List Bool)) → (x43 : (List (List (Int × (Int × Unit))))) → (x44 : Int) → (x45 : Int) → (o0 : (List Bool)) → (o1 : (List (List Int))) → (o2 : (List Int)) → Option ((Unit × Unit) × ((List Int) × ((List Bool) × ((List (List Int)) × Unit))))
  | 0, _, _, _, _, _, _, _, _, _ => none
  | k + 1, x1, x7, x9, x43, x44, x45, o0, o1, o2 =>
    if decide (x45 < x44) then
      if decide (0 ≤ x45 ∧ x45 < (x43.length : Int)) then
        if decide (0 ≤ x45 ∧ x45 < (x1.length : Int)) then
          if x1.getD x45.toNat false then
            fairness_Core_2042 K k x1 x7 x9 x43 x44 (IntKind.i64.wrap (x45 + 1)) o0 o1 o2
          else
            (fairness_Core_2091418 K K x45 (x43.getD x45.toNat []) ((x43.getD x45.toNat []).length : Int) 0 o1).bind fun y6 =>
              if decide (((x43.getD x45.toNat []).length : Int) = 0) then
                (fairness_Core_1045711 K x45 true o0 o2).bind fun y7 =>
                  fairness_Core_2042 K k x1 x7 x9 x43 x44 (IntKind.i64.wrap (x45 + 1)) y7.2.2.1 y6.2.1 y7.2.1
              else
                if decide (0 ≤ x45 ∧ x45 < (x7.length : Int)) then
                  if decide (0 ≤ x7.getD x45.toNat 0 ∧ x7.getD x45.toNat 0 < (x9.length : Int)) then
                    (fairness_Core_1045711 K x45 (x9.getD ((x7.getD x45.toNat 0).toNat) false) o0 o2).bind fun y8 =>
                      fairness_Core_2042 K k x1 x7 x9 x43 x44 (IntKind.i64.wrap (x45 + 1)) y8.2.2.1 y6.2.1 y8.2.1
                  else
                    none
                else
                  none
        else
          none
      else
        none
    else
      some (((), ()), (o2, (o0, (o1, ()))))
@[reducible] def p_fairness_Core_2042 (K k : Nat) : Piece := { slots := [(1, (.v (.slice .bool))), (7, (.v (.slice (.int .i64)))), (9, (.v (.slice .bool))), (10, (.href 0)), (11, (.href 1)), (12, (.href 2)), (43, (.v (.slice (.slice (.pair (.int .u32) (.pair (.int .i64) .unit)))))), (44, (.v (.int .i64))), (45, (.v (.int .i64)))], objs := [(.row .bool), (.row2 (.int .i64)), (.row (.int .i64))], outs := [{ ex := (.exit 0), slots := [(12, (.href 0))], objs := [(none, (.row (.int .i64))), (some 0, (.row .bool)), (some 1, (.row2 (.int .i64)))] }], asg := [12, 13, 14, 16, 45, 46, 47, 48, 49, 50, 51, 52, 53, 54, 55, 56, 57, 58, 59, 60, 61, 62, 63, 64, 65, 66, 67, 68, 69, 70, 71, 72, 73, 74, 75, 76, 77, 78, 79, 80, 81, 82, 83, 84, 85, 86, 87, 88, 89, 90, 91, 92], nt := 130, fn := fun x => fairness_Core_2042 K k x.1.1 x.1.2.1 x.1.2.2.1 x.1.2.2.2.2.2.2.1 x.1.2.2.2.2.2.2.2.1 x.1.2.2.2.2.2.2.2.2.1 x.2.1 x.2.2.1 x.2.2.2.1 }
theorem k_fairness_Core_2042 (K : Nat) (hB : Base Try.prog tabs (fs_fairness_kept K)) : PcOk Try.prog (codeAt b_fairness_Core 2042) (p_fairness_Core_2042 K K) :=
  loop_thm hB (o_fairness_Core_1045711 K hB) 2042 (p_fairness_Core_2042 K 0) (l := fun k x => fairness_Core_2042 K k x.1.1 x.1.2.1 x.1.2.2.1 x.1.2.2.2.2.2.2.1 x.1.2.2.2.2.2.2.2.1 x.1.2.2.2.2.2.2.2.2.1 x.2.1 x.2.2.1 x.2.2.2.1) (c := codeAt b_fairness_Core 4084) (by kernel_rfl) (by kernel_rfl) (by kernel_rfl) (by kernel_rfl) (fun x => by kernel_rfl) (fun k x => by kernel_rfl) K
noncomputable def c_fairness_Core_2042 (K : Nat) : List (Nat × Piece) := (2042, p_fairness_Core_2042 K K) :: c_fairness_Core_1045711 K
theorem o_fairness_Core_2042 (K : Nat) (hB : Base Try.prog tabs (fs_fairness_kept K)) : PcsOk Try.prog b_fairness_Core (c_fairness_Core_2042 K) := PcsOk.cons (k_fairness_Core_2042 K hB) (o_fairness_Core_1045711 K hB)
def fairness_Core_261678 (K : Nat) : (k : Nat) → (x110 : (List Int)) → (x111 : Int) → (x112 : Int) → (o0 : (List Bool)) → (o1 : (List Int)) → Option ((Unit × Unit) × ((List Int) × ((List Bool) × Unit)))
  | 0, _, _, _, _, _ => none
  | k + 1, x110, x111, x112, o0, o1 =>
    if decide (x112 < x111) then
      if decide (0 ≤ x112 ∧ x112 < (x110.length : Int)) then
        if decide (0 ≤ x110.getD x112.toNat 0 ∧ x110.getD x112.toNat 0 < (o0.length : Int)) then
          if !(o0.getD ((x110.getD x112.toNat 0).toNat) false) then
            if decide (o1.length + ([x110.getD x112.toNat 0]).length ≤ 4294967296) then
              if decide (0 ≤ x110.getD x112.toNat 0 ∧ x110.getD x112.toNat 0 < (o0.length : Int)) then
                fairness_Core_261678 K k x110 x111 (IntKind.i64.wrap (x112 + 1)) (o0.set ((x110.getD x112.toNat 0).toNat) true) (o1 ++ [x110.getD x112.toNat 0])
              else
                none
            else
              none
          else
            fairness_Core_261678 K k x110 x111 (IntKind.i64.wrap (x112 + 1)) o0 o1
        else
          none
      else
        none
    else
      some (((), ()), (o1, (o0, ())))
@[reducible] def p_fairness_Core_261678 (K k : Nat) : Piece := { slots := [(10, (.href 0)), (12, (.href 1)), (110, (.v (.slice (.int .i64)))), (111, (.v (.int .i64))), (112, (.v (.int .i64)))], objs := [(.row .bool), (.row (.int .i64))], outs := [{ ex := (.exit 6), slots := [(12, (.href 0))], objs := [(none, (.row (.int .i64))), (some 0, (.row .bool))] }], asg := [12, 19, 112, 113, 114, 115, 116, 117, 118, 119, 120, 121, 122, 123, 124, 125, 126, 127, 128], nt := 130, fn := fun x => fairness_Core_261678 K k x.1.2.2.1 x.1.2.2.2.1 x.1.2.2.2.2.1 x.2.1 x.2.2.1 }
theorem k_fairness_Core_261678 (K : Nat) (hB : Base Try.prog tabs (fs_fairness_kept K)) : PcOk Try.prog (codeAt b_fairness_Core 261678) (p_fairness_Core_261678 K K) :=
  loop_thm hB (o_fairness_Core_2042 K hB) 261678 (p_fairness_Core_261678 K 0) (l := fun k x => fairness_Core_261678 K k x.1.2.2.1 x.1.2.2.2.1 x.1.2.2.2.2.1 x.2.1 x.2.2.1) (c := codeAt b_fairness_Core 523356) (by kernel_rfl) (by kernel_rfl) (by kernel_rfl) (by kernel_rfl) (fun x => by kernel_rfl) (fun k x => by kernel_rfl) K
noncomputable def c_fairness_Core_261678 (K : Nat) : List (Nat × Piece) := (261678, p_fairness_Core_261678 K K) :: c_fairness_Core_2042 K
theorem o_fairness_Core_261678 (K : Nat) (hB : Base Try.prog tabs (fs_fairness_kept K)) : PcsOk Try.prog b_fairness_Core (c_fairness_Core_261678 K) := PcsOk.cons (k_fairness_Core_261678 K hB) (o_fairness_Core_2042 K hB)
def fairness_Core_2044 (K : Nat) : (k : Nat) → (x11 : (List (List Int))) → (o0 : (List Bool)) → (o1 : (List Int)) → Option (Unit × ((List Bool) × Unit))
  | 0, _, _, _ => none
  | k + 1, x11, o0, o1 =>
    if decide (0 < (o1.length : Int)) then
      if decide (0 ≤ IntKind.i64.wrap ((o1.length : Int) - 1) ∧ IntKind.i64.wrap ((o1.length : Int) - 1) < (o1.length : Int)) then
        if decide (0 ≤ IntKind.i64.wrap ((o1.length : Int) - 1) ∧ IntKind.i64.wrap ((o1.length : Int) - 1) ≤ (o1.length : Int)) then
          if decide (0 ≤ o1.getD ((IntKind.i64.wrap ((o1.length : Int) - 1)).toNat) 0 ∧ o1.getD ((IntKind.i64.wrap ((o1.length : Int) - 1)).toNat) 0 < (x11.length : Int)) then
            (fairness_Core_261678 K K (x11.getD ((o1.getD ((IntKind.i64.wrap ((o1.length : Int) - 1)).toNat) 0).toNat) []) ((x11.getD ((o1.getD ((IntKind.i64.wrap ((o1.length : Int) - 1)).toNat) 0).toNat) []).length : Int) 0 o0 (o1.take ((IntKind.i64.wrap ((o1.length : Int) - 1)).toNat))).bind fun y1 =>
              fairness_Core_2044 K k x11 y1.2.2.1 y1.2.1
          else
            none
        else
          none
      else
        none
    else
      some ((), (o0, ()))
@[reducible] def p_fairness_Core_2044 (K k : Nat) : Piece := { slots := [(10, (.href 0)), (11, (.v (.slice (.slice (.int .i64))))), (12, (.href 1))], objs := [(.row .bool), (.row (.int .i64))], outs := [{ ex := (.exit 4), slots := [], objs := [(some 0, (.row .bool))] }], asg := [12, 17, 19, 93, 94, 95, 96, 97, 98, 99, 100, 101, 102, 103, 104, 105, 106, 107, 108, 109, 110, 111, 112, 113, 114, 115, 116, 117, 118, 119, 120, 121, 122, 123, 124, 125, 126, 127, 128], nt := 130, fn := fun x => fairness_Core_2044 K k x.1.2.1 x.2.1 x.2.2.1 }
theorem k_fairness_Core_2044 (K : Nat) (hB : Base Try.prog tabs (fs_fairness_kept K)) : PcOk Try.prog (codeAt b_fairness_Core 2044) (p_fairness_Core_2044 K K) :=
  loop_thm hB (o_fairness_Core_261678 K hB) 2044 (p_fairness_Core_2044 K 0) (l := fun k x => fairness_Core_2044 K k x.1.2.1 x.2.1 x.2.2.1) (c := codeAt b_fairness_Core 4088) (by kernel_rfl) (by kernel_rfl) (by kernel_rfl) (by kernel_rfl) (fun x => by kernel_rfl) (fun k x => by kernel_rfl) K
noncomputable def c_fairness_Core_2044 (K : Nat) : List (Nat × Piece) := (2044, p_fairness_Core_2044 K K) :: c_fairness_Core_261678 K
theorem o_fairness_Core_2044 (K : Nat) (hB : Base Try.prog tabs (fs_fairness_kept K)) : PcsOk Try.prog b_fairness_Core (c_fairness_Core_2044 K) := PcsOk.cons (k_fairness_Core_2044 K hB) (o_fairness_Core_261678 K hB)
def fairness_Core (K : Nat) (x0 : ((List Int) × ((List (List (Int × (Int × Unit)))) × Unit))) (x1 : (List Bool)) : Option (((Unit × (Int × Unit)) × Unit) × ((List Bool) × Unit)) :=
  (fairness_check K x0 x1).bind fun y4 =>
    if !decide (y4.1.1 = 0) then
      some ((((), (y4.1.1, ())), ()), ([], ()))
    else
      (fairness_components K x0 x1).bind fun y6 =>
        (fairness_kept K x0 y6.2.1 y6.1.1.2.1).bind fun y8 =>
          if decide (0 ≤ (x1.length : Int) ∧ (x1.length : Int) ≤ (x1.length : Int) ∧ (x1.length : Int) ≤ 4294967296) then
            if decide (0 ≤ (x1.length : Int) ∧ (x1.length : Int) ≤ (x1.length : Int) ∧ (x1.length : Int) ≤ 4294967296) then
              (fairness_Core_2042 K K x1 y6.2.1 y8.2.1 x0.2.1 (x0.2.1.length : Int) 0 (List.replicate (x1.length : Int).toNat false) (List.replicate (x1.length : Int).toNat []) []).bind fun y10 =>
                (fairness_Core_2044 K K y10.2.2.2.1 y10.2.2.1 y10.2.1).bind fun y12 =>
                  some ((((), (0, ())), ()), (y12.2.1, ()))
            else
              none
          else
            none
@[reducible] def p_fairness_Core (K : Nat) : Piece := { slots := [(0, (.v (.pair (.slice (.int .u32)) (.pair (.slice (.slice (.pair (.int .u32) (.pair (.int .i64) .unit)))) .unit)))), (1, (.v (.slice .bool)))], objs := [], outs := [{ ex := .ret, slots := [(0, (.tup (.cons (.href 0) (.cons (.v (.int .i64)) .nil))))], objs := [(none, (.row .bool))] }], asg := [], nt := 130, fn := fun x => fairness_Core K x.1.1 x.1.2.1 }
theorem s_fairness_Core (K : Nat) (hB : Base Try.prog tabs (fs_fairness_kept K)) : FnSound Try.prog 12 (p_fairness_Core K) :=
  fun_thm hB (o_fairness_Core_2044 K hB) Try.func12 (body := b_fairness_Core) rfl (p_fairness_Core K) (rs := [.tmp 4, .tmp 5]) rfl (Nat.le_of_ble_eq_true (by kernel_rfl)) (fun x => by kernel_rfl)
noncomputable def fs_fairness_Core (K : Nat) : List (Nat × Piece) := (12, p_fairness_Core K) :: fs_fairness_kept K
theorem base_fairness_Core (K : Nat) : Base Try.prog tabs (fs_fairness_Core K) := ⟨(base_fairness_kept K).mixed, (base_fairness_kept K).tabs, FnsOk.cons (s_fairness_Core K (base_fairness_kept K)) (by kernel_rfl) (base_fairness_kept K).fns⟩
/-! "selfstab/fairness.Components" -/
noncomputable def b_fairness_Components : Code := codeOf Try.f16
noncomputable def c_fairness_Components_0 (K : Nat) : List (Nat × Piece) := []
theorem o_fairness_Components_0 (K : Nat) : PcsOk Try.prog b_fairness_Components (c_fairness_Components_0 K) := PcsOk.nil
def fairness_Components (K : Nat) (x0 : ((List Int) × ((List (List (Int × (Int × Unit)))) × Unit))) (x1 : (List Bool)) : Option (((Unit × (Int × Unit)) × Unit) × ((List Int) × Unit)) :=
  (fairness_check K x0 x1).bind fun y4 =>
    if !decide (y4.1.1 = 0) then
      some ((((), (y4.1.1, ())), ()), ([], ()))
    else
      (fairness_components K x0 x1).bind fun y6 =>
        some ((((), (0, ())), ()), (y6.2.1, ()))
@[reducible] def p_fairness_Components (K : Nat) : Piece := { slots := [(0, (.v (.pair (.slice (.int .u32)) (.pair (.slice (.slice (.pair (.int .u32) (.pair (.int .i64) .unit)))) .unit)))), (1, (.v (.slice .bool)))], objs := [], outs := [{ ex := .ret, slots := [(0, (.tup (.cons (.href 0) (.cons (.v (.int .i64)) .nil))))], objs := [(none, (.row (.int .i64)))] }], asg := [], nt := 22, fn := fun x => fairness_Components K x.1.1 x.1.2.1 }
theorem s_fairness_Components (K : Nat) (hB : Base Try.prog tabs (fs_fairness_Core K)) : FnSound Try.prog 16 (p_fairness_Components K) :=
  fun_thm hB (o_fairness_Components_0 K) Try.func16 (body := b_fairness_Components) rfl (p_fairness_Components K) (rs := [.tmp 4, .tmp 5]) rfl (Nat.le_of_ble_eq_true (by kernel_rfl)) (fun x => by kernel_rfl)
noncomputable def fs_fairness_Components (K : Nat) : List (Nat × Piece) := (16, p_fairness_Components K) :: fs_fairness_Core K
theorem base_fairness_Components (K : Nat) : Base Try.prog tabs (fs_fairness_Components K) := ⟨(base_fairness_Core K).mixed, (base_fairness_Core K).tabs, FnsOk.cons (s_fairness_Components K (base_fairness_Core K)) (by kernel_rfl) (base_fairness_Core K).fns⟩
/-! "selfstab/selfstabref01.SameInts" -/
noncomputable def b_ref01_SameInts : Code := codeOf Try.f23
noncomputable def c_ref01_SameInts_0 (K : Nat) : List (Nat × Piece) := []
theorem o_ref01_SameInts_0 (K : Nat) : PcsOk Try.prog b_ref01_SameInts (c_ref01_SameInts_0 K) := PcsOk.nil
def ref01_SameInts_58 (K : Nat) : (k : Nat) → (x0 : (List Int)) → (x1 : (List Int)) → (x5 : Int) → Option ((Unit × Unit) ⊕ ((Bool × Unit) × Unit))
  | 0, _, _, _ => none
  | k + 1, x0, x1, x5 =>
    if decide (x5 < (x0.length : Int)) then
      if decide (0 ≤ x5 ∧ x5 < (x0.length : Int)) then
        if decide (0 ≤ x5 ∧ x5 < (x1.length : Int)) then
          if !decide ((x0.getD x5.toNat 0) = (x1.getD x5.toNat 0)) then
            some (.inr ((false, ()), ()))
          else
            ref01_SameInts_58 K k x0 x1 (IntKind.i64.wrap (x5 + 1))
        else
          none
      else
        none
    else
      some (.inl ((), ()))
@[reducible] def p_ref01_SameInts_58 (K k : Nat) : Piece := { slots := [(0, (.v (.slice (.int .i64)))), (1, (.v (.slice (.int .i64)))), (5, (.v (.int .i64)))], objs := [], outs := [{ ex := (.exit 0), slots := [], objs := [] }, { ex := .ret, slots := [(4, (.v .bool))], objs := [] }], asg := [4, 5, 11, 12, 13, 14, 15, 16, 17, 18, 19, 20, 21, 22, 23, 24, 25], nt := 26, fn := fun x => ref01_SameInts_58 K k x.1.1 x.1.2.1 x.1.2.2.1 }
theorem k_ref01_SameInts_58 (K : Nat) (hB : Base Try.prog tabs (fs_fairness_Components K)) : PcOk Try.prog (codeAt b_ref01_SameInts 58) (p_ref01_SameInts_58 K K) :=
  loop_thm hB (o_ref01_SameInts_0 K) 58 (p_ref01_SameInts_58 K 0) (l := fun k x => ref01_SameInts_58 K k x.1.1 x.1.2.1 x.1.2.2.1) (c := codeAt b_ref01_SameInts 116) (by kernel_rfl) (by kernel_rfl) (by kernel_rfl) (by kernel_rfl) (fun x => by kernel_rfl) (fun k x => by kernel_rfl) K
noncomputable def c_ref01_SameInts_58 (K : Nat) : List (Nat × Piece) := (58, p_ref01_SameInts_58 K K) :: c_ref01_SameInts_0 K
theorem o_ref01_SameInts_58 (K : Nat) (hB : Base Try.prog tabs (fs_fairness_Components K)) : PcsOk Try.prog b_ref01_SameInts (c_ref01_SameInts_58 K) := PcsOk.cons (k_ref01_SameInts_58 K hB) (o_ref01_SameInts_0 K)
def ref01_SameInts (K : Nat) (x0 : (List Int)) (x1 : (List Int)) : Option ((Bool × Unit) × Unit) :=
  if !decide ((x0.length : Int) = (x1.length : Int)) then
    some ((false, ()), ())
  else
    (ref01_SameInts_58 K K x0 x1 0).bind fun y4 =>
      match y4 with
      | .inl y5 =>
        some ((true, ()), ())
      | .inr y6 =>
        some ((y6.1.1, ()), ())
@[reducible] def p_ref01_SameInts (K : Nat) : Piece := { slots := [(0, (.v (.slice (.int .i64)))), (1, (.v (.slice (.int .i64))))], objs := [], outs := [{ ex := .ret, slots := [(0, (.v .bool))], objs := [] }], asg := [], nt := 26, fn := fun x => ref01_SameInts K x.1.1 x.1.2.1 }
theorem s_ref01_SameInts (K : Nat) (hB : Base Try.prog tabs (fs_fairness_Components K)) : FnSound Try.prog 23 (p_ref01_SameInts K) :=
  fun_thm hB (o_ref01_SameInts_58 K hB) Try.func23 (body := b_ref01_SameInts) rfl (p_ref01_SameInts K) (rs := [.tmp 4]) rfl (Nat.le_of_ble_eq_true (by kernel_rfl)) (fun x => by kernel_rfl)
noncomputable def fs_ref01_SameInts (K : Nat) : List (Nat × Piece) := (23, p_ref01_SameInts K) :: fs_fairness_Components K
theorem base_ref01_SameInts (K : Nat) : Base Try.prog tabs (fs_ref01_SameInts K) := ⟨(base_fairness_Components K).mixed, (base_fairness_Components K).tabs, FnsOk.cons (s_ref01_SameInts K (base_fairness_Components K)) (by kernel_rfl) (base_fairness_Components K).fns⟩
/-! "selfstab/selfstablaw21.awake" -/
noncomputable def b_law21_awake : Code := codeOf Try.f11
noncomputable def c_law21_awake_0 (K : Nat) : List (Nat × Piece) := []
theorem o_law21_awake_0 (K : Nat) : PcsOk Try.prog b_law21_awake (c_law21_awake_0 K) := PcsOk.nil
def law21_awake (K : Nat) : Option ((Bool × Unit) × Unit) :=
  (law21_example K).bind fun y3 =>
    (fairness_Core K (y3.2.1, (y3.2.2.1, y3.1.1.2.2)) ([true, false])).bind fun y4 =>
      (law21_example K).bind fun y7 =>
        (fairness_Components K (y7.2.1, (y7.2.2.1, y7.1.1.2.2)) ([false, false])).bind fun y8 =>
          if decide (y4.1.1.2.1 = 0) then
            if decide (y8.1.1.2.1 = 0) then
              if decide ((y4.2.1.length : Int) = 2) then
                if decide (0 ≤ (1 : Int) ∧ 1 < (y4.2.1.length : Int)) then
                  if !(y4.2.1.getD ((1 : Int).toNat) false) then
                    (ref01_SameInts K y8.2.1 ([0, 1])).bind fun y9 =>
                      some ((y9.1.1, ()), ())
                  else
                    some ((false, ()), ())
                else
                  none
              else
                some ((false, ()), ())
            else
              some ((false, ()), ())
          else
            some ((false, ()), ())
@[reducible] def p_law21_awake (K : Nat) : Piece := { slots := [], objs := [], outs := [{ ex := .ret, slots := [(0, (.v .bool))], objs := [] }], asg := [], nt := 39, fn := fun x => law21_awake K }
theorem s_law21_awake (K : Nat) (hB : Base Try.prog tabs (fs_ref01_SameInts K)) : FnSound Try.prog 11 (p_law21_awake K) :=
  fun_thm hB (o_law21_awake_0 K) Try.func11 (body := b_law21_awake) rfl (p_law21_awake K) (rs := [.tmp 0]) rfl (Nat.le_of_ble_eq_true (by kernel_rfl)) (fun x => by kernel_rfl)
noncomputable def fs_law21_awake (K : Nat) : List (Nat × Piece) := (11, p_law21_awake K) :: fs_ref01_SameInts K
theorem base_law21_awake (K : Nat) : Base Try.prog tabs (fs_law21_awake K) := ⟨(base_ref01_SameInts K).mixed, (base_ref01_SameInts K).tabs, FnsOk.cons (s_law21_awake K (base_ref01_SameInts K)) (by kernel_rfl) (base_ref01_SameInts K).fns⟩
/-! "selfstab/selfstabref19.Begin" -/
noncomputable def b_ref19_Begin : Code := codeOf Try.f28
noncomputable def c_ref19_Begin_0 (K : Nat) : List (Nat × Piece) := []
theorem o_ref19_Begin_0 (K : Nat) : PcsOk Try.prog b_ref19_Begin (c_ref19_Begin_0 K) := PcsOk.nil
def ref19_Begin (K : Nat) (x0 : ((List Int) × ((List (List (Int × (Int × Unit)))) × Unit))) (x1 : (List Bool)) : Option ((Int × Unit) × Unit) :=
  (ref18_Valid K x0).bind fun y4 =>
    if !y4.1.1 then
      some ((13, ()), ())
    else
      if !decide ((x1.length : Int) = (x0.1.length : Int)) then
        some ((7, ()), ())
      else
        some ((0, ()), ())
@[reducible] def p_ref19_Begin (K : Nat) : Piece := { slots := [(0, (.v (.pair (.slice (.int .u32)) (.pair (.slice (.slice (.pair (.int .u32) (.pair (.int .i64) .unit)))) .unit)))), (1, (.v (.slice .bool)))], objs := [], outs := [{ ex := .ret, slots := [(0, (.v (.int .i64)))], objs := [] }], asg := [], nt := 14, fn := fun x => ref19_Begin K x.1.1 x.1.2.1 }
theorem s_ref19_Begin (K : Nat) (hB : Base Try.prog tabs (fs_law21_awake K)) : FnSound Try.prog 28 (p_ref19_Begin K) :=
  fun_thm hB (o_ref19_Begin_0 K) Try.func28 (body := b_ref19_Begin) rfl (p_ref19_Begin K) (rs := [.tmp 4]) rfl (Nat.le_of_ble_eq_true (by kernel_rfl)) (fun x => by kernel_rfl)
noncomputable def fs_ref19_Begin (K : Nat) : List (Nat × Piece) := (28, p_ref19_Begin K) :: fs_law21_awake K
theorem base_ref19_Begin (K : Nat) : Base Try.prog tabs (fs_ref19_Begin K) := ⟨(base_law21_awake K).mixed, (base_law21_awake K).tabs, FnsOk.cons (s_ref19_Begin K (base_law21_awake K)) (by kernel_rfl) (base_law21_awake K).fns⟩
/-! "selfstab/selfstabref19.into" -/
noncomputable def b_ref19_into : Code := codeOf Try.f33
noncomputable def c_ref19_into_0 (K : Nat) : List (Nat × Piece) := []
theorem o_ref19_into_0 (K : Nat) : PcsOk Try.prog b_ref19_into (c_ref19_into_0 K) := PcsOk.nil
def ref19_into_58 (K : Nat) : (k : Nat) → (x0 : (List (Int × (Int × Unit)))) → (x1 : (List Bool)) → (x5 : Int) → (x6 : Int) → Option ((Int × Unit) × Unit)
  | 0, _, _, _, _ => none
  | k + 1, x0, x1, x5, x6 =>
    if decide (x6 < (x0.length : Int)) then
      if decide (0 ≤ x6 ∧ x6 < (x0.length : Int)) then
        if decide (0 ≤ ((x0.getD x6.toNat (0, (0, ()))).2).1 ∧ ((x0.getD x6.toNat (0, (0, ()))).2).1 < (x1.length : Int)) then
          if x1.getD ((((x0.getD x6.toNat (0, (0, ()))).2).1).toNat) false then
            ref19_into_58 K k x0 x1 (IntKind.i64.wrap (x5 + 1)) (IntKind.i64.wrap (x6 + 1))
          else
            ref19_into_58 K k x0 x1 x5 (IntKind.i64.wrap (x6 + 1))
        else
          none
      else
        none
    else
      some ((x5, ()), ())
@[reducible] def p_ref19_into_58 (K k : Nat) : Piece := { slots := [(0, (.v (.slice (.pair (.int .u32) (.pair (.int .i64) .unit))))), (1, (.v (.slice .bool))), (5, (.v (.int .i64))), (6, (.v (.int .i64)))], objs := [], outs := [{ ex := (.exit 0), slots := [(5, (.v (.int .i64)))], objs := [] }], asg := [5, 6, 7, 8, 9, 10, 11, 12, 13, 14, 15, 16, 17, 18, 19, 20, 21, 22], nt := 24, fn := fun x => ref19_into_58 K k x.1.1 x.1.2.1 x.1.2.2.1 x.1.2.2.2.1 }
theorem k_ref19_into_58 (K : Nat) (hB : Base Try.prog tabs (fs_ref19_Begin K)) : PcOk Try.prog (codeAt b_ref19_into 58) (p_ref19_into_58 K K) :=
  loop_thm hB (o_ref19_into_0 K) 58 (p_ref19_into_58 K 0) (l := fun k x => ref19_into_58 K k x.1.1 x.1.2.1 x.1.2.2.1 x.1.2.2.2.1) (c := codeAt b_ref19_into 116) (by kernel_rfl) (by kernel_rfl) (by kernel_rfl) (by kernel_rfl) (fun x => by kernel_rfl) (fun k x => by kernel_rfl) K
noncomputable def c_ref19_into_58 (K : Nat) : List (Nat × Piece) := (58, p_ref19_into_58 K K) :: c_ref19_into_0 K
theorem o_ref19_into_58 (K : Nat) (hB : Base Try.prog tabs (fs_ref19_Begin K)) : PcsOk Try.prog b_ref19_into (c_ref19_into_58 K) := PcsOk.cons (k_ref19_into_58 K hB) (o_ref19_into_0 K)
def ref19_into (K : Nat) (x0 : (List (Int × (Int × Unit)))) (x1 : (List Bool)) : Option ((Int × Unit) × Unit) :=
  (ref19_into_58 K K x0 x1 0 0).bind fun y2 =>
    some ((y2.1.1, ()), ())
@[reducible] def p_ref19_into (K : Nat) : Piece := { slots := [(0, (.v (.slice (.pair (.int .u32) (.pair (.int .i64) .unit))))), (1, (.v (.slice .bool)))], objs := [], outs := [{ ex := .ret, slots := [(0, (.v (.int .i64)))], objs := [] }], asg := [], nt := 24, fn := fun x => ref19_into K x.1.1 x.1.2.1 }
theorem s_ref19_into (K : Nat) (hB : Base Try.prog tabs (fs_ref19_Begin K)) : FnSound Try.prog 33 (p_ref19_into K) :=
  fun_thm hB (o_ref19_into_58 K hB) Try.func33 (body := b_ref19_into) rfl (p_ref19_into K) (rs := [.tmp 4]) rfl (Nat.le_of_ble_eq_true (by kernel_rfl)) (fun x => by kernel_rfl)
noncomputable def fs_ref19_into (K : Nat) : List (Nat × Piece) := (33, p_ref19_into K) :: fs_ref19_Begin K
theorem base_ref19_into (K : Nat) : Base Try.prog tabs (fs_ref19_into K) := ⟨(base_ref19_Begin K).mixed, (base_ref19_Begin K).tabs, FnsOk.cons (s_ref19_into K (base_ref19_Begin K)) (by kernel_rfl) (base_ref19_Begin K).fns⟩
/-! "selfstab/selfstabref19.Core" -/
noncomputable def b_ref19_Core : Code := codeOf Try.f18
noncomputable def c_ref19_Core_0 (K : Nat) : List (Nat × Piece) := []
theorem o_ref19_Core_0 (K : Nat) : PcsOk Try.prog b_ref19_Core (c_ref19_Core_0 K) := PcsOk.nil
def ref19_Core_122 (K : Nat) : (k : Nat) → (x1 : (List Bool)) → (x8 : Int) → (o0 : (List Bool)) → Option ((Unit × Unit) × ((List Bool) × Unit))
  | 0, _, _, _ => none
  | k + 1, x1, x8, o0 =>
    if decide (x8 < (x1.length : Int)) then
      if decide (0 ≤ x8 ∧ x8 < (x1.length : Int)) then
        if decide (o0.length + ([!(x1.getD x8.toNat false)]).length ≤ 4294967296) then
          ref19_Core_122 K k x1 (IntKind.i64.wrap (x8 + 1)) (o0 ++ [!(x1.getD x8.toNat false)])
        else
          none
      else
        none
    else
      some (((), ()), (o0, ()))
@[reducible] def p_ref19_Core_122 (K k : Nat) : Piece := { slots := [(1, (.v (.slice .bool))), (7, (.href 0)), (8, (.v (.int .i64)))], objs := [(.row .bool)], outs := [{ ex := (.exit 0), slots := [(7, (.href 0))], objs := [(none, (.row .bool))] }], asg := [7, 8, 17, 18, 19, 20, 21, 22, 23, 24, 25, 26, 27, 28, 29, 30], nt := 65, fn := fun x => ref19_Core_122 K k x.1.1 x.1.2.2.1 x.2.1 }
theorem k_ref19_Core_122 (K : Nat) (hB : Base Try.prog tabs (fs_ref19_into K)) : PcOk Try.prog (codeAt b_ref19_Core 122) (p_ref19_Core_122 K K) :=
  loop_thm hB (o_ref19_Core_0 K) 122 (p_ref19_Core_122 K 0) (l := fun k x => ref19_Core_122 K k x.1.1 x.1.2.2.1 x.2.1) (c := codeAt b_ref19_Core 244) (by kernel_rfl) (by kernel_rfl) (by kernel_rfl) (by kernel_rfl) (fun x => by kernel_rfl) (fun k x => by kernel_rfl) K
noncomputable def c_ref19_Core_122 (K : Nat) : List (Nat × Piece) := (122, p_ref19_Core_122 K K) :: c_ref19_Core_0 K
theorem o_ref19_Core_122 (K : Nat) (hB : Base Try.prog tabs (fs_ref19_into K)) : PcsOk Try.prog b_ref19_Core (c_ref19_Core_122 K) := PcsOk.cons (k_ref19_Core_122 K hB) (o_ref19_Core_0 K)
def ref19_Core_512713 (K : Nat) (x9 : Bool) (x10 : Int) (x60 : Bool) (o0 : (List Bool)) : Option ((Bool × Unit) × ((List Bool) × Unit)) :=
  if x60 then
    if decide (0 ≤ x10 ∧ x10 < (o0.length : Int)) then
      some ((true, ()), (o0.set x10.toNat false, ()))
    else
      none
  else
    some ((x9, ()), (o0, ()))
@[reducible] def p_ref19_Core_512713 (K : Nat) : Piece := { slots := [(7, (.href 0)), (9, (.v .bool)), (10, (.v (.int .i64))), (60, (.v .bool))], objs := [(.row .bool)], outs := [{ ex := .normal, slots := [(9, (.v .bool))], objs := [(some 0, (.row .bool))] }], asg := [9, 61, 62, 63], nt := 65, fn := fun x => ref19_Core_512713 K x.1.2.1 x.1.2.2.1 x.1.2.2.2.1 x.2.1 }
theorem k_ref19_Core_512713 (K : Nat) (hB : Base Try.prog tabs (fs_ref19_into K)) : PcOk Try.prog (codeAt b_ref19_Core 512713) (p_ref19_Core_512713 K) :=
  seg_thm hB (o_ref19_Core_122 K hB) 512713 (p_ref19_Core_512713 K) (by kernel_rfl) (by kernel_rfl) (by kernel_rfl) (fun x => by kernel_rfl)
noncomputable def c_ref19_Core_512713 (K : Nat) : List (Nat × Piece) := (512713, p_ref19_Core_512713 K) :: c_ref19_Core_122 K
theorem o_ref19_Core_512713 (K : Nat) (hB : Base Try.prog tabs (fs_ref19_into K)) : PcsOk Try.prog b_ref19_Core (c_ref19_Core_512713 K) := PcsOk.cons (k_ref19_Core_512713 K hB) (o_ref19_Core_122 K hB)
def ref19_Core_16022 (K : Nat) : (k : Nat) → (x9 : Bool) → (x10 : Int) → (o0 : ((List Int) × ((List (List (Int × (Int × Unit)))) × Unit))) → (o1 : (List Bool)) → Option ((Bool × Unit) × (((List Int) × ((List (List (Int × (Int × Unit)))) × Unit)) × ((List Bool) × Unit)))
  | 0, _, _, _, _ => none
  | k + 1, x9, x10, o0, o1 =>
    if decide (x10 < (o1.length : Int)) then
      if decide (0 ≤ x10 ∧ x10 < (o1.length : Int)) then
        if o1.getD x10.toNat false then
          if decide (0 ≤ x10 ∧ x10 < (o0.2.1.length : Int)) then
            if decide (0 < ((o0.2.1.getD x10.toNat []).length : Int)) then
              if decide (0 ≤ x10 ∧ x10 < (o0.2.1.length : Int)) then
                (ref19_into K (o0.2.1.getD x10.toNat []) o1).bind fun y5 =>
                  (ref19_Core_512713 K x9 x10 (decide (y5.1.1 = 0)) o1).bind fun y6 =>
                    ref19_Core_16022 K k y6.1.1 (IntKind.i64.wrap (x10 + 1)) o0 y6.2.1
              else
                none
            else
              (ref19_Core_512713 K x9 x10 false o1).bind fun y7 =>
                ref19_Core_16022 K k y7.1.1 (IntKind.i64.wrap (x10 + 1)) o0 y7.2.1
          else
            none
        else
          (ref19_Core_512713 K x9 x10 false o1).bind fun y8 =>
            ref19_Core_16022 K k y8.1.1 (IntKind.i64.wrap (x10 + 1)) o0 y8.2.1
      else
        none
    else
      some ((x9, ()), (o0, (o1, ())))
@[reducible] def p_ref19_Core_16022 (K k : Nat) : Piece := { slots := [(2, (.ref 0 (.pair (.slice (.int .u32)) (.pair (.slice (.slice (.pair (.int .u32) (.pair (.int .i64) .unit)))) .unit)))), (7, (.href 1)), (9, (.v .bool)), (10, (.v (.int .i64)))], objs := [(.box (.pair (.slice (.int .u32)) (.pair (.slice (.slice (.pair (.int .u32) (.pair (.int .i64) .unit)))) .unit)) (.v (.pair (.slice (.int .u32)) (.pair (.slice (.slice (.pair (.int .u32) (.pair (.int .i64) .unit)))) .unit)))), (.row .bool)], outs := [{ ex := (.exit 4), slots := [(9, (.v .bool))], objs := [(some 0, (.box (.pair (.slice (.int .u32)) (.pair (.slice (.slice (.pair (.int .u32) (.pair (.int .i64) .unit)))) .unit)) (.v (.pair (.slice (.int .u32)) (.pair (.slice (.slice (.pair (.int .u32) (.pair (.int .i64) .unit)))) .unit))))), (some 1, (.row .bool))] }], asg := [9, 10, 32, 33, 34, 35, 36, 37, 38, 39, 40, 41, 42, 43, 44, 45, 46, 47, 48, 49, 50, 51, 52, 53, 54, 55, 56, 57, 58, 59, 60, 61, 62, 63], nt := 65, fn := fun x => ref19_Core_16022 K k x.1.2.2.1 x.1.2.2.2.1 x.2.1 x.2.2.1 }
theorem k_ref19_Core_16022 (K : Nat) (hB : Base Try.prog tabs (fs_ref19_into K)) : PcOk Try.prog (codeAt b_ref19_Core 16022) (p_ref19_Core_16022 K K) :=
  loop_thm hB (o_ref19_Core_512713 K hB) 16022 (p_ref19_Core_16022 K 0) (l := fun k x => ref19_Core_16022 K k x.1.2.2.1 x.1.2.2.2.1 x.2.1 x.2.2.1) (c := codeAt b_ref19_Core 32044) (by kernel_rfl) (by kernel_rfl) (by kernel_rfl) (by kernel_rfl) (fun x => by kernel_rfl) (fun k x => by kernel_rfl) K
noncomputable def c_ref19_Core_16022 (K : Nat) : List (Nat × Piece) := (16022, p_ref19_Core_16022 K K) :: c_ref19_Core_512713 K
theorem o_ref19_Core_16022 (K : Nat) (hB : Base Try.prog tabs (fs_ref19_into K)) : PcsOk Try.prog b_ref19_Core (c_ref19_Core_16022 K) := PcsOk.cons (k_ref19_Core_16022 K hB) (o_ref19_Core_512713 K hB)
def ref19_Core_250 (K : Nat) : (k : Nat) → (x9 : Bool) → (o0 : ((List Int) × ((List (List (Int × (Int × Unit)))) × Unit))) → (o1 : (List Bool)) → Option (Unit × ((List Bool) × Unit))
  | 0, _, _, _ => none
  | k + 1, x9, o0, o1 =>
    if x9 then
      (ref19_Core_16022 K K false 0 o0 o1).bind fun y1 =>
        ref19_Core_250 K k y1.1.1 y1.2.1 y1.2.2.1
    else
      some ((), (o1, ()))
@[reducible] def p_ref19_Core_250 (K k : Nat) : Piece := { slots := [(2, (.ref 0 (.pair (.slice (.int .u32)) (.pair (.slice (.slice (.pair (.int .u32) (.pair (.int .i64) .unit)))) .unit)))), (7, (.href 1)), (9, (.v .bool))], objs := [(.box (.pair (.slice (.int .u32)) (.pair (.slice (.slice (.pair (.int .u32) (.pair (.int .i64) .unit)))) .unit)) (.v (.pair (.slice (.int .u32)) (.pair (.slice (.slice (.pair (.int .u32) (.pair (.int .i64) .unit)))) .unit)))), (.row .bool)], outs := [{ ex := (.exit 2), slots := [], objs := [(some 1, (.row .bool))] }], asg := [9, 10, 31, 32, 33, 34, 35, 36, 37, 38, 39, 40, 41, 42, 43, 44, 45, 46, 47, 48, 49, 50, 51, 52, 53, 54, 55, 56, 57, 58, 59, 60, 61, 62, 63], nt := 65, fn := fun x => ref19_Core_250 K k x.1.2.2.1 x.2.1 x.2.2.1 }
theorem k_ref19_Core_250 (K : Nat) (hB : Base Try.prog tabs (fs_ref19_into K)) : PcOk Try.prog (codeAt b_ref19_Core 250) (p_ref19_Core_250 K K) :=
  loop_thm hB (o_ref19_Core_16022 K hB) 250 (p_ref19_Core_250 K 0) (l := fun k x => ref19_Core_250 K k x.1.2.2.1 x.2.1 x.2.2.1) (c := codeAt b_ref19_Core 500) (by kernel_rfl) (by kernel_rfl) (by kernel_rfl) (by kernel_rfl) (fun x => by kernel_rfl) (fun k x => by kernel_rfl) K
noncomputable def c_ref19_Core_250 (K : Nat) : List (Nat × Piece) := (250, p_ref19_Core_250 K K) :: c_ref19_Core_16022 K
theorem o_ref19_Core_250 (K : Nat) (hB : Base Try.prog tabs (fs_ref19_into K)) : PcsOk Try.prog b_ref19_Core (c_ref19_Core_250 K) := PcsOk.cons (k_ref19_Core_250 K hB) (o_ref19_Core_16022 K hB)
def ref19_Core (K : Nat) (x0 : ((List Int) × ((List (List (Int × (Int × Unit)))) × Unit))) (x1 : (List Bool)) : Option (((Unit × (Int × Unit)) × Unit) × ((List Bool) × Unit)) :=
  (ref19_Begin K x0 x1).bind fun y4 =>
    if !decide (y4.1.1 = 0) then
      some ((((), (y4.1.1, ())), ()), ([], ()))
    else
      (ref19_Core_122 K K x1 0 []).bind fun y6 =>
        (ref19_Core_250 K K true x0 y6.2.1).bind fun y8 =>
          some ((((), (0, ())), ()), (y8.2.1, ()))
@[reducible] def p_ref19_Core (K : Nat) : Piece := { slots := [(0, (.v (.pair (.slice (.int .u32)) (.pair (.slice (.slice (.pair (.int .u32) (.pair (.int .i64) .unit)))) .unit)))), (1, (.v (.slice .bool)))], objs := [], outs := [{ ex := .ret, slots := [(0, (.tup (.cons (.href 0) (.cons (.v (.int .i64)) .nil))))], objs := [(none, (.row .bool))] }], asg := [], nt := 65, fn := fun x => ref19_Core K x.1.1 x.1.2.1 }
theorem s_ref19_Core (K : Nat) (hB : Base Try.prog tabs (fs_ref19_into K)) : FnSound Try.prog 18 (p_ref19_Core K) :=
  fun_thm hB (o_ref19_Core_250 K hB) Try.func18 (body := b_ref19_Core) rfl (p_ref19_Core K) (rs := [.tmp 4, .tmp 5]) rfl (Nat.le_of_ble_eq_true (by kernel_rfl)) (fun x => by kernel_rfl)
noncomputable def fs_ref19_Core (K : Nat) : List (Nat × Piece) := (18, p_ref19_Core K) :: fs_ref19_into K
theorem base_ref19_Core (K : Nat) : Base Try.prog tabs (fs_ref19_Core K) := ⟨(base_ref19_into K).mixed, (base_ref19_into K).tabs, FnsOk.cons (s_ref19_Core K (base_ref19_into K)) (by kernel_rfl) (base_ref19_into K).fns⟩
/-! "selfstab/selfstabref19.Same" -/
noncomputable def b_ref19_Same : Code := codeOf Try.f14
noncomputable def c_ref19_Same_0 (K : Nat) : List (Nat × Piece) := []
theorem o_ref19_Same_0 (K : Nat) : PcsOk Try.prog b_ref19_Same (c_ref19_Same_0 K) := PcsOk.nil
def ref19_Same_58 (K : Nat) : (k : Nat) → (x0 : (List Bool)) → (x1 : (List Bool)) → (x5 : Int) → Option ((Unit × Unit) ⊕ ((Bool × Unit) × Unit))
  | 0, _, _, _ => none
  | k + 1, x0, x1, x5 =>
    if decide (x5 < (x0.length : Int)) then
      if decide (0 ≤ x5 ∧ x5 < (x0.length : Int)) then
        if decide (0 ≤ x5 ∧ x5 < (x1.length : Int)) then
          if !(GTy.beq .bool (x0.getD x5.toNat false) (x1.getD x5.toNat false)) then
            some (.inr ((false, ()), ()))
          else
            ref19_Same_58 K k x0 x1 (IntKind.i64.wrap (x5 + 1))
        else
          none
      else
        none
    else
      some (.inl ((), ()))
@[reducible] def p_ref19_Same_58 (K k : Nat) : Piece := { slots := [(0, (.v (.slice .bool))), (1, (.v (.slice .bool))), (5, (.v (.int .i64)))], objs := [], outs := [{ ex := (.exit 0), slots := [], objs := [] }, { ex := .ret, slots := [(4, (.v .bool))], objs := [] }], asg := [4, 5, 11, 12, 13, 14, 15, 16, 17, 18, 19, 20, 21, 22, 23, 24, 25], nt := 26, fn := fun x => ref19_Same_58 K k x.1.1 x.1.2.1 x.1.2.2.1 }
theorem k_ref19_Same_58 (K : Nat) (hB : Base Try.prog tabs (fs_ref19_Core K)) : PcOk Try.prog (codeAt b_ref19_Same 58) (p_ref19_Same_58 K K) :=
  loop_thm hB (o_ref19_Same_0 K) 58 (p_ref19_Same_58 K 0) (l := fun k x => ref19_Same_58 K k x.1.1 x.1.2.1 x.1.2.2.1) (c := codeAt b_ref19_Same 116) (by kernel_rfl) (by kernel_rfl) (by kernel_rfl) (by kernel_rfl) (fun x => by kernel_rfl) (fun k x => by kernel_rfl) K
noncomputable def c_ref19_Same_58 (K : Nat) : List (Nat × Piece) := (58, p_ref19_Same_58 K K) :: c_ref19_Same_0 K
theorem o_ref19_Same_58 (K : Nat) (hB : Base Try.prog tabs (fs_ref19_Core K)) : PcsOk Try.prog b_ref19_Same (c_ref19_Same_58 K) := PcsOk.cons (k_ref19_Same_58 K hB) (o_ref19_Same_0 K)
def ref19_Same (K : Nat) (x0 : (List Bool)) (x1 : (List Bool)) : Option ((Bool × Unit) × Unit) :=
  if !decide ((x0.length : Int) = (x1.length : Int)) then
    some ((false, ()), ())
  else
    (ref19_Same_58 K K x0 x1 0).bind fun y4 =>
      match y4 with
      | .inl y5 =>
        some ((true, ()), ())
      | .inr y6 =>
        some ((y6.1.1, ()), ())
@[reducible] def p_ref19_Same (K : Nat) : Piece := { slots := [(0, (.v (.slice .bool))), (1, (.v (.slice .bool)))], objs := [], outs := [{ ex := .ret, slots := [(0, (.v .bool))], objs := [] }], asg := [], nt := 26, fn := fun x => ref19_Same K x.1.1 x.1.2.1 }
theorem s_ref19_Same (K : Nat) (hB : Base Try.prog tabs (fs_ref19_Core K)) : FnSound Try.prog 14 (p_ref19_Same K) :=
  fun_thm hB (o_ref19_Same_58 K hB) Try.func14 (body := b_ref19_Same) rfl (p_ref19_Same K) (rs := [.tmp 4]) rfl (Nat.le_of_ble_eq_true (by kernel_rfl)) (fun x => by kernel_rfl)
noncomputable def fs_ref19_Same (K : Nat) : List (Nat × Piece) := (14, p_ref19_Same K) :: fs_ref19_Core K
theorem base_ref19_Same (K : Nat) : Base Try.prog tabs (fs_ref19_Same K) := ⟨(base_ref19_Core K).mixed, (base_ref19_Core K).tabs, FnsOk.cons (s_ref19_Same K (base_ref19_Core K)) (by kernel_rfl) (base_ref19_Core K).fns⟩
/-! "selfstab/selfstablaw21.FairnessIsWeaker" -/
noncomputable def b_law21_FairnessIsWeaker : Code := codeOf Try.f5
noncomputable def c_law21_FairnessIsWeaker_0 (K : Nat) : List (Nat × Piece) := []
theorem o_law21_FairnessIsWeaker_0 (K : Nat) : PcsOk Try.prog b_law21_FairnessIsWeaker (c_law21_FairnessIsWeaker_0 K) := PcsOk.nil
def law21_FairnessIsWeaker_65170 (K : Nat) : (k : Nat) → (x9 : Bool) → (x10 : Int) → (x11 : Int) → (o0 : ((List Int) × ((List (List (Int × (Int × Unit)))) × Unit))) → Option ((Bool × Unit) × (((List Int) × ((List (List (Int × (Int × Unit)))) × Unit)) × Unit))
  | 0, _, _, _, _ => none
  | k + 1, x9, x10, x11, o0 =>
    if decide (0 ≤ x10 ∧ x10 < (o0.2.1.length : Int)) then
      if decide (x11 < ((o0.2.1.getD x10.toNat []).length : Int)) then
        if x9 then
          if decide (0 ≤ x10 ∧ x10 < (o0.2.1.length : Int)) then
            if decide (0 ≤ x11 ∧ x11 < ((o0.2.1.getD x10.toNat []).length : Int)) then
              if decide (0 ≤ x10 ∧ x10 < (o0.1.length : Int)) then
                law21_FairnessIsWeaker_65170 K k (decide ((((o0.2.1.getD x10.toNat []).getD x11.toNat (0, (0, ()))).1) = (o0.1.getD x10.toNat 0))) x10 (IntKind.i64.wrap (x11 + 1)) o0
              else
                none
            else
              none
          else
            none
        else
          law21_FairnessIsWeaker_65170 K k false x10 (IntKind.i64.wrap (x11 + 1)) o0
      else
        some ((x9, ()), (o0, ()))
    else
      none
@[reducible] def p_law21_FairnessIsWeaker_65170 (K k : Nat) : Piece := { slots := [(2, (.ref 0 (.pair (.slice (.int .u32)) (.pair (.slice (.slice (.pair (.int .u32) (.pair (.int .i64) .unit)))) .unit)))), (9, (.v .bool)), (10, (.v (.int .i64))), (11, (.v (.int .i64)))], objs := [(.box (.pair (.slice (.int .u32)) (.pair (.slice (.slice (.pair (.int .u32) (.pair (.int .i64) .unit)))) .unit)) (.v (.pair (.slice (.int .u32)) (.pair (.slice (.slice (.pair (.int .u32) (.pair (.int .i64) .unit)))) .unit))))], outs := [{ ex := (.exit 2), slots := [(9, (.v .bool))], objs := [(some 0, (.box (.pair (.slice (.int .u32)) (.pair (.slice (.slice (.pair (.int .u32) (.pair (.int .i64) .unit)))) .unit)) (.v (.pair (.slice (.int .u32)) (.pair (.slice (.slice (.pair (.int .u32) (.pair (.int .i64) .unit)))) .unit)))))] }], asg := [9, 11, 46, 47, 48, 49, 50, 51, 52, 53, 54, 55, 56, 57, 58, 59, 60, 61, 62, 63, 64, 65, 66, 67, 68, 69, 70, 71, 72, 73], nt := 101, fn := fun x => law21_FairnessIsWeaker_65170 K k x.1.2.1 x.1.2.2.1 x.1.2.2.2.1 x.2.1 }
theorem k_law21_FairnessIsWeaker_65170 (K : Nat) (hB : Base Try.prog tabs (fs_ref19_Same K)) : PcOk Try.prog (codeAt b_law21_FairnessIsWeaker 65170) (p_law21_FairnessIsWeaker_65170 K K) :=
  loop_thm hB (o_law21_FairnessIsWeaker_0 K) 65170 (p_law21_FairnessIsWeaker_65170 K 0) (l := fun k x => law21_FairnessIsWeaker_65170 K k x.1.2.1 x.1.2.2.1 x.1.2.2.2.1 x.2.1) (c := codeAt b_law21_FairnessIsWeaker 130340) (by kernel_rfl) (by kernel_rfl) (by kernel_rfl) (by kernel_rfl) (fun x => by kernel_rfl) (fun k x => by kernel_rfl) K
noncomputable def c_law21_FairnessIsWeaker_65170 (K : Nat) : List (Nat × Piece) := (65170, p_law21_FairnessIsWeaker_65170 K K) :: c_law21_FairnessIsWeaker_0 K
theorem o_law21_FairnessIsWeaker_65170 (K : Nat) (hB : Base Try.prog tabs (fs_ref19_Same K)) : PcsOk Try.prog b_law21_FairnessIsWeaker (c_law21_FairnessIsWeaker_65170 K) := PcsOk.cons (k_law21_FairnessIsWeaker_65170 K hB) (o_law21_FairnessIsWeaker_0 K)
def law21_FairnessIsWeaker_1018 (K : Nat) : (k : Nat) → (x9 : Bool) → (x10 : Int) → (o0 : ((List Int) × ((List (List (Int × (Int × Unit)))) × Unit))) → Option ((Bool × Unit) × Unit)
  | 0, _, _, _ => none
  | k + 1, x9, x10, o0 =>
    if decide (x10 < (o0.2.1.length : Int)) then
      (law21_FairnessIsWeaker_65170 K K x9 x10 0 o0).bind fun y2 =>
        law21_FairnessIsWeaker_1018 K k y2.1.1 (IntKind.i64.wrap (x10 + 1)) y2.2.1
    else
      some ((x9, ()), ())
@[reducible] def p_law21_FairnessIsWeaker_1018 (K k : Nat) : Piece := { slots := [(2, (.ref 0 (.pair (.slice (.int .u32)) (.pair (.slice (.slice (.pair (.int .u32) (.pair (.int .i64) .unit)))) .unit)))), (9, (.v .bool)), (10, (.v (.int .i64)))], objs := [(.box (.pair (.slice (.int .u32)) (.pair (.slice (.slice (.pair (.int .u32) (.pair (.int .i64) .unit)))) .unit)) (.v (.pair (.slice (.int .u32)) (.pair (.slice (.slice (.pair (.int .u32) (.pair (.int .i64) .unit)))) .unit))))], outs := [{ ex := (.exit 0), slots := [(9, (.v .bool))], objs := [] }], asg := [9, 10, 11, 39, 40, 41, 42, 43, 44, 45, 46, 47, 48, 49, 50, 51, 52, 53, 54, 55, 56, 57, 58, 59, 60, 61, 62, 63, 64, 65, 66, 67, 68, 69, 70, 71, 72, 73], nt := 101, fn := fun x => law21_FairnessIsWeaker_1018 K k x.1.2.1 x.1.2.2.1 x.2.1 }
theorem k_law21_FairnessIsWeaker_1018 (K : Nat) (hB : Base Try.prog tabs (fs_ref19_Same K)) : PcOk Try.prog (codeAt b_law21_FairnessIsWeaker 1018) (p_law21_FairnessIsWeaker_1018 K K) :=
  loop_thm hB (o_law21_FairnessIsWeaker_65170 K hB) 1018 (p_law21_FairnessIsWeaker_1018 K 0) (l := fun k x => law21_FairnessIsWeaker_1018 K k x.1.2.1 x.1.2.2.1 x.2.1) (c := codeAt b_law21_FairnessIsWeaker 2036) (by kernel_rfl) (by kernel_rfl) (by kernel_rfl) (by kernel_rfl) (fun x => by kernel_rfl) (fun k x => by kernel_rfl) K
noncomputable def c_law21_FairnessIsWeaker_1018 (K : Nat) : List (Nat × Piece) := (1018, p_law21_FairnessIsWeaker_1018 K K) :: c_law21_FairnessIsWeaker_65170 K
theorem o_law21_FairnessIsWeaker_1018 (K : Nat) (hB : Base Try.prog tabs (fs_ref19_Same K)) : PcsOk Try.prog b_law21_FairnessIsWeaker (c_law21_FairnessIsWeaker_1018 K) := PcsOk.cons (k_law21_FairnessIsWeaker_1018 K hB) (o_law21_FairnessIsWeaker_65170 K hB)
def law21_FairnessIsWeaker_2042 (K : Nat) : (k : Nat) → (x5 : (List Bool)) → (x7 : (List Bool)) → (x12 : Int) → Option ((Unit × Unit) ⊕ ((Bool × Unit) × Unit))
  | 0, _, _, _ => none
  | k + 1, x5, x7, x12 =>
    if decide (x12 < (x5.length : Int)) then
      if decide (0 ≤ x12 ∧ x12 < (x5.length : Int)) then
        if x5.getD x12.toNat false then
          if decide (0 ≤ x12 ∧ x12 < (x7.length : Int)) then
            if !(x7.getD x12.toNat false) then
              some (.inr ((false, ()), ()))
            else
              law21_FairnessIsWeaker_2042 K k x5 x7 (IntKind.i64.wrap (x12 + 1))
          else
            none
        else
          law21_FairnessIsWeaker_2042 K k x5 x7 (IntKind.i64.wrap (x12 + 1))
      else
        none
    else
      some (.inl ((), ()))
@[reducible] def p_law21_FairnessIsWeaker_2042 (K k : Nat) : Piece := { slots := [(5, (.v (.slice .bool))), (7, (.v (.slice .bool))), (12, (.v (.int .i64)))], objs := [], outs := [{ ex := (.exit 4), slots := [], objs := [] }, { ex := .ret, slots := [(4, (.v .bool))], objs := [] }], asg := [4, 12, 74, 75, 76, 77, 78, 79, 80, 81, 82, 83, 84, 85, 86, 87, 88, 89, 90], nt := 101, fn := fun x => law21_FairnessIsWeaker_2042 K k x.1.1 x.1.2.1 x.1.2.2.1 }
theorem k_law21_FairnessIsWeaker_2042 (K : Nat) (hB : Base Try.prog tabs (fs_ref19_Same K)) : PcOk Try.prog (codeAt b_law21_FairnessIsWeaker 2042) (p_law21_FairnessIsWeaker_2042 K K) :=
  loop_thm hB (o_law21_FairnessIsWeaker_1018 K hB) 2042 (p_law21_FairnessIsWeaker_2042 K 0) (l := fun k x => law21_FairnessIsWeaker_2042 K k x.1.1 x.1.2.1 x.1.2.2.1) (c := codeAt b_law21_FairnessIsWeaker 4084) (by kernel_rfl) (by kernel_rfl) (by kernel_rfl) (by kernel_rfl) (fun x => by kernel_rfl) (fun k x => by kernel_rfl) K
noncomputable def c_law21_FairnessIsWeaker_2042 (K : Nat) : List (Nat × Piece) := (2042, p_law21_FairnessIsWeaker_2042 K K) :: c_law21_FairnessIsWeaker_1018 K
theorem o_law21_FairnessIsWeaker_2042 (K : Nat) (hB : Base Try.prog tabs (fs_ref19_Same K)) : PcsOk Try.prog b_law21_FairnessIsWeaker (c_law21_FairnessIsWeaker_2042 K) := PcsOk.cons (k_law21_FairnessIsWeaker_2042 K hB) (o_law21_FairnessIsWeaker_1018 K hB)
def law21_FairnessIsWeaker (K : Nat) (x0 : ((List Int) × ((List (List (Int × (Int × Unit)))) × Unit))) (x1 : (List Bool)) : Option ((Bool × Unit) × Unit) :=
  (law21_fair K x0 x1).bind fun y5 =>
    if !y5.1.1 then
      (law21_awake K).bind fun y6 =>
        some ((y6.1.1, ()), ())
    else
      (fairness_Core K x0 x1).bind fun y8 =>
        (ref19_Core K x0 x1).bind fun y10 =>
          if !decide (y8.1.1.2.1 = 0) then
            some ((false, ()), ())
          else
            if !decide ((y8.2.1.length : Int) = (y10.2.1.length : Int)) then
              some ((false, ()), ())
            else
              (law21_FairnessIsWeaker_1018 K K true 0 x0).bind fun y12 =>
                (law21_FairnessIsWeaker_2042 K K y8.2.1 y10.2.1 0).bind fun y16 =>
                  match y16 with
                  | .inl y17 =>
                    (law21_awake K).bind fun y19 =>
                      if y19.1.1 then
                        if !y12.1.1 then
                          some ((true, ()), ())
                        else
                          (ref19_Same K y8.2.1 y10.2.1).bind fun y20 =>
                            some ((y20.1.1, ()), ())
                      else
                        some ((false, ()), ())
                  | .inr y18 =>
                    some ((y18.1.1, ()), ())
@[reducible] def p_law21_FairnessIsWeaker (K : Nat) : Piece := { slots := [(0, (.v (.pair (.slice (.int .u32)) (.pair (.slice (.slice (.pair (.int .u32) (.pair (.int .i64) .unit)))) .unit)))), (1, (.v (.slice .bool)))], objs := [], outs := [{ ex := .ret, slots := [(0, (.v .bool))], objs := [] }], asg := [], nt := 101, fn := fun x => law21_FairnessIsWeaker K x.1.1 x.1.2.1 }
theorem s_law21_FairnessIsWeaker (K : Nat) (hB : Base Try.prog tabs (fs_ref19_Same K)) : FnSound Try.prog 5 (p_law21_FairnessIsWeaker K) :=
  fun_thm hB (o_law21_FairnessIsWeaker_2042 K hB) Try.func5 (body := b_law21_FairnessIsWeaker) rfl (p_law21_FairnessIsWeaker K) (rs := [.tmp 4]) rfl (Nat.le_of_ble_eq_true (by kernel_rfl)) (fun x => by kernel_rfl)
noncomputable def fs_law21_FairnessIsWeaker (K : Nat) : List (Nat × Piece) := (5, p_law21_FairnessIsWeaker K) :: fs_ref19_Same K
theorem base_law21_FairnessIsWeaker (K : Nat) : Base Try.prog tabs (fs_law21_FairnessIsWeaker K) := ⟨(base_ref19_Same K).mixed, (base_ref19_Same K).tabs, FnsOk.cons (s_law21_FairnessIsWeaker K (base_ref19_Same K)) (by kernel_rfl) (base_ref19_Same K).fns⟩
theorem law_law21_FairnessIsWeaker (K : Nat) : FnSound Try.prog 5 (p_law21_FairnessIsWeaker K) := s_law21_FairnessIsWeaker K (base_ref19_Same K)
/-! "selfstab/fairness.Kept" -/
noncomputable def b_fairness_Kept : Code := codeOf Try.f21
noncomputable def c_fairness_Kept_0 (K : Nat) : List (Nat × Piece) := []
theorem o_fairness_Kept_0 (K : Nat) : PcsOk Try.prog b_fairness_Kept (c_fairness_Kept_0 K) := PcsOk.nil
def fairness_Kept (K : Nat) (x0 : ((List Int) × ((List (List (Int × (Int × Unit)))) × Unit))) (x1 : (List Bool)) : Option (((Unit × (Int × Unit)) × Unit) × ((List Bool) × Unit)) :=
  (fairness_check K x0 x1).bind fun y4 =>
    if !decide (y4.1.1 = 0) then
      some ((((), (y4.1.1, ())), ()), ([], ()))
    else
      (fairness_components K x0 x1).bind fun y6 =>
        (fairness_kept K x0 y6.2.1 y6.1.1.2.1).bind fun y7 =>
          some ((((), (0, ())), ()), (y7.2.1, ()))
@[reducible] def p_fairness_Kept (K : Nat) : Piece := { slots := [(0, (.v (.pair (.slice (.int .u32)) (.pair (.slice (.slice (.pair (.int .u32) (.pair (.int .i64) .unit)))) .unit)))), (1, (.v (.slice .bool)))], objs := [], outs := [{ ex := .ret, slots := [(0, (.tup (.cons (.href 0) (.cons (.v (.int .i64)) .nil))))], objs := [(none, (.row .bool))] }], asg := [], nt := 25, fn := fun x => fairness_Kept K x.1.1 x.1.2.1 }
theorem s_fairness_Kept (K : Nat) (hB : Base Try.prog tabs (fs_law21_FairnessIsWeaker K)) : FnSound Try.prog 21 (p_fairness_Kept K) :=
  fun_thm hB (o_fairness_Kept_0 K) Try.func21 (body := b_fairness_Kept) rfl (p_fairness_Kept K) (rs := [.tmp 4, .tmp 5]) rfl (Nat.le_of_ble_eq_true (by kernel_rfl)) (fun x => by kernel_rfl)
noncomputable def fs_fairness_Kept (K : Nat) : List (Nat × Piece) := (21, p_fairness_Kept K) :: fs_law21_FairnessIsWeaker K
theorem base_fairness_Kept (K : Nat) : Base Try.prog tabs (fs_fairness_Kept K) := ⟨(base_law21_FairnessIsWeaker K).mixed, (base_law21_FairnessIsWeaker K).tabs, FnsOk.cons (s_fairness_Kept K (base_law21_FairnessIsWeaker K)) (by kernel_rfl) (base_law21_FairnessIsWeaker K).fns⟩
/-! "selfstab/selfstablaw21.FairnessNumbersComponents" -/
noncomputable def b_law21_FairnessNumbersComponents : Code := codeOf Try.f9
noncomputable def c_law21_FairnessNumbersComponents_0 (K : Nat) : List (Nat × Piece) := []
theorem o_law21_FairnessNumbersComponents_0 (K : Nat) : PcsOk Try.prog b_law21_FairnessNumbersComponents (c_law21_FairnessNumbersComponents_0 K) := PcsOk.nil
def law21_FairnessNumbersComponents_1018 (K : Nat) : (k : Nat) → (x1 : (List Bool)) → (x5 : (List Int)) → (x9 : Int) → (x10 : Int) → Option (((Int × Unit) × Unit) ⊕ ((Bool × Unit) × Unit))
  | 0, _, _, _, _ => none
  | k + 1, x1, x5, x9, x10 =>
    if decide (x10 < (x5.length : Int)) then
      if decide (0 ≤ x10 ∧ x10 < (x5.length : Int)) then
        if decide ((x5.getD x10.toNat 0) < (-1)) then
          some (.inr ((false, ()), ()))
        else
          if decide (0 ≤ x10 ∧ x10 < (x5.length : Int)) then
            if decide (x9 < (x5.getD x10.toNat 0)) then
              some (.inr ((false, ()), ()))
            else
              if decide (0 ≤ x10 ∧ x10 < (x5.length : Int)) then
                if decide (0 ≤ x10 ∧ x10 < (x1.length : Int)) then
                  if !(GTy.beq .bool (decide ((x5.getD x10.toNat 0) < 0)) (x1.getD x10.toNat false)) then
                    some (.inr ((false, ()), ()))
                  else
                    if decide (0 ≤ x10 ∧ x10 < (x5.length : Int)) then
                      if decide ((x5.getD x10.toNat 0) = x9) then
                        law21_FairnessNumbersComponents_1018 K k x1 x5 (IntKind.i64.wrap (x9 + 1)) (IntKind.i64.wrap (x10 + 1))
                      else
                        law21_FairnessNumbersComponents_1018 K k x1 x5 x9 (IntKind.i64.wrap (x10 + 1))
                    else
                      none
                else
                  none
              else
                none
          else
            none
      else
        none
    else
      some (.inl ((x9, ()), ()))
@[reducible] def p_law21_FairnessNumbersComponents_1018 (K k : Nat) : Piece := { slots := [(1, (.v (.slice .bool))), (5, (.v (.slice (.int .i64)))), (9, (.v (.int .i64))), (10, (.v (.int .i64)))], objs := [], outs := [{ ex := (.exit 0), slots := [(9, (.v (.int .i64)))], objs := [] }, { ex := .ret, slots := [(4, (.v .bool))], objs := [] }], asg := [4, 9, 10, 41, 42, 43, 44, 45, 46, 47, 48, 49, 50, 51, 52, 53, 54, 55, 56, 57, 58, 59, 60, 61, 62, 63, 64, 65, 66, 67, 68, 69, 70, 71, 72, 73, 74, 75, 76, 77, 78, 79], nt := 87, fn := fun x => law21_FairnessNumbersComponents_1018 K k x.1.1 x.1.2.1 x.1.2.2.1 x.1.2.2.2.1 }
theorem k_law21_FairnessNumbersComponents_1018 (K : Nat) (hB : Base Try.prog tabs (fs_fairness_Kept K)) : PcOk Try.prog (codeAt b_law21_FairnessNumbersComponents 1018) (p_law21_FairnessNumbersComponents_1018 K K) :=
  loop_thm hB (o_law21_FairnessNumbersComponents_0 K) 1018 (p_law21_FairnessNumbersComponents_1018 K 0) (l := fun k x => law21_FairnessNumbersComponents_1018 K k x.1.1 x.1.2.1 x.1.2.2.1 x.1.2.2.2.1) (c := codeAt b_law21_FairnessNumbersComponents 2036) (by kernel_rfl) (by kernel_rfl) (by kernel_rfl) (by kernel_rfl) (fun x => by kernel_rfl) (fun k x => by kernel_rfl) K
noncomputable def c_law21_FairnessNumbersComponents_1018 (K : Nat) : List (Nat × Piece) := (1018, p_law21_FairnessNumbersComponents_1018 K K) :: c_law21_FairnessNumbersComponents_0 K
theorem o_law21_FairnessNumbersComponents_1018 (K : Nat) (hB : Base Try.prog tabs (fs_fairness_Kept K)) : PcsOk Try.prog b_law21_FairnessNumbersComponents (c_law21_FairnessNumbersComponents_1018 K) := PcsOk.cons (k_law21_FairnessNumbersComponents_1018 K hB) (o_law21_FairnessNumbersComponents_0 K)
def law21_FairnessNumbersComponents (K : Nat) (x0 : ((List Int) × ((List (List (Int × (Int × Unit)))) × Unit))) (x1 : (List Bool)) : Option ((Bool × Unit) × Unit) :=
  (law21_fair K x0 x1).bind fun y5 =>
    if !y5.1.1 then
      (law21_awake K).bind fun y6 =>
        some ((y6.1.1, ()), ())
    else
      (fairness_Components K x0 x1).bind fun y8 =>
        (fairness_Kept K x0 x1).bind fun y10 =>
          if !decide (y8.1.1.2.1 = 0) then
            some ((false, ()), ())
          else
            if !decide (y10.1.1.2.1 = 0) then
              some ((false, ()), ())
            else
              if !decide ((y8.2.1.length : Int) = (x1.length : Int)) then
                some ((false, ()), ())
              else
                (law21_FairnessNumbersComponents_1018 K K x1 y8.2.1 0 0).bind fun y14 =>
                  match y14 with
                  | .inl y15 =>
                    (law21_awake K).bind fun y17 =>
                      if y17.1.1 then
                        some ((decide ((y10.2.1.length : Int) = y15.1.1), ()), ())
                      else
                        some ((false, ()), ())
                  | .inr y16 =>
                    some ((y16.1.1, ()), ())
@[reducible] def p_law21_FairnessNumbersComponents (K : Nat) : Piece := { slots := [(0, (.v (.pair (.slice (.int .u32)) (.pair (.slice (.slice (.pair (.int .u32) (.pair (.int .i64) .unit)))) .unit)))), (1, (.v (.slice .bool)))], objs := [], outs := [{ ex := .ret, slots := [(0, (.v .bool))], objs := [] }], asg := [], nt := 87, fn := fun x => law21_FairnessNumbersComponents K x.1.1 x.1.2.1 }
theorem s_law21_FairnessNumbersComponents (K : Nat) (hB : Base Try.prog tabs (fs_fairness_Kept K)) : FnSound Try.prog 9 (p_law21_FairnessNumbersComponents K) :=
  fun_thm hB (o_law21_FairnessNumbersComponents_1018 K hB) Try.func9 (body := b_law21_FairnessNumbersComponents) rfl (p_law21_FairnessNumbersComponents K) (rs := [.tmp 4]) rfl (Nat.le_of_ble_eq_true (by kernel_rfl)) (fun x => by kernel_rfl)
noncomputable def fs_law21_FairnessNumbersComponents (K : Nat) : List (Nat × Piece) := (9, p_law21_FairnessNumbersComponents K) :: fs_fairness_Kept K
theorem base_law21_FairnessNumbersComponents (K : Nat) : Base Try.prog tabs (fs_law21_FairnessNumbersComponents K) := ⟨(base_fairness_Kept K).mixed, (base_fairness_Kept K).tabs, FnsOk.cons (s_law21_FairnessNumbersComponents K (base_fairness_Kept K)) (by kernel_rfl) (base_fairness_Kept K).fns⟩
theorem law_law21_FairnessNumbersComponents (K : Nat) : FnSound Try.prog 9 (p_law21_FairnessNumbersComponents K) := s_law21_FairnessNumbersComponents K (base_fairness_Kept K)
/-! "selfstab/selfstabref21.back" -/
noncomputable def b_ref21_back : Code := codeOf Try.f30
noncomputable def c_ref21_back_0 (K : Nat) : List (Nat × Piece) := []
theorem o_ref21_back_0 (K : Nat) : PcsOk Try.prog b_ref21_back (c_ref21_back_0 K) := PcsOk.nil
def ref21_back_3730 (K : Nat) : (k : Nat) → (x1 : (List Bool)) → (x6 : Int) → (x7 : Int) → (o0 : ((List Int) × ((List (List (Int × (Int × Unit)))) × Unit))) → (o1 : (List (List Int))) → Option (Unit × (((List Int) × ((List (List (Int × (Int × Unit)))) × Unit)) × ((List (List Int)) × Unit)))
  | 0, _, _, _, _, _ => none
  | k + 1, x1, x6, x7, o0, o1 =>
    if decide (0 ≤ x6 ∧ x6 < (o0.2.1.length : Int)) then
      if decide (x7 < ((o0.2.1.getD x6.toNat []).length : Int)) then
        if decide (0 ≤ x6 ∧ x6 < (x1.length : Int)) then
          if !(x1.getD x6.toNat false) then
            if decide (0 ≤ x6 ∧ x6 < (o0.2.1.length : Int)) then
              if decide (0 ≤ x7 ∧ x7 < ((o0.2.1.getD x6.toNat []).length : Int)) then
                if decide (0 ≤ (((o0.2.1.getD x6.toNat []).getD x7.toNat (0, (0, ()))).2).1 ∧ (((o0.2.1.getD x6.toNat []).getD x7.toNat (0, (0, ()))).2).1 < (x1.length : Int)) then
                  if !(x1.getD (((((o0.2.1.getD x6.toNat []).getD x7.toNat (0, (0, ()))).2).1).toNat) false) then
                    if decide (0 ≤ (((o0.2.1.getD x6.toNat []).getD x7.toNat (0, (0, ()))).2).1 ∧ (((o0.2.1.getD x6.toNat []).getD x7.toNat (0, (0, ()))).2).1 < (o1.length : Int)) then
                      if decide ((o1.getD (((((o0.2.1.getD x6.toNat []).getD x7.toNat (0, (0, ()))).2).1).toNat) []).length + ([x6]).length ≤ 4294967296) then
                        if decide (0 ≤ (((o0.2.1.getD x6.toNat []).getD x7.toNat (0, (0, ()))).2).1 ∧ (((o0.2.1.getD x6.toNat []).getD x7.toNat (0, (0, ()))).2).1 < (o1.length : Int)) then
                          if decide (((((o0.2.1.getD x6.toNat []).getD x7.toNat (0, (0, ()))).2).1).toNat = ((((o0.2.1.getD x6.toNat []).getD x7.toNat (0, (0, ()))).2).1).toNat) then
                            ref21_back_3730 K k x1 x6 (IntKind.i64.wrap (x7 + 1)) o0 (o1.set (((((o0.2.1.getD x6.toNat []).getD x7.toNat (0, (0, ()))).2).1).toNat) (o1.getD (((((o0.2.1.getD x6.toNat []).getD x7.toNat (0, (0, ()))).2).1).toNat) [] ++ [x6]))
                          else
                            none
                        else
                          none
                      else
                        none
                    else
                      none
                  else
                    ref21_back_3730 K k x1 x6 (IntKind.i64.wrap (x7 + 1)) o0 o1
                else
                  none
              else
                none
            else
              none
          else
            some ((), (o0, (o1, ())))
        else
          none
      else
        some ((), (o0, (o1, ())))
    else
      none
@[reducible] def p_ref21_back_3730 (K k : Nat) : Piece := { slots := [(1, (.v (.slice .bool))), (2, (.ref 0 (.pair (.slice (.int .u32)) (.pair (.slice (.slice (.pair (.int .u32) (.pair (.int .i64) .unit)))) .unit)))), (5, (.href 1)), (6, (.v (.int .i64))), (7, (.v (.int .i64)))], objs := [(.box (.pair (.slice (.int .u32)) (.pair (.slice (.slice (.pair (.int .u32) (.pair (.int .i64) .unit)))) .unit)) (.v (.pair (.slice (.int .u32)) (.pair (.slice (.slice (.pair (.int .u32) (.pair (.int .i64) .unit)))) .unit)))), (.row2 (.int .i64))], outs := [{ ex := (.exit 2), slots := [], objs := [(some 0, (.box (.pair (.slice (.int .u32)) (.pair (.slice (.slice (.pair (.int .u32) (.pair (.int .i64) .unit)))) .unit)) (.v (.pair (.slice (.int .u32)) (.pair (.slice (.slice (.pair (.int .u32) (.pair (.int .i64) .unit)))) .unit))))), (some 1, (.row2 (.int .i64)))] }], asg := [7, 8, 18, 19, 20, 21, 22, 23, 24, 25, 26, 27, 28, 29, 30, 31, 32, 33, 34, 35, 36, 37, 38, 39, 40, 41, 42, 43, 44, 45, 46, 47, 48, 49, 50, 51, 52, 53, 54, 55, 56, 57, 58], nt := 60, fn := fun x => ref21_back_3730 K k x.1.1 x.1.2.2.2.1 x.1.2.2.2.2.1 x.2.1 x.2.2.1 }
theorem k_ref21_back_3730 (K : Nat) (hB : Base Try.prog tabs (fs_law21_FairnessNumbersComponents K)) : PcOk Try.prog (codeAt b_ref21_back 3730) (p_ref21_back_3730 K K) :=
  loop_thm hB (o_ref21_back_0 K) 3730 (p_ref21_back_3730 K 0) (l := fun k x => ref21_back_3730 K k x.1.1 x.1.2.2.2.1 x.1.2.2.2.2.1 x.2.1 x.2.2.1) (c := codeAt b_ref21_back 7460) (by kernel_rfl) (by kernel_rfl) (by kernel_rfl) (by kernel_rfl) (fun x => by kernel_rfl) (fun k x => by kernel_rfl) K
noncomputable def c_ref21_back_3730 (K : Nat) : List (Nat × Piece) := (3730, p_ref21_back_3730 K K) :: c_ref21_back_0 K
theorem o_ref21_back_3730 (K : Nat) (hB : Base Try.prog tabs (fs_law21_FairnessNumbersComponents K)) : PcsOk Try.prog b_ref21_back (c_ref21_back_3730 K) := PcsOk.cons (k_ref21_back_3730 K hB) (o_ref21_back_0 K)
def ref21_back_58 (K : Nat) : (k : Nat) → (x1 : (List Bool)) → (x6 : Int) → (o0 : ((List Int) × ((List (List (Int × (Int × Unit)))) × Unit))) → (o1 : (List (List Int))) → Option (Unit × ((List (List Int)) × Unit))
  | 0, _, _, _, _ => none
  | k + 1, x1, x6, o0, o1 =>
    if decide (x6 < (x1.length : Int)) then
      (ref21_back_3730 K K x1 x6 0 o0 o1).bind fun y2 =>
        ref21_back_58 K k x1 (IntKind.i64.wrap (x6 + 1)) y2.2.1 y2.2.2.1
    else
      some ((), (o1, ()))
@[reducible] def p_ref21_back_58 (K k : Nat) : Piece := { slots := [(1, (.v (.slice .bool))), (2, (.ref 0 (.pair (.slice (.int .u32)) (.pair (.slice (.slice (.pair (.int .u32) (.pair (.int .i64) .unit)))) .unit)))), (5, (.href 1)), (6, (.v (.int .i64)))], objs := [(.box (.pair (.slice (.int .u32)) (.pair (.slice (.slice (.pair (.int .u32) (.pair (.int .i64) .unit)))) .unit)) (.v (.pair (.slice (.int .u32)) (.pair (.slice (.slice (.pair (.int .u32) (.pair (.int .i64) .unit)))) .unit)))), (.row2 (.int .i64))], outs := [{ ex := (.exit 0), slots := [], objs := [(some 1, (.row2 (.int .i64)))] }], asg := [6, 7, 8, 12, 13, 14, 15, 16, 17, 18, 19, 20, 21, 22, 23, 24, 25, 26, 27, 28, 29, 30, 31, 32, 33, 34, 35, 36, 37, 38, 39, 40, 41, 42, 43, 44, 45, 46, 47, 48, 49, 50, 51, 52, 53, 54, 55, 56, 57, 58], nt := 60, fn := fun x => ref21_back_58 K k x.1.1 x.1.2.2.2.1 x.2.1 x.2.2.1 }
theorem k_ref21_back_58 (K : Nat) (hB : Base Try.prog tabs (fs_law21_FairnessNumbersComponents K)) : PcOk Try.prog (codeAt b_ref21_back 58) (p_ref21_back_58 K K) :=
  loop_thm hB (o_ref21_back_3730 K hB) 58 (p_ref21_back_58 K 0) (l := fun k x => ref21_back_58 K k x.1.1 x.1.2.2.2.1 x.2.1 x.2.2.1) (c := codeAt b_ref21_back 116) (by kernel_rfl) (by kernel_rfl) (by kernel_rfl) (by kernel_rfl) (fun x => by kernel_rfl) (fun k x => by kernel_rfl) K
noncomputable def c_ref21_back_58 (K : Nat) : List (Nat × Piece) := (58, p_ref21_back_58 K K) :: c_ref21_back_3730 K
theorem o_ref21_back_58 (K : Nat) (hB : Base Try.prog tabs (fs_law21_FairnessNumbersComponents K)) : PcsOk Try.prog b_ref21_back (c_ref21_back_58 K) := PcsOk.cons (k_ref21_back_58 K hB) (o_ref21_back_3730 K hB)
def ref21_back (K : Nat) (x0 : ((List Int) × ((List (List (Int × (Int × Unit)))) × Unit))) (x1 : (List Bool)) : Option ((Unit × Unit) × ((List (List Int)) × Unit)) :=
  if decide (0 ≤ (x1.length : Int) ∧ (x1.length : Int) ≤ (x1.length : Int) ∧ (x1.length : Int) ≤ 4294967296) then
    (ref21_back_58 K K x1 0 x0 (List.replicate (x1.length : Int).toNat [])).bind fun y2 =>
      some (((), ()), (y2.2.1, ()))
  else
    none
@[reducible] def p_ref21_back (K : Nat) : Piece := { slots := [(0, (.v (.pair (.slice (.int .u32)) (.pair (.slice (.slice (.pair (.int .u32) (.pair (.int .i64) .unit)))) .unit)))), (1, (.v (.slice .bool)))], objs := [], outs := [{ ex := .ret, slots := [(0, (.href 0))], objs := [(none, (.row2 (.int .i64)))] }], asg := [], nt := 60, fn := fun x => ref21_back K x.1.1 x.1.2.1 }
theorem s_ref21_back (K : Nat) (hB : Base Try.prog tabs (fs_law21_FairnessNumbersComponents K)) : FnSound Try.prog 30 (p_ref21_back K) :=
  fun_thm hB (o_ref21_back_58 K hB) Try.func30 (body := b_ref21_back) rfl (p_ref21_back K) (rs := [.tmp 4]) rfl (Nat.le_of_ble_eq_true (by kernel_rfl)) (fun x => by kernel_rfl)
noncomputable def fs_ref21_back (K : Nat) : List (Nat × Piece) := (30, p_ref21_back K) :: fs_law21_FairnessNumbersComponents K
theorem base_ref21_back (K : Nat) : Base Try.prog tabs (fs_ref21_back K) := ⟨(base_law21_FairnessNumbersComponents K).mixed, (base_law21_FairnessNumbersComponents K).tabs, FnsOk.cons (s_ref21_back K (base_law21_FairnessNumbersComponents K)) (by kernel_rfl) (base_law21_FairnessNumbersComponents K).fns⟩
/-! "selfstab/selfstabref21.finished" -/
noncomputable def b_ref21_finished : Code := codeOf Try.f36
noncomputable def c_ref21_finished_0 (K : Nat) : List (Nat × Piece) := []
theorem o_ref21_finished_0 (K : Nat) : PcsOk Try.prog b_ref21_finished (c_ref21_finished_0 K) := PcsOk.nil
def ref21_finished_8015455 (K : Nat) (x11 : Int) (x97 : Bool) (o0 : (List Bool)) (o1 : (List Int)) : Option ((Unit × Unit) × ((List Int) × ((List Bool) × Unit))) :=
  if x97 then
    if decide (0 ≤ x11 ∧ x11 < (o0.length : Int)) then
      if decide (o1.length + ([x11]).length ≤ 4294967296) then
        some (((), ()), ((o1 ++ [x11]), (o0.set x11.toNat true, ())))
      else
        none
    else
      none
  else
    some (((), ()), (o1, (o0, ())))
@[reducible] def p_ref21_finished_8015455 (K : Nat) : Piece := { slots := [(6, (.href 0)), (9, (.href 1)), (11, (.v (.int .i64))), (97, (.v .bool))], objs := [(.row .bool), (.row (.int .i64))], outs := [{ ex := .normal, slots := [(9, (.href 0))], objs := [(none, (.row (.int .i64))), (some 0, (.row .bool))] }], asg := [9, 98, 99, 100, 101, 102, 103, 104], nt := 106, fn := fun x => ref21_finished_8015455 K x.1.2.2.1 x.1.2.2.2.1 x.2.1 x.2.2.1 }
theorem k_ref21_finished_8015455 (K : Nat) (hB : Base Try.prog tabs (fs_ref21_back K)) : PcOk Try.prog (codeAt b_ref21_finished 8015455) (p_ref21_finished_8015455 K) :=
  seg_thm hB (o_ref21_finished_0 K) 8015455 (p_ref21_finished_8015455 K) (by kernel_rfl) (by kernel_rfl) (by kernel_rfl) (fun x => by kernel_rfl)
noncomputable def c_ref21_finished_8015455 (K : Nat) : List (Nat × Piece) := (8015455, p_ref21_finished_8015455 K) :: c_ref21_finished_0 K
theorem o_ref21_finished_8015455 (K : Nat) (hB : Base Try.prog tabs (fs_ref21_back K)) : PcsOk Try.prog b_ref21_finished (c_ref21_finished_8015455 K) := PcsOk.cons (k_ref21_finished_8015455 K hB) (o_ref21_finished_0 K)
def ref21_finished_31310 (K : Nat) : (k : Nat) → (x1 : (List Bool)) → (o0 : ((List Int) × ((List (List (Int × (Int × Unit)))) × Unit))) → (o1 : (List Int)) → (o2 : (List Bool)) → (o3 : (List Int)) → (o4 : (List Int)) → Option ((Unit × Unit) × ((List Int) × (((List Int) × ((List (List (Int × (Int × Unit)))) × Unit)) × ((List Bool) × ((List Int) × Unit)))))
  | 0, _, _, _, _, _, _ => none
  | k + 1, x1, o0, o1, o2, o3, o4 =>
    if decide (0 < (o4.length : Int)) then
      if decide (0 ≤ IntKind.i64.wrap ((o4.length : Int) - 1) ∧ IntKind.i64.wrap ((o4.length : Int) - 1) < (o4.length : Int)) then
        if decide (0 ≤ o4.getD ((IntKind.i64.wrap ((o4.length : Int) - 1)).toNat) 0 ∧ o4.getD ((IntKind.i64.wrap ((o4.length : Int) - 1)).toNat) 0 < (o3.length : Int)) then
          if decide (0 ≤ o4.getD ((IntKind.i64.wrap ((o4.length : Int) - 1)).toNat) 0 ∧ o4.getD ((IntKind.i64.wrap ((o4.length : Int) - 1)).toNat) 0 < (o0.2.1.length : Int)) then
            if decide ((o3.getD ((o4.getD ((IntKind.i64.wrap ((o4.length : Int) - 1)).toNat) 0).toNat) 0) = ((o0.2.1.getD ((o4.getD ((IntKind.i64.wrap ((o4.length : Int) - 1)).toNat) 0).toNat) []).length : Int)) then
              if decide (o1.length + ([o4.getD ((IntKind.i64.wrap ((o4.length : Int) - 1)).toNat) 0]).length ≤ 4294967296) then
                if decide (0 ≤ IntKind.i64.wrap ((o4.length : Int) - 1) ∧ IntKind.i64.wrap ((o4.length : Int) - 1) ≤ (o4.length : Int)) then
                  ref21_finished_31310 K k x1 o0 (o1 ++ [o4.getD ((IntKind.i64.wrap ((o4.length : Int) - 1)).toNat) 0]) o2 o3 (o4.take ((IntKind.i64.wrap ((o4.length : Int) - 1)).toNat))
                else
                  none
              else
                none
            else
              if decide (0 ≤ o4.getD ((IntKind.i64.wrap ((o4.length : Int) - 1)).toNat) 0 ∧ o4.getD ((IntKind.i64.wrap ((o4.length : Int) - 1)).toNat) 0 < (o0.2.1.length : Int)) then
                if decide (0 ≤ o4.getD ((IntKind.i64.wrap ((o4.length : Int) - 1)).toNat) 0 ∧ o4.getD ((IntKind.i64.wrap ((o4.length : Int) - 1)).toNat) 0 < (o3.length : Int)) then
                  if decide (0 ≤ o3.getD ((o4.getD ((IntKind.i64.wrap ((o4.length : Int) - 1)).toNat) 0).toNat) 0 ∧ o3.getD ((o4.getD ((IntKind.i64.wrap ((o4.length : Int) - 1)).toNat) 0).toNat) 0 < ((o0.2.1.getD ((o4.getD ((IntKind.i64.wrap ((o4.length : Int) - 1)).toNat) 0).toNat) []).length : Int)) then
                    if decide (0 ≤ o4.getD ((IntKind.i64.wrap ((o4.length : Int) - 1)).toNat) 0 ∧ o4.getD ((IntKind.i64.wrap ((o4.length : Int) - 1)).toNat) 0 < (o3.length : Int)) then
                      if decide (0 ≤ o4.getD ((IntKind.i64.wrap ((o4.length : Int) - 1)).toNat) 0 ∧ o4.getD ((IntKind.i64.wrap ((o4.length : Int) - 1)).toNat) 0 < (o3.length : Int)) then
                        if decide (0 ≤ (((o0.2.1.getD ((o4.getD ((IntKind.i64.wrap ((o4.length : Int) - 1)).toNat) 0).toNat) []).getD ((o3.getD ((o4.getD ((IntKind.i64.wrap ((o4.length : Int) - 1)).toNat) 0).toNat) 0).toNat) (0, (0, ()))).2).1 ∧ (((o0.2.1.getD ((o4.getD ((IntKind.i64.wrap ((o4.length : Int) - 1)).toNat) 0).toNat) []).getD ((o3.getD ((o4.getD ((IntKind.i64.wrap ((o4.length : Int) - 1)).toNat) 0).toNat) 0).toNat) (0, (0, ()))).2).1 < (x1.length : Int)) then
                          if !(x1.getD (((((o0.2.1.getD ((o4.getD ((IntKind.i64.wrap ((o4.length : Int) - 1)).toNat) 0).toNat) []).getD ((o3.getD ((o4.getD ((IntKind.i64.wrap ((o4.length : Int) - 1)).toNat) 0).toNat) 0).toNat) (0, (0, ()))).2).1).toNat) false) then
                            if decide (0 ≤ (((o0.2.1.getD ((o4.getD ((IntKind.i64.wrap ((o4.length : Int) - 1)).toNat) 0).toNat) []).getD ((o3.getD ((o4.getD ((IntKind.i64.wrap ((o4.length : Int) - 1)).toNat) 0).toNat) 0).toNat) (0, (0, ()))).2).1 ∧ (((o0.2.1.getD ((o4.getD ((IntKind.i64.wrap ((o4.length : Int) - 1)).toNat) 0).toNat) []).getD ((o3.getD ((o4.getD ((IntKind.i64.wrap ((o4.length : Int) - 1)).toNat) 0).toNat) 0).toNat) (0, (0, ()))).2).1 < (o2.length : Int)) then
                              (ref21_finished_8015455 K ((((o0.2.1.getD ((o4.getD ((IntKind.i64.wrap ((o4.length : Int) - 1)).toNat) 0).toNat) []).getD ((o3.getD ((o4.getD ((IntKind.i64.wrap ((o4.length : Int) - 1)).toNat) 0).toNat) 0).toNat) (0, (0, ()))).2).1) (!(o2.getD (((((o0.2.1.getD ((o4.getD ((IntKind.i64.wrap ((o4.length : Int) - 1)).toNat) 0).toNat) []).getD ((o3.getD ((o4.getD ((IntKind.i64.wrap ((o4.length : Int) - 1)).toNat) 0).toNat) 0).toNat) (0, (0, ()))).2).1).toNat) false)) o2 o4).bind fun y1 =>
                                ref21_finished_31310 K k x1 o0 o1 y1.2.2.1 (o3.set ((o4.getD ((IntKind.i64.wrap ((o4.length : Int) - 1)).toNat) 0).toNat) (IntKind.i64.wrap ((o3.getD ((o4.getD ((IntKind.i64.wrap ((o4.length : Int) - 1)).toNat) 0).toNat) 0) + 1))) y1.2.1
                            else
                              none
                          else
                            (ref21_finished_8015455 K ((((o0.2.1.getD ((o4.getD ((IntKind.i64.wrap ((o4.length : Int) - 1)).toNat) 0).toNat) []).getD ((o3.getD ((o4.getD ((IntKind.i64.wrap ((o4.length : Int) - 1)).toNat) 0).toNat) 0).toNat) (0, (0, ()))).2).1) false o2 o4).bind fun y2 =>
                              ref21_finished_31310 K k x1 o0 o1 y2.2.2.1 (o3.set ((o4.getD ((IntKind.i64.wrap ((o4.length : Int) - 1)).toNat) 0).toNat) (IntKind.i64.wrap ((o3.getD ((o4.getD ((IntKind.i64.wrap ((o4.length : Int) - 1)).toNat) 0).toNat) 0) + 1))) y2.2.1
                        else
                          none
                      else
                        none
                    else
                      none
                  else
                    none
                else
                  none
              else
                none
          else
            none
        else
          none
      else
        none
    else
      some (((), ()), (o1, (o0, (o2, (o3, ())))))
@[reducible] def p_ref21_finished_31310 (K k : Nat) : Piece := { slots := [(1, (.v (.slice .bool))), (2, (.ref 0 (.pair (.slice (.int .u32)) (.pair (.slice (.slice (.pair (.int .u32) (.pair (.int .i64) .unit)))) .unit)))), (5, (.href 1)), (6, (.href 2)), (7, (.href 3)), (9, (.href 4))], objs := [(.box (.pair (.slice (.int .u32)) (.pair (.slice (.slice (.pair (.int .u32) (.pair (.int .i64) .unit)))) .unit)) (.v (.pair (.slice (.int .u32)) (.pair (.slice (.slice (.pair (.int .u32) (.pair (.int .i64) .unit)))) .unit)))), (.row (.int .i64)), (.row .bool), (.row (.int .i64)), (.row (.int .i64))], outs := [{ ex := (.exit 2), slots := [(5, (.href 0))], objs := [(none, (.row (.int .i64))), (some 0, (.box (.pair (.slice (.int .u32)) (.pair (.slice (.slice (.pair (.int .u32) (.pair (.int .i64) .unit)))) .unit)) (.v (.pair (.slice (.int .u32)) (.pair (.slice (.slice (.pair (.int .u32) (.pair (.int .i64) .unit)))) .unit))))), (some 2, (.row .bool)), (some 3, (.row (.int .i64)))] }], asg := [5, 9, 10, 11, 39, 40, 41, 42, 43, 44, 45, 46, 47, 48, 49, 50, 51, 52, 53, 54, 55, 56, 57, 58, 59, 60, 61, 62, 63, 64, 65, 66, 67, 68, 69, 70, 71, 72, 73, 74, 75, 76, 77, 78, 79, 80, 81, 82, 83, 84, 85, 86, 87, 88, 89, 90, 91, 92, 93, 94, 95, 96, 97, 98, 99, 100, 101, 102, 103, 104], nt := 106, fn := fun x => ref21_finished_31310 K k x.1.1 x.2.1 x.2.2.1 x.2.2.2.1 x.2.2.2.2.1 x.2.2.2.2.2.1 }
theorem k_ref21_finished_31310 (K : Nat) (hB : Base Try.prog tabs (fs_ref21_back K)) : PcOk Try.prog (codeAt b_ref21_finished 31310) (p_ref21_finished_31310 K K) :=
  loop_thm hB (o_ref21_finished_8015455 K hB) 31310 (p_ref21_finished_31310 K 0) (l := fun k x => ref21_finished_31310 K k x.1.1 x.2.1 x.2.2.1 x.2.2.2.1 x.2.2.2.2.1 x.2.2.2.2.2.1) (c := codeAt b_ref21_finished 62620) (by kernel_rfl) (by kernel_rfl) (by kernel_rfl) (by kernel_rfl) (fun x => by kernel_rfl) (fun k x => by kernel_rfl) K
noncomputable def c_ref21_finished_31310 (K : Nat) : List (Nat × Piece) := (31310, p_ref21_finished_31310 K K) :: c_ref21_finished_8015455 K
theorem o_ref21_finished_31310 (K : Nat) (hB : Base Try.prog tabs (fs_ref21_back K)) : PcsOk Try.prog b_ref21_finished (c_ref21_finished_31310 K) := PcsOk.cons (k_ref21_finished_31310 K hB) (o_ref21_finished_8015455 K hB)
def ref21_finished_122 (K : Nat) : (k : Nat) → (x1 : (List Bool)) → (x8 : Int) → (o0 : ((List Int) × ((List (List (Int × (Int × Unit)))) × Unit))) → (o1 : (List Int)) → (o2 : (List Bool)) → (o3 : (List Int)) → Option ((Unit × Unit) × ((List Int) × Unit))
  | 0, _, _, _, _, _, _ => none
  | k + 1, x1, x8, o0, o1, o2, o3 =>
    if decide (x8 < (x1.length : Int)) then
      if decide (0 ≤ x8 ∧ x8 < (x1.length : Int)) then
        if x1.getD x8.toNat false then
          ref21_finished_122 K k x1 (IntKind.i64.wrap (x8 + 1)) o0 o1 o2 o3
        else
          if decide (0 ≤ x8 ∧ x8 < (o2.length : Int)) then
            if o2.getD x8.toNat false then
              ref21_finished_122 K k x1 (IntKind.i64.wrap (x8 + 1)) o0 o1 o2 o3
            else
              if decide (0 ≤ x8 ∧ x8 < (o2.length : Int)) then
                (ref21_finished_31310 K K x1 o0 o1 (o2.set x8.toNat true) o3 ([x8])).bind fun y2 =>
                  ref21_finished_122 K k x1 (IntKind.i64.wrap (x8 + 1)) y2.2.2.1 y2.2.1 y2.2.2.2.1 y2.2.2.2.2.1
              else
                none
          else
            none
      else
        none
    else
      some (((), ()), (o1, ()))
@[reducible] def p_ref21_finished_122 (K k : Nat) : Piece := { slots := [(1, (.v (.slice .bool))), (2, (.ref 0 (.pair (.slice (.int .u32)) (.pair (.slice (.slice (.pair (.int .u32) (.pair (.int .i64) .unit)))) .unit)))), (5, (.href 1)), (6, (.href 2)), (7, (.href 3)), (8, (.v (.int .i64)))], objs := [(.box (.pair (.slice (.int .u32)) (.pair (.slice (.slice (.pair (.int .u32) (.pair (.int .i64) .unit)))) .unit)) (.v (.pair (.slice (.int .u32)) (.pair (.slice (.slice (.pair (.int .u32) (.pair (.int .i64) .unit)))) .unit)))), (.row (.int .i64)), (.row .bool), (.row (.int .i64))], outs := [{ ex := (.exit 0), slots := [(5, (.href 0))], objs := [(none, (.row (.int .i64)))] }], asg := [5, 8, 9, 10, 11, 18, 19, 20, 21, 22, 23, 24, 25, 26, 27, 28, 29, 30, 31, 32, 33, 34, 35, 36, 37, 38, 39, 40, 41, 42, 43, 44, 45, 46, 47, 48, 49, 50, 51, 52, 53, 54, 55, 56, 57, 58, 59, 60, 61, 62, 63, 64, 65, 66, 67, 68, 69, 70, 71, 72, 73, 74, 75, 76, 77, 78, 79, 80, 81, 82, 83, 84, 85, 86, 87, 88, 89, 90, 91, 92, 93, 94, 95, 96, 97, 98, 99, 100, 101, 102, 103, 104], nt := 106, fn := fun x => ref21_finished_122 K k x.1.1 x.1.2.2.2.2.2.1 x.2.1 x.2.2.1 x.2.2.2.1 x.2.2.2.2.1 }
theorem k_ref21_finished_122 (K : Nat) (hB : Base Try.prog tabs (fs_ref21_back K)) : PcOk Try.prog (codeAt b_ref21_finished 122) (p_ref21_finished_122 K K) :=
  loop_thm hB (o_ref21_finished_31310 K hB) 122 (p_ref21_finished_122 K 0) (l := fun k x => ref21_finished_122 K k x.1.1 x.1.2.2.2.2.2.1 x.2.1 x.2.2.1 x.2.2.2.1 x.2.2.2.2.1) (c := codeAt b_ref21_finished 244) (by kernel_rfl) (by kernel_rfl) (by kernel_rfl) (by kernel_rfl) (fun x => by kernel_rfl) (fun k x => by kernel_rfl) K
noncomputable def c_ref21_finished_122 (K : Nat) : List (Nat × Piece) := (122, p_ref21_finished_122 K K) :: c_ref21_finished_31310 K
theorem o_ref21_finished_122 (K : Nat) (hB : Base Try.prog tabs (fs_ref21_back K)) : PcsOk Try.prog b_ref21_finished (c_ref21_finished_122 K) := PcsOk.cons (k_ref21_finished_122 K hB) (o_ref21_finished_31310 K hB)
def ref21_finished (K : Nat) (x0 : ((List Int) × ((List (List (Int × (Int × Unit)))) × Unit))) (x1 : (List Bool)) : Option ((Unit × Unit) × ((List Int) × Unit)) :=
  if decide (0 ≤ (x1.length : Int) ∧ (x1.length : Int) ≤ (x1.length : Int) ∧ (x1.length : Int) ≤ 4294967296) then
    if decide (0 ≤ (x1.length : Int) ∧ (x1.length : Int) ≤ (x1.length : Int) ∧ (x1.length : Int) ≤ 4294967296) then
      (ref21_finished_122 K K x1 0 x0 [] (List.replicate (x1.length : Int).toNat false) (List.replicate (x1.length : Int).toNat 0)).bind fun y2 =>
        some (((), ()), (y2.2.1, ()))
    else
      none
  else
    none
@[reducible] def p_ref21_finished (K : Nat) : Piece := { slots := [(0, (.v (.pair (.slice (.int .u32)) (.pair (.slice (.slice (.pair (.int .u32) (.pair (.int .i64) .unit)))) .unit)))), (1, (.v (.slice .bool)))], objs := [], outs := [{ ex := .ret, slots := [(0, (.href 0))], objs := [(none, (.row (.int .i64)))] }], asg := [], nt := 106, fn := fun x => ref21_finished K x.1.1 x.1.2.1 }
theorem s_ref21_finished (K : Nat) (hB : Base Try.prog tabs (fs_ref21_back K)) : FnSound Try.prog 36 (p_ref21_finished K) :=
  fun_thm hB (o_ref21_finished_122 K hB) Try.func36 (body := b_ref21_finished) rfl (p_ref21_finished K) (rs := [.tmp 4]) rfl (Nat.le_of_ble_eq_true (by kernel_rfl)) (fun x => by kernel_rfl)
noncomputable def fs_ref21_finished (K : Nat) : List (Nat × Piece) := (36, p_ref21_finished K) :: fs_ref21_back K
theorem base_ref21_finished (K : Nat) : Base Try.prog tabs (fs_ref21_finished K) := ⟨(base_ref21_back K).mixed, (base_ref21_back K).tabs, FnsOk.cons (s_ref21_finished K (base_ref21_back K)) (by kernel_rfl) (base_ref21_back K).fns⟩
/-! "selfstab/selfstabref21.components" -/
noncomputable def b_ref21_components : Code := codeOf Try.f29
noncomputable def c_ref21_components_0 (K : Nat) : List (Nat × Piece) := []
theorem o_ref21_components_0 (K : Nat) : PcsOk Try.prog b_ref21_components (c_ref21_components_0 K) := PcsOk.nil
def ref21_components_58 (K : Nat) : (k : Nat) → (x1 : (List Bool)) → (x6 : Int) → (o0 : (List Int)) → Option (Unit × ((List Int) × Unit))
  | 0, _, _, _ => none
  | k + 1, x1, x6, o0 =>
    if decide (x6 < (x1.length : Int)) then
      if decide (0 ≤ x6 ∧ x6 < (o0.length : Int)) then
        ref21_components_58 K k x1 (IntKind.i64.wrap (x6 + 1)) (o0.set x6.toNat (-1))
      else
        none
    else
      some ((), (o0, ()))
@[reducible] def p_ref21_components_58 (K k : Nat) : Piece := { slots := [(1, (.v (.slice .bool))), (5, (.href 0)), (6, (.v (.int .i64)))], objs := [(.row (.int .i64))], outs := [{ ex := (.exit 0), slots := [], objs := [(some 0, (.row (.int .i64)))] }], asg := [6, 21, 22, 23, 24, 25, 26, 27, 28, 29], nt := 151, fn := fun x => ref21_components_58 K k x.1.1 x.1.2.2.1 x.2.1 }
theorem k_ref21_components_58 (K : Nat) (hB : Base Try.prog tabs (fs_ref21_finished K)) : PcOk Try.prog (codeAt b_ref21_components 58) (p_ref21_components_58 K K) :=
  loop_thm hB (o_ref21_components_0 K) 58 (p_ref21_components_58 K 0) (l := fun k x => ref21_components_58 K k x.1.1 x.1.2.2.1 x.2.1) (c := codeAt b_ref21_components 116) (by kernel_rfl) (by kernel_rfl) (by kernel_rfl) (by kernel_rfl) (fun x => by kernel_rfl) (fun k x => by kernel_rfl) K
noncomputable def c_ref21_components_58 (K : Nat) : List (Nat × Piece) := (58, p_ref21_components_58 K K) :: c_ref21_components_0 K
theorem o_ref21_components_58 (K : Nat) (hB : Base Try.prog tabs (fs_ref21_finished K)) : PcsOk Try.prog b_ref21_components (c_ref21_components_58 K) := PcsOk.cons (k_ref21_components_58 K hB) (o_ref21_components_0 K)
def ref21_components_8202030 (K : Nat) : (k : Nat) → (x7 : (List (List Int))) → (x9 : Int) → (x11 : Int) → (x12 : Int) → (o0 : (List Int)) → (o1 : (List Int)) → Option ((Unit × Unit) × ((List Int) × ((List Int) × Unit)))
  | 0, _, _, _, _, _, _ => none
  | k + 1, x7, x9, x11, x12, o0, o1 =>
    if decide (0 ≤ x11 ∧ x11 < (x7.length : Int)) then
      if decide (x12 < ((x7.getD x11.toNat []).length : Int)) then
        if decide (0 ≤ x11 ∧ x11 < (x7.length : Int)) then
          if decide (0 ≤ x12 ∧ x12 < ((x7.getD x11.toNat []).length : Int)) then
            if decide (0 ≤ (x7.getD x11.toNat []).getD x12.toNat 0 ∧ (x7.getD x11.toNat []).getD x12.toNat 0 < (o0.length : Int)) then
              if decide ((o0.getD (((x7.getD x11.toNat []).getD x12.toNat 0).toNat) 0) < 0) then
                if decide (0 ≤ (x7.getD x11.toNat []).getD x12.toNat 0 ∧ (x7.getD x11.toNat []).getD x12.toNat 0 < (o0.length : Int)) then
                  if decide (o1.length + ([(x7.getD x11.toNat []).getD x12.toNat 0]).length ≤ 4294967296) then
                    ref21_components_8202030 K k x7 x9 x11 (IntKind.i64.wrap (x12 + 1)) (o0.set (((x7.getD x11.toNat []).getD x12.toNat 0).toNat) x9) (o1 ++ [(x7.getD x11.toNat []).getD x12.toNat 0])
                  else
                    none
                else
                  none
              else
                ref21_components_8202030 K k x7 x9 x11 (IntKind.i64.wrap (x12 + 1)) o0 o1
            else
              none
          else
            none
        else
          none
      else
        some (((), ()), (o1, (o0, ())))
    else
      none
@[reducible] def p_ref21_components_8202030 (K k : Nat) : Piece := { slots := [(5, (.href 0)), (7, (.v (.slice (.slice (.int .i64))))), (9, (.v (.int .i64))), (10, (.href 1)), (11, (.v (.int .i64))), (12, (.v (.int .i64)))], objs := [(.row (.int .i64)), (.row (.int .i64))], outs := [{ ex := (.exit 6), slots := [(10, (.href 0))], objs := [(none, (.row (.int .i64))), (some 0, (.row (.int .i64)))] }], asg := [10, 12, 13, 77, 78, 79, 80, 81, 82, 83, 84, 85, 86, 87, 88, 89, 90, 91, 92, 93, 94, 95, 96, 97, 98, 99, 100, 101, 102, 103, 104, 105], nt := 151, fn := fun x => ref21_components_8202030 K k x.1.2.1 x.1.2.2.1 x.1.2.2.2.2.1 x.1.2.2.2.2.2.1 x.2.1 x.2.2.1 }
theorem k_ref21_components_8202030 (K : Nat) (hB : Base Try.prog tabs (fs_ref21_finished K)) : PcOk Try.prog (codeAt b_ref21_components 8202030) (p_ref21_components_8202030 K K) :=
  loop_thm hB (o_ref21_components_58 K hB) 8202030 (p_ref21_components_8202030 K 0) (l := fun k x => ref21_components_8202030 K k x.1.2.1 x.1.2.2.1 x.1.2.2.2.2.1 x.1.2.2.2.2.2.1 x.2.1 x.2.2.1) (c := codeAt b_ref21_components 16404060) (by kernel_rfl) (by kernel_rfl) (by kernel_rfl) (by kernel_rfl) (fun x => by kernel_rfl) (fun k x => by kernel_rfl) K
noncomputable def c_ref21_components_8202030 (K : Nat) : List (Nat × Piece) := (8202030, p_ref21_components_8202030 K K) :: c_ref21_components_58 K
theorem o_ref21_components_8202030 (K : Nat) (hB : Base Try.prog tabs (fs_ref21_finished K)) : PcsOk Try.prog b_ref21_components (c_ref21_components_8202030 K) := PcsOk.cons (k_ref21_components_8202030 K hB) (o_ref21_components_58 K hB)
def ref21_components_64078 (K : Nat) : (k : Nat) → (x7 : (List (List Int))) → (x9 : Int) → (o0 : (List Int)) → (o1 : (List Int)) → Option (Unit × ((List Int) × Unit))
  | 0, _, _, _, _ => none
  | k + 1, x7, x9, o0, o1 =>
    if decide (0 < (o1.length : Int)) then
      if decide (0 ≤ IntKind.i64.wrap ((o1.length : Int) - 1) ∧ IntKind.i64.wrap ((o1.length : Int) - 1) < (o1.length : Int)) then
        if decide (0 ≤ IntKind.i64.wrap ((o1.length : Int) - 1) ∧ IntKind.i64.wrap ((o1.length : Int) - 1) ≤ (o1.length : Int)) then
          (ref21_components_8202030 K K x7 x9 (o1.getD ((IntKind.i64.wrap ((o1.length : Int) - 1)).toNat) 0) 0 o0 (o1.take ((IntKind.i64.wrap ((o1.length : Int) - 1)).toNat))).bind fun y1 =>
            ref21_components_64078 K k x7 x9 y1.2.2.1 y1.2.1
        else
          none
      else
        none
    else
      some ((), (o0, ()))
@[reducible] def p_ref21_components_64078 (K k : Nat) : Piece := { slots := [(5, (.href 0)), (7, (.v (.slice (.slice (.int .i64))))), (9, (.v (.int .i64))), (10, (.href 1))], objs := [(.row (.int .i64)), (.row (.int .i64))], outs := [{ ex := (.exit 4), slots := [], objs := [(some 0, (.row (.int .i64)))] }], asg := [10, 11, 12, 13, 63, 64, 65, 66, 67, 68, 69, 70, 71, 72, 73, 74, 75, 76, 77, 78, 79, 80, 81, 82, 83, 84, 85, 86, 87, 88, 89, 90, 91, 92, 93, 94, 95, 96, 97, 98, 99, 100, 101, 102, 103, 104, 105], nt := 151, fn := fun x => ref21_components_64078 K k x.1.2.1 x.1.2.2.1 x.2.1 x.2.2.1 }
theorem k_ref21_components_64078 (K : Nat) (hB : Base Try.prog tabs (fs_ref21_finished K)) : PcOk Try.prog (codeAt b_ref21_components 64078) (p_ref21_components_64078 K K) :=
  loop_thm hB (o_ref21_components_8202030 K hB) 64078 (p_ref21_components_64078 K 0) (l := fun k x => ref21_components_64078 K k x.1.2.1 x.1.2.2.1 x.2.1 x.2.2.1) (c := codeAt b_ref21_components 128156) (by kernel_rfl) (by kernel_rfl) (by kernel_rfl) (by kernel_rfl) (fun x => by kernel_rfl) (fun k x => by kernel_rfl) K
noncomputable def c_ref21_components_64078 (K : Nat) : List (Nat × Piece) := (64078, p_ref21_components_64078 K K) :: c_ref21_components_8202030 K
theorem o_ref21_components_64078 (K : Nat) (hB : Base Try.prog tabs (fs_ref21_finished K)) : PcsOk Try.prog b_ref21_components (c_ref21_components_64078 K) := PcsOk.cons (k_ref21_components_64078 K hB) (o_ref21_components_8202030 K hB)
def ref21_components_250 (K : Nat) : (k : Nat) → (x7 : (List (List Int))) → (x8 : (List Int)) → (x9 : Int) → (o0 : (List Int)) → Option (Unit × ((List Int) × Unit))
  | 0, _, _, _, _ => none
  | k + 1, x7, x8, x9, o0 =>
    if decide (0 ≤ x9) then
      if decide (0 ≤ x9 ∧ x9 < (x8.length : Int)) then
        if decide (0 ≤ x8.getD x9.toNat 0 ∧ x8.getD x9.toNat 0 < (o0.length : Int)) then
          if decide (0 ≤ (o0.getD ((x8.getD x9.toNat 0).toNat) 0)) then
            ref21_components_250 K k x7 x8 (IntKind.i64.wrap (x9 - 1)) o0
          else
            if decide (0 ≤ x9 ∧ x9 < (x8.length : Int)) then
              if decide (0 ≤ x8.getD x9.toNat 0 ∧ x8.getD x9.toNat 0 < (o0.length : Int)) then
                if decide (0 ≤ x9 ∧ x9 < (x8.length : Int)) then
                  (ref21_components_64078 K K x7 x9 (o0.set ((x8.getD x9.toNat 0).toNat) x9) ([x8.getD x9.toNat 0])).bind fun y2 =>
                    ref21_components_250 K k x7 x8 (IntKind.i64.wrap (x9 - 1)) y2.2.1
                else
                  none
              else
                none
            else
              none
        else
          none
      else
        none
    else
      some ((), (o0, ()))
@[reducible] def p_ref21_components_250 (K k : Nat) : Piece := { slots := [(5, (.href 0)), (7, (.v (.slice (.slice (.int .i64))))), (8, (.v (.slice (.int .i64)))), (9, (.v (.int .i64)))], objs := [(.row (.int .i64))], outs := [{ ex := (.exit 2), slots := [], objs := [(some 0, (.row (.int .i64)))] }], asg := [9, 10, 11, 12, 13, 39, 40, 41, 42, 43, 44, 45, 46, 47, 48, 49, 50, 51, 52, 53, 54, 55, 56, 57, 58, 59, 60, 61, 62, 63, 64, 65, 66, 67, 68, 69, 70, 71, 72, 73, 74, 75, 76, 77, 78, 79, 80, 81, 82, 83, 84, 85, 86, 87, 88, 89, 90, 91, 92, 93, 94, 95, 96, 97, 98, 99, 100, 101, 102, 103, 104, 105], nt := 151, fn := fun x => ref21_components_250 K k x.1.2.1 x.1.2.2.1 x.1.2.2.2.1 x.2.1 }
theorem k_ref21_components_250 (K : Nat) (hB : Base Try.prog tabs (fs_ref21_finished K)) : PcOk Try.prog (codeAt b_ref21_components 250) (p_ref21_components_250 K K) :=
  loop_thm hB (o_ref21_components_64078 K hB) 250 (p_ref21_components_250 K 0) (l := fun k x => ref21_components_250 K k x.1.2.1 x.1.2.2.1 x.1.2.2.2.1 x.2.1) (c := codeAt b_ref21_components 500) (by kernel_rfl) (by kernel_rfl) (by kernel_rfl) (by kernel_rfl) (fun x => by kernel_rfl) (fun k x => by kernel_rfl) K
noncomputable def c_ref21_components_250 (K : Nat) : List (Nat × Piece) := (250, p_ref21_components_250 K K) :: c_ref21_components_64078 K
theorem o_ref21_components_250 (K : Nat) (hB : Base Try.prog tabs (fs_ref21_finished K)) : PcsOk Try.prog b_ref21_components (c_ref21_components_250 K) := PcsOk.cons (k_ref21_components_250 K hB) (o_ref21_components_64078 K hB)
def ref21_components_130707 (K : Nat) (x5 : (List Int)) (x14 : (List Int)) (x17 : Int) (o0 : (List Int)) : Option ((Unit × Unit) × ((List Int) × Unit)) :=
  if decide (0 ≤ x17 ∧ x17 < (x5.length : Int)) then
    if decide (0 ≤ x5.getD x17.toNat 0 ∧ x5.getD x17.toNat 0 < (x14.length : Int)) then
      if decide (o0.length + ([IntKind.i64.wrap ((x14.getD ((x5.getD x17.toNat 0).toNat) 0) - 1)]).length ≤ 4294967296) then
        some (((), ()), ((o0 ++ [IntKind.i64.wrap ((x14.getD ((x5.getD x17.toNat 0).toNat) 0) - 1)]), ()))
      else
        none
    else
      none
  else
    none
@[reducible] def p_ref21_components_130707 (K : Nat) : Piece := { slots := [(5, (.v (.slice (.int .i64)))), (14, (.v (.slice (.int .i64)))), (16, (.href 0)), (17, (.v (.int .i64)))], objs := [(.row (.int .i64))], outs := [{ ex := .normal, slots := [(16, (.href 0))], objs := [(none, (.row (.int .i64)))] }], asg := [16, 139, 140, 141, 142, 143, 144, 145, 146, 147, 148, 149], nt := 151, fn := fun x => ref21_components_130707 K x.1.1 x.1.2.1 x.1.2.2.2.1 x.2.1 }
theorem k_ref21_components_130707 (K : Nat) (hB : Base Try.prog tabs (fs_ref21_finished K)) : PcOk Try.prog (codeAt b_ref21_components 130707) (p_ref21_components_130707 K) :=
  seg_thm hB (o_ref21_components_250 K hB) 130707 (p_ref21_components_130707 K) (by kernel_rfl) (by kernel_rfl) (by kernel_rfl) (fun x => by kernel_rfl)
noncomputable def c_ref21_components_130707 (K : Nat) : List (Nat × Piece) := (130707, p_ref21_components_130707 K) :: c_ref21_components_250 K
theorem o_ref21_components_130707 (K : Nat) (hB : Base Try.prog tabs (fs_ref21_finished K)) : PcsOk Try.prog b_ref21_components (c_ref21_components_130707 K) := PcsOk.cons (k_ref21_components_130707 K hB) (o_ref21_components_250 K hB)
def ref21_components_2042 (K : Nat) : (k : Nat) → (x1 : (List Bool)) → (x5 : (List Int)) → (x15 : Int) → (x17 : Int) → (o0 : (List Int)) → (o1 : (List Int)) → Option ((Unit × Unit) × ((List Int) × Unit))
  | 0, _, _, _, _, _, _ => none
  | k + 1, x1, x5, x15, x17, o0, o1 =>
    if decide (x17 < (x1.length : Int)) then
      if decide (0 ≤ x17 ∧ x17 < (x1.length : Int)) then
        if x1.getD x17.toNat false then
          if decide (o1.length + ([(-1)]).length ≤ 4294967296) then
            ref21_components_2042 K k x1 x5 x15 (IntKind.i64.wrap (x17 + 1)) o0 (o1 ++ [(-1)])
          else
            none
        else
          if decide (0 ≤ x17 ∧ x17 < (x5.length : Int)) then
            if decide (0 ≤ x5.getD x17.toNat 0 ∧ x5.getD x17.toNat 0 < (o0.length : Int)) then
              if decide ((o0.getD ((x5.getD x17.toNat 0).toNat) 0) = 0) then
                if decide (0 ≤ x17 ∧ x17 < (x5.length : Int)) then
                  if decide (0 ≤ x5.getD x17.toNat 0 ∧ x5.getD x17.toNat 0 < (o0.length : Int)) then
                    (ref21_components_130707 K x5 (o0.set ((x5.getD x17.toNat 0).toNat) (IntKind.i64.wrap (x15 + 1))) x17 o1).bind fun y3 =>
                      ref21_components_2042 K k x1 x5 (IntKind.i64.wrap (x15 + 1)) (IntKind.i64.wrap (x17 + 1)) (o0.set ((x5.getD x17.toNat 0).toNat) (IntKind.i64.wrap (x15 + 1))) y3.2.1
                  else
                    none
                else
                  none
              else
                (ref21_components_130707 K x5 o0 x17 o1).bind fun y4 =>
                  ref21_components_2042 K k x1 x5 x15 (IntKind.i64.wrap (x17 + 1)) o0 y4.2.1
            else
              none
          else
            none
      else
        none
    else
      some (((), ()), (o1, ()))
@[reducible] def p_ref21_components_2042 (K k : Nat) : Piece := { slots := [(1, (.v (.slice .bool))), (5, (.v (.slice (.int .i64)))), (14, (.href 0)), (15, (.v (.int .i64))), (16, (.href 1)), (17, (.v (.int .i64)))], objs := [(.row (.int .i64)), (.row (.int .i64))], outs := [{ ex := (.exit 8), slots := [(16, (.href 0))], objs := [(none, (.row (.int .i64)))] }], asg := [15, 16, 17, 109, 110, 111, 112, 113, 114, 115, 116, 117, 118, 119, 120, 121, 122, 123, 124, 125, 126, 127, 128, 129, 130, 131, 132, 133, 134, 135, 136, 137, 138, 139, 140, 141, 142, 143, 144, 145, 146, 147, 148, 149], nt := 151, fn := fun x => ref21_components_2042 K k x.1.1 x.1.2.1 x.1.2.2.2.1 x.1.2.2.2.2.2.1 x.2.1 x.2.2.1 }
theorem k_ref21_components_2042 (K : Nat) (hB : Base Try.prog tabs (fs_ref21_finished K)) : PcOk Try.prog (codeAt b_ref21_components 2042) (p_ref21_components_2042 K K) :=
  loop_thm hB (o_ref21_components_130707 K hB) 2042 (p_ref21_components_2042 K 0) (l := fun k x => ref21_components_2042 K k x.1.1 x.1.2.1 x.1.2.2.2.1 x.1.2.2.2.2.2.1 x.2.1 x.2.2.1) (c := codeAt b_ref21_components 4084) (by kernel_rfl) (by kernel_rfl) (by kernel_rfl) (by kernel_rfl) (fun x => by kernel_rfl) (fun k x => by kernel_rfl) K
noncomputable def c_ref21_components_2042 (K : Nat) : List (Nat × Piece) := (2042, p_ref21_components_2042 K K) :: c_ref21_components_130707 K
theorem o_ref21_components_2042 (K : Nat) (hB : Base Try.prog tabs (fs_ref21_finished K)) : PcsOk Try.prog b_ref21_components (c_ref21_components_2042 K) := PcsOk.cons (k_ref21_components_2042 K hB) (o_ref21_components_130707 K hB)
def ref21_components (K : Nat) (x0 : ((List Int) × ((List (List (Int × (Int × Unit)))) × Unit))) (x1 : (List Bool)) : Option ((Unit × Unit) × ((List Int) × Unit)) :=
  if decide (0 ≤ (x1.length : Int) ∧ (x1.length : Int) ≤ (x1.length : Int) ∧ (x1.length : Int) ≤ 4294967296) then
    (ref21_components_58 K K x1 0 (List.replicate (x1.length : Int).toNat 0)).bind fun y2 =>
      (ref21_back K x0 x1).bind fun y5 =>
        (ref21_finished K x0 x1).bind fun y6 =>
          (ref21_components_250 K K y5.2.1 y6.2.1 (IntKind.i64.wrap ((y6.2.1.length : Int) - 1)) y2.2.1).bind fun y8 =>
            if decide (0 ≤ (y6.2.1.length : Int) ∧ (y6.2.1.length : Int) ≤ (y6.2.1.length : Int) ∧ (y6.2.1.length : Int) ≤ 4294967296) then
              (ref21_components_2042 K K x1 y8.2.1 0 0 (List.replicate (y6.2.1.length : Int).toNat 0) []).bind fun y10 =>
                some (((), ()), (y10.2.1, ()))
            else
              none
  else
    none
@[reducible] def p_ref21_components (K : Nat) : Piece := { slots := [(0, (.v (.pair (.slice (.int .u32)) (.pair (.slice (.slice (.pair (.int .u32) (.pair (.int .i64) .unit)))) .unit)))), (1, (.v (.slice .bool)))], objs := [], outs := [{ ex := .ret, slots := [(0, (.href 0))], objs := [(none, (.row (.int .i64)))] }], asg := [], nt := 151, fn := fun x => ref21_components K x.1.1 x.1.2.1 }
theorem s_ref21_components (K : Nat) (hB : Base Try.prog tabs (fs_ref21_finished K)) : FnSound Try.prog 29 (p_ref21_components K) :=
  fun_thm hB (o_ref21_components_2042 K hB) Try.func29 (body := b_ref21_components) rfl (p_ref21_components K) (rs := [.tmp 4]) rfl (Nat.le_of_ble_eq_true (by kernel_rfl)) (fun x => by kernel_rfl)
noncomputable def fs_ref21_components (K : Nat) : List (Nat × Piece) := (29, p_ref21_components K) :: fs_ref21_finished K
theorem base_ref21_components (K : Nat) : Base Try.prog tabs (fs_ref21_components K) := ⟨(base_ref21_finished K).mixed, (base_ref21_finished K).tabs, FnsOk.cons (s_ref21_components K (base_ref21_finished K)) (by kernel_rfl) (base_ref21_finished K).fns⟩
/-! "selfstab/selfstabref21.Components" -/
noncomputable def b_ref21_Components : Code := codeOf Try.f20
noncomputable def c_ref21_Components_0 (K : Nat) : List (Nat × Piece) := []
theorem o_ref21_Components_0 (K : Nat) : PcsOk Try.prog b_ref21_Components (c_ref21_Components_0 K) := PcsOk.nil
def ref21_Components (K : Nat) (x0 : ((List Int) × ((List (List (Int × (Int × Unit)))) × Unit))) (x1 : (List Bool)) : Option (((Unit × (Int × Unit)) × Unit) × ((List Int) × Unit)) :=
  (ref19_Begin K x0 x1).bind fun y4 =>
    if !decide (y4.1.1 = 0) then
      some ((((), (y4.1.1, ())), ()), ([], ()))
    else
      (ref21_components K x0 x1).bind fun y5 =>
        some ((((), (0, ())), ()), (y5.2.1, ()))
@[reducible] def p_ref21_Components (K : Nat) : Piece := { slots := [(0, (.v (.pair (.slice (.int .u32)) (.pair (.slice (.slice (.pair (.int .u32) (.pair (.int .i64) .unit)))) .unit)))), (1, (.v (.slice .bool)))], objs := [], outs := [{ ex := .ret, slots := [(0, (.tup (.cons (.href 0) (.cons (.v (.int .i64)) .nil))))], objs := [(none, (.row (.int .i64)))] }], asg := [], nt := 16, fn := fun x => ref21_Components K x.1.1 x.1.2.1 }
theorem s_ref21_Components (K : Nat) (hB : Base Try.prog tabs (fs_ref21_components K)) : FnSound Try.prog 20 (p_ref21_Components K) :=
  fun_thm hB (o_ref21_Components_0 K) Try.func20 (body := b_ref21_Components) rfl (p_ref21_Components K) (rs := [.tmp 4, .tmp 5]) rfl (Nat.le_of_ble_eq_true (by kernel_rfl)) (fun x => by kernel_rfl)
noncomputable def fs_ref21_Components (K : Nat) : List (Nat × Piece) := (20, p_ref21_Components K) :: fs_ref21_components K
theorem base_ref21_Components (K : Nat) : Base Try.prog tabs (fs_ref21_Components K) := ⟨(base_ref21_components K).mixed, (base_ref21_components K).tabs, FnsOk.cons (s_ref21_Components K (base_ref21_components K)) (by kernel_rfl) (base_ref21_components K).fns⟩
/-! "selfstab/selfstabref21.all" -/
noncomputable def b_ref21_all : Code := codeOf Try.f31
noncomputable def c_ref21_all_0 (K : Nat) : List (Nat × Piece) := []
theorem o_ref21_all_0 (K : Nat) : PcsOk Try.prog b_ref21_all (c_ref21_all_0 K) := PcsOk.nil
def ref21_all_58 (K : Nat) : (k : Nat) → (x1 : (List Int)) → (x5 : Int) → (x6 : Int) → Option ((Int × Unit) × Unit)
  | 0, _, _, _ => none
  | k + 1, x1, x5, x6 =>
    if decide (x6 < (x1.length : Int)) then
      if decide (0 ≤ x6 ∧ x6 < (x1.length : Int)) then
        ref21_all_58 K k x1 (if IntKind.i64.wrap ((x1.getD x6.toNat 0) + 1) > x5 then IntKind.i64.wrap ((x1.getD x6.toNat 0) + 1) else x5) (IntKind.i64.wrap (x6 + 1))
      else
        none
    else
      some ((x5, ()), ())
@[reducible] def p_ref21_all_58 (K k : Nat) : Piece := { slots := [(1, (.v (.slice (.int .i64)))), (5, (.v (.int .i64))), (6, (.v (.int .i64)))], objs := [], outs := [{ ex := (.exit 0), slots := [(5, (.v (.int .i64)))], objs := [] }], asg := [5, 6, 13, 14, 15, 16, 17, 18, 19, 20, 21, 22, 23, 24, 25], nt := 134, fn := fun x => ref21_all_58 K k x.1.1 x.1.2.1 x.1.2.2.1 }
theorem k_ref21_all_58 (K : Nat) (hB : Base Try.prog tabs (fs_ref21_Components K)) : PcOk Try.prog (codeAt b_ref21_all 58) (p_ref21_all_58 K K) :=
  loop_thm hB (o_ref21_all_0 K) 58 (p_ref21_all_58 K 0) (l := fun k x => ref21_all_58 K k x.1.1 x.1.2.1 x.1.2.2.1) (c := codeAt b_ref21_all 116) (by kernel_rfl) (by kernel_rfl) (by kernel_rfl) (by kernel_rfl) (fun x => by kernel_rfl) (fun k x => by kernel_rfl) K
noncomputable def c_ref21_all_58 (K : Nat) : List (Nat × Piece) := (58, p_ref21_all_58 K K) :: c_ref21_all_0 K
theorem o_ref21_all_58 (K : Nat) (hB : Base Try.prog tabs (fs_ref21_Components K)) : PcsOk Try.prog b_ref21_all (c_ref21_all_58 K) := PcsOk.cons (k_ref21_all_58 K hB) (o_ref21_all_0 K)
def ref21_all_64078 (K : Nat) : (k : Nat) → (x1 : (List Int)) → (x9 : Int) → (x10 : Int) → (o0 : ((List Int) × ((List (List (Int × (Int × Unit)))) × Unit))) → (o1 : (List Int)) → (o2 : (List Int)) → Option (Unit × (((List Int) × ((List (List (Int × (Int × Unit)))) × Unit)) × ((List Int) × ((List Int) × Unit))))
  | 0, _, _, _, _, _, _ => none
  | k + 1, x1, x9, x10, o0, o1, o2 =>
    if decide (0 ≤ x9 ∧ x9 < (o0.2.1.length : Int)) then
      if decide (x10 < ((o0.2.1.getD x9.toNat []).length : Int)) then
        if decide (0 ≤ x9 ∧ x9 < (o0.2.1.length : Int)) then
          if decide (0 ≤ x10 ∧ x10 < ((o0.2.1.getD x9.toNat []).length : Int)) then
            if decide (0 ≤ (((o0.2.1.getD x9.toNat []).getD x10.toNat (0, (0, ()))).2).1 ∧ (((o0.2.1.getD x9.toNat []).getD x10.toNat (0, (0, ()))).2).1 < (x1.length : Int)) then
              if decide (0 ≤ x9 ∧ x9 < (x1.length : Int)) then
                if decide ((x1.getD (((((o0.2.1.getD x9.toNat []).getD x10.toNat (0, (0, ()))).2).1).toNat) 0) = (x1.getD x9.toNat 0)) then
                  if decide (0 ≤ x9 ∧ x9 < (x1.length : Int)) then
                    if decide (0 ≤ x1.getD x9.toNat 0 ∧ x1.getD x9.toNat 0 < (o1.length : Int)) then
                      if decide (0 ≤ x1.getD x9.toNat 0 ∧ x1.getD x9.toNat 0 < (o1.length : Int)) then
                        if decide (0 ≤ x9 ∧ x9 < (x1.length : Int)) then
                          if decide (0 ≤ x1.getD x9.toNat 0 ∧ x1.getD x9.toNat 0 < (o2.length : Int)) then
                            if decide (0 ≤ x9 ∧ x9 < (o0.2.1.length : Int)) then
                              if decide (0 ≤ x10 ∧ x10 < ((o0.2.1.getD x9.toNat []).length : Int)) then
                                if decide (0 ≤ x1.getD x9.toNat 0 ∧ x1.getD x9.toNat 0 < (o2.length : Int)) then
                                  ref21_all_64078 K k x1 x9 (IntKind.i64.wrap (x10 + 1)) o0 (o1.set ((x1.getD x9.toNat 0).toNat) (IntKind.i64.wrap ((o1.getD ((x1.getD x9.toNat 0).toNat) 0) + 1))) (o2.set ((x1.getD x9.toNat 0).toNat) (ior .u32 (o2.getD ((x1.getD x9.toNat 0).toNat) 0) (((o0.2.1.getD x9.toNat []).getD x10.toNat (0, (0, ()))).1)))
                                else
                                  none
                              else
                                none
                            else
                              none
                          else
                            none
                        else
                          none
                      else
                        none
                    else
                      none
                  else
                    none
                else
                  ref21_all_64078 K k x1 x9 (IntKind.i64.wrap (x10 + 1)) o0 o1 o2
              else
                none
            else
              none
          else
            none
        else
          none
      else
        some ((), (o0, (o1, (o2, ()))))
    else
      none
@[reducible] def p_ref21_all_64078 (K k : Nat) : Piece := { slots := [(1, (.v (.slice (.int .i64)))), (2, (.ref 0 (.pair (.slice (.int .u32)) (.pair (.slice (.slice (.pair (.int .u32) (.pair (.int .i64) .unit)))) .unit)))), (7, (.href 1)), (8, (.href 2)), (9, (.v (.int .i64))), (10, (.v (.int .i64)))], objs := [(.box (.pair (.slice (.int .u32)) (.pair (.slice (.slice (.pair (.int .u32) (.pair (.int .i64) .unit)))) .unit)) (.v (.pair (.slice (.int .u32)) (.pair (.slice (.slice (.pair (.int .u32) (.pair (.int .i64) .unit)))) .unit)))), (.row (.int .i64)), (.row (.int .u32))], outs := [{ ex := (.exit 4), slots := [], objs := [(some 0, (.box (.pair (.slice (.int .u32)) (.pair (.slice (.slice (.pair (.int .u32) (.pair (.int .i64) .unit)))) .unit)) (.v (.pair (.slice (.int .u32)) (.pair (.slice (.slice (.pair (.int .u32) (.pair (.int .i64) .unit)))) .unit))))), (some 1, (.row (.int .i64))), (some 2, (.row (.int .u32)))] }], asg := [10, 56, 57, 58, 59, 60, 61, 62, 63, 64, 65, 66, 67, 68, 69, 70, 71, 72, 73, 74, 75, 76, 77, 78, 79, 80, 81, 82, 83, 84, 85, 86, 87, 88, 89, 90, 91, 92, 93, 94, 95, 96, 97, 98, 99, 100, 101, 102, 103, 104, 105, 106, 107, 108, 109], nt := 134, fn := fun x => ref21_all_64078 K k x.1.1 x.1.2.2.2.2.1 x.1.2.2.2.2.2.1 x.2.1 x.2.2.1 x.2.2.2.1 }
theorem k_ref21_all_64078 (K : Nat) (hB : Base Try.prog tabs (fs_ref21_Components K)) : PcOk Try.prog (codeAt b_ref21_all 64078) (p_ref21_all_64078 K K) :=
  loop_thm hB (o_ref21_all_58 K hB) 64078 (p_ref21_all_64078 K 0) (l := fun k x => ref21_all_64078 K k x.1.1 x.1.2.2.2.2.1 x.1.2.2.2.2.2.1 x.2.1 x.2.2.1 x.2.2.2.1) (c := codeAt b_ref21_all 128156) (by kernel_rfl) (by kernel_rfl) (by kernel_rfl) (by kernel_rfl) (fun x => by kernel_rfl) (fun k x => by kernel_rfl) K
noncomputable def c_ref21_all_64078 (K : Nat) : List (Nat × Piece) := (64078, p_ref21_all_64078 K K) :: c_ref21_all_58 K
theorem o_ref21_all_64078 (K : Nat) (hB : Base Try.prog tabs (fs_ref21_Components K)) : PcsOk Try.prog b_ref21_all (c_ref21_all_64078 K) := PcsOk.cons (k_ref21_all_64078 K hB) (o_ref21_all_58 K hB)
def ref21_all_250 (K : Nat) : (k : Nat) → (x1 : (List Int)) → (x9 : Int) → (o0 : ((List Int) × ((List (List (Int × (Int × Unit)))) × Unit))) → (o1 : (List Int)) → (o2 : (List Int)) → Option (Unit × ((List Int) × ((List Int) × Unit)))
  | 0, _, _, _, _, _ => none
  | k + 1, x1, x9, o0, o1, o2 =>
    if decide (x9 < (x1.length : Int)) then
      if decide (0 ≤ x9 ∧ x9 < (x1.length : Int)) then
        if decide ((x1.getD x9.toNat 0) < 0) then
          ref21_all_250 K k x1 (IntKind.i64.wrap (x9 + 1)) o0 o1 o2
        else
          if decide (0 ≤ x9 ∧ x9 < (x1.length : Int)) then
            if decide (0 ≤ x1.getD x9.toNat 0 ∧ x1.getD x9.toNat 0 < (o2.length : Int)) then
              if decide (0 ≤ x9 ∧ x9 < (o0.1.length : Int)) then
                if decide (0 ≤ x1.getD x9.toNat 0 ∧ x1.getD x9.toNat 0 < (o2.length : Int)) then
                  (ref21_all_64078 K K x1 x9 0 o0 o1 (o2.set ((x1.getD x9.toNat 0).toNat) (ior .u32 (o2.getD ((x1.getD x9.toNat 0).toNat) 0) (ixor .u32 4294967295 (o0.1.getD x9.toNat 0))))).bind fun y2 =>
                    ref21_all_250 K k x1 (IntKind.i64.wrap (x9 + 1)) y2.2.1 y2.2.2.1 y2.2.2.2.1
                else
                  none
              else
                none
            else
              none
          else
            none
      else
        none
    else
      some ((), (o1, (o2, ())))
@[reducible] def p_ref21_all_250 (K k : Nat) : Piece := { slots := [(1, (.v (.slice (.int .i64)))), (2, (.ref 0 (.pair (.slice (.int .u32)) (.pair (.slice (.slice (.pair (.int .u32) (.pair (.int .i64) .unit)))) .unit)))), (7, (.href 1)), (8, (.href 2)), (9, (.v (.int .i64)))], objs := [(.box (.pair (.slice (.int .u32)) (.pair (.slice (.slice (.pair (.int .u32) (.pair (.int .i64) .unit)))) .unit)) (.v (.pair (.slice (.int .u32)) (.pair (.slice (.slice (.pair (.int .u32) (.pair (.int .i64) .unit)))) .unit)))), (.row (.int .i64)), (.row (.int .u32))], outs := [{ ex := (.exit 2), slots := [], objs := [(some 1, (.row (.int .i64))), (some 2, (.row (.int .u32)))] }], asg := [9, 10, 30, 31, 32, 33, 34, 35, 36, 37, 38, 39, 40, 41, 42, 43, 44, 45, 46, 47, 48, 49, 50, 51, 52, 53, 54, 55, 56, 57, 58, 59, 60, 61, 62, 63, 64, 65, 66, 67, 68, 69, 70, 71, 72, 73, 74, 75, 76, 77, 78, 79, 80, 81, 82, 83, 84, 85, 86, 87, 88, 89, 90, 91, 92, 93, 94, 95, 96, 97, 98, 99, 100, 101, 102, 103, 104, 105, 106, 107, 108, 109], nt := 134, fn := fun x => ref21_all_250 K k x.1.1 x.1.2.2.2.2.1 x.2.1 x.2.2.1 x.2.2.2.1 }
theorem k_ref21_all_250 (K : Nat) (hB : Base Try.prog tabs (fs_ref21_Components K)) : PcOk Try.prog (codeAt b_ref21_all 250) (p_ref21_all_250 K K) :=
  loop_thm hB (o_ref21_all_64078 K hB) 250 (p_ref21_all_250 K 0) (l := fun k x => ref21_all_250 K k x.1.1 x.1.2.2.2.2.1 x.2.1 x.2.2.1 x.2.2.2.1) (c := codeAt b_ref21_all 500) (by kernel_rfl) (by kernel_rfl) (by kernel_rfl) (by kernel_rfl) (fun x => by kernel_rfl) (fun k x => by kernel_rfl) K
noncomputable def c_ref21_all_250 (K : Nat) : List (Nat × Piece) := (250, p_ref21_all_250 K K) :: c_ref21_all_64078 K
theorem o_ref21_all_250 (K : Nat) (hB : Base Try.prog tabs (fs_ref21_Components K)) : PcsOk Try.prog b_ref21_all (c_ref21_all_250 K) := PcsOk.cons (k_ref21_all_250 K hB) (o_ref21_all_64078 K hB)
def ref21_all_1018 (K : Nat) : (k : Nat) → (x5 : Int) → (x7 : (List Int)) → (x8 : (List Int)) → (x12 : Int) → (o0 : (List Bool)) → Option ((Unit × Unit) × ((List Bool) × Unit))
  | 0, _, _, _, _, _ => none
  | k + 1, x5, x7, x8, x12, o0 =>
    if decide (x12 < x5) then
      if decide (0 ≤ x12 ∧ x12 < (x7.length : Int)) then
        if decide (0 < (x7.getD x12.toNat 0)) then
          if decide (0 ≤ x12 ∧ x12 < (x8.length : Int)) then
            (ref01_All K 24).bind fun y3 =>
              (ref01_All K 24).bind fun y4 =>
                if decide (o0.length + ([decide ((iand .u32 (x8.getD x12.toNat 0) y3.1.1) = y4.1.1)]).length ≤ 4294967296) then
                  ref21_all_1018 K k x5 x7 x8 (IntKind.i64.wrap (x12 + 1)) (o0 ++ [decide ((iand .u32 (x8.getD x12.toNat 0) y3.1.1) = y4.1.1)])
                else
                  none
          else
            none
        else
          if decide (o0.length + ([false]).length ≤ 4294967296) then
            ref21_all_1018 K k x5 x7 x8 (IntKind.i64.wrap (x12 + 1)) (o0 ++ [false])
          else
            none
      else
        none
    else
      some (((), ()), (o0, ()))
@[reducible] def p_ref21_all_1018 (K k : Nat) : Piece := { slots := [(5, (.v (.int .i64))), (7, (.v (.slice (.int .i64)))), (8, (.v (.slice (.int .u32)))), (11, (.href 0)), (12, (.v (.int .i64)))], objs := [(.row .bool)], outs := [{ ex := (.exit 6), slots := [(11, (.href 0))], objs := [(none, (.row .bool))] }], asg := [11, 12, 110, 111, 112, 113, 114, 115, 116, 117, 118, 119, 120, 121, 122, 123, 124, 125, 126, 127, 128, 129, 130, 131, 132], nt := 134, fn := fun x => ref21_all_1018 K k x.1.1 x.1.2.1 x.1.2.2.1 x.1.2.2.2.2.1 x.2.1 }
theorem k_ref21_all_1018 (K : Nat) (hB : Base Try.prog tabs (fs_ref21_Components K)) : PcOk Try.prog (codeAt b_ref21_all 1018) (p_ref21_all_1018 K K) :=
  loop_thm hB (o_ref21_all_250 K hB) 1018 (p_ref21_all_1018 K 0) (l := fun k x => ref21_all_1018 K k x.1.1 x.1.2.1 x.1.2.2.1 x.1.2.2.2.2.1 x.2.1) (c := codeAt b_ref21_all 2036) (by kernel_rfl) (by kernel_rfl) (by kernel_rfl) (by kernel_rfl) (fun x => by kernel_rfl) (fun k x => by kernel_rfl) K
noncomputable def c_ref21_all_1018 (K : Nat) : List (Nat × Piece) := (1018, p_ref21_all_1018 K K) :: c_ref21_all_250 K
theorem o_ref21_all_1018 (K : Nat) (hB : Base Try.prog tabs (fs_ref21_Components K)) : PcsOk Try.prog b_ref21_all (c_ref21_all_1018 K) := PcsOk.cons (k_ref21_all_1018 K hB) (o_ref21_all_250 K hB)
def ref21_all (K : Nat) (x0 : ((List Int) × ((List (List (Int × (Int × Unit)))) × Unit))) (x1 : (List Int)) : Option ((Unit × Unit) × ((List Bool) × Unit)) :=
  (ref21_all_58 K K x1 0 0).bind fun y2 =>
    if decide (0 ≤ y2.1.1 ∧ y2.1.1 ≤ y2.1.1 ∧ y2.1.1 ≤ 4294967296) then
      if decide (0 ≤ y2.1.1 ∧ y2.1.1 ≤ y2.1.1 ∧ y2.1.1 ≤ 4294967296) then
        (ref21_all_250 K K x1 0 x0 (List.replicate y2.1.1.toNat 0) (List.replicate y2.1.1.toNat 0)).bind fun y4 =>
          (ref21_all_1018 K K y2.1.1 y4.2.1 y4.2.2.1 0 []).bind fun y6 =>
            some (((), ()), (y6.2.1, ()))
      else
        none
    else
      none
@[reducible] def p_ref21_all (K : Nat) : Piece := { slots := [(0, (.v (.pair (.slice (.int .u32)) (.pair (.slice (.slice (.pair (.int .u32) (.pair (.int .i64) .unit)))) .unit)))), (1, (.v (.slice (.int .i64))))], objs := [], outs := [{ ex := .ret, slots := [(0, (.href 0))], objs := [(none, (.row .bool))] }], asg := [], nt := 134, fn := fun x => ref21_all K x.1.1 x.1.2.1 }
theorem s_ref21_all (K : Nat) (hB : Base Try.prog tabs (fs_ref21_Components K)) : FnSound Try.prog 31 (p_ref21_all K) :=
  fun_thm hB (o_ref21_all_1018 K hB) Try.func31 (body := b_ref21_all) rfl (p_ref21_all K) (rs := [.tmp 4]) rfl (Nat.le_of_ble_eq_true (by kernel_rfl)) (fun x => by kernel_rfl)
noncomputable def fs_ref21_all (K : Nat) : List (Nat × Piece) := (31, p_ref21_all K) :: fs_ref21_Components K
theorem base_ref21_all (K : Nat) : Base Try.prog tabs (fs_ref21_all K) := ⟨(base_ref21_Components K).mixed, (base_ref21_Components K).tabs, FnsOk.cons (s_ref21_all K (base_ref21_Components K)) (by kernel_rfl) (base_ref21_Components K).fns⟩
/-! "selfstab/selfstabref21.Kept" -/
noncomputable def b_ref21_Kept : Code := codeOf Try.f22
noncomputable def c_ref21_Kept_0 (K : Nat) : List (Nat × Piece) := []
theorem o_ref21_Kept_0 (K : Nat) : PcsOk Try.prog b_ref21_Kept (c_ref21_Kept_0 K) := PcsOk.nil
def ref21_Kept (K : Nat) (x0 : ((List Int) × ((List (List (Int × (Int × Unit)))) × Unit))) (x1 : (List Bool)) : Option (((Unit × (Int × Unit)) × Unit) × ((List Bool) × Unit)) :=
  (ref19_Begin K x0 x1).bind fun y4 =>
    if !decide (y4.1.1 = 0) then
      some ((((), (y4.1.1, ())), ()), ([], ()))
    else
      (ref21_components K x0 x1).bind fun y5 =>
        (ref21_all K x0 y5.2.1).bind fun y6 =>
          some ((((), (0, ())), ()), (y6.2.1, ()))
@[reducible] def p_ref21_Kept (K : Nat) : Piece := { slots := [(0, (.v (.pair (.slice (.int .u32)) (.pair (.slice (.slice (.pair (.int .u32) (.pair (.int .i64) .unit)))) .unit)))), (1, (.v (.slice .bool)))], objs := [], outs := [{ ex := .ret, slots := [(0, (.tup (.cons (.href 0) (.cons (.v (.int .i64)) .nil))))], objs := [(none, (.row .bool))] }], asg := [], nt := 18, fn := fun x => ref21_Kept K x.1.1 x.1.2.1 }
theorem s_ref21_Kept (K : Nat) (hB : Base Try.prog tabs (fs_ref21_all K)) : FnSound Try.prog 22 (p_ref21_Kept K) :=
  fun_thm hB (o_ref21_Kept_0 K) Try.func22 (body := b_ref21_Kept) rfl (p_ref21_Kept K) (rs := [.tmp 4, .tmp 5]) rfl (Nat.le_of_ble_eq_true (by kernel_rfl)) (fun x => by kernel_rfl)
noncomputable def fs_ref21_Kept (K : Nat) : List (Nat × Piece) := (22, p_ref21_Kept K) :: fs_ref21_all K
theorem base_ref21_Kept (K : Nat) : Base Try.prog tabs (fs_ref21_Kept K) := ⟨(base_ref21_all K).mixed, (base_ref21_all K).tabs, FnsOk.cons (s_ref21_Kept K (base_ref21_all K)) (by kernel_rfl) (base_ref21_all K).fns⟩
/-! "selfstab/selfstablaw21.FairnessFindsComponents" -/
noncomputable def b_law21_FairnessFindsComponents : Code := codeOf Try.f8
noncomputable def c_law21_FairnessFindsComponents_0 (K : Nat) : List (Nat × Piece) := []
theorem o_law21_FairnessFindsComponents_0 (K : Nat) : PcsOk Try.prog b_law21_FairnessFindsComponents (c_law21_FairnessFindsComponents_0 K) := PcsOk.nil
def law21_FairnessFindsComponents (K : Nat) (x0 : ((List Int) × ((List (List (Int × (Int × Unit)))) × Unit))) (x1 : (List Bool)) : Option ((Bool × Unit) × Unit) :=
  (law21_light K x0 x1).bind fun y5 =>
    if !y5.1.1 then
      (law21_awake K).bind fun y6 =>
        some ((y6.1.1, ()), ())
    else
      (fairness_Components K x0 x1).bind fun y8 =>
        (ref21_Components K x0 x1).bind fun y10 =>
          (fairness_Kept K x0 x1).bind fun y12 =>
            (ref21_Kept K x0 x1).bind fun y14 =>
              (law21_awake K).bind fun y15 =>
                if y15.1.1 then
                  (ref01_SameInts K y8.2.1 y10.2.1).bind fun y16 =>
                    if y16.1.1 then
                      if decide (y8.1.1.2.1 = y10.1.1.2.1) then
                        (ref19_Same K y12.2.1 y14.2.1).bind fun y17 =>
                          if y17.1.1 then
                            some ((decide (y12.1.1.2.1 = y14.1.1.2.1), ()), ())
                          else
                            some ((false, ()), ())
                      else
                        some ((false, ()), ())
                    else
                      some ((false, ()), ())
                else
                  some ((false, ()), ())
@[reducible] def p_law21_FairnessFindsComponents (K : Nat) : Piece := { slots := [(0, (.v (.pair (.slice (.int .u32)) (.pair (.slice (.slice (.pair (.int .u32) (.pair (.int .i64) .unit)))) .unit)))), (1, (.v (.slice .bool)))], objs := [], outs := [{ ex := .ret, slots := [(0, (.v .bool))], objs := [] }], asg := [], nt := 63, fn := fun x => law21_FairnessFindsComponents K x.1.1 x.1.2.1 }
theorem s_law21_FairnessFindsComponents (K : Nat) (hB : Base Try.prog tabs (fs_ref21_Kept K)) : FnSound Try.prog 8 (p_law21_FairnessFindsComponents K) :=
  fun_thm hB (o_law21_FairnessFindsComponents_0 K) Try.func8 (body := b_law21_FairnessFindsComponents) rfl (p_law21_FairnessFindsComponents K) (rs := [.tmp 4]) rfl (Nat.le_of_ble_eq_true (by kernel_rfl)) (fun x => by kernel_rfl)
noncomputable def fs_law21_FairnessFindsComponents (K : Nat) : List (Nat × Piece) := (8, p_law21_FairnessFindsComponents K) :: fs_ref21_Kept K
theorem base_law21_FairnessFindsComponents (K : Nat) : Base Try.prog tabs (fs_law21_FairnessFindsComponents K) := ⟨(base_ref21_Kept K).mixed, (base_ref21_Kept K).tabs, FnsOk.cons (s_law21_FairnessFindsComponents K (base_ref21_Kept K)) (by kernel_rfl) (base_ref21_Kept K).fns⟩
theorem law_law21_FairnessFindsComponents (K : Nat) : FnSound Try.prog 8 (p_law21_FairnessFindsComponents K) := s_law21_FairnessFindsComponents K (base_ref21_Kept K)
/-! "selfstab/selfstablaw21.reach" -/
noncomputable def b_law21_reach : Code := codeOf Try.f17
noncomputable def c_law21_reach_0 (K : Nat) : List (Nat × Piece) := []
theorem o_law21_reach_0 (K : Nat) : PcsOk Try.prog b_law21_reach (c_law21_reach_0 K) := PcsOk.nil
def law21_reach_501138 (K : Nat) : (k : Nat) → (x1 : (List Bool)) → (x8 : Bool) → (x9 : Int) → (x10 : Int) → (o0 : ((List Int) × ((List (List (Int × (Int × Unit)))) × Unit))) → (o1 : (List Bool)) → Option ((Bool × Unit) × (((List Int) × ((List (List (Int × (Int × Unit)))) × Unit)) × ((List Bool) × Unit)))
  | 0, _, _, _, _, _, _ => none
  | k + 1, x1, x8, x9, x10, o0, o1 =>
    if decide (0 ≤ x9 ∧ x9 < (o0.2.1.length : Int)) then
      if decide (x10 < ((o0.2.1.getD x9.toNat []).length : Int)) then
        if decide (0 ≤ x9 ∧ x9 < (o1.length : Int)) then
          if o1.getD x9.toNat false then
            if decide (0 ≤ x9 ∧ x9 < (o0.2.1.length : Int)) then
              if decide (0 ≤ x10 ∧ x10 < ((o0.2.1.getD x9.toNat []).length : Int)) then
                if decide (0 ≤ (((o0.2.1.getD x9.toNat []).getD x10.toNat (0, (0, ()))).2).1 ∧ (((o0.2.1.getD x9.toNat []).getD x10.toNat (0, (0, ()))).2).1 < (x1.length : Int)) then
                  if !(x1.getD (((((o0.2.1.getD x9.toNat []).getD x10.toNat (0, (0, ()))).2).1).toNat) false) then
                    if decide (0 ≤ (((o0.2.1.getD x9.toNat []).getD x10.toNat (0, (0, ()))).2).1 ∧ (((o0.2.1.getD x9.toNat []).getD x10.toNat (0, (0, ()))).2).1 < (o1.length : Int)) then
                      if !(o1.getD (((((o0.2.1.getD x9.toNat []).getD x10.toNat (0, (0, ()))).2).1).toNat) false) then
                        if decide (0 ≤ (((o0.2.1.getD x9.toNat []).getD x10.toNat (0, (0, ()))).2).1 ∧ (((o0.2.1.getD x9.toNat []).getD x10.toNat (0, (0, ()))).2).1 < (o1.length : Int)) then
                          law21_reach_501138 K k x1 true x9 (IntKind.i64.wrap (x10 + 1)) o0 (o1.set (((((o0.2.1.getD x9.toNat []).getD x10.toNat (0, (0, ()))).2).1).toNat) true)
                        else
                          none
                      else
                        law21_reach_501138 K k x1 x8 x9 (IntKind.i64.wrap (x10 + 1)) o0 o1
                    else
                      none
                  else
                    law21_reach_501138 K k x1 x8 x9 (IntKind.i64.wrap (x10 + 1)) o0 o1
                else
                  none
              else
                none
            else
              none
          else
            some ((x8, ()), (o0, (o1, ())))
        else
          none
      else
        some ((x8, ()), (o0, (o1, ())))
    else
      none
@[reducible] def p_law21_reach_501138 (K k : Nat) : Piece := { slots := [(1, (.v (.slice .bool))), (3, (.ref 0 (.pair (.slice (.int .u32)) (.pair (.slice (.slice (.pair (.int .u32) (.pair (.int .i64) .unit)))) .unit)))), (7, (.href 1)), (8, (.v .bool)), (9, (.v (.int .i64))), (10, (.v (.int .i64)))], objs := [(.box (.pair (.slice (.int .u32)) (.pair (.slice (.slice (.pair (.int .u32) (.pair (.int .i64) .unit)))) .unit)) (.v (.pair (.slice (.int .u32)) (.pair (.slice (.slice (.pair (.int .u32) (.pair (.int .i64) .unit)))) .unit)))), (.row .bool)], outs := [{ ex := (.exit 4), slots := [(8, (.v .bool))], objs := [(some 0, (.box (.pair (.slice (.int .u32)) (.pair (.slice (.slice (.pair (.int .u32) (.pair (.int .i64) .unit)))) .unit)) (.v (.pair (.slice (.int .u32)) (.pair (.slice (.slice (.pair (.int .u32) (.pair (.int .i64) .unit)))) .unit))))), (some 1, (.row .bool))] }], asg := [8, 10, 11, 25, 26, 27, 28, 29, 30, 31, 32, 33, 34, 35, 36, 37, 38, 39, 40, 41, 42, 43, 44, 45, 46, 47, 48, 49, 50, 51, 52, 53, 54, 55, 56, 57, 58, 59, 60, 61, 62, 63, 64], nt := 66, fn := fun x => law21_reach_501138 K k x.1.1 x.1.2.2.2.1 x.1.2.2.2.2.1 x.1.2.2.2.2.2.1 x.2.1 x.2.2.1 }
theorem k_law21_reach_501138 (K : Nat) (hB : Base Try.prog tabs (fs_law21_FairnessFindsComponents K)) : PcOk Try.prog (codeAt b_law21_reach 501138) (p_law21_reach_501138 K K) :=
  loop_thm hB (o_law21_reach_0 K) 501138 (p_law21_reach_501138 K 0) (l := fun k x => law21_reach_501138 K k x.1.1 x.1.2.2.2.1 x.1.2.2.2.2.1 x.1.2.2.2.2.2.1 x.2.1 x.2.2.1) (c := codeAt b_law21_reach 1002276) (by kernel_rfl) (by kernel_rfl) (by kernel_rfl) (by kernel_rfl) (fun x => by kernel_rfl) (fun k x => by kernel_rfl) K
noncomputable def c_law21_reach_501138 (K : Nat) : List (Nat × Piece) := (501138, p_law21_reach_501138 K K) :: c_law21_reach_0 K
theorem o_law21_reach_501138 (K : Nat) (hB : Base Try.prog tabs (fs_law21_FairnessFindsComponents K)) : PcsOk Try.prog b_law21_reach (c_law21_reach_501138 K) := PcsOk.cons (k_law21_reach_501138 K hB) (o_law21_reach_0 K)
def law21_reach_7830 (K : Nat) : (k : Nat) → (x1 : (List Bool)) → (x8 : Bool) → (x9 : Int) → (o0 : ((List Int) × ((List (List (Int × (Int × Unit)))) × Unit))) → (o1 : (List Bool)) → Option ((Bool × Unit) × (((List Int) × ((List (List (Int × (Int × Unit)))) × Unit)) × ((List Bool) × Unit)))
  | 0, _, _, _, _, _ => none
  | k + 1, x1, x8, x9, o0, o1 =>
    if decide (x9 < (o1.length : Int)) then
      (law21_reach_501138 K K x1 x8 x9 0 o0 o1).bind fun y2 =>
        law21_reach_7830 K k x1 y2.1.1 (IntKind.i64.wrap (x9 + 1)) y2.2.1 y2.2.2.1
    else
      some ((x8, ()), (o0, (o1, ())))
@[reducible] def p_law21_reach_7830 (K k : Nat) : Piece := { slots := [(1, (.v (.slice .bool))), (3, (.ref 0 (.pair (.slice (.int .u32)) (.pair (.slice (.slice (.pair (.int .u32) (.pair (.int .i64) .unit)))) .unit)))), (7, (.href 1)), (8, (.v .bool)), (9, (.v (.int .i64)))], objs := [(.box (.pair (.slice (.int .u32)) (.pair (.slice (.slice (.pair (.int .u32) (.pair (.int .i64) .unit)))) .unit)) (.v (.pair (.slice (.int .u32)) (.pair (.slice (.slice (.pair (.int .u32) (.pair (.int .i64) .unit)))) .unit)))), (.row .bool)], outs := [{ ex := (.exit 2), slots := [(8, (.v .bool))], objs := [(some 0, (.box (.pair (.slice (.int .u32)) (.pair (.slice (.slice (.pair (.int .u32) (.pair (.int .i64) .unit)))) .unit)) (.v (.pair (.slice (.int .u32)) (.pair (.slice (.slice (.pair (.int .u32) (.pair (.int .i64) .unit)))) .unit))))), (some 1, (.row .bool))] }], asg := [8, 9, 10, 11, 19, 20, 21, 22, 23, 24, 25, 26, 27, 28, 29, 30, 31, 32, 33, 34, 35, 36, 37, 38, 39, 40, 41, 42, 43, 44, 45, 46, 47, 48, 49, 50, 51, 52, 53, 54, 55, 56, 57, 58, 59, 60, 61, 62, 63, 64], nt := 66, fn := fun x => law21_reach_7830 K k x.1.1 x.1.2.2.2.1 x.1.2.2.2.2.1 x.2.1 x.2.2.1 }
theorem k_law21_reach_7830 (K : Nat) (hB : Base Try.prog tabs (fs_law21_FairnessFindsComponents K)) : PcOk Try.prog (codeAt b_law21_reach 7830) (p_law21_reach_7830 K K) :=
  loop_thm hB (o_law21_reach_501138 K hB) 7830 (p_law21_reach_7830 K 0) (l := fun k x => law21_reach_7830 K k x.1.1 x.1.2.2.2.1 x.1.2.2.2.2.1 x.2.1 x.2.2.1) (c := codeAt b_law21_reach 15660) (by kernel_rfl) (by kernel_rfl) (by kernel_rfl) (by kernel_rfl) (fun x => by kernel_rfl) (fun k x => by kernel_rfl) K
noncomputable def c_law21_reach_7830 (K : Nat) : List (Nat × Piece) := (7830, p_law21_reach_7830 K K) :: c_law21_reach_501138 K
theorem o_law21_reach_7830 (K : Nat) (hB : Base Try.prog tabs (fs_law21_FairnessFindsComponents K)) : PcsOk Try.prog b_law21_reach (c_law21_reach_7830 K) := PcsOk.cons (k_law21_reach_7830 K hB) (o_law21_reach_501138 K hB)
def law21_reach_122 (K : Nat) : (k : Nat) → (x1 : (List Bool)) → (x8 : Bool) → (o0 : ((List Int) × ((List (List (Int × (Int × Unit)))) × Unit))) → (o1 : (List Bool)) → Option (Unit × ((List Bool) × Unit))
  | 0, _, _, _, _ => none
  | k + 1, x1, x8, o0, o1 =>
    if x8 then
      (law21_reach_7830 K K x1 false 0 o0 o1).bind fun y1 =>
        law21_reach_122 K k x1 y1.1.1 y1.2.1 y1.2.2.1
    else
      some ((), (o1, ()))
@[reducible] def p_law21_reach_122 (K k : Nat) : Piece := { slots := [(1, (.v (.slice .bool))), (3, (.ref 0 (.pair (.slice (.int .u32)) (.pair (.slice (.slice (.pair (.int .u32) (.pair (.int .i64) .unit)))) .unit)))), (7, (.href 1)), (8, (.v .bool))], objs := [(.box (.pair (.slice (.int .u32)) (.pair (.slice (.slice (.pair (.int .u32) (.pair (.int .i64) .unit)))) .unit)) (.v (.pair (.slice (.int .u32)) (.pair (.slice (.slice (.pair (.int .u32) (.pair (.int .i64) .unit)))) .unit)))), (.row .bool)], outs := [{ ex := (.exit 0), slots := [], objs := [(some 1, (.row .bool))] }], asg := [8, 9, 10, 11, 18, 19, 20, 21, 22, 23, 24, 25, 26, 27, 28, 29, 30, 31, 32, 33, 34, 35, 36, 37, 38, 39, 40, 41, 42, 43, 44, 45, 46, 47, 48, 49, 50, 51, 52, 53, 54, 55, 56, 57, 58, 59, 60, 61, 62, 63, 64], nt := 66, fn := fun x => law21_reach_122 K k x.1.1 x.1.2.2.2.1 x.2.1 x.2.2.1 }
theorem k_law21_reach_122 (K : Nat) (hB : Base Try.prog tabs (fs_law21_FairnessFindsComponents K)) : PcOk Try.prog (codeAt b_law21_reach 122) (p_law21_reach_122 K K) :=
  loop_thm hB (o_law21_reach_7830 K hB) 122 (p_law21_reach_122 K 0) (l := fun k x => law21_reach_122 K k x.1.1 x.1.2.2.2.1 x.2.1 x.2.2.1) (c := codeAt b_law21_reach 244) (by kernel_rfl) (by kernel_rfl) (by kernel_rfl) (by kernel_rfl) (fun x => by kernel_rfl) (fun k x => by kernel_rfl) K
noncomputable def c_law21_reach_122 (K : Nat) : List (Nat × Piece) := (122, p_law21_reach_122 K K) :: c_law21_reach_7830 K
theorem o_law21_reach_122 (K : Nat) (hB : Base Try.prog tabs (fs_law21_FairnessFindsComponents K)) : PcsOk Try.prog b_law21_reach (c_law21_reach_122 K) := PcsOk.cons (k_law21_reach_122 K hB) (o_law21_reach_7830 K hB)
def law21_reach (K : Nat) (x0 : ((List Int) × ((List (List (Int × (Int × Unit)))) × Unit))) (x1 : (List Bool)) (x2 : Int) : Option ((Unit × Unit) × ((List Bool) × Unit)) :=
  if decide (0 ≤ (x1.length : Int) ∧ (x1.length : Int) ≤ (x1.length : Int) ∧ (x1.length : Int) ≤ 4294967296) then
    if decide (0 ≤ x2 ∧ x2 < ((List.replicate (x1.length : Int).toNat false).length : Int)) then
      (law21_reach_122 K K x1 true x0 ((List.replicate (x1.length : Int).toNat false).set x2.toNat true)).bind fun y2 =>
        some (((), ()), (y2.2.1, ()))
    else
      none
  else
    none
@[reducible] def p_law21_reach (K : Nat) : Piece := { slots := [(0, (.v (.pair (.slice (.int .u32)) (.pair (.slice (.slice (.pair (.int .u32) (.pair (.int .i64) .unit)))) .unit)))), (1, (.v (.slice .bool))), (2, (.v (.int .i64)))], objs := [], outs := [{ ex := .ret, slots := [(0, (.href 0))], objs := [(none, (.row .bool))] }], asg := [], nt := 66, fn := fun x => law21_reach K x.1.1 x.1.2.1 x.1.2.2.1 }
theorem s_law21_reach (K : Nat) (hB : Base Try.prog tabs (fs_law21_FairnessFindsComponents K)) : FnSound Try.prog 17 (p_law21_reach K) :=
  fun_thm hB (o_law21_reach_122 K hB) Try.func17 (body := b_law21_reach) rfl (p_law21_reach K) (rs := [.tmp 6]) rfl (Nat.le_of_ble_eq_true (by kernel_rfl)) (fun x => by kernel_rfl)
noncomputable def fs_law21_reach (K : Nat) : List (Nat × Piece) := (17, p_law21_reach K) :: fs_law21_FairnessFindsComponents K
theorem base_law21_reach (K : Nat) : Base Try.prog tabs (fs_law21_reach K) := ⟨(base_law21_FairnessFindsComponents K).mixed, (base_law21_FairnessFindsComponents K).tabs, FnsOk.cons (s_law21_reach K (base_law21_FairnessFindsComponents K)) (by kernel_rfl) (base_law21_FairnessFindsComponents K).fns⟩
/-! "selfstab/selfstablaw21.FairnessComponentsAreLoops" -/
noncomputable def b_law21_FairnessComponentsAreLoops : Code := codeOf Try.f4
noncomputable def c_law21_FairnessComponentsAreLoops_0 (K : Nat) : List (Nat × Piece) := []
theorem o_law21_FairnessComponentsAreLoops_0 (K : Nat) : PcsOk Try.prog b_law21_FairnessComponentsAreLoops (c_law21_FairnessComponentsAreLoops_0 K) := PcsOk.nil
def law21_FairnessComponentsAreLoops (K : Nat) (x0 : ((List Int) × ((List (List (Int × (Int × Unit)))) × Unit))) (x1 : (List Bool)) (x2 : Int) (x3 : Int) : Option ((Bool × Unit) × Unit) :=
  (law21_fair K x0 x1).bind fun y5 =>
    if !y5.1.1 then
      (law21_awake K).bind fun y6 =>
        some ((y6.1.1, ()), ())
    else
      (fairness_Components K x0 x1).bind fun y8 =>
        if !decide (y8.1.1.2.1 = 0) then
          some ((false, ()), ())
        else
          if !decide ((y8.2.1.length : Int) = (x1.length : Int)) then
            some ((false, ()), ())
          else
            if decide ((x1.length : Int) = 0) then
              none
            else
              if decide ((x1.length : Int) = 0) then
                none
              else
                if decide ((x1.length : Int) = 0) then
                  none
                else
                  if decide ((x1.length : Int) = 0) then
                    none
                  else
                    if decide (0 ≤ Int.tmod (IntKind.i64.wrap ((Int.tmod x2 (x1.length : Int)) + (x1.length : Int))) (x1.length : Int) ∧ Int.tmod (IntKind.i64.wrap ((Int.tmod x2 (x1.length : Int)) + (x1.length : Int))) (x1.length : Int) < (x1.length : Int)) then
                      if x1.getD ((Int.tmod (IntKind.i64.wrap ((Int.tmod x2 (x1.length : Int)) + (x1.length : Int))) (x1.length : Int)).toNat) false then
                        (law21_awake K).bind fun y11 =>
                          some ((y11.1.1, ()), ())
                      else
                        if decide (0 ≤ Int.tmod (IntKind.i64.wrap ((Int.tmod x3 (x1.length : Int)) + (x1.length : Int))) (x1.length : Int) ∧ Int.tmod (IntKind.i64.wrap ((Int.tmod x3 (x1.length : Int)) + (x1.length : Int))) (x1.length : Int) < (x1.length : Int)) then
                          if x1.getD ((Int.tmod (IntKind.i64.wrap ((Int.tmod x3 (x1.length : Int)) + (x1.length : Int))) (x1.length : Int)).toNat) false then
                            (law21_awake K).bind fun y12 =>
                              some ((y12.1.1, ()), ())
                          else
                            (law21_reach K x0 x1 (Int.tmod (IntKind.i64.wrap ((Int.tmod x2 (x1.length : Int)) + (x1.length : Int))) (x1.length : Int))).bind fun y15 =>
                              (law21_reach K x0 x1 (Int.tmod (IntKind.i64.wrap ((Int.tmod x3 (x1.length : Int)) + (x1.length : Int))) (x1.length : Int))).bind fun y16 =>
                                (law21_awake K).bind fun y17 =>
                                  if y17.1.1 then
                                    if decide (0 ≤ Int.tmod (IntKind.i64.wrap ((Int.tmod x2 (x1.length : Int)) + (x1.length : Int))) (x1.length : Int) ∧ Int.tmod (IntKind.i64.wrap ((Int.tmod x2 (x1.length : Int)) + (x1.length : Int))) (x1.length : Int) < (y8.2.1.length : Int)) then
                                      if decide (0 ≤ Int.tmod (IntKind.i64.wrap ((Int.tmod x3 (x1.length : Int)) + (x1.length : Int))) (x1.length : Int) ∧ Int.tmod (IntKind.i64.wrap ((Int.tmod x3 (x1.length : Int)) + (x1.length : Int))) (x1.length : Int) < (y8.2.1.length : Int)) then
                                        if decide (0 ≤ Int.tmod (IntKind.i64.wrap ((Int.tmod x3 (x1.length : Int)) + (x1.length : Int))) (x1.length : Int) ∧ Int.tmod (IntKind.i64.wrap ((Int.tmod x3 (x1.length : Int)) + (x1.length : Int))) (x1.length : Int) < (y15.2.1.length : Int)) then
                                          if y15.2.1.getD ((Int.tmod (IntKind.i64.wrap ((Int.tmod x3 (x1.length : Int)) + (x1.length : Int))) (x1.length : Int)).toNat) false then
                                            if decide (0 ≤ Int.tmod (IntKind.i64.wrap ((Int.tmod x2 (x1.length : Int)) + (x1.length : Int))) (x1.length : Int) ∧ Int.tmod (IntKind.i64.wrap ((Int.tmod x2 (x1.length : Int)) + (x1.length : Int))) (x1.length : Int) < (y16.2.1.length : Int)) then
                                              some ((GTy.beq .bool (decide ((y8.2.1.getD ((Int.tmod (IntKind.i64.wrap ((Int.tmod x2 (x1.length : Int)) + (x1.length : Int))) (x1.length : Int)).toNat) 0) = (y8.2.1.getD ((Int.tmod (IntKind.i64.wrap ((Int.tmod x3 (x1.length : Int)) + (x1.length : Int))) (x1.length : Int)).toNat) 0))) (y16.2.1.getD ((Int.tmod (IntKind.i64.wrap ((Int.tmod x2 (x1.length : Int)) + (x1.length : Int))) (x1.length : Int)).toNat) false), ()), ())
                                            else
                                              none
                                          else
                                            some ((GTy.beq .bool (decide ((y8.2.1.getD ((Int.tmod (IntKind.i64.wrap ((Int.tmod x2 (x1.length : Int)) + (x1.length : Int))) (x1.length : Int)).toNat) 0) = (y8.2.1.getD ((Int.tmod (IntKind.i64.wrap ((Int.tmod x3 (x1.length : Int)) + (x1.length : Int))) (x1.length : Int)).toNat) 0))) false, ()), ())
                                        else
                                          none
                                      else
                                        none
                                    else
                                      none
                                  else
                                    some ((false, ()), ())
                        else
                          none
                    else
                      none
@[reducible] def p_law21_FairnessComponentsAreLoops (K : Nat) : Piece := { slots := [(0, (.v (.pair (.slice (.int .u32)) (.pair (.slice (.slice (.pair (.int .u32) (.pair (.int .i64) .unit)))) .unit)))), (1, (.v (.slice .bool))), (2, (.v (.int .i64))), (3, (.v (.int .i64)))], objs := [], outs := [{ ex := .ret, slots := [(0, (.v .bool))], objs := [] }], asg := [], nt := 92, fn := fun x => law21_FairnessComponentsAreLoops K x.1.1 x.1.2.1 x.1.2.2.1 x.1.2.2.2.1 }
theorem s_law21_FairnessComponentsAreLoops (K : Nat) (hB : Base Try.prog tabs (fs_law21_reach K)) : FnSound Try.prog 4 (p_law21_FairnessComponentsAreLoops K) :=
  fun_thm hB (o_law21_FairnessComponentsAreLoops_0 K) Try.func4 (body := b_law21_FairnessComponentsAreLoops) rfl (p_law21_FairnessComponentsAreLoops K) (rs := [.tmp 8]) rfl (Nat.le_of_ble_eq_true (by kernel_rfl)) (fun x => by kernel_rfl)
noncomputable def fs_law21_FairnessComponentsAreLoops (K : Nat) : List (Nat × Piece) := (4, p_law21_FairnessComponentsAreLoops K) :: fs_law21_reach K
theorem base_law21_FairnessComponentsAreLoops (K : Nat) : Base Try.prog tabs (fs_law21_FairnessComponentsAreLoops K) := ⟨(base_law21_reach K).mixed, (base_law21_reach K).tabs, FnsOk.cons (s_law21_FairnessComponentsAreLoops K (base_law21_reach K)) (by kernel_rfl) (base_law21_reach K).fns⟩
theorem law_law21_FairnessComponentsAreLoops (K : Nat) : FnSound Try.prog 4 (p_law21_FairnessComponentsAreLoops K) := s_law21_FairnessComponentsAreLoops K (base_law21_reach K)
/-! "selfstab/selfstablaw21.FairnessServesEverybody" -/
noncomputable def b_law21_FairnessServesEverybody : Code := codeOf Try.f6
noncomputable def c_law21_FairnessServesEverybody_0 (K : Nat) : List (Nat × Piece) := []
theorem o_law21_FairnessServesEverybody_0 (K : Nat) : PcsOk Try.prog b_law21_FairnessServesEverybody (c_law21_FairnessServesEverybody_0 K) := PcsOk.nil
def law21_FairnessServesEverybody_1018 (K : Nat) : (k : Nat) → (x1 : (List Bool)) → (x3 : (List Int)) → (x10 : Int) → (x13 : Int) → (o0 : ((List Int) × ((List (List (Int × (Int × Unit)))) × Unit))) → (o1 : (List Int)) → (o2 : (List Int)) → Option ((Int × (Unit × (Unit × Unit))) × ((List Int) × ((List Int) × (((List Int) × ((List (List (Int × (Int × Unit)))) × Unit)) × Unit))))
  | 0, _, _, _, _, _, _, _ => none
  | k + 1, x1, x3, x10, x13, o0, o1, o2 =>
    if decide (x13 < (x3.length : Int)) then
      if decide (0 ≤ x10 ∧ x10 < (x1.length : Int)) then
        if x1.getD x10.toNat false then
          some ((x10, ((), ((), ()))), (o1, (o2, (o0, ()))))
        else
          if decide (0 ≤ x10 ∧ x10 < (o0.2.1.length : Int)) then
            if decide (((o0.2.1.getD x10.toNat []).length : Int) = 0) then
              some ((x10, ((), ((), ()))), (o1, (o2, (o0, ()))))
            else
              if decide (0 ≤ x10 ∧ x10 < (o0.2.1.length : Int)) then
                if decide (0 ≤ x13 ∧ x13 < (x3.length : Int)) then
                  if decide (0 ≤ x10 ∧ x10 < (o0.2.1.length : Int)) then
                    if decide (((o0.2.1.getD x10.toNat []).length : Int) = 0) then
                      none
                    else
                      if decide (0 ≤ Int.tmod (IntKind.i64.wrap (x3.getD x13.toNat 0)) ((o0.2.1.getD x10.toNat []).length : Int) ∧ Int.tmod (IntKind.i64.wrap (x3.getD x13.toNat 0)) ((o0.2.1.getD x10.toNat []).length : Int) < ((o0.2.1.getD x10.toNat []).length : Int)) then
                        if decide (o1.length + ([x10]).length ≤ 4294967296) then
                          if decide (o2.length + ([((o0.2.1.getD x10.toNat []).getD ((Int.tmod (IntKind.i64.wrap (x3.getD x13.toNat 0)) ((o0.2.1.getD x10.toNat []).length : Int)).toNat) (0, (0, ()))).1]).length ≤ 4294967296) then
                            law21_FairnessServesEverybody_1018 K k x1 x3 ((((o0.2.1.getD x10.toNat []).getD ((Int.tmod (IntKind.i64.wrap (x3.getD x13.toNat 0)) ((o0.2.1.getD x10.toNat []).length : Int)).toNat) (0, (0, ()))).2).1) (IntKind.i64.wrap (x13 + 1)) o0 (o1 ++ [x10]) (o2 ++ [((o0.2.1.getD x10.toNat []).getD ((Int.tmod (IntKind.i64.wrap (x3.getD x13.toNat 0)) ((o0.2.1.getD x10.toNat []).length : Int)).toNat) (0, (0, ()))).1])
                          else
                            none
                        else
                          none
                      else
                        none
                  else
                    none
                else
                  none
              else
                none
          else
            none
      else
        none
    else
      some ((x10, ((), ((), ()))), (o1, (o2, (o0, ()))))
@[reducible] def p_law21_FairnessServesEverybody_1018 (K k : Nat) : Piece := { slots := [(1, (.v (.slice .bool))), (3, (.v (.slice (.int .u8)))), (4, (.ref 0 (.pair (.slice (.int .u32)) (.pair (.slice (.slice (.pair (.int .u32) (.pair (.int .i64) .unit)))) .unit)))), (10, (.v (.int .i64))), (11, (.href 1)), (12, (.href 2)), (13, (.v (.int .i64)))], objs := [(.box (.pair (.slice (.int .u32)) (.pair (.slice (.slice (.pair (.int .u32) (.pair (.int .i64) .unit)))) .unit)) (.v (.pair (.slice (.int .u32)) (.pair (.slice (.slice (.pair (.int .u32) (.pair (.int .i64) .unit)))) .unit)))), (.row (.int .i64)), (.row (.int .u32))], outs := [{ ex := (.exit 0), slots := [(10, (.v (.int .i64))), (11, (.href 0)), (12, (.href 1))], objs := [(none, (.row (.int .i64))), (none, (.row (.int .u32))), (some 0, (.box (.pair (.slice (.int .u32)) (.pair (.slice (.slice (.pair (.int .u32) (.pair (.int .i64) .unit)))) .unit)) (.v (.pair (.slice (.int .u32)) (.pair (.slice (.slice (.pair (.int .u32) (.pair (.int .i64) .unit)))) .unit)))))] }], asg := [10, 11, 12, 13, 14, 39, 40, 41, 42, 43, 44, 45, 46, 47, 48, 49, 50, 51, 52, 53, 54, 55, 56, 57, 58, 59, 60, 61, 62, 63, 64, 65, 66, 67, 68, 69, 70, 71, 72, 73, 74, 75, 76, 77, 78, 79, 80, 81, 82, 83, 84, 85, 86, 87], nt := 199, fn := fun x => law21_FairnessServesEverybody_1018 K k x.1.1 x.1.2.1 x.1.2.2.2.1 x.1.2.2.2.2.2.2.1 x.2.1 x.2.2.1 x.2.2.2.1 }
theorem k_law21_FairnessServesEverybody_1018 (K : Nat) (hB : Base Try.prog tabs (fs_law21_FairnessComponentsAreLoops K)) : PcOk Try.prog (codeAt b_law21_FairnessServesEverybody 1018) (p_law21_FairnessServesEverybody_1018 K K) :=
  loop_thm hB (o_law21_FairnessServesEverybody_0 K) 1018 (p_law21_FairnessServesEverybody_1018 K 0) (l := fun k x => law21_FairnessServesEverybody_1018 K k x.1.1 x.1.2.1 x.1.2.2.2.1 x.1.2.2.2.2.2.2.1 x.2.1 x.2.2.1 x.2.2.2.1) (c := codeAt b_law21_FairnessServesEverybody 2036) (by kernel_rfl) (by kernel_rfl) (by kernel_rfl) (by kernel_rfl) (fun x => by kernel_rfl) (fun k x => by kernel_rfl) K
noncomputable def c_law21_FairnessServesEverybody_1018 (K : Nat) : List (Nat × Piece) := (1018, p_law21_FairnessServesEverybody_1018 K K) :: c_law21_FairnessServesEverybody_0 K
theorem o_law21_FairnessServesEverybody_1018 (K : Nat) (hB : Base Try.prog tabs (fs_law21_FairnessComponentsAreLoops K)) : PcsOk Try.prog b_law21_FairnessServesEverybody (c_law21_FairnessServesEverybody_1018 K) := PcsOk.cons (k_law21_FairnessServesEverybody_1018 K hB) (o_law21_FairnessServesEverybody_0 K)
def law21_FairnessServesEverybody_4093 (K : Nat) (x10 : Int) (x11 : (List Int)) (x15 : (List Bool)) (x120 : Bool) : Option ((Unit × Unit) ⊕ ((Bool × Unit) × Unit)) :=
  if x120 then
    (law21_awake K).bind fun y1 =>
      if y1.1.1 then
        if decide (0 ≤ (0 : Int) ∧ 0 < (x11.length : Int)) then
          if decide (0 ≤ x11.getD ((0 : Int).toNat) 0 ∧ x11.getD ((0 : Int).toNat) 0 < (x15.length : Int)) then
            if x15.getD ((x11.getD ((0 : Int).toNat) 0).toNat) false then
              if decide (0 ≤ x10 ∧ x10 < (x15.length : Int)) then
                some (.inr ((x15.getD x10.toNat false, ()), ()))
              else
                none
            else
              some (.inr ((false, ()), ()))
          else
            none
        else
          none
      else
        some (.inr ((false, ()), ()))
  else
    some (.inl ((), ()))
@[reducible] def p_law21_FairnessServesEverybody_4093 (K : Nat) : Piece := { slots := [(10, (.v (.int .i64))), (11, (.v (.slice (.int .i64)))), (15, (.v (.slice .bool))), (120, (.v .bool))], objs := [], outs := [{ ex := .normal, slots := [], objs := [] }, { ex := .ret, slots := [(8, (.v .bool))], objs := [] }], asg := [8, 121, 122, 123, 124, 125, 126, 127, 128, 129, 130, 131, 132, 133, 134, 135], nt := 199, fn := fun x => law21_FairnessServesEverybody_4093 K x.1.1 x.1.2.1 x.1.2.2.1 x.1.2.2.2.1 }
theorem k_law21_FairnessServesEverybody_4093 (K : Nat) (hB : Base Try.prog tabs (fs_law21_FairnessComponentsAreLoops K)) : PcOk Try.prog (codeAt b_law21_FairnessServesEverybody 4093) (p_law21_FairnessServesEverybody_4093 K) :=
  seg_thm hB (o_law21_FairnessServesEverybody_1018 K hB) 4093 (p_law21_FairnessServesEverybody_4093 K) (by kernel_rfl) (by kernel_rfl) (by kernel_rfl) (fun x => by kernel_rfl)
noncomputable def c_law21_FairnessServesEverybody_4093 (K : Nat) : List (Nat × Piece) := (4093, p_law21_FairnessServesEverybody_4093 K) :: c_law21_FairnessServesEverybody_1018 K
theorem o_law21_FairnessServesEverybody_4093 (K : Nat) (hB : Base Try.prog tabs (fs_law21_FairnessComponentsAreLoops K)) : PcsOk Try.prog b_law21_FairnessServesEverybody (c_law21_FairnessServesEverybody_4093 K) := PcsOk.cons (k_law21_FairnessServesEverybody_4093 K hB) (o_law21_FairnessServesEverybody_1018 K hB)
def law21_FairnessServesEverybody_8385690 (K : Nat) : (k : Nat) → (x11 : (List Int)) → (x12 : (List Int)) → (x18 : Int) → (x19 : Int) → (o0 : ((List Int) × ((List (List (Int × (Int × Unit)))) × Unit))) → Option ((Int × Unit) × (((List Int) × ((List (List (Int × (Int × Unit)))) × Unit)) × Unit))
  | 0, _, _, _, _, _ => none
  | k + 1, x11, x12, x18, x19, o0 =>
    if decide (x19 < (x11.length : Int)) then
      if decide (0 ≤ x19 ∧ x19 < (x11.length : Int)) then
        if decide (0 ≤ x11.getD x19.toNat 0 ∧ x11.getD x19.toNat 0 < (o0.1.length : Int)) then
          if decide (0 ≤ x19 ∧ x19 < (x12.length : Int)) then
            law21_FairnessServesEverybody_8385690 K k x11 x12 (ior .u32 x18 (ior .u32 (ixor .u32 4294967295 (o0.1.getD ((x11.getD x19.toNat 0).toNat) 0)) (x12.getD x19.toNat 0))) (IntKind.i64.wrap (x19 + 1)) o0
          else
            none
        else
          none
      else
        none
    else
      some ((x18, ()), (o0, ()))
@[reducible] def p_law21_FairnessServesEverybody_8385690 (K k : Nat) : Piece := { slots := [(4, (.ref 0 (.pair (.slice (.int .u32)) (.pair (.slice (.slice (.pair (.int .u32) (.pair (.int .i64) .unit)))) .unit)))), (11, (.v (.slice (.int .i64)))), (12, (.v (.slice (.int .u32)))), (18, (.v (.int .u32))), (19, (.v (.int .i64)))], objs := [(.box (.pair (.slice (.int .u32)) (.pair (.slice (.slice (.pair (.int .u32) (.pair (.int .i64) .unit)))) .unit)) (.v (.pair (.slice (.int .u32)) (.pair (.slice (.slice (.pair (.int .u32) (.pair (.int .i64) .unit)))) .unit))))], outs := [{ ex := (.exit 4), slots := [(18, (.v (.int .u32)))], objs := [(some 0, (.box (.pair (.slice (.int .u32)) (.pair (.slice (.slice (.pair (.int .u32) (.pair (.int .i64) .unit)))) .unit)) (.v (.pair (.slice (.int .u32)) (.pair (.slice (.slice (.pair (.int .u32) (.pair (.int .i64) .unit)))) .unit)))))] }], asg := [18, 19, 156, 157, 158, 159, 160, 161, 162, 163, 164, 165, 166, 167, 168, 169, 170, 171, 172, 173, 174, 175, 176, 177], nt := 199, fn := fun x => law21_FairnessServesEverybody_8385690 K k x.1.2.1 x.1.2.2.1 x.1.2.2.2.1 x.1.2.2.2.2.1 x.2.1 }
theorem k_law21_FairnessServesEverybody_8385690 (K : Nat) (hB : Base Try.prog tabs (fs_law21_FairnessComponentsAreLoops K)) : PcOk Try.prog (codeAt b_law21_FairnessServesEverybody 8385690) (p_law21_FairnessServesEverybody_8385690 K K) :=
  loop_thm hB (o_law21_FairnessServesEverybody_4093 K hB) 8385690 (p_law21_FairnessServesEverybody_8385690 K 0) (l := fun k x => law21_FairnessServesEverybody_8385690 K k x.1.2.1 x.1.2.2.1 x.1.2.2.2.1 x.1.2.2.2.2.1 x.2.1) (c := codeAt b_law21_FairnessServesEverybody 16771380) (by kernel_rfl) (by kernel_rfl) (by kernel_rfl) (by kernel_rfl) (fun x => by kernel_rfl) (fun k x => by kernel_rfl) K
noncomputable def c_law21_FairnessServesEverybody_8385690 (K : Nat) : List (Nat × Piece) := (8385690, p_law21_FairnessServesEverybody_8385690 K K) :: c_law21_FairnessServesEverybody_4093 K
theorem o_law21_FairnessServesEverybody_8385690 (K : Nat) (hB : Base Try.prog tabs (fs_law21_FairnessComponentsAreLoops K)) : PcsOk Try.prog b_law21_FairnessServesEverybody (c_law21_FairnessServesEverybody_8385690 K) := PcsOk.cons (k_law21_FairnessServesEverybody_8385690 K hB) (o_law21_FairnessServesEverybody_4093 K hB)
def law21_FairnessServesEverybody_16378 (K : Nat) : (k : Nat) → (x1 : (List Bool)) → (x10 : Int) → (x11 : (List Int)) → (x12 : (List Int)) → (x15 : (List Bool)) → (x17 : Int) → (o0 : ((List Int) × ((List (List (Int × (Int × Unit)))) × Unit))) → Option ((Unit × Unit) ⊕ ((Bool × Unit) × Unit))
  | 0, _, _, _, _, _, _, _ => none
  | k + 1, x1, x10, x11, x12, x15, x17, o0 =>
    if decide (0 ≤ x17) then
      if decide (0 ≤ x17 ∧ x17 < (x11.length : Int)) then
        if !decide ((x11.getD x17.toNat 0) = x10) then
          law21_FairnessServesEverybody_16378 K k x1 x10 x11 x12 x15 (IntKind.i64.wrap (x17 - 1)) o0
        else
          if decide (0 ≤ x10 ∧ x10 < (x1.length : Int)) then
            if x1.getD x10.toNat false then
              law21_FairnessServesEverybody_16378 K k x1 x10 x11 x12 x15 (IntKind.i64.wrap (x17 - 1)) o0
            else
              (law21_FairnessServesEverybody_8385690 K K x11 x12 0 x17 o0).bind fun y9 =>
                (ref01_All K 24).bind fun y12 =>
                  (ref01_All K 24).bind fun y13 =>
                    if decide ((iand .u32 y9.1.1 y12.1.1) = y13.1.1) then
                      (law21_awake K).bind fun y14 =>
                        if y14.1.1 then
                          if decide (0 ≤ x10 ∧ x10 < (x15.length : Int)) then
                            if x15.getD x10.toNat false then
                              if decide (0 ≤ (0 : Int) ∧ 0 < (x11.length : Int)) then
                                if decide (0 ≤ x11.getD ((0 : Int).toNat) 0 ∧ x11.getD ((0 : Int).toNat) 0 < (x15.length : Int)) then
                                  some (.inr ((x15.getD ((x11.getD ((0 : Int).toNat) 0).toNat) false, ()), ()))
                                else
                                  none
                              else
                                none
                            else
                              some (.inr ((false, ()), ()))
                          else
                            none
                        else
                          some (.inr ((false, ()), ()))
                    else
                      law21_FairnessServesEverybody_16378 K k x1 x10 x11 x12 x15 (IntKind.i64.wrap (x17 - 1)) y9.2.1
          else
            none
      else
        none
    else
      some (.inl ((), ()))
@[reducible] def p_law21_FairnessServesEverybody_16378 (K k : Nat) : Piece := { slots := [(1, (.v (.slice .bool))), (4, (.ref 0 (.pair (.slice (.int .u32)) (.pair (.slice (.slice (.pair (.int .u32) (.pair (.int .i64) .unit)))) .unit)))), (10, (.v (.int .i64))), (11, (.v (.slice (.int .i64)))), (12, (.v (.slice (.int .u32)))), (15, (.v (.slice .bool))), (17, (.v (.int .i64)))], objs := [(.box (.pair (.slice (.int .u32)) (.pair (.slice (.slice (.pair (.int .u32) (.pair (.int .i64) .unit)))) .unit)) (.v (.pair (.slice (.int .u32)) (.pair (.slice (.slice (.pair (.int .u32) (.pair (.int .i64) .unit)))) .unit))))], outs := [{ ex := (.exit 2), slots := [], objs := [] }, { ex := .ret, slots := [(8, (.v .bool))], objs := [] }], asg := [8, 17, 18, 19, 139, 140, 141, 142, 143, 144, 145, 146, 147, 148, 149, 150, 151, 152, 153, 154, 155, 156, 157, 158, 159, 160, 161, 162, 163, 164, 165, 166, 167, 168, 169, 170, 171, 172, 173, 174, 175, 176, 177, 178, 179, 180, 181, 182, 183, 184, 185, 186, 187, 188, 189, 190, 191, 192, 193, 194, 195, 196, 197], nt := 199, fn := fun x => law21_FairnessServesEverybody_16378 K k x.1.1 x.1.2.2.1 x.1.2.2.2.1 x.1.2.2.2.2.1 x.1.2.2.2.2.2.1 x.1.2.2.2.2.2.2.1 x.2.1 }
theorem k_law21_FairnessServesEverybody_16378 (K : Nat) (hB : Base Try.prog tabs (fs_law21_FairnessComponentsAreLoops K)) : PcOk Try.prog (codeAt b_law21_FairnessServesEverybody 16378) (p_law21_FairnessServesEverybody_16378 K K) :=
  loop_thm hB (o_law21_FairnessServesEverybody_8385690 K hB) 16378 (p_law21_FairnessServesEverybody_16378 K 0) (l := fun k x => law21_FairnessServesEverybody_16378 K k x.1.1 x.1.2.2.1 x.1.2.2.2.1 x.1.2.2.2.2.1 x.1.2.2.2.2.2.1 x.1.2.2.2.2.2.2.1 x.2.1) (c := codeAt b_law21_FairnessServesEverybody 32756) (by kernel_rfl) (by kernel_rfl) (by kernel_rfl) (by kernel_rfl) (fun x => by kernel_rfl) (fun k x => by kernel_rfl) K
noncomputable def c_law21_FairnessServesEverybody_16378 (K : Nat) : List (Nat × Piece) := (16378, p_law21_FairnessServesEverybody_16378 K K) :: c_law21_FairnessServesEverybody_8385690 K
theorem o_law21_FairnessServesEverybody_16378 (K : Nat) (hB : Base Try.prog tabs (fs_law21_FairnessComponentsAreLoops K)) : PcsOk Try.prog b_law21_FairnessServesEverybody (c_law21_FairnessServesEverybody_16378 K) := PcsOk.cons (k_law21_FairnessServesEverybody_16378 K hB) (o_law21_FairnessServesEverybody_8385690 K hB)
def law21_FairnessServesEverybody_2047 (K : Nat) (x1 : (List Bool)) (x10 : Int) (x11 : (List Int)) (x12 : (List Int)) (x15 : (List Bool)) (o0 : ((List Int) × ((List (List (Int × (Int × Unit)))) × Unit))) : Option ((Bool × Unit) × Unit) :=
  (law21_FairnessServesEverybody_16378 K K x1 x10 x11 x12 x15 (IntKind.i64.wrap ((x11.length : Int) - 1)) o0).bind fun y4 =>
    match y4 with
    | .inl y5 =>
      (law21_awake K).bind fun y7 =>
        some ((y7.1.1, ()), ())
    | .inr y6 =>
      some ((y6.1.1, ()), ())
@[reducible] def p_law21_FairnessServesEverybody_2047 (K : Nat) : Piece := { slots := [(1, (.v (.slice .bool))), (4, (.ref 0 (.pair (.slice (.int .u32)) (.pair (.slice (.slice (.pair (.int .u32) (.pair (.int .i64) .unit)))) .unit)))), (10, (.v (.int .i64))), (11, (.v (.slice (.int .i64)))), (12, (.v (.slice (.int .u32)))), (15, (.v (.slice .bool)))], objs := [(.box (.pair (.slice (.int .u32)) (.pair (.slice (.slice (.pair (.int .u32) (.pair (.int .i64) .unit)))) .unit)) (.v (.pair (.slice (.int .u32)) (.pair (.slice (.slice (.pair (.int .u32) (.pair (.int .i64) .unit)))) .unit))))], outs := [{ ex := .ret, slots := [(8, (.v .bool))], objs := [] }], asg := [8, 17, 18, 19, 136, 137, 138, 139, 140, 141, 142, 143, 144, 145, 146, 147, 148, 149, 150, 151, 152, 153, 154, 155, 156, 157, 158, 159, 160, 161, 162, 163, 164, 165, 166, 167, 168, 169, 170, 171, 172, 173, 174, 175, 176, 177, 178, 179, 180, 181, 182, 183, 184, 185, 186, 187, 188, 189, 190, 191, 192, 193, 194, 195, 196, 197, 198], nt := 199, fn := fun x => law21_FairnessServesEverybody_2047 K x.1.1 x.1.2.2.1 x.1.2.2.2.1 x.1.2.2.2.2.1 x.1.2.2.2.2.2.1 x.2.1 }
theorem k_law21_FairnessServesEverybody_2047 (K : Nat) (hB : Base Try.prog tabs (fs_law21_FairnessComponentsAreLoops K)) : PcOk Try.prog (codeAt b_law21_FairnessServesEverybody 2047) (p_law21_FairnessServesEverybody_2047 K) :=
  seg_thm hB (o_law21_FairnessServesEverybody_16378 K hB) 2047 (p_law21_FairnessServesEverybody_2047 K) (by kernel_rfl) (by kernel_rfl) (by kernel_rfl) (fun x => by kernel_rfl)
noncomputable def c_law21_FairnessServesEverybody_2047 (K : Nat) : List (Nat × Piece) := (2047, p_law21_FairnessServesEverybody_2047 K) :: c_law21_FairnessServesEverybody_16378 K
theorem o_law21_FairnessServesEverybody_2047 (K : Nat) (hB : Base Try.prog tabs (fs_law21_FairnessComponentsAreLoops K)) : PcsOk Try.prog b_law21_FairnessServesEverybody (c_law21_FairnessServesEverybody_2047 K) := PcsOk.cons (k_law21_FairnessServesEverybody_2047 K hB) (o_law21_FairnessServesEverybody_16378 K hB)
def law21_FairnessServesEverybody (K : Nat) (x0 : ((List Int) × ((List (List (Int × (Int × Unit)))) × Unit))) (x1 : (List Bool)) (x2 : Int) (x3 : (List Int)) : Option ((Bool × Unit) × Unit) :=
  (law21_fair K x0 x1).bind fun y6 =>
    if !y6.1.1 then
      (law21_awake K).bind fun y7 =>
        some ((y7.1.1, ()), ())
    else
      if decide (200 < (x3.length : Int)) then
        (law21_awake K).bind fun y8 =>
          some ((y8.1.1, ()), ())
      else
        if decide ((x1.length : Int) = 0) then
          none
        else
          if decide ((x1.length : Int) = 0) then
            none
          else
            (law21_FairnessServesEverybody_1018 K K x1 x3 (Int.tmod (IntKind.i64.wrap ((Int.tmod x2 (x1.length : Int)) + (x1.length : Int))) (x1.length : Int)) 0 x0 [] []).bind fun y10 =>
              (fairness_Core K y10.2.2.2.1 x1).bind fun y12 =>
                if !decide (y12.1.1.2.1 = 0) then
                  some ((false, ()), ())
                else
                  if !decide ((y12.2.1.length : Int) = (x1.length : Int)) then
                    some ((false, ()), ())
                  else
                    if decide (0 < (y10.2.1.length : Int)) then
                      if decide (0 ≤ y10.1.1 ∧ y10.1.1 < (x1.length : Int)) then
                        if !(x1.getD y10.1.1.toNat false) then
                          if decide (0 ≤ y10.1.1 ∧ y10.1.1 < (y10.2.2.2.1.2.1.length : Int)) then
                            (law21_FairnessServesEverybody_4093 K y10.1.1 y10.2.1 y12.2.1 (decide (((y10.2.2.2.1.2.1.getD y10.1.1.toNat []).length : Int) = 0))).bind fun y13 =>
                              match y13 with
                              | .inl y14 =>
                                (law21_FairnessServesEverybody_2047 K x1 y10.1.1 y10.2.1 y10.2.2.1 y12.2.1 y10.2.2.2.1).bind fun y16 =>
                                  some ((y16.1.1, ()), ())
                              | .inr y15 =>
                                some ((y15.1.1, ()), ())
                          else
                            none
                        else
                          (law21_FairnessServesEverybody_4093 K y10.1.1 y10.2.1 y12.2.1 false).bind fun y17 =>
                            match y17 with
                            | .inl y18 =>
                              (law21_FairnessServesEverybody_2047 K x1 y10.1.1 y10.2.1 y10.2.2.1 y12.2.1 y10.2.2.2.1).bind fun y20 =>
                                some ((y20.1.1, ()), ())
                            | .inr y19 =>
                              some ((y19.1.1, ()), ())
                      else
                        none
                    else
                      (law21_FairnessServesEverybody_4093 K y10.1.1 y10.2.1 y12.2.1 false).bind fun y21 =>
                        match y21 with
                        | .inl y22 =>
                          (law21_FairnessServesEverybody_2047 K x1 y10.1.1 y10.2.1 y10.2.2.1 y12.2.1 y10.2.2.2.1).bind fun y24 =>
                            some ((y24.1.1, ()), ())
                        | .inr y23 =>
                          some ((y23.1.1, ()), ())
@[reducible] def p_law21_FairnessServesEverybody (K : Nat) : Piece := { slots := [(0, (.v (.pair (.slice (.int .u32)) (.pair (.slice (.slice (.pair (.int .u32) (.pair (.int .i64) .unit)))) .unit)))), (1, (.v (.slice .bool))), (2, (.v (.int .i64))), (3, (.v (.slice (.int .u8))))], objs := [], outs := [{ ex := .ret, slots := [(0, (.v .bool))], objs := [] }], asg := [], nt := 199, fn := fun x => law21_FairnessServesEverybody K x.1.1 x.1.2.1 x.1.2.2.1 x.1.2.2.2.1 }
theorem s_law21_FairnessServesEverybody (K : Nat) (hB : Base Try.prog tabs (fs_law21_FairnessComponentsAreLoops K)) : FnSound Try.prog 6 (p_law21_FairnessServesEverybody K) :=
  fun_thm hB (o_law21_FairnessServesEverybody_2047 K hB) Try.func6 (body := b_law21_FairnessServesEverybody) rfl (p_law21_FairnessServesEverybody K) (rs := [.tmp 8]) rfl (Nat.le_of_ble_eq_true (by kernel_rfl)) (fun x => by kernel_rfl)
noncomputable def fs_law21_FairnessServesEverybody (K : Nat) : List (Nat × Piece) := (6, p_law21_FairnessServesEverybody K) :: fs_law21_FairnessComponentsAreLoops K
theorem base_law21_FairnessServesEverybody (K : Nat) : Base Try.prog tabs (fs_law21_FairnessServesEverybody K) := ⟨(base_law21_FairnessComponentsAreLoops K).mixed, (base_law21_FairnessComponentsAreLoops K).tabs, FnsOk.cons (s_law21_FairnessServesEverybody K (base_law21_FairnessComponentsAreLoops K)) (by kernel_rfl) (base_law21_FairnessComponentsAreLoops K).fns⟩
theorem law_law21_FairnessServesEverybody (K : Nat) : FnSound Try.prog 6 (p_law21_FairnessServesEverybody K) := s_law21_FairnessServesEverybody K (base_law21_FairnessComponentsAreLoops K)
/-! "selfstab/selfstablaw21.FairnessIsMonotone" -/
noncomputable def b_law21_FairnessIsMonotone : Code := codeOf Try.f7
noncomputable def c_law21_FairnessIsMonotone_0 (K : Nat) : List (Nat × Piece) := []
theorem o_law21_FairnessIsMonotone_0 (K : Nat) : PcsOk Try.prog b_law21_FairnessIsMonotone (c_law21_FairnessIsMonotone_0 K) := PcsOk.nil
def law21_FairnessIsMonotone_122 (K : Nat) : (k : Nat) → (x1 : (List Bool)) → (x2 : (List Bool)) → (x8 : Int) → (o0 : (List Bool)) → Option ((Unit × Unit) × ((List Bool) × Unit))
  | 0, _, _, _, _ => none
  | k + 1, x1, x2, x8, o0 =>
    if decide (x8 < (x1.length : Int)) then
      if decide (0 ≤ x8 ∧ x8 < (x1.length : Int)) then
        if x1.getD x8.toNat false then
          if decide (o0.length + ([true]).length ≤ 4294967296) then
            law21_FairnessIsMonotone_122 K k x1 x2 (IntKind.i64.wrap (x8 + 1)) (o0 ++ [true])
          else
            none
        else
          if decide (0 ≤ x8 ∧ x8 < (x2.length : Int)) then
            if decide (o0.length + ([x2.getD x8.toNat false]).length ≤ 4294967296) then
              law21_FairnessIsMonotone_122 K k x1 x2 (IntKind.i64.wrap (x8 + 1)) (o0 ++ [x2.getD x8.toNat false])
            else
              none
          else
            none
      else
        none
    else
      some (((), ()), (o0, ()))
@[reducible] def p_law21_FairnessIsMonotone_122 (K k : Nat) : Piece := { slots := [(1, (.v (.slice .bool))), (2, (.v (.slice .bool))), (7, (.href 0)), (8, (.v (.int .i64)))], objs := [(.row .bool)], outs := [{ ex := (.exit 0), slots := [(7, (.href 0))], objs := [(none, (.row .bool))] }], asg := [7, 8, 26, 27, 28, 29, 30, 31, 32, 33, 34, 35, 36, 37, 38, 39, 40, 41, 42, 43, 44], nt := 107, fn := fun x => law21_FairnessIsMonotone_122 K k x.1.1 x.1.2.1 x.1.2.2.2.1 x.2.1 }
theorem k_law21_FairnessIsMonotone_122 (K : Nat) (hB : Base Try.prog tabs (fs_law21_FairnessServesEverybody K)) : PcOk Try.prog (codeAt b_law21_FairnessIsMonotone 122) (p_law21_FairnessIsMonotone_122 K K) :=
  loop_thm hB (o_law21_FairnessIsMonotone_0 K) 122 (p_law21_FairnessIsMonotone_122 K 0) (l := fun k x => law21_FairnessIsMonotone_122 K k x.1.1 x.1.2.1 x.1.2.2.2.1 x.2.1) (c := codeAt b_law21_FairnessIsMonotone 244) (by kernel_rfl) (by kernel_rfl) (by kernel_rfl) (by kernel_rfl) (fun x => by kernel_rfl) (fun k x => by kernel_rfl) K
noncomputable def c_law21_FairnessIsMonotone_122 (K : Nat) : List (Nat × Piece) := (122, p_law21_FairnessIsMonotone_122 K K) :: c_law21_FairnessIsMonotone_0 K
theorem o_law21_FairnessIsMonotone_122 (K : Nat) (hB : Base Try.prog tabs (fs_law21_FairnessServesEverybody K)) : PcsOk Try.prog b_law21_FairnessIsMonotone (c_law21_FairnessIsMonotone_122 K) := PcsOk.cons (k_law21_FairnessIsMonotone_122 K hB) (o_law21_FairnessIsMonotone_0 K)
def law21_FairnessIsMonotone_65353 (K : Nat) (x105 : Bool) : Option ((Unit × Unit) ⊕ ((Bool × Unit) × Unit)) :=
  if x105 then
    some (.inr ((false, ()), ()))
  else
    some (.inl ((), ()))
@[reducible] def p_law21_FairnessIsMonotone_65353 (K : Nat) : Piece := { slots := [(105, (.v .bool))], objs := [], outs := [{ ex := .normal, slots := [], objs := [] }, { ex := .ret, slots := [(6, (.v .bool))], objs := [] }], asg := [6], nt := 107, fn := fun x => law21_FairnessIsMonotone_65353 K x.1.1 }
theorem k_law21_FairnessIsMonotone_65353 (K : Nat) (hB : Base Try.prog tabs (fs_law21_FairnessServesEverybody K)) : PcOk Try.prog (codeAt b_law21_FairnessIsMonotone 65353) (p_law21_FairnessIsMonotone_65353 K) :=
  seg_thm hB (o_law21_FairnessIsMonotone_122 K hB) 65353 (p_law21_FairnessIsMonotone_65353 K) (by kernel_rfl) (by kernel_rfl) (by kernel_rfl) (fun x => by kernel_rfl)
noncomputable def c_law21_FairnessIsMonotone_65353 (K : Nat) : List (Nat × Piece) := (65353, p_law21_FairnessIsMonotone_65353 K) :: c_law21_FairnessIsMonotone_122 K
theorem o_law21_FairnessIsMonotone_65353 (K : Nat) (hB : Base Try.prog tabs (fs_law21_FairnessServesEverybody K)) : PcsOk Try.prog b_law21_FairnessIsMonotone (c_law21_FairnessIsMonotone_65353 K) := PcsOk.cons (k_law21_FairnessIsMonotone_65353 K hB) (o_law21_FairnessIsMonotone_122 K hB)
def law21_FairnessIsMonotone_16339 (K : Nat) (x13 : Int) : Option ((Int × Unit) × Unit) :=
  some ((IntKind.i64.wrap (x13 + 1), ()), ())
@[reducible] def p_law21_FairnessIsMonotone_16339 (K : Nat) : Piece := { slots := [(13, (.v (.int .i64)))], objs := [], outs := [{ ex := .normal, slots := [(13, (.v (.int .i64)))], objs := [] }], asg := [13, 81, 82], nt := 107, fn := fun x => law21_FairnessIsMonotone_16339 K x.1.1 }
theorem k_law21_FairnessIsMonotone_16339 (K : Nat) (hB : Base Try.prog tabs (fs_law21_FairnessServesEverybody K)) : PcOk Try.prog (codeAt b_law21_FairnessIsMonotone 16339) (p_law21_FairnessIsMonotone_16339 K) :=
  seg_thm hB (o_law21_FairnessIsMonotone_65353 K hB) 16339 (p_law21_FairnessIsMonotone_16339 K) (by kernel_rfl) (by kernel_rfl) (by kernel_rfl) (fun x => by kernel_rfl)
noncomputable def c_law21_FairnessIsMonotone_16339 (K : Nat) : List (Nat × Piece) := (16339, p_law21_FairnessIsMonotone_16339 K) :: c_law21_FairnessIsMonotone_65353 K
theorem o_law21_FairnessIsMonotone_16339 (K : Nat) (hB : Base Try.prog tabs (fs_law21_FairnessServesEverybody K)) : PcsOk Try.prog b_law21_FairnessIsMonotone (c_law21_FairnessIsMonotone_16339 K) := PcsOk.cons (k_law21_FairnessIsMonotone_16339 K hB) (o_law21_FairnessIsMonotone_65353 K hB)
def law21_FairnessIsMonotone_2042 (K : Nat) : (k : Nat) → (x1 : (List Bool)) → (x9 : (List Bool)) → (x11 : (List Bool)) → (x13 : Int) → Option ((Unit × Unit) ⊕ ((Bool × Unit) × Unit))
  | 0, _, _, _, _ => none
  | k + 1, x1, x9, x11, x13 =>
    if decide (x13 < (x1.length : Int)) then
      if decide (0 ≤ x13 ∧ x13 < (x11.length : Int)) then
        if x11.getD x13.toNat false then
          if decide (0 ≤ x13 ∧ x13 < (x9.length : Int)) then
            if !(x9.getD x13.toNat false) then
              (law21_FairnessIsMonotone_65353 K true).bind fun y1 =>
                match y1 with
                | .inl y2 =>
                  (law21_FairnessIsMonotone_16339 K x13).bind fun y4 =>
                    law21_FairnessIsMonotone_2042 K k x1 x9 x11 y4.1.1
                | .inr y3 =>
                  some (.inr ((y3.1.1, ()), ()))
            else
              if decide (0 ≤ x13 ∧ x13 < (x9.length : Int)) then
                if x9.getD x13.toNat false then
                  if decide (0 ≤ x13 ∧ x13 < (x1.length : Int)) then
                    (law21_FairnessIsMonotone_65353 K (x1.getD x13.toNat false)).bind fun y5 =>
                      match y5 with
                      | .inl y6 =>
                        (law21_FairnessIsMonotone_16339 K x13).bind fun y8 =>
                          law21_FairnessIsMonotone_2042 K k x1 x9 x11 y8.1.1
                      | .inr y7 =>
                        some (.inr ((y7.1.1, ()), ()))
                  else
                    none
                else
                  (law21_FairnessIsMonotone_65353 K false).bind fun y9 =>
                    match y9 with
                    | .inl y10 =>
                      (law21_FairnessIsMonotone_16339 K x13).bind fun y12 =>
                        law21_FairnessIsMonotone_2042 K k x1 x9 x11 y12.1.1
                    | .inr y11 =>
                      some (.inr ((y11.1.1, ()), ()))
              else
                none
          else
            none
        else
          if decide (0 ≤ x13 ∧ x13 < (x9.length : Int)) then
            if x9.getD x13.toNat false then
              if decide (0 ≤ x13 ∧ x13 < (x1.length : Int)) then
                (law21_FairnessIsMonotone_65353 K (x1.getD x13.toNat false)).bind fun y13 =>
                  match y13 with
                  | .inl y14 =>
                    (law21_FairnessIsMonotone_16339 K x13).bind fun y16 =>
                      law21_FairnessIsMonotone_2042 K k x1 x9 x11 y16.1.1
                  | .inr y15 =>
                    some (.inr ((y15.1.1, ()), ()))
              else
                none
            else
              (law21_FairnessIsMonotone_65353 K false).bind fun y17 =>
                match y17 with
                | .inl y18 =>
                  (law21_FairnessIsMonotone_16339 K x13).bind fun y20 =>
                    law21_FairnessIsMonotone_2042 K k x1 x9 x11 y20.1.1
                | .inr y19 =>
                  some (.inr ((y19.1.1, ()), ()))
          else
            none
      else
        none
    else
      some (.inl ((), ()))
@[reducible] def p_law21_FairnessIsMonotone_2042 (K k : Nat) : Piece := { slots := [(1, (.v (.slice .bool))), (9, (.v (.slice .bool))), (11, (.v (.slice .bool))), (13, (.v (.int .i64)))], objs := [], outs := [{ ex := (.exit 2), slots := [], objs := [] }, { ex := .ret, slots := [(6, (.v .bool))], objs := [] }], asg := [6, 13, 77, 78, 79, 80, 81, 82, 83, 84, 85, 86, 87, 88, 89, 90, 91, 92, 93, 94, 95, 96, 97, 98, 99, 100, 101, 102, 103, 104, 105], nt := 107, fn := fun x => law21_FairnessIsMonotone_2042 K k x.1.1 x.1.2.1 x.1.2.2.1 x.1.2.2.2.1 }
theorem k_law21_FairnessIsMonotone_2042 (K : Nat) (hB : Base Try.prog tabs (fs_law21_FairnessServesEverybody K)) : PcOk Try.prog (codeAt b_law21_FairnessIsMonotone 2042) (p_law21_FairnessIsMonotone_2042 K K) :=
  loop_thm hB (o_law21_FairnessIsMonotone_16339 K hB) 2042 (p_law21_FairnessIsMonotone_2042 K 0) (l := fun k x => law21_FairnessIsMonotone_2042 K k x.1.1 x.1.2.1 x.1.2.2.1 x.1.2.2.2.1) (c := codeAt b_law21_FairnessIsMonotone 4084) (by kernel_rfl) (by kernel_rfl) (by kernel_rfl) (by kernel_rfl) (fun x => by kernel_rfl) (fun k x => by kernel_rfl) K
noncomputable def c_law21_FairnessIsMonotone_2042 (K : Nat) : List (Nat × Piece) := (2042, p_law21_FairnessIsMonotone_2042 K K) :: c_law21_FairnessIsMonotone_16339 K
theorem o_law21_FairnessIsMonotone_2042 (K : Nat) (hB : Base Try.prog tabs (fs_law21_FairnessServesEverybody K)) : PcsOk Try.prog b_law21_FairnessIsMonotone (c_law21_FairnessIsMonotone_2042 K) := PcsOk.cons (k_law21_FairnessIsMonotone_2042 K hB) (o_law21_FairnessIsMonotone_16339 K hB)
def law21_FairnessIsMonotone (K : Nat) (x0 : ((List Int) × ((List (List (Int × (Int × Unit)))) × Unit))) (x1 : (List Bool)) (x2 : (List Bool)) : Option ((Bool × Unit) × Unit) :=
  (law21_fair K x0 x1).bind fun y6 =>
    if !y6.1.1 then
      (law21_awake K).bind fun y7 =>
        some ((y7.1.1, ()), ())
    else
      if !decide ((x2.length : Int) = (x1.length : Int)) then
        (law21_awake K).bind fun y8 =>
          some ((y8.1.1, ()), ())
      else
        (law21_FairnessIsMonotone_122 K K x1 x2 0 []).bind fun y10 =>
          (fairness_Core K x0 x1).bind fun y12 =>
            (fairness_Core K x0 y10.2.1).bind fun y14 =>
              if !decide (y12.1.1.2.1 = 0) then
                some ((false, ()), ())
              else
                if !decide (y14.1.1.2.1 = 0) then
                  some ((false, ()), ())
                else
                  if !decide ((y12.2.1.length : Int) = (x1.length : Int)) then
                    some ((false, ()), ())
                  else
                    if !decide ((y14.2.1.length : Int) = (x1.length : Int)) then
                      some ((false, ()), ())
                    else
                      (law21_FairnessIsMonotone_2042 K K x1 y12.2.1 y14.2.1 0).bind fun y18 =>
                        match y18 with
                        | .inl y19 =>
                          (law21_awake K).bind fun y21 =>
                            some ((y21.1.1, ()), ())
                        | .inr y20 =>
                          some ((y20.1.1, ()), ())
@[reducible] def p_law21_FairnessIsMonotone (K : Nat) : Piece := { slots := [(0, (.v (.pair (.slice (.int .u32)) (.pair (.slice (.slice (.pair (.int .u32) (.pair (.int .i64) .unit)))) .unit)))), (1, (.v (.slice .bool))), (2, (.v (.slice .bool)))], objs := [], outs := [{ ex := .ret, slots := [(0, (.v .bool))], objs := [] }], asg := [], nt := 107, fn := fun x => law21_FairnessIsMonotone K x.1.1 x.1.2.1 x.1.2.2.1 }
theorem s_law21_FairnessIsMonotone (K : Nat) (hB : Base Try.prog tabs (fs_law21_FairnessServesEverybody K)) : FnSound Try.prog 7 (p_law21_FairnessIsMonotone K) :=
  fun_thm hB (o_law21_FairnessIsMonotone_2042 K hB) Try.func7 (body := b_law21_FairnessIsMonotone) rfl (p_law21_FairnessIsMonotone K) (rs := [.tmp 6]) rfl (Nat.le_of_ble_eq_true (by kernel_rfl)) (fun x => by kernel_rfl)
noncomputable def fs_law21_FairnessIsMonotone (K : Nat) : List (Nat × Piece) := (7, p_law21_FairnessIsMonotone K) :: fs_law21_FairnessServesEverybody K
theorem base_law21_FairnessIsMonotone (K : Nat) : Base Try.prog tabs (fs_law21_FairnessIsMonotone K) := ⟨(base_law21_FairnessServesEverybody K).mixed, (base_law21_FairnessServesEverybody K).tabs, FnsOk.cons (s_law21_FairnessIsMonotone K (base_law21_FairnessServesEverybody K)) (by kernel_rfl) (base_law21_FairnessServesEverybody K).fns⟩
theorem law_law21_FairnessIsMonotone (K : Nat) : FnSound Try.prog 7 (p_law21_FairnessIsMonotone K) := s_law21_FairnessIsMonotone K (base_law21_FairnessServesEverybody K)
/-! "selfstab/selfstabref21.Core" -/
noncomputable def b_ref21_Core : Code := codeOf Try.f13
noncomputable def c_ref21_Core_0 (K : Nat) : List (Nat × Piece) := []
theorem o_ref21_Core_0 (K : Nat) : PcsOk Try.prog b_ref21_Core (c_ref21_Core_0 K) := PcsOk.nil
def ref21_Core_32585 (K : Nat) (x12 : Int) (x62 : Bool) (o0 : (List Bool)) (o1 : (List Int)) : Option ((Unit × Unit) × ((List Int) × ((List Bool) × Unit))) :=
  if x62 then
    if decide (0 ≤ x12 ∧ x12 < (o0.length : Int)) then
      if decide (o1.length + ([x12]).length ≤ 4294967296) then
        some (((), ()), ((o1 ++ [x12]), (o0.set x12.toNat true, ())))
      else
        none
    else
      none
  else
    some (((), ()), (o1, (o0, ())))
@[reducible] def p_ref21_Core_32585 (K : Nat) : Piece := { slots := [(10, (.href 0)), (11, (.href 1)), (12, (.v (.int .i64))), (62, (.v .bool))], objs := [(.row .bool), (.row (.int .i64))], outs := [{ ex := .normal, slots := [(11, (.href 0))], objs := [(none, (.row (.int .i64))), (some 0, (.row .bool))] }], asg := [11, 63, 64, 65, 66, 67, 68, 69], nt := 113, fn := fun x => ref21_Core_32585 K x.1.2.2.1 x.1.2.2.2.1 x.2.1 x.2.2.1 }
theorem k_ref21_Core_32585 (K : Nat) (hB : Base Try.prog tabs (fs_law21_FairnessIsMonotone K)) : PcOk Try.prog (codeAt b_ref21_Core 32585) (p_ref21_Core_32585 K) :=
  seg_thm hB (o_ref21_Core_0 K) 32585 (p_ref21_Core_32585 K) (by kernel_rfl) (by kernel_rfl) (by kernel_rfl) (fun x => by kernel_rfl)
noncomputable def c_ref21_Core_32585 (K : Nat) : List (Nat × Piece) := (32585, p_ref21_Core_32585 K) :: c_ref21_Core_0 K
theorem o_ref21_Core_32585 (K : Nat) (hB : Base Try.prog tabs (fs_law21_FairnessIsMonotone K)) : PcsOk Try.prog b_ref21_Core (c_ref21_Core_32585 K) := PcsOk.cons (k_ref21_Core_32585 K hB) (o_ref21_Core_0 K)
def ref21_Core_1018 (K : Nat) : (k : Nat) → (x1 : (List Bool)) → (x7 : (List Int)) → (x9 : (List Bool)) → (x12 : Int) → (o0 : ((List Int) × ((List (List (Int × (Int × Unit)))) × Unit))) → (o1 : (List Bool)) → (o2 : (List Int)) → Option ((Unit × Unit) × ((List Int) × ((List Bool) × Unit)))
  | 0, _, _, _, _, _, _, _ => none
  | k + 1, x1, x7, x9, x12, o0, o1, o2 =>
    if decide (x12 < (x1.length : Int)) then
      if decide (0 ≤ x12 ∧ x12 < (x1.length : Int)) then
        if !(x1.getD x12.toNat false) then
          if decide (0 ≤ x12 ∧ x12 < (o0.2.1.length : Int)) then
            if decide (((o0.2.1.getD x12.toNat []).length : Int) = 0) then
              (ref21_Core_32585 K x12 true o1 o2).bind fun y4 =>
                ref21_Core_1018 K k x1 x7 x9 (IntKind.i64.wrap (x12 + 1)) o0 y4.2.2.1 y4.2.1
            else
              if decide (0 ≤ x12 ∧ x12 < (x7.length : Int)) then
                if decide (0 ≤ x7.getD x12.toNat 0 ∧ x7.getD x12.toNat 0 < (x9.length : Int)) then
                  (ref21_Core_32585 K x12 (x9.getD ((x7.getD x12.toNat 0).toNat) false) o1 o2).bind fun y5 =>
                    ref21_Core_1018 K k x1 x7 x9 (IntKind.i64.wrap (x12 + 1)) o0 y5.2.2.1 y5.2.1
                else
                  none
              else
                none
          else
            none
        else
          (ref21_Core_32585 K x12 false o1 o2).bind fun y6 =>
            ref21_Core_1018 K k x1 x7 x9 (IntKind.i64.wrap (x12 + 1)) o0 y6.2.2.1 y6.2.1
      else
        none
    else
      some (((), ()), (o2, (o1, ())))
@[reducible] def p_ref21_Core_1018 (K k : Nat) : Piece := { slots := [(1, (.v (.slice .bool))), (2, (.ref 0 (.pair (.slice (.int .u32)) (.pair (.slice (.slice (.pair (.int .u32) (.pair (.int .i64) .unit)))) .unit)))), (7, (.v (.slice (.int .i64)))), (9, (.v (.slice .bool))), (10, (.href 1)), (11, (.href 2)), (12, (.v (.int .i64)))], objs := [(.box (.pair (.slice (.int .u32)) (.pair (.slice (.slice (.pair (.int .u32) (.pair (.int .i64) .unit)))) .unit)) (.v (.pair (.slice (.int .u32)) (.pair (.slice (.slice (.pair (.int .u32) (.pair (.int .i64) .unit)))) .unit)))), (.row .bool), (.row (.int .i64))], outs := [{ ex := (.exit 0), slots := [(11, (.href 0))], objs := [(none, (.row (.int .i64))), (some 1, (.row .bool))] }], asg := [11, 12, 34, 35, 36, 37, 38, 39, 40, 41, 42, 43, 44, 45, 46, 47, 48, 49, 50, 51, 52, 53, 54, 55, 56, 57, 58, 59, 60, 61, 62, 63, 64, 65, 66, 67, 68, 69], nt := 113, fn := fun x => ref21_Core_1018 K k x.1.1 x.1.2.2.1 x.1.2.2.2.1 x.1.2.2.2.2.2.2.1 x.2.1 x.2.2.1 x.2.2.2.1 }
theorem k_ref21_Core_1018 (K : Nat) (hB : Base Try.prog tabs (fs_law21_FairnessIsMonotone K)) : PcOk Try.prog (codeAt b_ref21_Core 1018) (p_ref21_Core_1018 K K) :=
  loop_thm hB (o_ref21_Core_32585 K hB) 1018 (p_ref21_Core_1018 K 0) (l := fun k x => ref21_Core_1018 K k x.1.1 x.1.2.2.1 x.1.2.2.2.1 x.1.2.2.2.2.2.2.1 x.2.1 x.2.2.1 x.2.2.2.1) (c := codeAt b_ref21_Core 2036) (by kernel_rfl) (by kernel_rfl) (by kernel_rfl) (by kernel_rfl) (fun x => by kernel_rfl) (fun k x => by kernel_rfl) K
noncomputable def c_ref21_Core_1018 (K : Nat) : List (Nat × Piece) := (1018, p_ref21_Core_1018 K K) :: c_ref21_Core_32585 K
theorem o_ref21_Core_1018 (K : Nat) (hB : Base Try.prog tabs (fs_law21_FairnessIsMonotone K)) : PcsOk Try.prog b_ref21_Core (c_ref21_Core_1018 K) := PcsOk.cons (k_ref21_Core_1018 K hB) (o_ref21_Core_32585 K hB)
def ref21_Core_130606 (K : Nat) : (k : Nat) → (x8 : (List (List Int))) → (x13 : Int) → (x14 : Int) → (o0 : (List Bool)) → (o1 : (List Int)) → Option ((Unit × Unit) × ((List Int) × ((List Bool) × Unit)))
  | 0, _, _, _, _, _ => none
  | k + 1, x8, x13, x14, o0, o1 =>
    if decide (0 ≤ x13 ∧ x13 < (x8.length : Int)) then
      if decide (x14 < ((x8.getD x13.toNat []).length : Int)) then
        if decide (0 ≤ x13 ∧ x13 < (x8.length : Int)) then
          if decide (0 ≤ x14 ∧ x14 < ((x8.getD x13.toNat []).length : Int)) then
            if decide (0 ≤ (x8.getD x13.toNat []).getD x14.toNat 0 ∧ (x8.getD x13.toNat []).getD x14.toNat 0 < (o0.length : Int)) then
              if !(o0.getD (((x8.getD x13.toNat []).getD x14.toNat 0).toNat) false) then
                if decide (0 ≤ (x8.getD x13.toNat []).getD x14.toNat 0 ∧ (x8.getD x13.toNat []).getD x14.toNat 0 < (o0.length : Int)) then
                  if decide (o1.length + ([(x8.getD x13.toNat []).getD x14.toNat 0]).length ≤ 4294967296) then
                    ref21_Core_130606 K k x8 x13 (IntKind.i64.wrap (x14 + 1)) (o0.set (((x8.getD x13.toNat []).getD x14.toNat 0).toNat) true) (o1 ++ [(x8.getD x13.toNat []).getD x14.toNat 0])
                  else
                    none
                else
                  none
              else
                ref21_Core_130606 K k x8 x13 (IntKind.i64.wrap (x14 + 1)) o0 o1
            else
              none
          else
            none
        else
          none
      else
        some (((), ()), (o1, (o0, ())))
    else
      none
@[reducible] def p_ref21_Core_130606 (K k : Nat) : Piece := { slots := [(8, (.v (.slice (.slice (.int .i64))))), (10, (.href 0)), (11, (.href 1)), (13, (.v (.int .i64))), (14, (.v (.int .i64)))], objs := [(.row .bool), (.row (.int .i64))], outs := [{ ex := (.exit 4), slots := [(11, (.href 0))], objs := [(none, (.row (.int .i64))), (some 0, (.row .bool))] }], asg := [11, 14, 15, 84, 85, 86, 87, 88, 89, 90, 91, 92, 93, 94, 95, 96, 97, 98, 99, 100, 101, 102, 103, 104, 105, 106, 107, 108, 109, 110, 111], nt := 113, fn := fun x => ref21_Core_130606 K k x.1.1 x.1.2.2.2.1 x.1.2.2.2.2.1 x.2.1 x.2.2.1 }
theorem k_ref21_Core_130606 (K : Nat) (hB : Base Try.prog tabs (fs_law21_FairnessIsMonotone K)) : PcOk Try.prog (codeAt b_ref21_Core 130606) (p_ref21_Core_130606 K K) :=
  loop_thm hB (o_ref21_Core_1018 K hB) 130606 (p_ref21_Core_130606 K 0) (l := fun k x => ref21_Core_130606 K k x.1.1 x.1.2.2.2.1 x.1.2.2.2.2.1 x.2.1 x.2.2.1) (c := codeAt b_ref21_Core 261212) (by kernel_rfl) (by kernel_rfl) (by kernel_rfl) (by kernel_rfl) (fun x => by kernel_rfl) (fun k x => by kernel_rfl) K
noncomputable def c_ref21_Core_130606 (K : Nat) : List (Nat × Piece) := (130606, p_ref21_Core_130606 K K) :: c_ref21_Core_1018 K
theorem o_ref21_Core_130606 (K : Nat) (hB : Base Try.prog tabs (fs_law21_FairnessIsMonotone K)) : PcsOk Try.prog b_ref21_Core (c_ref21_Core_130606 K) := PcsOk.cons (k_ref21_Core_130606 K hB) (o_ref21_Core_1018 K hB)
def ref21_Core_1020 (K : Nat) : (k : Nat) → (x8 : (List (List Int))) → (o0 : (List Bool)) → (o1 : (List Int)) → Option (Unit × ((List Bool) × Unit))
  | 0, _, _, _ => none
  | k + 1, x8, o0, o1 =>
    if decide (0 < (o1.length : Int)) then
      if decide (0 ≤ IntKind.i64.wrap ((o1.length : Int) - 1) ∧ IntKind.i64.wrap ((o1.length : Int) - 1) < (o1.length : Int)) then
        if decide (0 ≤ IntKind.i64.wrap ((o1.length : Int) - 1) ∧ IntKind.i64.wrap ((o1.length : Int) - 1) ≤ (o1.length : Int)) then
          (ref21_Core_130606 K K x8 (o1.getD ((IntKind.i64.wrap ((o1.length : Int) - 1)).toNat) 0) 0 o0 (o1.take ((IntKind.i64.wrap ((o1.length : Int) - 1)).toNat))).bind fun y1 =>
            ref21_Core_1020 K k x8 y1.2.2.1 y1.2.1
        else
          none
      else
        none
    else
      some ((), (o0, ()))
@[reducible] def p_ref21_Core_1020 (K k : Nat) : Piece := { slots := [(8, (.v (.slice (.slice (.int .i64))))), (10, (.href 0)), (11, (.href 1))], objs := [(.row .bool), (.row (.int .i64))], outs := [{ ex := (.exit 2), slots := [], objs := [(some 0, (.row .bool))] }], asg := [11, 13, 14, 15, 70, 71, 72, 73, 74, 75, 76, 77, 78, 79, 80, 81, 82, 83, 84, 85, 86, 87, 88, 89, 90, 91, 92, 93, 94, 95, 96, 97, 98, 99, 100, 101, 102, 103, 104, 105, 106, 107, 108, 109, 110, 111], nt := 113, fn := fun x => ref21_Core_1020 K k x.1.1 x.2.1 x.2.2.1 }
theorem k_ref21_Core_1020 (K : Nat) (hB : Base Try.prog tabs (fs_law21_FairnessIsMonotone K)) : PcOk Try.prog (codeAt b_ref21_Core 1020) (p_ref21_Core_1020 K K) :=
  loop_thm hB (o_ref21_Core_130606 K hB) 1020 (p_ref21_Core_1020 K 0) (l := fun k x => ref21_Core_1020 K k x.1.1 x.2.1 x.2.2.1) (c := codeAt b_ref21_Core 2040) (by kernel_rfl) (by kernel_rfl) (by kernel_rfl) (by kernel_rfl) (fun x => by kernel_rfl) (fun k x => by kernel_rfl) K
noncomputable def c_ref21_Core_1020 (K : Nat) : List (Nat × Piece) := (1020, p_ref21_Core_1020 K K) :: c_ref21_Core_130606 K
theorem o_ref21_Core_1020 (K : Nat) (hB : Base Try.prog tabs (fs_law21_FairnessIsMonotone K)) : PcsOk Try.prog b_ref21_Core (c_ref21_Core_1020 K) := PcsOk.cons (k_ref21_Core_1020 K hB) (o_ref21_Core_130606 K hB)
def ref21_Core (K : Nat) (x0 : ((List Int) × ((List (List (Int × (Int × Unit)))) × Unit))) (x1 : (List Bool)) : Option (((Unit × (Int × Unit)) × Unit) × ((List Bool) × Unit)) :=
  (ref19_Begin K x0 x1).bind fun y4 =>
    if !decide (y4.1.1 = 0) then
      some ((((), (y4.1.1, ())), ()), ([], ()))
    else
      (ref21_components K x0 x1).bind fun y7 =>
        (ref21_back K x0 x1).bind fun y8 =>
          (ref21_all K x0 y7.2.1).bind fun y10 =>
            if decide (0 ≤ (x1.length : Int) ∧ (x1.length : Int) ≤ (x1.length : Int) ∧ (x1.length : Int) ≤ 4294967296) then
              (ref21_Core_1018 K K x1 y7.2.1 y10.2.1 0 x0 (List.replicate (x1.length : Int).toNat false) []).bind fun y12 =>
                (ref21_Core_1020 K K y8.2.1 y12.2.2.1 y12.2.1).bind fun y14 =>
                  some ((((), (0, ())), ()), (y14.2.1, ()))
            else
              none
@[reducible] def p_ref21_Core (K : Nat) : Piece := { slots := [(0, (.v (.pair (.slice (.int .u32)) (.pair (.slice (.slice (.pair (.int .u32) (.pair (.int .i64) .unit)))) .unit)))), (1, (.v (.slice .bool)))], objs := [], outs := [{ ex := .ret, slots := [(0, (.tup (.cons (.href 0) (.cons (.v (.int .i64)) .nil))))], objs := [(none, (.row .bool))] }], asg := [], nt := 113, fn := fun x => ref21_Core K x.1.1 x.1.2.1 }
theorem s_ref21_Core (K : Nat) (hB : Base Try.prog tabs (fs_law21_FairnessIsMonotone K)) : FnSound Try.prog 13 (p_ref21_Core K) :=
  fun_thm hB (o_ref21_Core_1020 K hB) Try.func13 (body := b_ref21_Core) rfl (p_ref21_Core K) (rs := [.tmp 4, .tmp 5]) rfl (Nat.le_of_ble_eq_true (by kernel_rfl)) (fun x => by kernel_rfl)
noncomputable def fs_ref21_Core (K : Nat) : List (Nat × Piece) := (13, p_ref21_Core K) :: fs_law21_FairnessIsMonotone K
theorem base_ref21_Core (K : Nat) : Base Try.prog tabs (fs_ref21_Core K) := ⟨(base_law21_FairnessIsMonotone K).mixed, (base_law21_FairnessIsMonotone K).tabs, FnsOk.cons (s_ref21_Core K (base_law21_FairnessIsMonotone K)) (by kernel_rfl) (base_law21_FairnessIsMonotone K).fns⟩
/-! "selfstab/selfstablaw21.FairnessFindsTheCore" -/
noncomputable def b_law21_FairnessFindsTheCore : Code := codeOf Try.f3
noncomputable def c_law21_FairnessFindsTheCore_0 (K : Nat) : List (Nat × Piece) := []
theorem o_law21_FairnessFindsTheCore_0 (K : Nat) : PcsOk Try.prog b_law21_FairnessFindsTheCore (c_law21_FairnessFindsTheCore_0 K) := PcsOk.nil
def law21_FairnessFindsTheCore (K : Nat) (x0 : ((List Int) × ((List (List (Int × (Int × Unit)))) × Unit))) (x1 : (List Bool)) : Option ((Bool × Unit) × Unit) :=
  (law21_light K x0 x1).bind fun y5 =>
    if !y5.1.1 then
      (law21_awake K).bind fun y6 =>
        some ((y6.1.1, ()), ())
    else
      (fairness_Core K x0 x1).bind fun y8 =>
        (ref21_Core K x0 x1).bind fun y10 =>
          (law21_awake K).bind fun y11 =>
            if y11.1.1 then
              (ref19_Same K y8.2.1 y10.2.1).bind fun y12 =>
                if y12.1.1 then
                  some ((decide (y8.1.1.2.1 = y10.1.1.2.1), ()), ())
                else
                  some ((false, ()), ())
            else
              some ((false, ()), ())
@[reducible] def p_law21_FairnessFindsTheCore (K : Nat) : Piece := { slots := [(0, (.v (.pair (.slice (.int .u32)) (.pair (.slice (.slice (.pair (.int .u32) (.pair (.int .i64) .unit)))) .unit)))), (1, (.v (.slice .bool)))], objs := [], outs := [{ ex := .ret, slots := [(0, (.v .bool))], objs := [] }], asg := [], nt := 37, fn := fun x => law21_FairnessFindsTheCore K x.1.1 x.1.2.1 }
theorem s_law21_FairnessFindsTheCore (K : Nat) (hB : Base Try.prog tabs (fs_ref21_Core K)) : FnSound Try.prog 3 (p_law21_FairnessFindsTheCore K) :=
  fun_thm hB (o_law21_FairnessFindsTheCore_0 K) Try.func3 (body := b_law21_FairnessFindsTheCore) rfl (p_law21_FairnessFindsTheCore K) (rs := [.tmp 4]) rfl (Nat.le_of_ble_eq_true (by kernel_rfl)) (fun x => by kernel_rfl)
noncomputable def fs_law21_FairnessFindsTheCore (K : Nat) : List (Nat × Piece) := (3, p_law21_FairnessFindsTheCore K) :: fs_ref21_Core K
theorem base_law21_FairnessFindsTheCore (K : Nat) : Base Try.prog tabs (fs_law21_FairnessFindsTheCore K) := ⟨(base_ref21_Core K).mixed, (base_ref21_Core K).tabs, FnsOk.cons (s_law21_FairnessFindsTheCore K (base_ref21_Core K)) (by kernel_rfl) (base_ref21_Core K).fns⟩
theorem law_law21_FairnessFindsTheCore (K : Nat) : FnSound Try.prog 3 (p_law21_FairnessFindsTheCore K) := s_law21_FairnessFindsTheCore K (base_ref21_Core K)
end Go.Proofs.Yteadlocehjfpoaa.G
