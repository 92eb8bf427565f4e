/- Printed by a program of this work: for each function that is reached, what it computes, and that the code computes it. -/
import Derived.Test.YteemomggcpaakaaFwE
import Derived.Test.YteemomggcpaakaaProg
import Derived.KernelRfl
namespace Go.Proofs.Yteemomggcpaakaa.G
open Go Go.Fw Go.Proofs
set_option maxRecDepth 100000
set_option linter.unusedVariables false
@[reducible] def tabs : Tabs := { ty := [(3, (.int .i64)), (4, .bool), (5, (.int .u8)), (22, (.slice (.int .u32))), (23, (.slice (.slice (.pair (.int .u32) (.pair (.int .i64) .unit))))), (25, (.pair (.slice (.int .u32)) (.pair (.slice (.slice (.pair (.int .u32) (.pair (.int .i64) .unit)))) .unit))), (26, (.slice .bool)), (34, (.slice (.pair (.int .u32) (.pair (.int .i64) .unit)))), (35, (.int .u32)), (37, (.pair (.int .u32) (.pair (.int .i64) .unit))), (38, (.slice (.int .u8))), (43, (.slice (.int .i64))), (60, (.slice (.slice (.int .i64)))), (61, (.int .u64))], eq := [4], mt := [(54, ((.int .i64), (.int .i64)))] }
noncomputable def codeOf (f : Func) : Code := match f.body with | some c => c | none => .skip
noncomputable def fs_0 (K : Nat) : List (Nat × Piece) := []
theorem base_0 (K : Nat) : Base Try.prog tabs (fs_0 K) := ⟨by kernel_rfl, by kernel_rfl, FnsOk.nil⟩
/-! "selfstab/selfstablaw19.light" -/
noncomputable def b_law19_light : Code := codeOf Try.f16
noncomputable def c_law19_light_0 (K : Nat) : List (Nat × Piece) := []
theorem o_law19_light_0 (K : Nat) : PcsOk Try.prog b_law19_light (c_law19_light_0 K) := PcsOk.nil
def law19_light_58 (K : Nat) : (k : Nat) → (x5 : Int) → (o0 : ((List Int) × ((List (List (Int × (Int × Unit)))) × Unit))) → Option ((Unit × Unit) ⊕ ((Bool × Unit) × Unit))
  | 0, _, _ => none
  | k + 1, x5, o0 =>
    if decide (x5 < (o0.2.1.length : Int)) then
      if decide (0 ≤ x5 ∧ x5 < (o0.2.1.length : Int)) then
        if decide (70 < ((o0.2.1.getD x5.toNat []).length : Int)) then
          some (.inr ((false, ()), ()))
        else
          law19_light_58 K k (IntKind.i64.wrap (x5 + 1)) o0
      else
        none
    else
      some (.inl ((), ()))
@[reducible] def p_law19_light_58 (K k : Nat) : Piece := { slots := [(2, (.ref 0 (.pair (.slice (.int .u32)) (.pair (.slice (.slice (.pair (.int .u32) (.pair (.int .i64) .unit)))) .unit)))), (5, (.v (.int .i64)))], objs := [(.box (.pair (.slice (.int .u32)) (.pair (.slice (.slice (.pair (.int .u32) (.pair (.int .i64) .unit)))) .unit)) (.v (.pair (.slice (.int .u32)) (.pair (.slice (.slice (.pair (.int .u32) (.pair (.int .i64) .unit)))) .unit))))], outs := [{ ex := (.exit 0), slots := [], objs := [] }, { ex := .ret, slots := [(4, (.v .bool))], objs := [] }], asg := [4, 5, 21, 22, 23, 24, 25, 26, 27, 28, 29, 30, 31, 32, 33, 34], nt := 35, fn := fun x => law19_light_58 K k x.1.2.1 x.2.1 }
theorem k_law19_light_58 (K : Nat) (hB : Base Try.prog tabs (fs_0 K)) : PcOk Try.prog (codeAt b_law19_light 58) (p_law19_light_58 K K) :=
  loop_thm hB (o_law19_light_0 K) 58 (p_law19_light_58 K 0) (l := fun k x => law19_light_58 K k x.1.2.1 x.2.1) (c := codeAt b_law19_light 116) (by kernel_rfl) (by kernel_rfl) (by kernel_rfl) (by kernel_rfl) (fun x => by kernel_rfl) (fun k x => by kernel_rfl) K
noncomputable def c_law19_light_58 (K : Nat) : List (Nat × Piece) := (58, p_law19_light_58 K K) :: c_law19_light_0 K
theorem o_law19_light_58 (K : Nat) (hB : Base Try.prog tabs (fs_0 K)) : PcsOk Try.prog b_law19_light (c_law19_light_58 K) := PcsOk.cons (k_law19_light_58 K hB) (o_law19_light_0 K)
def law19_light (K : Nat) (x0 : ((List Int) × ((List (List (Int × (Int × Unit)))) × Unit))) (x1 : (List Bool)) : Option ((Bool × Unit) × Unit) :=
  if decide (200 < (x0.1.length : Int)) then
    some ((false, ()), ())
  else
    if decide (200 < (x0.2.1.length : Int)) then
      some ((false, ()), ())
    else
      if decide (210 < (x1.length : Int)) then
        some ((false, ()), ())
      else
        (law19_light_58 K K 0 x0).bind fun y4 =>
          match y4 with
          | .inl y5 =>
            some ((true, ()), ())
          | .inr y6 =>
            some ((y6.1.1, ()), ())
@[reducible] def p_law19_light (K : Nat) : Piece := { slots := [(0, (.v (.pair (.slice (.int .u32)) (.pair (.slice (.slice (.pair (.int .u32) (.pair (.int .i64) .unit)))) .unit)))), (1, (.v (.slice .bool)))], objs := [], outs := [{ ex := .ret, slots := [(0, (.v .bool))], objs := [] }], asg := [], nt := 35, fn := fun x => law19_light K x.1.1 x.1.2.1 }
theorem s_law19_light (K : Nat) (hB : Base Try.prog tabs (fs_0 K)) : FnSound Try.prog 16 (p_law19_light K) :=
  fun_thm hB (o_law19_light_58 K hB) Try.func16 (body := b_law19_light) rfl (p_law19_light K) (rs := [.tmp 4]) rfl (Nat.le_of_ble_eq_true (by kernel_rfl)) (fun x => by kernel_rfl)
noncomputable def fs_law19_light (K : Nat) : List (Nat × Piece) := (16, p_law19_light K) :: fs_0 K
theorem base_law19_light (K : Nat) : Base Try.prog tabs (fs_law19_light K) := ⟨(base_0 K).mixed, (base_0 K).tabs, FnsOk.cons (s_law19_light K (base_0 K)) (by kernel_rfl) (base_0 K).fns⟩
/-! "selfstab/selfstabref01.In" -/
noncomputable def b_ref01_In : Code := codeOf Try.f31
noncomputable def c_ref01_In_0 (K : Nat) : List (Nat × Piece) := []
theorem o_ref01_In_0 (K : Nat) : PcsOk Try.prog b_ref01_In (c_ref01_In_0 K) := PcsOk.nil
def ref01_In (K : Nat) (x0 : Int) (x1 : Int) (x2 : Int) : Option ((Bool × Unit) × Unit) :=
  if decide (x1 ≤ x0) then
    some ((decide (x0 ≤ x2), ()), ())
  else
    some ((false, ()), ())
@[reducible] def p_ref01_In (K : Nat) : Piece := { slots := [(0, (.v (.int .i64))), (1, (.v (.int .i64))), (2, (.v (.int .i64)))], objs := [], outs := [{ ex := .ret, slots := [(0, (.v .bool))], objs := [] }], asg := [], nt := 15, fn := fun x => ref01_In K x.1.1 x.1.2.1 x.1.2.2.1 }
theorem s_ref01_In (K : Nat) (hB : Base Try.prog tabs (fs_law19_light K)) : FnSound Try.prog 31 (p_ref01_In K) :=
  fun_thm hB (o_ref01_In_0 K) Try.func31 (body := b_ref01_In) rfl (p_ref01_In K) (rs := [.tmp 6]) rfl (Nat.le_of_ble_eq_true (by kernel_rfl)) (fun x => by kernel_rfl)
noncomputable def fs_ref01_In (K : Nat) : List (Nat × Piece) := (31, p_ref01_In K) :: fs_law19_light K
theorem base_ref01_In (K : Nat) : Base Try.prog tabs (fs_ref01_In K) := ⟨(base_law19_light K).mixed, (base_law19_light K).tabs, FnsOk.cons (s_ref01_In K (base_law19_light K)) (by kernel_rfl) (base_law19_light K).fns⟩
/-! "selfstab/selfstabref01.All" -/
noncomputable def b_ref01_All : Code := codeOf Try.f34
noncomputable def c_ref01_All_0 (K : Nat) : List (Nat × Piece) := []
theorem o_ref01_All_0 (K : Nat) : PcsOk Try.prog b_ref01_All (c_ref01_All_0 K) := PcsOk.nil
def ref01_All_58 (K : Nat) : (k : Nat) → (x0 : Int) → (x3 : Int) → (x4 : Int) → Option ((Int × Unit) × Unit)
  | 0, _, _, _ => none
  | k + 1, x0, x3, x4 =>
    if decide (x4 < x0) then
      if decide (x4 < 32) then
        if decide ((IntKind.u64.wrap (x4)) < 0) then
          none
        else
          ref01_All_58 K k x0 (ior .u32 x3 (ishl .u32 1 (IntKind.u64.wrap (x4)))) (IntKind.i64.wrap (x4 + 1))
      else
        some ((x3, ()), ())
    else
      some ((x3, ()), ())
@[reducible] def p_ref01_All_58 (K k : Nat) : Piece := { slots := [(0, (.v (.int .i64))), (3, (.v (.int .u32))), (4, (.v (.int .i64)))], objs := [], outs := [{ ex := (.exit 0), slots := [(3, (.v (.int .u32)))], objs := [] }], asg := [3, 4, 5, 6, 7, 8, 9, 10, 11, 12, 13, 14, 15, 16, 17, 18], nt := 20, fn := fun x => ref01_All_58 K k x.1.1 x.1.2.1 x.1.2.2.1 }
theorem k_ref01_All_58 (K : Nat) (hB : Base Try.prog tabs (fs_ref01_In K)) : PcOk Try.prog (codeAt b_ref01_All 58) (p_ref01_All_58 K K) :=
  loop_thm hB (o_ref01_All_0 K) 58 (p_ref01_All_58 K 0) (l := fun k x => ref01_All_58 K k x.1.1 x.1.2.1 x.1.2.2.1) (c := codeAt b_ref01_All 116) (by kernel_rfl) (by kernel_rfl) (by kernel_rfl) (by kernel_rfl) (fun x => by kernel_rfl) (fun k x => by kernel_rfl) K
noncomputable def c_ref01_All_58 (K : Nat) : List (Nat × Piece) := (58, p_ref01_All_58 K K) :: c_ref01_All_0 K
theorem o_ref01_All_58 (K : Nat) (hB : Base Try.prog tabs (fs_ref01_In K)) : PcsOk Try.prog b_ref01_All (c_ref01_All_58 K) := PcsOk.cons (k_ref01_All_58 K hB) (o_ref01_All_0 K)
def ref01_All (K : Nat) (x0 : Int) : Option ((Int × Unit) × Unit) :=
  (ref01_All_58 K K x0 0 0).bind fun y2 =>
    some ((y2.1.1, ()), ())
@[reducible] def p_ref01_All (K : Nat) : Piece := { slots := [(0, (.v (.int .i64)))], objs := [], outs := [{ ex := .ret, slots := [(0, (.v (.int .u32)))], objs := [] }], asg := [], nt := 20, fn := fun x => ref01_All K x.1.1 }
theorem s_ref01_All (K : Nat) (hB : Base Try.prog tabs (fs_ref01_In K)) : FnSound Try.prog 34 (p_ref01_All K) :=
  fun_thm hB (o_ref01_All_58 K hB) Try.func34 (body := b_ref01_All) rfl (p_ref01_All K) (rs := [.tmp 2]) rfl (Nat.le_of_ble_eq_true (by kernel_rfl)) (fun x => by kernel_rfl)
noncomputable def fs_ref01_All (K : Nat) : List (Nat × Piece) := (34, p_ref01_All K) :: fs_ref01_In K
theorem base_ref01_All (K : Nat) : Base Try.prog tabs (fs_ref01_All K) := ⟨(base_ref01_In K).mixed, (base_ref01_In K).tabs, FnsOk.cons (s_ref01_All K (base_ref01_In K)) (by kernel_rfl) (base_ref01_In K).fns⟩
/-! "selfstab/selfstabref18.arcs" -/
noncomputable def b_ref18_arcs : Code := codeOf Try.f35
noncomputable def c_ref18_arcs_0 (K : Nat) : List (Nat × Piece) := []
theorem o_ref18_arcs_0 (K : Nat) : PcsOk Try.prog b_ref18_arcs (c_ref18_arcs_0 K) := PcsOk.nil
def ref18_arcs_1865 (K : Nat) (x64 : Bool) : Option ((Unit × Unit) ⊕ ((Bool × Unit) × Unit)) :=
  if x64 then
    some (.inr ((false, ()), ()))
  else
    some (.inl ((), ()))
@[reducible] def p_ref18_arcs_1865 (K : Nat) : Piece := { slots := [(64, (.v .bool))], objs := [], outs := [{ ex := .normal, slots := [], objs := [] }, { ex := .ret, slots := [(6, (.v .bool))], objs := [] }], asg := [6], nt := 65, fn := fun x => ref18_arcs_1865 K x.1.1 }
theorem k_ref18_arcs_1865 (K : Nat) (hB : Base Try.prog tabs (fs_ref01_All K)) : PcOk Try.prog (codeAt b_ref18_arcs 1865) (p_ref18_arcs_1865 K) :=
  seg_thm hB (o_ref18_arcs_0 K) 1865 (p_ref18_arcs_1865 K) (by kernel_rfl) (by kernel_rfl) (by kernel_rfl) (fun x => by kernel_rfl)
noncomputable def c_ref18_arcs_1865 (K : Nat) : List (Nat × Piece) := (1865, p_ref18_arcs_1865 K) :: c_ref18_arcs_0 K
theorem o_ref18_arcs_1865 (K : Nat) (hB : Base Try.prog tabs (fs_ref01_All K)) : PcsOk Try.prog b_ref18_arcs (c_ref18_arcs_1865 K) := PcsOk.cons (k_ref18_arcs_1865 K hB) (o_ref18_arcs_0 K)
def ref18_arcs_467 (K : Nat) (x7 : Int) : Option ((Int × Unit) × Unit) :=
  some ((IntKind.i64.wrap (x7 + 1), ()), ())
@[reducible] def p_ref18_arcs_467 (K : Nat) : Piece := { slots := [(7, (.v (.int .i64)))], objs := [], outs := [{ ex := .normal, slots := [(7, (.v (.int .i64)))], objs := [] }], asg := [7, 18, 19], nt := 65, fn := fun x => ref18_arcs_467 K x.1.1 }
theorem k_ref18_arcs_467 (K : Nat) (hB : Base Try.prog tabs (fs_ref01_All K)) : PcOk Try.prog (codeAt b_ref18_arcs 467) (p_ref18_arcs_467 K) :=
  seg_thm hB (o_ref18_arcs_1865 K hB) 467 (p_ref18_arcs_467 K) (by kernel_rfl) (by kernel_rfl) (by kernel_rfl) (fun x => by kernel_rfl)
noncomputable def c_ref18_arcs_467 (K : Nat) : List (Nat × Piece) := (467, p_ref18_arcs_467 K) :: c_ref18_arcs_1865 K
theorem o_ref18_arcs_467 (K : Nat) (hB : Base Try.prog tabs (fs_ref01_All K)) : PcsOk Try.prog b_ref18_arcs (c_ref18_arcs_467 K) := PcsOk.cons (k_ref18_arcs_467 K hB) (o_ref18_arcs_1865 K hB)
def ref18_arcs_58 (K : Nat) : (k : Nat) → (x0 : (List (Int × (Int × Unit)))) → (x1 : Int) → (x2 : Int) → (x7 : Int) → Option ((Unit × Unit) ⊕ ((Bool × Unit) × Unit))
  | 0, _, _, _, _ => none
  | k + 1, x0, x1, x2, x7 =>
    if decide (x7 < (x0.length : Int)) then
      if decide (0 ≤ x7 ∧ x7 < (x0.length : Int)) then
        if decide (((x0.getD x7.toNat (0, (0, ()))).1) = 0) then
          (ref18_arcs_1865 K true).bind fun y1 =>
            match y1 with
            | .inl y2 =>
              (ref18_arcs_467 K x7).bind fun y4 =>
                ref18_arcs_58 K k x0 x1 x2 y4.1.1
            | .inr y3 =>
              some (.inr ((y3.1.1, ()), ()))
        else
          if decide (0 ≤ x7 ∧ x7 < (x0.length : Int)) then
            if !decide ((iandNot .u32 ((x0.getD x7.toNat (0, (0, ()))).1) x1) = 0) then
              (ref18_arcs_1865 K true).bind fun y5 =>
                match y5 with
                | .inl y6 =>
                  (ref18_arcs_467 K x7).bind fun y8 =>
                    ref18_arcs_58 K k x0 x1 x2 y8.1.1
                | .inr y7 =>
                  some (.inr ((y7.1.1, ()), ()))
            else
              if decide (0 < x7) then
                if decide (0 ≤ x7 ∧ x7 < (x0.length : Int)) then
                  if decide (0 ≤ IntKind.i64.wrap (x7 - 1) ∧ IntKind.i64.wrap (x7 - 1) < (x0.length : Int)) then
                    if decide (((x0.getD x7.toNat (0, (0, ()))).1) ≤ ((x0.getD ((IntKind.i64.wrap (x7 - 1)).toNat) (0, (0, ()))).1)) then
                      (ref18_arcs_1865 K true).bind fun y9 =>
                        match y9 with
                        | .inl y10 =>
                          (ref18_arcs_467 K x7).bind fun y12 =>
                            ref18_arcs_58 K k x0 x1 x2 y12.1.1
                        | .inr y11 =>
                          some (.inr ((y11.1.1, ()), ()))
                    else
                      if decide (0 ≤ x7 ∧ x7 < (x0.length : Int)) then
                        (ref01_In K (((x0.getD x7.toNat (0, (0, ()))).2).1) 0 (IntKind.i64.wrap (x2 - 1))).bind fun y13 =>
                          (ref18_arcs_1865 K (!y13.1.1)).bind fun y14 =>
                            match y14 with
                            | .inl y15 =>
                              (ref18_arcs_467 K x7).bind fun y17 =>
                                ref18_arcs_58 K k x0 x1 x2 y17.1.1
                            | .inr y16 =>
                              some (.inr ((y16.1.1, ()), ()))
                      else
                        none
                  else
                    none
                else
                  none
              else
                if decide (0 ≤ x7 ∧ x7 < (x0.length : Int)) then
                  (ref01_In K (((x0.getD x7.toNat (0, (0, ()))).2).1) 0 (IntKind.i64.wrap (x2 - 1))).bind fun y18 =>
                    (ref18_arcs_1865 K (!y18.1.1)).bind fun y19 =>
                      match y19 with
                      | .inl y20 =>
                        (ref18_arcs_467 K x7).bind fun y22 =>
                          ref18_arcs_58 K k x0 x1 x2 y22.1.1
                      | .inr y21 =>
                        some (.inr ((y21.1.1, ()), ()))
                else
                  none
          else
            none
      else
        none
    else
      some (.inl ((), ()))
@[reducible] def p_ref18_arcs_58 (K k : Nat) : Piece := { slots := [(0, (.v (.slice (.pair (.int .u32) (.pair (.int .i64) .unit))))), (1, (.v (.int .u32))), (2, (.v (.int .i64))), (7, (.v (.int .i64)))], objs := [], outs := [{ ex := (.exit 0), slots := [], objs := [] }, { ex := .ret, slots := [(6, (.v .bool))], objs := [] }], asg := [6, 7, 14, 15, 16, 17, 18, 19, 20, 21, 22, 23, 24, 25, 26, 27, 28, 29, 30, 31, 32, 33, 34, 35, 36, 37, 38, 39, 40, 41, 42, 43, 44, 45, 46, 47, 48, 49, 50, 51, 52, 53, 54, 55, 56, 57, 58, 59, 60, 61, 62, 63, 64], nt := 65, fn := fun x => ref18_arcs_58 K k x.1.1 x.1.2.1 x.1.2.2.1 x.1.2.2.2.1 }
theorem k_ref18_arcs_58 (K : Nat) (hB : Base Try.prog tabs (fs_ref01_All K)) : PcOk Try.prog (codeAt b_ref18_arcs 58) (p_ref18_arcs_58 K K) :=
  loop_thm hB (o_ref18_arcs_467 K hB) 58 (p_ref18_arcs_58 K 0) (l := fun k x => ref18_arcs_58 K k x.1.1 x.1.2.1 x.1.2.2.1 x.1.2.2.2.1) (c := codeAt b_ref18_arcs 116) (by kernel_rfl) (by kernel_rfl) (by kernel_rfl) (by kernel_rfl) (fun x => by kernel_rfl) (fun k x => by kernel_rfl) K
noncomputable def c_ref18_arcs_58 (K : Nat) : List (Nat × Piece) := (58, p_ref18_arcs_58 K K) :: c_ref18_arcs_467 K
theorem o_ref18_arcs_58 (K : Nat) (hB : Base Try.prog tabs (fs_ref01_All K)) : PcsOk Try.prog b_ref18_arcs (c_ref18_arcs_58 K) := PcsOk.cons (k_ref18_arcs_58 K hB) (o_ref18_arcs_467 K hB)
def ref18_arcs (K : Nat) (x0 : (List (Int × (Int × Unit)))) (x1 : Int) (x2 : Int) : Option ((Bool × Unit) × Unit) :=
  if !(GTy.beq .bool (decide (0 < (x0.length : Int))) (!decide (x1 = 0))) then
    some ((false, ()), ())
  else
    (ref18_arcs_58 K K x0 x1 x2 0).bind fun y4 =>
      match y4 with
      | .inl y5 =>
        some ((true, ()), ())
      | .inr y6 =>
        some ((y6.1.1, ()), ())
@[reducible] def p_ref18_arcs (K : Nat) : Piece := { slots := [(0, (.v (.slice (.pair (.int .u32) (.pair (.int .i64) .unit))))), (1, (.v (.int .u32))), (2, (.v (.int .i64)))], objs := [], outs := [{ ex := .ret, slots := [(0, (.v .bool))], objs := [] }], asg := [], nt := 65, fn := fun x => ref18_arcs K x.1.1 x.1.2.1 x.1.2.2.1 }
theorem s_ref18_arcs (K : Nat) (hB : Base Try.prog tabs (fs_ref01_All K)) : FnSound Try.prog 35 (p_ref18_arcs K) :=
  fun_thm hB (o_ref18_arcs_58 K hB) Try.func35 (body := b_ref18_arcs) rfl (p_ref18_arcs K) (rs := [.tmp 6]) rfl (Nat.le_of_ble_eq_true (by kernel_rfl)) (fun x => by kernel_rfl)
noncomputable def fs_ref18_arcs (K : Nat) : List (Nat × Piece) := (35, p_ref18_arcs K) :: fs_ref01_All K
theorem base_ref18_arcs (K : Nat) : Base Try.prog tabs (fs_ref18_arcs K) := ⟨(base_ref01_All K).mixed, (base_ref01_All K).tabs, FnsOk.cons (s_ref18_arcs K (base_ref01_All K)) (by kernel_rfl) (base_ref01_All K).fns⟩
/-! "selfstab/selfstabref18.Valid" -/
noncomputable def b_ref18_Valid : Code := codeOf Try.f25
noncomputable def c_ref18_Valid_0 (K : Nat) : List (Nat × Piece) := []
theorem o_ref18_Valid_0 (K : Nat) : PcsOk Try.prog b_ref18_Valid (c_ref18_Valid_0 K) := PcsOk.nil
def ref18_Valid_250 (K : Nat) : (k : Nat) → (x3 : Int) → (x4 : Int) → (x5 : Int) → (o0 : ((List Int) × ((List (List (Int × (Int × Unit)))) × Unit))) → Option ((Unit × Unit) ⊕ ((Bool × Unit) × Unit))
  | 0, _, _, _, _ => none
  | k + 1, x3, x4, x5, o0 =>
    if decide (x5 < x3) then
      if decide (0 ≤ x5 ∧ x5 < (o0.2.1.length : Int)) then
        if decide (262144 < (IntKind.i64.wrap (x4 + ((o0.2.1.getD x5.toNat []).length : Int)))) then
          some (.inr ((false, ()), ()))
        else
          if decide (0 ≤ x5 ∧ x5 < (o0.1.length : Int)) then
            (ref01_All K 24).bind fun y7 =>
              if !decide ((iandNot .u32 (o0.1.getD x5.toNat 0) y7.1.1) = 0) then
                some (.inr ((false, ()), ()))
              else
                if decide (0 ≤ x5 ∧ x5 < (o0.2.1.length : Int)) then
                  if decide (0 ≤ x5 ∧ x5 < (o0.1.length : Int)) then
                    (ref18_arcs K (o0.2.1.getD x5.toNat []) (o0.1.getD x5.toNat 0) x3).bind fun y8 =>
                      if !y8.1.1 then
                        some (.inr ((false, ()), ()))
                      else
                        ref18_Valid_250 K k x3 (IntKind.i64.wrap (x4 + ((o0.2.1.getD x5.toNat []).length : Int))) (IntKind.i64.wrap (x5 + 1)) o0
                  else
                    none
                else
                  none
          else
            none
      else
        none
    else
      some (.inl ((), ()))
@[reducible] def p_ref18_Valid_250 (K k : Nat) : Piece := { slots := [(1, (.ref 0 (.pair (.slice (.int .u32)) (.pair (.slice (.slice (.pair (.int .u32) (.pair (.int .i64) .unit)))) .unit)))), (3, (.v (.int .i64))), (4, (.v (.int .i64))), (5, (.v (.int .i64)))], objs := [(.box (.pair (.slice (.int .u32)) (.pair (.slice (.slice (.pair (.int .u32) (.pair (.int .i64) .unit)))) .unit)) (.v (.pair (.slice (.int .u32)) (.pair (.slice (.slice (.pair (.int .u32) (.pair (.int .i64) .unit)))) .unit))))], outs := [{ ex := (.exit 0), slots := [], objs := [] }, { ex := .ret, slots := [(2, (.v .bool))], objs := [] }], asg := [2, 4, 5, 19, 20, 21, 22, 23, 24, 25, 26, 27, 28, 29, 30, 31, 32, 33, 34, 35, 36, 37, 38, 39, 40, 41, 42, 43, 44, 45, 46, 47, 48, 49, 50, 51, 52, 53, 54, 55, 56, 57, 58], nt := 59, fn := fun x => ref18_Valid_250 K k x.1.2.1 x.1.2.2.1 x.1.2.2.2.1 x.2.1 }
theorem k_ref18_Valid_250 (K : Nat) (hB : Base Try.prog tabs (fs_ref18_arcs K)) : PcOk Try.prog (codeAt b_ref18_Valid 250) (p_ref18_Valid_250 K K) :=
  loop_thm hB (o_ref18_Valid_0 K) 250 (p_ref18_Valid_250 K 0) (l := fun k x => ref18_Valid_250 K k x.1.2.1 x.1.2.2.1 x.1.2.2.2.1 x.2.1) (c := codeAt b_ref18_Valid 500) (by kernel_rfl) (by kernel_rfl) (by kernel_rfl) (by kernel_rfl) (fun x => by kernel_rfl) (fun k x => by kernel_rfl) K
noncomputable def c_ref18_Valid_250 (K : Nat) : List (Nat × Piece) := (250, p_ref18_Valid_250 K K) :: c_ref18_Valid_0 K
theorem o_ref18_Valid_250 (K : Nat) (hB : Base Try.prog tabs (fs_ref18_arcs K)) : PcsOk Try.prog b_ref18_Valid (c_ref18_Valid_250 K) := PcsOk.cons (k_ref18_Valid_250 K hB) (o_ref18_Valid_0 K)
def ref18_Valid (K : Nat) (x0 : ((List Int) × ((List (List (Int × (Int × Unit)))) × Unit))) : Option ((Bool × Unit) × Unit) :=
  (ref01_In K (x0.1.length : Int) 1 32768).bind fun y4 =>
    if !y4.1.1 then
      some ((false, ()), ())
    else
      if !decide ((x0.2.1.length : Int) = (x0.1.length : Int)) then
        some ((false, ()), ())
      else
        (ref18_Valid_250 K K (x0.1.length : Int) 0 0 x0).bind fun y8 =>
          match y8 with
          | .inl y9 =>
            some ((true, ()), ())
          | .inr y10 =>
            some ((y10.1.1, ()), ())
@[reducible] def p_ref18_Valid (K : Nat) : Piece := { slots := [(0, (.v (.pair (.slice (.int .u32)) (.pair (.slice (.slice (.pair (.int .u32) (.pair (.int .i64) .unit)))) .unit))))], objs := [], outs := [{ ex := .ret, slots := [(0, (.v .bool))], objs := [] }], asg := [], nt := 59, fn := fun x => ref18_Valid K x.1.1 }
theorem s_ref18_Valid (K : Nat) (hB : Base Try.prog tabs (fs_ref18_arcs K)) : FnSound Try.prog 25 (p_ref18_Valid K) :=
  fun_thm hB (o_ref18_Valid_250 K hB) Try.func25 (body := b_ref18_Valid) rfl (p_ref18_Valid K) (rs := [.tmp 2]) rfl (Nat.le_of_ble_eq_true (by kernel_rfl)) (fun x => by kernel_rfl)
noncomputable def fs_ref18_Valid (K : Nat) : List (Nat × Piece) := (25, p_ref18_Valid K) :: fs_ref18_arcs K
theorem base_ref18_Valid (K : Nat) : Base Try.prog tabs (fs_ref18_Valid K) := ⟨(base_ref18_arcs K).mixed, (base_ref18_arcs K).tabs, FnsOk.cons (s_ref18_Valid K (base_ref18_arcs K)) (by kernel_rfl) (base_ref18_arcs K).fns⟩
/-! "selfstab/selfstablaw19.fair" -/
noncomputable def b_law19_fair : Code := codeOf Try.f10
noncomputable def c_law19_fair_0 (K : Nat) : List (Nat × Piece) := []
theorem o_law19_fair_0 (K : Nat) : PcsOk Try.prog b_law19_fair (c_law19_fair_0 K) := PcsOk.nil
def law19_fair (K : Nat) (x0 : ((List Int) × ((List (List (Int × (Int × Unit)))) × Unit))) (x1 : (List Bool)) : Option ((Bool × Unit) × Unit) :=
  (law19_light K x0 x1).bind fun y1 =>
    if y1.1.1 then
      (ref18_Valid K x0).bind fun y2 =>
        if y2.1.1 then
          some ((decide ((x1.length : Int) = (x0.1.length : Int)), ()), ())
        else
          some ((false, ()), ())
    else
      some ((false, ()), ())
@[reducible] def p_law19_fair (K : Nat) : Piece := { slots := [(0, (.v (.pair (.slice (.int .u32)) (.pair (.slice (.slice (.pair (.int .u32) (.pair (.int .i64) .unit)))) .unit)))), (1, (.v (.slice .bool)))], objs := [], outs := [{ ex := .ret, slots := [(0, (.v .bool))], objs := [] }], asg := [], nt := 20, fn := fun x => law19_fair K x.1.1 x.1.2.1 }
theorem s_law19_fair (K : Nat) (hB : Base Try.prog tabs (fs_ref18_Valid K)) : FnSound Try.prog 10 (p_law19_fair K) :=
  fun_thm hB (o_law19_fair_0 K) Try.func10 (body := b_law19_fair) rfl (p_law19_fair K) (rs := [.tmp 4]) rfl (Nat.le_of_ble_eq_true (by kernel_rfl)) (fun x => by kernel_rfl)
noncomputable def fs_law19_fair (K : Nat) : List (Nat × Piece) := (10, p_law19_fair K) :: fs_ref18_Valid K
theorem base_law19_fair (K : Nat) : Base Try.prog tabs (fs_law19_fair K) := ⟨(base_ref18_Valid K).mixed, (base_ref18_Valid K).tabs, FnsOk.cons (s_law19_fair K (base_ref18_Valid K)) (by kernel_rfl) (base_ref18_Valid K).fns⟩
/-! "selfstab/selfstablaw19.example" -/
noncomputable def b_law19_example : Code := codeOf Try.f26
noncomputable def c_law19_example_0 (K : Nat) : List (Nat × Piece) := []
theorem o_law19_example_0 (K : Nat) : PcsOk Try.prog b_law19_example (c_law19_example_0 K) := PcsOk.nil
def law19_example (K : Nat) : Option (((Unit × (Unit × Unit)) × Unit) × ((List Int) × ((List (List (Int × (Int × Unit)))) × Unit))) :=
  some ((((), ((), ())), ()), ([0, 2, 1, 3], ([[], [(2, (0, ()))], [(1, (0, ()))], [(1, (1, ())), (2, (2, ())), (3, (0, ()))]], ())))
@[reducible] def p_law19_example (K : Nat) : Piece := { slots := [], objs := [], outs := [{ ex := .ret, slots := [(0, (.cons (.href 0) (.cons (.href 1) (.v .unit))))], objs := [(none, (.row (.int .u32))), (none, (.row2 (.pair (.int .u32) (.pair (.int .i64) .unit))))] }], asg := [], nt := 12, fn := fun x => law19_example K }
theorem s_law19_example (K : Nat) (hB : Base Try.prog tabs (fs_law19_fair K)) : FnSound Try.prog 26 (p_law19_example K) :=
  fun_thm hB (o_law19_example_0 K) Try.func26 (body := b_law19_example) rfl (p_law19_example K) (rs := [.cell 0 25]) rfl (Nat.le_of_ble_eq_true (by kernel_rfl)) (fun x => by kernel_rfl)
noncomputable def fs_law19_example (K : Nat) : List (Nat × Piece) := (26, p_law19_example K) :: fs_law19_fair K
theorem base_law19_example (K : Nat) : Base Try.prog tabs (fs_law19_example K) := ⟨(base_law19_fair K).mixed, (base_law19_fair K).tabs, FnsOk.cons (s_law19_example K (base_law19_fair K)) (by kernel_rfl) (base_law19_fair K).fns⟩
/-! "selfstab/space.state" -/
noncomputable def b_space_state : Code := codeOf Try.f37
noncomputable def c_space_state_0 (K : Nat) : List (Nat × Piece) := []
theorem o_space_state_0 (K : Nat) : PcsOk Try.prog b_space_state (c_space_state_0 K) := PcsOk.nil
def space_state_58 (K : Nat) : (k : Nat) → (x0 : Int) → (x2 : Int) → (x7 : Int) → (x10 : (List (Int × (Int × Unit)))) → (x11 : Int) → (x12 : Int) → Option ((Unit × Unit) ⊕ ((Bool × Unit) × Unit))
  | 0, _, _, _, _, _, _ => none
  | k + 1, x0, x2, x7, x10, x11, x12 =>
    if decide (x12 < x11) then
      if decide (0 ≤ x12 ∧ x12 < (x10.length : Int)) then
        if decide (((x10.getD x12.toNat (0, (0, ()))).1) ≤ x7) then
          some (.inr ((false, ()), ()))
        else
          if !decide ((iandNot .u32 ((x10.getD x12.toNat (0, (0, ()))).1) x0) = 0) then
            some (.inr ((false, ()), ()))
          else
            if decide ((((x10.getD x12.toNat (0, (0, ()))).2).1) < 0) then
              some (.inr ((false, ()), ()))
            else
              if decide (x2 ≤ (((x10.getD x12.toNat (0, (0, ()))).2).1)) then
                some (.inr ((false, ()), ()))
              else
                space_state_58 K k x0 x2 ((x10.getD x12.toNat (0, (0, ()))).1) x10 x11 (IntKind.i64.wrap (x12 + 1))
      else
        none
    else
      some (.inl ((), ()))
@[reducible] def p_space_state_58 (K k : Nat) : Piece := { slots := [(0, (.v (.int .u32))), (2, (.v (.int .i64))), (7, (.v (.int .u32))), (10, (.v (.slice (.pair (.int .u32) (.pair (.int .i64) .unit))))), (11, (.v (.int .i64))), (12, (.v (.int .i64)))], objs := [], outs := [{ ex := (.exit 0), slots := [], objs := [] }, { ex := .ret, slots := [(6, (.v .bool))], objs := [] }], asg := [6, 7, 9, 12, 13, 14, 15, 16, 17, 18, 19, 20, 21, 22, 23, 24, 25, 26, 27, 28, 29, 30, 31, 32, 33, 34, 35, 36, 37, 38, 39, 40], nt := 52, fn := fun x => space_state_58 K k x.1.1 x.1.2.1 x.1.2.2.1 x.1.2.2.2.1 x.1.2.2.2.2.1 x.1.2.2.2.2.2.1 }
theorem k_space_state_58 (K : Nat) (hB : Base Try.prog tabs (fs_law19_example K)) : PcOk Try.prog (codeAt b_space_state 58) (p_space_state_58 K K) :=
  loop_thm hB (o_space_state_0 K) 58 (p_space_state_58 K 0) (l := fun k x => space_state_58 K k x.1.1 x.1.2.1 x.1.2.2.1 x.1.2.2.2.1 x.1.2.2.2.2.1 x.1.2.2.2.2.2.1) (c := codeAt b_space_state 116) (by kernel_rfl) (by kernel_rfl) (by kernel_rfl) (by kernel_rfl) (fun x => by kernel_rfl) (fun k x => by kernel_rfl) K
noncomputable def c_space_state_58 (K : Nat) : List (Nat × Piece) := (58, p_space_state_58 K K) :: c_space_state_0 K
theorem o_space_state_58 (K : Nat) (hB : Base Try.prog tabs (fs_law19_example K)) : PcsOk Try.prog b_space_state (c_space_state_58 K) := PcsOk.cons (k_space_state_58 K hB) (o_space_state_0 K)
def space_state (K : Nat) (x0 : Int) (x1 : (List (Int × (Int × Unit)))) (x2 : Int) : Option ((Bool × Unit) × Unit) :=
  (space_state_58 K K x0 x2 0 x1 (x1.length : Int) 0).bind fun y4 =>
    match y4 with
    | .inl y5 =>
      if decide ((ishr .u32 x0 24) = 0) then
        some ((GTy.beq .bool (decide (0 < (x1.length : Int))) (!decide (x0 = 0)), ()), ())
      else
        some ((false, ()), ())
    | .inr y6 =>
      some ((y6.1.1, ()), ())
@[reducible] def p_space_state (K : Nat) : Piece := { slots := [(0, (.v (.int .u32))), (1, (.v (.slice (.pair (.int .u32) (.pair (.int .i64) .unit))))), (2, (.v (.int .i64)))], objs := [], outs := [{ ex := .ret, slots := [(0, (.v .bool))], objs := [] }], asg := [], nt := 52, fn := fun x => space_state K x.1.1 x.1.2.1 x.1.2.2.1 }
theorem s_space_state (K : Nat) (hB : Base Try.prog tabs (fs_law19_example K)) : FnSound Try.prog 37 (p_space_state K) :=
  fun_thm hB (o_space_state_58 K hB) Try.func37 (body := b_space_state) rfl (p_space_state K) (rs := [.tmp 6]) rfl (Nat.le_of_ble_eq_true (by kernel_rfl)) (fun x => by kernel_rfl)
noncomputable def fs_space_state (K : Nat) : List (Nat × Piece) := (37, p_space_state K) :: fs_law19_example K
theorem base_space_state (K : Nat) : Base Try.prog tabs (fs_space_state K) := ⟨(base_law19_example K).mixed, (base_law19_example K).tabs, FnsOk.cons (s_space_state K (base_law19_example K)) (by kernel_rfl) (base_law19_example K).fns⟩
/-! "selfstab/space.Valid" -/
noncomputable def b_space_Valid : Code := codeOf Try.f36
noncomputable def c_space_Valid_0 (K : Nat) : List (Nat × Piece) := []
theorem o_space_Valid_0 (K : Nat) : PcsOk Try.prog b_space_Valid (c_space_Valid_0 K) := PcsOk.nil
def space_Valid_122 (K : Nat) : (k : Nat) → (x3 : Int) → (x4 : Int) → (x24 : (List (List (Int × (Int × Unit))))) → (x25 : Int) → (x26 : Int) → (o0 : ((List Int) × ((List (List (Int × (Int × Unit)))) × Unit))) → Option ((Unit × Unit) ⊕ ((Bool × Unit) × Unit))
  | 0, _, _, _, _, _, _ => none
  | k + 1, x3, x4, x24, x25, x26, o0 =>
    if decide (x26 < x25) then
      if decide (0 ≤ x26 ∧ x26 < (x24.length : Int)) then
        if decide (262144 < (IntKind.i64.wrap (x4 + ((x24.getD x26.toNat []).length : Int)))) then
          some (.inr ((false, ()), ()))
        else
          if decide (0 ≤ x26 ∧ x26 < (o0.1.length : Int)) then
            (space_state K (o0.1.getD x26.toNat 0) (x24.getD x26.toNat []) x3).bind fun y4 =>
              if !y4.1.1 then
                some (.inr ((false, ()), ()))
              else
                space_Valid_122 K k x3 (IntKind.i64.wrap (x4 + ((x24.getD x26.toNat []).length : Int))) x24 x25 (IntKind.i64.wrap (x26 + 1)) o0
          else
            none
      else
        none
    else
      some (.inl ((), ()))
@[reducible] def p_space_Valid_122 (K k : Nat) : Piece := { slots := [(1, (.ref 0 (.pair (.slice (.int .u32)) (.pair (.slice (.slice (.pair (.int .u32) (.pair (.int .i64) .unit)))) .unit)))), (3, (.v (.int .i64))), (4, (.v (.int .i64))), (24, (.v (.slice (.slice (.pair (.int .u32) (.pair (.int .i64) .unit)))))), (25, (.v (.int .i64))), (26, (.v (.int .i64)))], objs := [(.box (.pair (.slice (.int .u32)) (.pair (.slice (.slice (.pair (.int .u32) (.pair (.int .i64) .unit)))) .unit)) (.v (.pair (.slice (.int .u32)) (.pair (.slice (.slice (.pair (.int .u32) (.pair (.int .i64) .unit)))) .unit))))], outs := [{ ex := (.exit 0), slots := [], objs := [] }, { ex := .ret, slots := [(2, (.v .bool))], objs := [] }], asg := [2, 4, 5, 6, 26, 27, 28, 29, 30, 31, 32, 33, 34, 35, 36, 37, 38, 39, 40, 41, 42, 43, 44, 45, 46, 47, 48], nt := 49, fn := fun x => space_Valid_122 K k x.1.2.1 x.1.2.2.1 x.1.2.2.2.1 x.1.2.2.2.2.1 x.1.2.2.2.2.2.1 x.2.1 }
theorem k_space_Valid_122 (K : Nat) (hB : Base Try.prog tabs (fs_space_state K)) : PcOk Try.prog (codeAt b_space_Valid 122) (p_space_Valid_122 K K) :=
  loop_thm hB (o_space_Valid_0 K) 122 (p_space_Valid_122 K 0) (l := fun k x => space_Valid_122 K k x.1.2.1 x.1.2.2.1 x.1.2.2.2.1 x.1.2.2.2.2.1 x.1.2.2.2.2.2.1 x.2.1) (c := codeAt b_space_Valid 244) (by kernel_rfl) (by kernel_rfl) (by kernel_rfl) (by kernel_rfl) (fun x => by kernel_rfl) (fun k x => by kernel_rfl) K
noncomputable def c_space_Valid_122 (K : Nat) : List (Nat × Piece) := (122, p_space_Valid_122 K K) :: c_space_Valid_0 K
theorem o_space_Valid_122 (K : Nat) (hB : Base Try.prog tabs (fs_space_state K)) : PcsOk Try.prog b_space_Valid (c_space_Valid_122 K) := PcsOk.cons (k_space_Valid_122 K hB) (o_space_Valid_0 K)
def space_Valid (K : Nat) (x0 : ((List Int) × ((List (List (Int × (Int × Unit)))) × Unit))) : Option ((Bool × Unit) × Unit) :=
  if decide ((x0.1.length : Int) < 1) then
    some ((false, ()), ())
  else
    if decide (32768 < (x0.1.length : Int)) then
      some ((false, ()), ())
    else
      if !decide ((x0.2.1.length : Int) = (x0.1.length : Int)) then
        some ((false, ()), ())
      else
        (space_Valid_122 K K (x0.1.length : Int) 0 x0.2.1 (x0.2.1.length : Int) 0 x0).bind fun y4 =>
          match y4 with
          | .inl y5 =>
            some ((true, ()), ())
          | .inr y6 =>
            some ((y6.1.1, ()), ())
@[reducible] def p_space_Valid (K : Nat) : Piece := { slots := [(0, (.v (.pair (.slice (.int .u32)) (.pair (.slice (.slice (.pair (.int .u32) (.pair (.int .i64) .unit)))) .unit))))], objs := [], outs := [{ ex := .ret, slots := [(0, (.v .bool))], objs := [] }], asg := [], nt := 49, fn := fun x => space_Valid K x.1.1 }
theorem s_space_Valid (K : Nat) (hB : Base Try.prog tabs (fs_space_state K)) : FnSound Try.prog 36 (p_space_Valid K) :=
  fun_thm hB (o_space_Valid_122 K hB) Try.func36 (body := b_space_Valid) rfl (p_space_Valid K) (rs := [.tmp 2]) rfl (Nat.le_of_ble_eq_true (by kernel_rfl)) (fun x => by kernel_rfl)
noncomputable def fs_space_Valid (K : Nat) : List (Nat × Piece) := (36, p_space_Valid K) :: fs_space_state K
theorem base_space_Valid (K : Nat) : Base Try.prog tabs (fs_space_Valid K) := ⟨(base_space_state K).mixed, (base_space_state K).tabs, FnsOk.cons (s_space_Valid K (base_space_state K)) (by kernel_rfl) (base_space_state K).fns⟩
/-! "selfstab/converge.check" -/
noncomputable def b_converge_check : Code := codeOf Try.f27
noncomputable def c_converge_check_0 (K : Nat) : List (Nat × Piece) := []
theorem o_converge_check_0 (K : Nat) : PcsOk Try.prog b_converge_check (c_converge_check_0 K) := PcsOk.nil
def converge_check (K : Nat) (x0 : ((List Int) × ((List (List (Int × (Int × Unit)))) × Unit))) (x1 : (List Bool)) : Option ((Int × Unit) × Unit) :=
  (space_Valid K x0).bind fun y4 =>
    if !y4.1.1 then
      some ((13, ()), ())
    else
      if !decide ((x1.length : Int) = (x0.2.1.length : Int)) then
        some ((7, ()), ())
      else
        some ((0, ()), ())
@[reducible] def p_converge_check (K : Nat) : Piece := { slots := [(0, (.v (.pair (.slice (.int .u32)) (.pair (.slice (.slice (.pair (.int .u32) (.pair (.int .i64) .unit)))) .unit)))), (1, (.v (.slice .bool)))], objs := [], outs := [{ ex := .ret, slots := [(0, (.v (.int .i64)))], objs := [] }], asg := [], nt := 14, fn := fun x => converge_check K x.1.1 x.1.2.1 }
theorem s_converge_check (K : Nat) (hB : Base Try.prog tabs (fs_space_Valid K)) : FnSound Try.prog 27 (p_converge_check K) :=
  fun_thm hB (o_converge_check_0 K) Try.func27 (body := b_converge_check) rfl (p_converge_check K) (rs := [.tmp 4]) rfl (Nat.le_of_ble_eq_true (by kernel_rfl)) (fun x => by kernel_rfl)
noncomputable def fs_converge_check (K : Nat) : List (Nat × Piece) := (27, p_converge_check K) :: fs_space_Valid K
theorem base_converge_check (K : Nat) : Base Try.prog tabs (fs_converge_check K) := ⟨(base_space_Valid K).mixed, (base_space_Valid K).tabs, FnsOk.cons (s_converge_check K (base_space_Valid K)) (by kernel_rfl) (base_space_Valid K).fns⟩
/-! "selfstab/converge.attractor" -/
noncomputable def b_converge_attractor : Code := codeOf Try.f28
noncomputable def c_converge_attractor_0 (K : Nat) : List (Nat × Piece) := []
theorem o_converge_attractor_0 (K : Nat) : PcsOk Try.prog b_converge_attractor (c_converge_attractor_0 K) := PcsOk.nil
def converge_attractor_518554 (K : Nat) : (k : Nat) → (x9 : Int) → (x38 : (List (Int × (Int × Unit)))) → (x39 : Int) → (x40 : Int) → (o0 : (List (List Int))) → Option (Unit × ((List (List Int)) × Unit))
  | 0, _, _, _, _, _ => none
  | k + 1, x9, x38, x39, x40, o0 =>
    if decide (x40 < x39) then
      if decide (0 ≤ x40 ∧ x40 < (x38.length : Int)) then
        if decide (0 ≤ ((x38.getD x40.toNat (0, (0, ()))).2).1 ∧ ((x38.getD x40.toNat (0, (0, ()))).2).1 < (o0.length : Int)) then
          if decide ((o0.getD ((((x38.getD x40.toNat (0, (0, ()))).2).1).toNat) []).length + ([x9]).length ≤ 4294967296) then
            if decide (0 ≤ ((x38.getD x40.toNat (0, (0, ()))).2).1 ∧ ((x38.getD x40.toNat (0, (0, ()))).2).1 < (o0.length : Int)) then
              if decide ((((x38.getD x40.toNat (0, (0, ()))).2).1).toNat = (((x38.getD x40.toNat (0, (0, ()))).2).1).toNat) then
                converge_attractor_518554 K k x9 x38 x39 (IntKind.i64.wrap (x40 + 1)) (o0.set ((((x38.getD x40.toNat (0, (0, ()))).2).1).toNat) (o0.getD ((((x38.getD x40.toNat (0, (0, ()))).2).1).toNat) [] ++ [x9]))
              else
                none
            else
              none
          else
            none
        else
          none
      else
        none
    else
      some ((), (o0, ()))
@[reducible] def p_converge_attractor_518554 (K k : Nat) : Piece := { slots := [(7, (.href 0)), (9, (.v (.int .i64))), (38, (.v (.slice (.pair (.int .u32) (.pair (.int .i64) .unit))))), (39, (.v (.int .i64))), (40, (.v (.int .i64)))], objs := [(.row2 (.int .i64))], outs := [{ ex := (.exit 2), slots := [], objs := [(some 0, (.row2 (.int .i64)))] }], asg := [12, 40, 41, 42, 43, 44, 45, 46, 47, 48, 49, 50, 51, 52, 53, 54, 55, 56], nt := 119, fn := fun x => converge_attractor_518554 K k x.1.2.1 x.1.2.2.1 x.1.2.2.2.1 x.1.2.2.2.2.1 x.2.1 }
theorem k_converge_attractor_518554 (K : Nat) (hB : Base Try.prog tabs (fs_converge_check K)) : PcOk Try.prog (codeAt b_converge_attractor 518554) (p_converge_attractor_518554 K K) :=
  loop_thm hB (o_converge_attractor_0 K) 518554 (p_converge_attractor_518554 K 0) (l := fun k x => converge_attractor_518554 K k x.1.2.1 x.1.2.2.1 x.1.2.2.2.1 x.1.2.2.2.2.1 x.2.1) (c := codeAt b_converge_attractor 1037108) (by kernel_rfl) (by kernel_rfl) (by kernel_rfl) (by kernel_rfl) (fun x => by kernel_rfl) (fun k x => by kernel_rfl) K
noncomputable def c_converge_attractor_518554 (K : Nat) : List (Nat × Piece) := (518554, p_converge_attractor_518554 K K) :: c_converge_attractor_0 K
theorem o_converge_attractor_518554 (K : Nat) (hB : Base Try.prog tabs (fs_converge_check K)) : PcsOk Try.prog b_converge_attractor (c_converge_attractor_518554 K) := PcsOk.cons (k_converge_attractor_518554 K hB) (o_converge_attractor_0 K)
def converge_attractor_506 (K : Nat) : (k : Nat) → (x1 : (List Bool)) → (x26 : (List (List (Int × (Int × Unit))))) → (x27 : Int) → (x28 : Int) → (o0 : (List Bool)) → (o1 : (List Int)) → (o2 : (List (List Int))) → (o3 : (List Int)) → Option ((Unit × Unit) × ((List Int) × ((List Bool) × ((List Int) × ((List (List Int)) × Unit)))))
  | 0, _, _, _, _, _, _, _, _ => none
  | k + 1, x1, x26, x27, x28, o0, o1, o2, o3 =>
    if decide (x28 < x27) then
      if decide (0 ≤ x28 ∧ x28 < (x26.length : Int)) then
        if decide (0 ≤ x28 ∧ x28 < (o1.length : Int)) then
          (converge_attractor_518554 K K x28 (x26.getD x28.toNat []) ((x26.getD x28.toNat []).length : Int) 0 o2).bind fun y4 =>
            if decide (0 ≤ x28 ∧ x28 < (x1.length : Int)) then
              if x1.getD x28.toNat false then
                if decide (o3.length + ([x28]).length ≤ 4294967296) then
                  if decide (0 ≤ x28 ∧ x28 < (o0.length : Int)) then
                    converge_attractor_506 K k x1 x26 x27 (IntKind.i64.wrap (x28 + 1)) (o0.set x28.toNat true) (o1.set x28.toNat ((x26.getD x28.toNat []).length : Int)) y4.2.1 (o3 ++ [x28])
                  else
                    none
                else
                  none
              else
                converge_attractor_506 K k x1 x26 x27 (IntKind.i64.wrap (x28 + 1)) o0 (o1.set x28.toNat ((x26.getD x28.toNat []).length : Int)) y4.2.1 o3
            else
              none
        else
          none
      else
        none
    else
      some (((), ()), (o3, (o0, (o1, (o2, ())))))
@[reducible] def p_converge_attractor_506 (K k : Nat) : Piece := { slots := [(1, (.v (.slice .bool))), (5, (.href 0)), (6, (.href 1)), (7, (.href 2)), (8, (.href 3)), (26, (.v (.slice (.slice (.pair (.int .u32) (.pair (.int .i64) .unit)))))), (27, (.v (.int .i64))), (28, (.v (.int .i64)))], objs := [(.row .bool), (.row (.int .i64)), (.row2 (.int .i64)), (.row (.int .i64))], outs := [{ ex := (.exit 0), slots := [(8, (.href 0))], objs := [(none, (.row (.int .i64))), (some 0, (.row .bool)), (some 1, (.row (.int .i64))), (some 2, (.row2 (.int .i64)))] }], asg := [8, 9, 10, 12, 28, 29, 30, 31, 32, 33, 34, 35, 36, 37, 38, 39, 40, 41, 42, 43, 44, 45, 46, 47, 48, 49, 50, 51, 52, 53, 54, 55, 56, 57, 58, 59, 60, 61, 62, 63, 64, 65, 66, 67, 68], nt := 119, fn := fun x => converge_attractor_506 K k x.1.1 x.1.2.2.2.2.2.1 x.1.2.2.2.2.2.2.1 x.1.2.2.2.2.2.2.2.1 x.2.1 x.2.2.1 x.2.2.2.1 x.2.2.2.2.1 }
theorem k_converge_attractor_506 (K : Nat) (hB : Base Try.prog tabs (fs_converge_check K)) : PcOk Try.prog (codeAt b_converge_attractor 506) (p_converge_attractor_506 K K) :=
  loop_thm hB (o_converge_attractor_518554 K hB) 506 (p_converge_attractor_506 K 0) (l := fun k x => converge_attractor_506 K k x.1.1 x.1.2.2.2.2.2.1 x.1.2.2.2.2.2.2.1 x.1.2.2.2.2.2.2.2.1 x.2.1 x.2.2.1 x.2.2.2.1 x.2.2.2.2.1) (c := codeAt b_converge_attractor 1012) (by kernel_rfl) (by kernel_rfl) (by kernel_rfl) (by kernel_rfl) (fun x => by kernel_rfl) (fun k x => by kernel_rfl) K
noncomputable def c_converge_attractor_506 (K : Nat) : List (Nat × Piece) := (506, p_converge_attractor_506 K K) :: c_converge_attractor_518554 K
theorem o_converge_attractor_506 (K : Nat) (hB : Base Try.prog tabs (fs_converge_check K)) : PcsOk Try.prog b_converge_attractor (c_converge_attractor_506 K) := PcsOk.cons (k_converge_attractor_506 K hB) (o_converge_attractor_518554 K hB)
def converge_attractor_16658023 (K : Nat) (x15 : Int) (x109 : Bool) (o0 : (List Bool)) (o1 : (List Int)) : Option ((Unit × Unit) × ((List Int) × ((List Bool) × Unit))) :=
  if x109 then
    if decide (o1.length + ([x15]).length ≤ 4294967296) then
      if decide (0 ≤ x15 ∧ x15 < (o0.length : Int)) then
        some (((), ()), ((o1 ++ [x15]), (o0.set x15.toNat true, ())))
      else
        none
    else
      none
  else
    some (((), ()), (o1, (o0, ())))
@[reducible] def p_converge_attractor_16658023 (K : Nat) : Piece := { slots := [(5, (.href 0)), (8, (.href 1)), (15, (.v (.int .i64))), (109, (.v .bool))], objs := [(.row .bool), (.row (.int .i64))], outs := [{ ex := .normal, slots := [(8, (.href 0))], objs := [(none, (.row (.int .i64))), (some 0, (.row .bool))] }], asg := [8, 110, 111, 112, 113, 114, 115, 116], nt := 119, fn := fun x => converge_attractor_16658023 K x.1.2.2.1 x.1.2.2.2.1 x.2.1 x.2.2.1 }
theorem k_converge_attractor_16658023 (K : Nat) (hB : Base Try.prog tabs (fs_converge_check K)) : PcOk Try.prog (codeAt b_converge_attractor 16658023) (p_converge_attractor_16658023 K) :=
  seg_thm hB (o_converge_attractor_506 K hB) 16658023 (p_converge_attractor_16658023 K) (by kernel_rfl) (by kernel_rfl) (by kernel_rfl) (fun x => by kernel_rfl)
noncomputable def c_converge_attractor_16658023 (K : Nat) : List (Nat × Piece) := (16658023, p_converge_attractor_16658023 K) :: c_converge_attractor_506 K
theorem o_converge_attractor_16658023 (K : Nat) (hB : Base Try.prog tabs (fs_converge_check K)) : PcsOk Try.prog b_converge_attractor (c_converge_attractor_16658023 K) := PcsOk.cons (k_converge_attractor_16658023 K hB) (o_converge_attractor_506 K hB)
def converge_attractor_65070 (K : Nat) : (k : Nat) → (x86 : (List Int)) → (x87 : Int) → (x88 : Int) → (o0 : (List Bool)) → (o1 : (List Int)) → (o2 : (List Int)) → Option ((Unit × Unit) × ((List Int) × ((List Bool) × ((List Int) × Unit))))
  | 0, _, _, _, _, _, _ => none
  | k + 1, x86, x87, x88, o0, o1, o2 =>
    if decide (x88 < x87) then
      if decide (0 ≤ x88 ∧ x88 < (x86.length : Int)) then
        if decide (0 ≤ x86.getD x88.toNat 0 ∧ x86.getD x88.toNat 0 < (o1.length : Int)) then
          if decide (0 ≤ x86.getD x88.toNat 0 ∧ x86.getD x88.toNat 0 < (o1.length : Int)) then
            if decide (0 ≤ x86.getD x88.toNat 0 ∧ x86.getD x88.toNat 0 < ((o1.set ((x86.getD x88.toNat 0).toNat) (IntKind.i64.wrap ((o1.getD ((x86.getD x88.toNat 0).toNat) 0) - 1))).length : Int)) then
              if decide (((o1.set ((x86.getD x88.toNat 0).toNat) (IntKind.i64.wrap ((o1.getD ((x86.getD x88.toNat 0).toNat) 0) - 1))).getD ((x86.getD x88.toNat 0).toNat) 0) = 0) then
                if decide (0 ≤ x86.getD x88.toNat 0 ∧ x86.getD x88.toNat 0 < (o0.length : Int)) then
                  (converge_attractor_16658023 K (x86.getD x88.toNat 0) (!(o0.getD ((x86.getD x88.toNat 0).toNat) false)) o0 o2).bind fun y3 =>
                    converge_attractor_65070 K k x86 x87 (IntKind.i64.wrap (x88 + 1)) y3.2.2.1 (o1.set ((x86.getD x88.toNat 0).toNat) (IntKind.i64.wrap ((o1.getD ((x86.getD x88.toNat 0).toNat) 0) - 1))) y3.2.1
                else
                  none
              else
                (converge_attractor_16658023 K (x86.getD x88.toNat 0) false o0 o2).bind fun y4 =>
                  converge_attractor_65070 K k x86 x87 (IntKind.i64.wrap (x88 + 1)) y4.2.2.1 (o1.set ((x86.getD x88.toNat 0).toNat) (IntKind.i64.wrap ((o1.getD ((x86.getD x88.toNat 0).toNat) 0) - 1))) y4.2.1
            else
              none
          else
            none
        else
          none
      else
        none
    else
      some (((), ()), (o2, (o0, (o1, ()))))
@[reducible] def p_converge_attractor_65070 (K k : Nat) : Piece := { slots := [(5, (.href 0)), (6, (.href 1)), (8, (.href 2)), (86, (.v (.slice (.int .i64)))), (87, (.v (.int .i64))), (88, (.v (.int .i64)))], objs := [(.row .bool), (.row (.int .i64)), (.row (.int .i64))], outs := [{ ex := (.exit 6), slots := [(8, (.href 0))], objs := [(none, (.row (.int .i64))), (some 0, (.row .bool)), (some 1, (.row (.int .i64)))] }], asg := [8, 15, 88, 89, 90, 91, 92, 93, 94, 95, 96, 97, 98, 99, 100, 101, 102, 103, 104, 105, 106, 107, 108, 109, 110, 111, 112, 113, 114, 115, 116, 117], nt := 119, fn := fun x => converge_attractor_65070 K k x.1.2.2.2.1 x.1.2.2.2.2.1 x.1.2.2.2.2.2.1 x.2.1 x.2.2.1 x.2.2.2.1 }
theorem k_converge_attractor_65070 (K : Nat) (hB : Base Try.prog tabs (fs_converge_check K)) : PcOk Try.prog (codeAt b_converge_attractor 65070) (p_converge_attractor_65070 K K) :=
  loop_thm hB (o_converge_attractor_16658023 K hB) 65070 (p_converge_attractor_65070 K 0) (l := fun k x => converge_attractor_65070 K k x.1.2.2.2.1 x.1.2.2.2.2.1 x.1.2.2.2.2.2.1 x.2.1 x.2.2.1 x.2.2.2.1) (c := codeAt b_converge_attractor 130140) (by kernel_rfl) (by kernel_rfl) (by kernel_rfl) (by kernel_rfl) (fun x => by kernel_rfl) (fun k x => by kernel_rfl) K
noncomputable def c_converge_attractor_65070 (K : Nat) : List (Nat × Piece) := (65070, p_converge_attractor_65070 K K) :: c_converge_attractor_16658023 K
theorem o_converge_attractor_65070 (K : Nat) (hB : Base Try.prog tabs (fs_converge_check K)) : PcsOk Try.prog b_converge_attractor (c_converge_attractor_65070 K) := PcsOk.cons (k_converge_attractor_65070 K hB) (o_converge_attractor_16658023 K hB)
def converge_attractor_508 (K : Nat) : (k : Nat) → (x7 : (List (List Int))) → (o0 : (List Bool)) → (o1 : (List Int)) → (o2 : (List Int)) → Option (Unit × ((List Bool) × Unit))
  | 0, _, _, _, _ => none
  | k + 1, x7, o0, o1, o2 =>
    if decide (0 < (o2.length : Int)) then
      if decide (0 ≤ IntKind.i64.wrap ((o2.length : Int) - 1) ∧ IntKind.i64.wrap ((o2.length : Int) - 1) < (o2.length : Int)) then
        if decide (0 ≤ IntKind.i64.wrap ((o2.length : Int) - 1) ∧ IntKind.i64.wrap ((o2.length : Int) - 1) ≤ (o2.length : Int)) then
          if decide (0 ≤ o2.getD ((IntKind.i64.wrap ((o2.length : Int) - 1)).toNat) 0 ∧ o2.getD ((IntKind.i64.wrap ((o2.length : Int) - 1)).toNat) 0 < (x7.length : Int)) then
            (converge_attractor_65070 K K (x7.getD ((o2.getD ((IntKind.i64.wrap ((o2.length : Int) - 1)).toNat) 0).toNat) []) ((x7.getD ((o2.getD ((IntKind.i64.wrap ((o2.length : Int) - 1)).toNat) 0).toNat) []).length : Int) 0 o0 o1 (o2.take ((IntKind.i64.wrap ((o2.length : Int) - 1)).toNat))).bind fun y1 =>
              converge_attractor_508 K k x7 y1.2.2.1 y1.2.2.2.1 y1.2.1
          else
            none
        else
          none
      else
        none
    else
      some ((), (o0, ()))
@[reducible] def p_converge_attractor_508 (K k : Nat) : Piece := { slots := [(5, (.href 0)), (6, (.href 1)), (7, (.v (.slice (.slice (.int .i64))))), (8, (.href 2))], objs := [(.row .bool), (.row (.int .i64)), (.row (.int .i64))], outs := [{ ex := (.exit 4), slots := [], objs := [(some 0, (.row .bool))] }], asg := [8, 13, 15, 69, 70, 71, 72, 73, 74, 75, 76, 77, 78, 79, 80, 81, 82, 83, 84, 85, 86, 87, 88, 89, 90, 91, 92, 93, 94, 95, 96, 97, 98, 99, 100, 101, 102, 103, 104, 105, 106, 107, 108, 109, 110, 111, 112, 113, 114, 115, 116, 117], nt := 119, fn := fun x => converge_attractor_508 K k x.1.2.2.1 x.2.1 x.2.2.1 x.2.2.2.1 }
theorem k_converge_attractor_508 (K : Nat) (hB : Base Try.prog tabs (fs_converge_check K)) : PcOk Try.prog (codeAt b_converge_attractor 508) (p_converge_attractor_508 K K) :=
  loop_thm hB (o_converge_attractor_65070 K hB) 508 (p_converge_attractor_508 K 0) (l := fun k x => converge_attractor_508 K k x.1.2.2.1 x.2.1 x.2.2.1 x.2.2.2.1) (c := codeAt b_converge_attractor 1016) (by kernel_rfl) (by kernel_rfl) (by kernel_rfl) (by kernel_rfl) (fun x => by kernel_rfl) (fun k x => by kernel_rfl) K
noncomputable def c_converge_attractor_508 (K : Nat) : List (Nat × Piece) := (508, p_converge_attractor_508 K K) :: c_converge_attractor_65070 K
theorem o_converge_attractor_508 (K : Nat) (hB : Base Try.prog tabs (fs_converge_check K)) : PcsOk Try.prog b_converge_attractor (c_converge_attractor_508 K) := PcsOk.cons (k_converge_attractor_508 K hB) (o_converge_attractor_65070 K hB)
def converge_attractor (K : Nat) (x0 : ((List Int) × ((List (List (Int × (Int × Unit)))) × Unit))) (x1 : (List Bool)) : Option ((Unit × Unit) × ((List Bool) × Unit)) :=
  if decide (0 ≤ (x1.length : Int) ∧ (x1.length : Int) ≤ (x1.length : Int) ∧ (x1.length : Int) ≤ 4294967296) then
    if decide (0 ≤ (x1.length : Int) ∧ (x1.length : Int) ≤ (x1.length : Int) ∧ (x1.length : Int) ≤ 4294967296) then
      if decide (0 ≤ (x1.length : Int) ∧ (x1.length : Int) ≤ (x1.length : Int) ∧ (x1.length : Int) ≤ 4294967296) then
        (converge_attractor_506 K K x1 x0.2.1 (x0.2.1.length : Int) 0 (List.replicate (x1.length : Int).toNat false) (List.replicate (x1.length : Int).toNat 0) (List.replicate (x1.length : Int).toNat []) []).bind fun y2 =>
          (converge_attractor_508 K K y2.2.2.2.2.1 y2.2.2.1 y2.2.2.2.1 y2.2.1).bind fun y4 =>
            some (((), ()), (y4.2.1, ()))
      else
        none
    else
      none
  else
    none
@[reducible] def p_converge_attractor (K : Nat) : Piece := { slots := [(0, (.v (.pair (.slice (.int .u32)) (.pair (.slice (.slice (.pair (.int .u32) (.pair (.int .i64) .unit)))) .unit)))), (1, (.v (.slice .bool)))], objs := [], outs := [{ ex := .ret, slots := [(0, (.href 0))], objs := [(none, (.row .bool))] }], asg := [], nt := 119, fn := fun x => converge_attractor K x.1.1 x.1.2.1 }
theorem s_converge_attractor (K : Nat) (hB : Base Try.prog tabs (fs_converge_check K)) : FnSound Try.prog 28 (p_converge_attractor K) :=
  fun_thm hB (o_converge_attractor_508 K hB) Try.func28 (body := b_converge_attractor) rfl (p_converge_attractor K) (rs := [.tmp 4]) rfl (Nat.le_of_ble_eq_true (by kernel_rfl)) (fun x => by kernel_rfl)
noncomputable def fs_converge_attractor (K : Nat) : List (Nat × Piece) := (28, p_converge_attractor K) :: fs_converge_check K
theorem base_converge_attractor (K : Nat) : Base Try.prog tabs (fs_converge_attractor K) := ⟨(base_converge_check K).mixed, (base_converge_check K).tabs, FnsOk.cons (s_converge_attractor K (base_converge_check K)) (by kernel_rfl) (base_converge_check K).fns⟩
/-! "selfstab/converge.Attractor" -/
noncomputable def b_converge_Attractor : Code := codeOf Try.f12
noncomputable def c_converge_Attractor_0 (K : Nat) : List (Nat × Piece) := []
theorem o_converge_Attractor_0 (K : Nat) : PcsOk Try.prog b_converge_Attractor (c_converge_Attractor_0 K) := PcsOk.nil
def converge_Attractor (K : Nat) (x0 : ((List Int) × ((List (List (Int × (Int × Unit)))) × Unit))) (x1 : (List Bool)) : Option (((Unit × (Int × Unit)) × Unit) × ((List Bool) × Unit)) :=
  (converge_check K x0 x1).bind fun y4 =>
    if !decide (y4.1.1 = 0) then
      some ((((), (y4.1.1, ())), ()), ([], ()))
    else
      (converge_attractor K x0 x1).bind fun y5 =>
        some ((((), (0, ())), ()), (y5.2.1, ()))
@[reducible] def p_converge_Attractor (K : Nat) : Piece := { slots := [(0, (.v (.pair (.slice (.int .u32)) (.pair (.slice (.slice (.pair (.int .u32) (.pair (.int .i64) .unit)))) .unit)))), (1, (.v (.slice .bool)))], objs := [], outs := [{ ex := .ret, slots := [(0, (.tup (.cons (.href 0) (.cons (.v (.int .i64)) .nil))))], objs := [(none, (.row .bool))] }], asg := [], nt := 16, fn := fun x => converge_Attractor K x.1.1 x.1.2.1 }
theorem s_converge_Attractor (K : Nat) (hB : Base Try.prog tabs (fs_converge_attractor K)) : FnSound Try.prog 12 (p_converge_Attractor K) :=
  fun_thm hB (o_converge_Attractor_0 K) Try.func12 (body := b_converge_Attractor) rfl (p_converge_Attractor K) (rs := [.tmp 4, .tmp 5]) rfl (Nat.le_of_ble_eq_true (by kernel_rfl)) (fun x => by kernel_rfl)
noncomputable def fs_converge_Attractor (K : Nat) : List (Nat × Piece) := (12, p_converge_Attractor K) :: fs_converge_attractor K
theorem base_converge_Attractor (K : Nat) : Base Try.prog tabs (fs_converge_Attractor K) := ⟨(base_converge_attractor K).mixed, (base_converge_attractor K).tabs, FnsOk.cons (s_converge_Attractor K (base_converge_attractor K)) (by kernel_rfl) (base_converge_attractor K).fns⟩
/-! "selfstab/converge.Core" -/
noncomputable def b_converge_Core : Code := codeOf Try.f13
noncomputable def c_converge_Core_0 (K : Nat) : List (Nat × Piece) := []
theorem o_converge_Core_0 (K : Nat) : PcsOk Try.prog b_converge_Core (c_converge_Core_0 K) := PcsOk.nil
def converge_Core_122 (K : Nat) : (k : Nat) → (x19 : Int) → (x20 : Int) → (o0 : (List Bool)) → Option (Unit × ((List Bool) × Unit))
  | 0, _, _, _ => none
  | k + 1, x19, x20, o0 =>
    if decide (x20 < x19) then
      if decide (0 ≤ x20 ∧ x20 < (o0.length : Int)) then
        if decide (0 ≤ x20 ∧ x20 < (o0.length : Int)) then
          converge_Core_122 K k x19 (IntKind.i64.wrap (x20 + 1)) (o0.set x20.toNat (!(o0.getD x20.toNat false)))
        else
          none
      else
        none
    else
      some ((), (o0, ()))
@[reducible] def p_converge_Core_122 (K k : Nat) : Piece := { slots := [(7, (.href 0)), (19, (.v (.int .i64))), (20, (.v (.int .i64)))], objs := [(.row .bool)], outs := [{ ex := (.exit 0), slots := [], objs := [(some 0, (.row .bool))] }], asg := [8, 20, 21, 22, 23, 24, 25, 26, 27, 28, 29, 30, 31], nt := 33, fn := fun x => converge_Core_122 K k x.1.2.1 x.1.2.2.1 x.2.1 }
theorem k_converge_Core_122 (K : Nat) (hB : Base Try.prog tabs (fs_converge_Attractor K)) : PcOk Try.prog (codeAt b_converge_Core 122) (p_converge_Core_122 K K) :=
  loop_thm hB (o_converge_Core_0 K) 122 (p_converge_Core_122 K 0) (l := fun k x => converge_Core_122 K k x.1.2.1 x.1.2.2.1 x.2.1) (c := codeAt b_converge_Core 244) (by kernel_rfl) (by kernel_rfl) (by kernel_rfl) (by kernel_rfl) (fun x => by kernel_rfl) (fun k x => by kernel_rfl) K
noncomputable def c_converge_Core_122 (K : Nat) : List (Nat × Piece) := (122, p_converge_Core_122 K K) :: c_converge_Core_0 K
theorem o_converge_Core_122 (K : Nat) (hB : Base Try.prog tabs (fs_converge_Attractor K)) : PcsOk Try.prog b_converge_Core (c_converge_Core_122 K) := PcsOk.cons (k_converge_Core_122 K hB) (o_converge_Core_0 K)
def converge_Core (K : Nat) (x0 : ((List Int) × ((List (List (Int × (Int × Unit)))) × Unit))) (x1 : (List Bool)) : Option (((Unit × (Int × Unit)) × Unit) × ((List Bool) × Unit)) :=
  (converge_check K x0 x1).bind fun y4 =>
    if !decide (y4.1.1 = 0) then
      some ((((), (y4.1.1, ())), ()), ([], ()))
    else
      (converge_attractor K x0 x1).bind fun y6 =>
        (converge_Core_122 K K (y6.2.1.length : Int) 0 y6.2.1).bind fun y8 =>
          some ((((), (0, ())), ()), (y8.2.1, ()))
@[reducible] def p_converge_Core (K : Nat) : Piece := { slots := [(0, (.v (.pair (.slice (.int .u32)) (.pair (.slice (.slice (.pair (.int .u32) (.pair (.int .i64) .unit)))) .unit)))), (1, (.v (.slice .bool)))], objs := [], outs := [{ ex := .ret, slots := [(0, (.tup (.cons (.href 0) (.cons (.v (.int .i64)) .nil))))], objs := [(none, (.row .bool))] }], asg := [], nt := 33, fn := fun x => converge_Core K x.1.1 x.1.2.1 }
theorem s_converge_Core (K : Nat) (hB : Base Try.prog tabs (fs_converge_Attractor K)) : FnSound Try.prog 13 (p_converge_Core K) :=
  fun_thm hB (o_converge_Core_122 K hB) Try.func13 (body := b_converge_Core) rfl (p_converge_Core K) (rs := [.tmp 4, .tmp 5]) rfl (Nat.le_of_ble_eq_true (by kernel_rfl)) (fun x => by kernel_rfl)
noncomputable def fs_converge_Core (K : Nat) : List (Nat × Piece) := (13, p_converge_Core K) :: fs_converge_Attractor K
theorem base_converge_Core (K : Nat) : Base Try.prog tabs (fs_converge_Core K) := ⟨(base_converge_Attractor K).mixed, (base_converge_Attractor K).tabs, FnsOk.cons (s_converge_Core K (base_converge_Attractor K)) (by kernel_rfl) (base_converge_Attractor K).fns⟩
/-! "selfstab/selfstablaw19.awake" -/
noncomputable def b_law19_awake : Code := codeOf Try.f11
noncomputable def c_law19_awake_0 (K : Nat) : List (Nat × Piece) := []
theorem o_law19_awake_0 (K : Nat) : PcsOk Try.prog b_law19_awake (c_law19_awake_0 K) := PcsOk.nil
def law19_awake (K : Nat) : Option ((Bool × Unit) × Unit) :=
  (law19_example K).bind fun y3 =>
    (converge_Attractor K (y3.2.1, (y3.2.2.1, y3.1.1.2.2)) ([true, false, false, false])).bind fun y4 =>
      (law19_example K).bind fun y7 =>
        (converge_Core K (y7.2.1, (y7.2.2.1, y7.1.1.2.2)) ([false, true, false, false])).bind fun y8 =>
          if decide (y4.1.1.2.1 = 0) then
            if decide (y8.1.1.2.1 = 0) then
              if decide ((y4.2.1.length : Int) = 4) then
                if decide (0 ≤ (3 : Int) ∧ 3 < (y4.2.1.length : Int)) then
                  if y4.2.1.getD ((3 : Int).toNat) false then
                    if decide ((y8.2.1.length : Int) = 4) then
                      if decide (0 ≤ (0 : Int) ∧ 0 < (y8.2.1.length : Int)) then
                        if y8.2.1.getD ((0 : Int).toNat) false then
                          if decide (0 ≤ (1 : Int) ∧ 1 < (y8.2.1.length : Int)) then
                            if !(y8.2.1.getD ((1 : Int).toNat) false) then
                              if decide (0 ≤ (2 : Int) ∧ 2 < (y8.2.1.length : Int)) then
                                some ((y8.2.1.getD ((2 : Int).toNat) false, ()), ())
                              else
                                none
                            else
                              some ((false, ()), ())
                          else
                            none
                        else
                          some ((false, ()), ())
                      else
                        none
                    else
                      some ((false, ()), ())
                  else
                    some ((false, ()), ())
                else
                  none
              else
                some ((false, ()), ())
            else
              some ((false, ()), ())
          else
            some ((false, ()), ())
@[reducible] def p_law19_awake (K : Nat) : Piece := { slots := [], objs := [], outs := [{ ex := .ret, slots := [(0, (.v .bool))], objs := [] }], asg := [], nt := 54, fn := fun x => law19_awake K }
theorem s_law19_awake (K : Nat) (hB : Base Try.prog tabs (fs_converge_Core K)) : FnSound Try.prog 11 (p_law19_awake K) :=
  fun_thm hB (o_law19_awake_0 K) Try.func11 (body := b_law19_awake) rfl (p_law19_awake K) (rs := [.tmp 0]) rfl (Nat.le_of_ble_eq_true (by kernel_rfl)) (fun x => by kernel_rfl)
noncomputable def fs_law19_awake (K : Nat) : List (Nat × Piece) := (11, p_law19_awake K) :: fs_converge_Core K
theorem base_law19_awake (K : Nat) : Base Try.prog tabs (fs_law19_awake K) := ⟨(base_converge_Core K).mixed, (base_converge_Core K).tabs, FnsOk.cons (s_law19_awake K (base_converge_Core K)) (by kernel_rfl) (base_converge_Core K).fns⟩
/-! "selfstab/selfstablaw19.ConvergeNeedsNoStrayArcs" -/
noncomputable def b_law19_ConvergeNeedsNoStrayArcs : Code := codeOf Try.f5
noncomputable def c_law19_ConvergeNeedsNoStrayArcs_0 (K : Nat) : List (Nat × Piece) := []
theorem o_law19_ConvergeNeedsNoStrayArcs_0 (K : Nat) : PcsOk Try.prog b_law19_ConvergeNeedsNoStrayArcs (c_law19_ConvergeNeedsNoStrayArcs_0 K) := PcsOk.nil
def law19_ConvergeNeedsNoStrayArcs_64074 (K : Nat) : (k : Nat) → (x5 : (List Bool)) → (x7 : Int) → (x8 : Int) → (x9 : Int) → (o0 : ((List Int) × ((List (List (Int × (Int × Unit)))) × Unit))) → Option ((Int × Unit) × (((List Int) × ((List (List (Int × (Int × Unit)))) × Unit)) × Unit))
  | 0, _, _, _, _, _ => none
  | k + 1, x5, x7, x8, x9, o0 =>
    if decide (0 ≤ x7 ∧ x7 < (o0.2.1.length : Int)) then
      if decide (x9 < ((o0.2.1.getD x7.toNat []).length : Int)) then
        if decide (0 ≤ x7 ∧ x7 < (o0.2.1.length : Int)) then
          if decide (0 ≤ x9 ∧ x9 < ((o0.2.1.getD x7.toNat []).length : Int)) then
            if decide (0 ≤ (((o0.2.1.getD x7.toNat []).getD x9.toNat (0, (0, ()))).2).1 ∧ (((o0.2.1.getD x7.toNat []).getD x9.toNat (0, (0, ()))).2).1 < (x5.length : Int)) then
              if x5.getD (((((o0.2.1.getD x7.toNat []).getD x9.toNat (0, (0, ()))).2).1).toNat) false then
                law19_ConvergeNeedsNoStrayArcs_64074 K k x5 x7 (IntKind.i64.wrap (x8 + 1)) (IntKind.i64.wrap (x9 + 1)) o0
              else
                law19_ConvergeNeedsNoStrayArcs_64074 K k x5 x7 x8 (IntKind.i64.wrap (x9 + 1)) o0
            else
              none
          else
            none
        else
          none
      else
        some ((x8, ()), (o0, ()))
    else
      none
@[reducible] def p_law19_ConvergeNeedsNoStrayArcs_64074 (K k : Nat) : Piece := { slots := [(2, (.ref 0 (.pair (.slice (.int .u32)) (.pair (.slice (.slice (.pair (.int .u32) (.pair (.int .i64) .unit)))) .unit)))), (5, (.v (.slice .bool))), (7, (.v (.int .i64))), (8, (.v (.int .i64))), (9, (.v (.int .i64)))], objs := [(.box (.pair (.slice (.int .u32)) (.pair (.slice (.slice (.pair (.int .u32) (.pair (.int .i64) .unit)))) .unit)) (.v (.pair (.slice (.int .u32)) (.pair (.slice (.slice (.pair (.int .u32) (.pair (.int .i64) .unit)))) .unit))))], outs := [{ ex := (.exit 2), slots := [(8, (.v (.int .i64)))], objs := [(some 0, (.box (.pair (.slice (.int .u32)) (.pair (.slice (.slice (.pair (.int .u32) (.pair (.int .i64) .unit)))) .unit)) (.v (.pair (.slice (.int .u32)) (.pair (.slice (.slice (.pair (.int .u32) (.pair (.int .i64) .unit)))) .unit)))))] }], asg := [8, 9, 36, 37, 38, 39, 40, 41, 42, 43, 44, 45, 46, 47, 48, 49, 50, 51, 52, 53, 54, 55, 56, 57, 58, 59], nt := 105, fn := fun x => law19_ConvergeNeedsNoStrayArcs_64074 K k x.1.2.1 x.1.2.2.1 x.1.2.2.2.1 x.1.2.2.2.2.1 x.2.1 }
theorem k_law19_ConvergeNeedsNoStrayArcs_64074 (K : Nat) (hB : Base Try.prog tabs (fs_law19_awake K)) : PcOk Try.prog (codeAt b_law19_ConvergeNeedsNoStrayArcs 64074) (p_law19_ConvergeNeedsNoStrayArcs_64074 K K) :=
  loop_thm hB (o_law19_ConvergeNeedsNoStrayArcs_0 K) 64074 (p_law19_ConvergeNeedsNoStrayArcs_64074 K 0) (l := fun k x => law19_ConvergeNeedsNoStrayArcs_64074 K k x.1.2.1 x.1.2.2.1 x.1.2.2.2.1 x.1.2.2.2.2.1 x.2.1) (c := codeAt b_law19_ConvergeNeedsNoStrayArcs 128148) (by kernel_rfl) (by kernel_rfl) (by kernel_rfl) (by kernel_rfl) (fun x => by kernel_rfl) (fun k x => by kernel_rfl) K
noncomputable def c_law19_ConvergeNeedsNoStrayArcs_64074 (K : Nat) : List (Nat × Piece) := (64074, p_law19_ConvergeNeedsNoStrayArcs_64074 K K) :: c_law19_ConvergeNeedsNoStrayArcs_0 K
theorem o_law19_ConvergeNeedsNoStrayArcs_64074 (K : Nat) (hB : Base Try.prog tabs (fs_law19_awake K)) : PcsOk Try.prog b_law19_ConvergeNeedsNoStrayArcs (c_law19_ConvergeNeedsNoStrayArcs_64074 K) := PcsOk.cons (k_law19_ConvergeNeedsNoStrayArcs_64074 K hB) (o_law19_ConvergeNeedsNoStrayArcs_0 K)
def law19_ConvergeNeedsNoStrayArcs_32039 (K : Nat) (x103 : Bool) : Option ((Unit × Unit) ⊕ ((Bool × Unit) × Unit)) :=
  if x103 then
    some (.inr ((false, ()), ()))
  else
    some (.inl ((), ()))
@[reducible] def p_law19_ConvergeNeedsNoStrayArcs_32039 (K : Nat) : Piece := { slots := [(103, (.v .bool))], objs := [], outs := [{ ex := .normal, slots := [], objs := [] }, { ex := .ret, slots := [(4, (.v .bool))], objs := [] }], asg := [4], nt := 105, fn := fun x => law19_ConvergeNeedsNoStrayArcs_32039 K x.1.1 }
theorem k_law19_ConvergeNeedsNoStrayArcs_32039 (K : Nat) (hB : Base Try.prog tabs (fs_law19_awake K)) : PcOk Try.prog (codeAt b_law19_ConvergeNeedsNoStrayArcs 32039) (p_law19_ConvergeNeedsNoStrayArcs_32039 K) :=
  seg_thm hB (o_law19_ConvergeNeedsNoStrayArcs_64074 K hB) 32039 (p_law19_ConvergeNeedsNoStrayArcs_32039 K) (by kernel_rfl) (by kernel_rfl) (by kernel_rfl) (fun x => by kernel_rfl)
noncomputable def c_law19_ConvergeNeedsNoStrayArcs_32039 (K : Nat) : List (Nat × Piece) := (32039, p_law19_ConvergeNeedsNoStrayArcs_32039 K) :: c_law19_ConvergeNeedsNoStrayArcs_64074 K
theorem o_law19_ConvergeNeedsNoStrayArcs_32039 (K : Nat) (hB : Base Try.prog tabs (fs_law19_awake K)) : PcsOk Try.prog b_law19_ConvergeNeedsNoStrayArcs (c_law19_ConvergeNeedsNoStrayArcs_32039 K) := PcsOk.cons (k_law19_ConvergeNeedsNoStrayArcs_32039 K hB) (o_law19_ConvergeNeedsNoStrayArcs_64074 K hB)
def law19_ConvergeNeedsNoStrayArcs_2003 (K : Nat) (x7 : Int) : Option ((Int × Unit) × Unit) :=
  some ((IntKind.i64.wrap (x7 + 1), ()), ())
@[reducible] def p_law19_ConvergeNeedsNoStrayArcs_2003 (K : Nat) : Piece := { slots := [(7, (.v (.int .i64)))], objs := [], outs := [{ ex := .normal, slots := [(7, (.v (.int .i64)))], objs := [] }], asg := [7, 34, 35], nt := 105, fn := fun x => law19_ConvergeNeedsNoStrayArcs_2003 K x.1.1 }
theorem k_law19_ConvergeNeedsNoStrayArcs_2003 (K : Nat) (hB : Base Try.prog tabs (fs_law19_awake K)) : PcOk Try.prog (codeAt b_law19_ConvergeNeedsNoStrayArcs 2003) (p_law19_ConvergeNeedsNoStrayArcs_2003 K) :=
  seg_thm hB (o_law19_ConvergeNeedsNoStrayArcs_32039 K hB) 2003 (p_law19_ConvergeNeedsNoStrayArcs_2003 K) (by kernel_rfl) (by kernel_rfl) (by kernel_rfl) (fun x => by kernel_rfl)
noncomputable def c_law19_ConvergeNeedsNoStrayArcs_2003 (K : Nat) : List (Nat × Piece) := (2003, p_law19_ConvergeNeedsNoStrayArcs_2003 K) :: c_law19_ConvergeNeedsNoStrayArcs_32039 K
theorem o_law19_ConvergeNeedsNoStrayArcs_2003 (K : Nat) (hB : Base Try.prog tabs (fs_law19_awake K)) : PcsOk Try.prog b_law19_ConvergeNeedsNoStrayArcs (c_law19_ConvergeNeedsNoStrayArcs_2003 K) := PcsOk.cons (k_law19_ConvergeNeedsNoStrayArcs_2003 K hB) (o_law19_ConvergeNeedsNoStrayArcs_32039 K hB)
def law19_ConvergeNeedsNoStrayArcs_250 (K : Nat) : (k : Nat) → (x1 : (List Bool)) → (x5 : (List Bool)) → (x7 : Int) → (o0 : ((List Int) × ((List (List (Int × (Int × Unit)))) × Unit))) → Option ((Unit × Unit) ⊕ ((Bool × Unit) × Unit))
  | 0, _, _, _, _ => none
  | k + 1, x1, x5, x7, o0 =>
    if decide (x7 < (x5.length : Int)) then
      (law19_ConvergeNeedsNoStrayArcs_64074 K K x5 x7 0 0 o0).bind fun y2 =>
        if decide (0 ≤ x7 ∧ x7 < (x5.length : Int)) then
          if x5.getD x7.toNat false then
            if decide (y2.1.1 = 0) then
              if decide (0 ≤ x7 ∧ x7 < (y2.2.1.2.1.length : Int)) then
                if decide (0 < ((y2.2.1.2.1.getD x7.toNat []).length : Int)) then
                  (law19_ConvergeNeedsNoStrayArcs_32039 K true).bind fun y3 =>
                    match y3 with
                    | .inl y4 =>
                      (law19_ConvergeNeedsNoStrayArcs_2003 K x7).bind fun y6 =>
                        law19_ConvergeNeedsNoStrayArcs_250 K k x1 x5 y6.1.1 y2.2.1
                    | .inr y5 =>
                      some (.inr ((y5.1.1, ()), ()))
                else
                  if decide (0 ≤ x7 ∧ x7 < (x5.length : Int)) then
                    if !(x5.getD x7.toNat false) then
                      if decide (0 ≤ x7 ∧ x7 < (x1.length : Int)) then
                        if !(x1.getD x7.toNat false) then
                          if decide (0 < y2.1.1) then
                            (law19_ConvergeNeedsNoStrayArcs_32039 K true).bind fun y7 =>
                              match y7 with
                              | .inl y8 =>
                                (law19_ConvergeNeedsNoStrayArcs_2003 K x7).bind fun y10 =>
                                  law19_ConvergeNeedsNoStrayArcs_250 K k x1 x5 y10.1.1 y2.2.1
                              | .inr y9 =>
                                some (.inr ((y9.1.1, ()), ()))
                          else
                            if decide (0 ≤ x7 ∧ x7 < (y2.2.1.2.1.length : Int)) then
                              (law19_ConvergeNeedsNoStrayArcs_32039 K (decide (((y2.2.1.2.1.getD x7.toNat []).length : Int) = 0))).bind fun y11 =>
                                match y11 with
                                | .inl y12 =>
                                  (law19_ConvergeNeedsNoStrayArcs_2003 K x7).bind fun y14 =>
                                    law19_ConvergeNeedsNoStrayArcs_250 K k x1 x5 y14.1.1 y2.2.1
                                | .inr y13 =>
                                  some (.inr ((y13.1.1, ()), ()))
                            else
                              none
                        else
                          (law19_ConvergeNeedsNoStrayArcs_32039 K false).bind fun y15 =>
                            match y15 with
                            | .inl y16 =>
                              (law19_ConvergeNeedsNoStrayArcs_2003 K x7).bind fun y18 =>
                                law19_ConvergeNeedsNoStrayArcs_250 K k x1 x5 y18.1.1 y2.2.1
                            | .inr y17 =>
                              some (.inr ((y17.1.1, ()), ()))
                      else
                        none
                    else
                      (law19_ConvergeNeedsNoStrayArcs_32039 K false).bind fun y19 =>
                        match y19 with
                        | .inl y20 =>
                          (law19_ConvergeNeedsNoStrayArcs_2003 K x7).bind fun y22 =>
                            law19_ConvergeNeedsNoStrayArcs_250 K k x1 x5 y22.1.1 y2.2.1
                        | .inr y21 =>
                          some (.inr ((y21.1.1, ()), ()))
                  else
                    none
              else
                none
            else
              if decide (0 ≤ x7 ∧ x7 < (x5.length : Int)) then
                if !(x5.getD x7.toNat false) then
                  if decide (0 ≤ x7 ∧ x7 < (x1.length : Int)) then
                    if !(x1.getD x7.toNat false) then
                      if decide (0 < y2.1.1) then
                        (law19_ConvergeNeedsNoStrayArcs_32039 K true).bind fun y23 =>
                          match y23 with
                          | .inl y24 =>
                            (law19_ConvergeNeedsNoStrayArcs_2003 K x7).bind fun y26 =>
                              law19_ConvergeNeedsNoStrayArcs_250 K k x1 x5 y26.1.1 y2.2.1
                          | .inr y25 =>
                            some (.inr ((y25.1.1, ()), ()))
                      else
                        if decide (0 ≤ x7 ∧ x7 < (y2.2.1.2.1.length : Int)) then
                          (law19_ConvergeNeedsNoStrayArcs_32039 K (decide (((y2.2.1.2.1.getD x7.toNat []).length : Int) = 0))).bind fun y27 =>
                            match y27 with
                            | .inl y28 =>
                              (law19_ConvergeNeedsNoStrayArcs_2003 K x7).bind fun y30 =>
                                law19_ConvergeNeedsNoStrayArcs_250 K k x1 x5 y30.1.1 y2.2.1
                            | .inr y29 =>
                              some (.inr ((y29.1.1, ()), ()))
                        else
                          none
                    else
                      (law19_ConvergeNeedsNoStrayArcs_32039 K false).bind fun y31 =>
                        match y31 with
                        | .inl y32 =>
                          (law19_ConvergeNeedsNoStrayArcs_2003 K x7).bind fun y34 =>
                            law19_ConvergeNeedsNoStrayArcs_250 K k x1 x5 y34.1.1 y2.2.1
                        | .inr y33 =>
                          some (.inr ((y33.1.1, ()), ()))
                  else
                    none
                else
                  (law19_ConvergeNeedsNoStrayArcs_32039 K false).bind fun y35 =>
                    match y35 with
                    | .inl y36 =>
                      (law19_ConvergeNeedsNoStrayArcs_2003 K x7).bind fun y38 =>
                        law19_ConvergeNeedsNoStrayArcs_250 K k x1 x5 y38.1.1 y2.2.1
                    | .inr y37 =>
                      some (.inr ((y37.1.1, ()), ()))
              else
                none
          else
            if decide (0 ≤ x7 ∧ x7 < (x5.length : Int)) then
              if !(x5.getD x7.toNat false) then
                if decide (0 ≤ x7 ∧ x7 < (x1.length : Int)) then
                  if !(x1.getD x7.toNat false) then
                    if decide (0 < y2.1.1) then
                      (law19_ConvergeNeedsNoStrayArcs_32039 K true).bind fun y39 =>
                        match y39 with
                        | .inl y40 =>
                          (law19_ConvergeNeedsNoStrayArcs_2003 K x7).bind fun y42 =>
                            law19_ConvergeNeedsNoStrayArcs_250 K k x1 x5 y42.1.1 y2.2.1
                        | .inr y41 =>
                          some (.inr ((y41.1.1, ()), ()))
                    else
                      if decide (0 ≤ x7 ∧ x7 < (y2.2.1.2.1.length : Int)) then
                        (law19_ConvergeNeedsNoStrayArcs_32039 K (decide (((y2.2.1.2.1.getD x7.toNat []).length : Int) = 0))).bind fun y43 =>
                          match y43 with
                          | .inl y44 =>
                            (law19_ConvergeNeedsNoStrayArcs_2003 K x7).bind fun y46 =>
                              law19_ConvergeNeedsNoStrayArcs_250 K k x1 x5 y46.1.1 y2.2.1
                          | .inr y45 =>
                            some (.inr ((y45.1.1, ()), ()))
                      else
                        none
                  else
                    (law19_ConvergeNeedsNoStrayArcs_32039 K false).bind fun y47 =>
                      match y47 with
                      | .inl y48 =>
                        (law19_ConvergeNeedsNoStrayArcs_2003 K x7).bind fun y50 =>
                          law19_ConvergeNeedsNoStrayArcs_250 K k x1 x5 y50.1.1 y2.2.1
                      | .inr y49 =>
                        some (.inr ((y49.1.1, ()), ()))
                else
                  none
              else
                (law19_ConvergeNeedsNoStrayArcs_32039 K false).bind fun y51 =>
                  match y51 with
                  | .inl y52 =>
                    (law19_ConvergeNeedsNoStrayArcs_2003 K x7).bind fun y54 =>
                      law19_ConvergeNeedsNoStrayArcs_250 K k x1 x5 y54.1.1 y2.2.1
                  | .inr y53 =>
                    some (.inr ((y53.1.1, ()), ()))
            else
              none
        else
          none
    else
      some (.inl ((), ()))
@[reducible] def p_law19_ConvergeNeedsNoStrayArcs_250 (K k : Nat) : Piece := { slots := [(1, (.v (.slice .bool))), (2, (.ref 0 (.pair (.slice (.int .u32)) (.pair (.slice (.slice (.pair (.int .u32) (.pair (.int .i64) .unit)))) .unit)))), (5, (.v (.slice .bool))), (7, (.v (.int .i64)))], objs := [(.box (.pair (.slice (.int .u32)) (.pair (.slice (.slice (.pair (.int .u32) (.pair (.int .i64) .unit)))) .unit)) (.v (.pair (.slice (.int .u32)) (.pair (.slice (.slice (.pair (.int .u32) (.pair (.int .i64) .unit)))) .unit))))], outs := [{ ex := (.exit 0), slots := [], objs := [] }, { ex := .ret, slots := [(4, (.v .bool))], objs := [] }], asg := [4, 7, 8, 9, 30, 31, 32, 33, 34, 35, 36, 37, 38, 39, 40, 41, 42, 43, 44, 45, 46, 47, 48, 49, 50, 51, 52, 53, 54, 55, 56, 57, 58, 59, 60, 61, 62, 63, 64, 65, 66, 67, 68, 69, 70, 71, 72, 73, 74, 75, 76, 77, 78, 79, 80, 81, 82, 83, 84, 85, 86, 87, 88, 89, 90, 91, 92, 93, 94, 95, 96, 97, 98, 99, 100, 101, 102, 103], nt := 105, fn := fun x => law19_ConvergeNeedsNoStrayArcs_250 K k x.1.1 x.1.2.2.1 x.1.2.2.2.1 x.2.1 }
theorem k_law19_ConvergeNeedsNoStrayArcs_250 (K : Nat) (hB : Base Try.prog tabs (fs_law19_awake K)) : PcOk Try.prog (codeAt b_law19_ConvergeNeedsNoStrayArcs 250) (p_law19_ConvergeNeedsNoStrayArcs_250 K K) :=
  loop_thm hB (o_law19_ConvergeNeedsNoStrayArcs_2003 K hB) 250 (p_law19_ConvergeNeedsNoStrayArcs_250 K 0) (l := fun k x => law19_ConvergeNeedsNoStrayArcs_250 K k x.1.1 x.1.2.2.1 x.1.2.2.2.1 x.2.1) (c := codeAt b_law19_ConvergeNeedsNoStrayArcs 500) (by kernel_rfl) (by kernel_rfl) (by kernel_rfl) (by kernel_rfl) (fun x => by kernel_rfl) (fun k x => by kernel_rfl) K
noncomputable def c_law19_ConvergeNeedsNoStrayArcs_250 (K : Nat) : List (Nat × Piece) := (250, p_law19_ConvergeNeedsNoStrayArcs_250 K K) :: c_law19_ConvergeNeedsNoStrayArcs_2003 K
theorem o_law19_ConvergeNeedsNoStrayArcs_250 (K : Nat) (hB : Base Try.prog tabs (fs_law19_awake K)) : PcsOk Try.prog b_law19_ConvergeNeedsNoStrayArcs (c_law19_ConvergeNeedsNoStrayArcs_250 K) := PcsOk.cons (k_law19_ConvergeNeedsNoStrayArcs_250 K hB) (o_law19_ConvergeNeedsNoStrayArcs_2003 K hB)
def law19_ConvergeNeedsNoStrayArcs (K : Nat) (x0 : ((List Int) × ((List (List (Int × (Int × Unit)))) × Unit))) (x1 : (List Bool)) : Option ((Bool × Unit) × Unit) :=
  (law19_fair K x0 x1).bind fun y5 =>
    if !y5.1.1 then
      (law19_awake K).bind fun y6 =>
        some ((y6.1.1, ()), ())
    else
      (converge_Core K x0 x1).bind fun y8 =>
        if !decide (y8.1.1.2.1 = 0) then
          some ((false, ()), ())
        else
          if !decide ((y8.2.1.length : Int) = (x1.length : Int)) then
            some ((false, ()), ())
          else
            (law19_ConvergeNeedsNoStrayArcs_250 K K x1 y8.2.1 0 x0).bind fun y12 =>
              match y12 with
              | .inl y13 =>
                (law19_awake K).bind fun y15 =>
                  some ((y15.1.1, ()), ())
              | .inr y14 =>
                some ((y14.1.1, ()), ())
@[reducible] def p_law19_ConvergeNeedsNoStrayArcs (K : Nat) : Piece := { slots := [(0, (.v (.pair (.slice (.int .u32)) (.pair (.slice (.slice (.pair (.int .u32) (.pair (.int .i64) .unit)))) .unit)))), (1, (.v (.slice .bool)))], objs := [], outs := [{ ex := .ret, slots := [(0, (.v .bool))], objs := [] }], asg := [], nt := 105, fn := fun x => law19_ConvergeNeedsNoStrayArcs K x.1.1 x.1.2.1 }
theorem s_law19_ConvergeNeedsNoStrayArcs (K : Nat) (hB : Base Try.prog tabs (fs_law19_awake K)) : FnSound Try.prog 5 (p_law19_ConvergeNeedsNoStrayArcs K) :=
  fun_thm hB (o_law19_ConvergeNeedsNoStrayArcs_250 K hB) Try.func5 (body := b_law19_ConvergeNeedsNoStrayArcs) rfl (p_law19_ConvergeNeedsNoStrayArcs K) (rs := [.tmp 4]) rfl (Nat.le_of_ble_eq_true (by kernel_rfl)) (fun x => by kernel_rfl)
noncomputable def fs_law19_ConvergeNeedsNoStrayArcs (K : Nat) : List (Nat × Piece) := (5, p_law19_ConvergeNeedsNoStrayArcs K) :: fs_law19_awake K
theorem base_law19_ConvergeNeedsNoStrayArcs (K : Nat) : Base Try.prog tabs (fs_law19_ConvergeNeedsNoStrayArcs K) := ⟨(base_law19_awake K).mixed, (base_law19_awake K).tabs, FnsOk.cons (s_law19_ConvergeNeedsNoStrayArcs K (base_law19_awake K)) (by kernel_rfl) (base_law19_awake K).fns⟩
theorem law_law19_ConvergeNeedsNoStrayArcs (K : Nat) : FnSound Try.prog 5 (p_law19_ConvergeNeedsNoStrayArcs K) := s_law19_ConvergeNeedsNoStrayArcs K (base_law19_awake K)
/-! "selfstab/selfstabmade.Mod" -/
noncomputable def b_made_Mod : Code := codeOf Try.f15
noncomputable def c_made_Mod_0 (K : Nat) : List (Nat × Piece) := []
theorem o_made_Mod_0 (K : Nat) : PcsOk Try.prog b_made_Mod (c_made_Mod_0 K) := PcsOk.nil
def made_Mod (K : Nat) (x0 : Int) (x1 : Int) : Option ((Int × Unit) × Unit) :=
  if decide (x1 = 0) then
    none
  else
    if decide ((Int.tmod x0 x1) < 0) then
      some ((IntKind.i64.wrap ((Int.tmod x0 x1) + x1), ()), ())
    else
      some ((Int.tmod x0 x1, ()), ())
@[reducible] def p_made_Mod (K : Nat) : Piece := { slots := [(0, (.v (.int .i64))), (1, (.v (.int .i64)))], objs := [], outs := [{ ex := .ret, slots := [(0, (.v (.int .i64)))], objs := [] }], asg := [], nt := 15, fn := fun x => made_Mod K x.1.1 x.1.2.1 }
theorem s_made_Mod (K : Nat) (hB : Base Try.prog tabs (fs_law19_ConvergeNeedsNoStrayArcs K)) : FnSound Try.prog 15 (p_made_Mod K) :=
  fun_thm hB (o_made_Mod_0 K) Try.func15 (body := b_made_Mod) rfl (p_made_Mod K) (rs := [.tmp 4]) rfl (Nat.le_of_ble_eq_true (by kernel_rfl)) (fun x => by kernel_rfl)
noncomputable def fs_made_Mod (K : Nat) : List (Nat × Piece) := (15, p_made_Mod K) :: fs_law19_ConvergeNeedsNoStrayArcs K
theorem base_made_Mod (K : Nat) : Base Try.prog tabs (fs_made_Mod K) := ⟨(base_law19_ConvergeNeedsNoStrayArcs K).mixed, (base_law19_ConvergeNeedsNoStrayArcs K).tabs, FnsOk.cons (s_made_Mod K (base_law19_ConvergeNeedsNoStrayArcs K)) (by kernel_rfl) (base_law19_ConvergeNeedsNoStrayArcs K).fns⟩
/-! "selfstab/converge.Escape" -/
noncomputable def b_converge_Escape : Code := codeOf Try.f21
noncomputable def c_converge_Escape_0 (K : Nat) : List (Nat × Piece) := []
theorem o_converge_Escape_0 (K : Nat) : PcsOk Try.prog b_converge_Escape (c_converge_Escape_0 K) := PcsOk.nil
def converge_Escape_109 (K : Nat) (x40 : Bool) : Option ((Unit × Unit) ⊕ ((Unit × (Unit × (Int × Unit))) × ((List Int) × ((List Int) × Unit)))) :=
  if x40 then
    some (.inr (((), ((), (2, ()))), ([], ([], ()))))
  else
    some (.inl ((), ()))
@[reducible] def p_converge_Escape_109 (K : Nat) : Piece := { slots := [(40, (.v .bool))], objs := [], outs := [{ ex := .normal, slots := [], objs := [] }, { ex := .ret, slots := [(6, (.href 0)), (7, (.href 1)), (8, (.v (.int .i64)))], objs := [(none, (.row (.int .i64))), (none, (.row (.int .i64)))] }], asg := [6, 7, 8], nt := 85, fn := fun x => converge_Escape_109 K x.1.1 }
theorem k_converge_Escape_109 (K : Nat) (hB : Base Try.prog tabs (fs_made_Mod K)) : PcOk Try.prog (codeAt b_converge_Escape 109) (p_converge_Escape_109 K) :=
  seg_thm hB (o_converge_Escape_0 K) 109 (p_converge_Escape_109 K) (by kernel_rfl) (by kernel_rfl) (by kernel_rfl) (fun x => by kernel_rfl)
noncomputable def c_converge_Escape_109 (K : Nat) : List (Nat × Piece) := (109, p_converge_Escape_109 K) :: c_converge_Escape_0 K
theorem o_converge_Escape_109 (K : Nat) (hB : Base Try.prog tabs (fs_made_Mod K)) : PcsOk Try.prog b_converge_Escape (c_converge_Escape_109 K) := PcsOk.cons (k_converge_Escape_109 K hB) (o_converge_Escape_0 K)
def converge_Escape_458298 (K : Nat) : (k : Nat) → (x9 : (List Bool)) → (x70 : (List (Int × (Int × Unit)))) → (x71 : Int) → (x72 : Int) → Option (((Int × Unit) × Unit) ⊕ (Unit × Unit))
  | 0, _, _, _, _ => none
  | k + 1, x9, x70, x71, x72 =>
    if decide (x72 < x71) then
      if decide (0 ≤ x72 ∧ x72 < (x70.length : Int)) then
        if decide (0 ≤ ((x70.getD x72.toNat (0, (0, ()))).2).1 ∧ ((x70.getD x72.toNat (0, (0, ()))).2).1 < (x9.length : Int)) then
          if x9.getD ((((x70.getD x72.toNat (0, (0, ()))).2).1).toNat) false then
            some (.inl ((((x70.getD x72.toNat (0, (0, ()))).2).1, ()), ()))
          else
            converge_Escape_458298 K k x9 x70 x71 (IntKind.i64.wrap (x72 + 1))
        else
          none
      else
        none
    else
      some (.inr ((), ()))
@[reducible] def p_converge_Escape_458298 (K k : Nat) : Piece := { slots := [(9, (.v (.slice .bool))), (70, (.v (.slice (.pair (.int .u32) (.pair (.int .i64) .unit))))), (71, (.v (.int .i64))), (72, (.v (.int .i64)))], objs := [], outs := [{ ex := (.exit 1), slots := [(12, (.v (.int .i64)))], objs := [] }, { ex := (.exit 2), slots := [], objs := [] }], asg := [12, 16, 72, 73, 74, 75, 76, 77, 78, 79, 80, 81, 82, 83], nt := 85, fn := fun x => converge_Escape_458298 K k x.1.1 x.1.2.1 x.1.2.2.1 x.1.2.2.2.1 }
theorem k_converge_Escape_458298 (K : Nat) (hB : Base Try.prog tabs (fs_made_Mod K)) : PcOk Try.prog (codeAt b_converge_Escape 458298) (p_converge_Escape_458298 K K) :=
  loop_thm hB (o_converge_Escape_109 K hB) 458298 (p_converge_Escape_458298 K 0) (l := fun k x => converge_Escape_458298 K k x.1.1 x.1.2.1 x.1.2.2.1 x.1.2.2.2.1) (c := codeAt b_converge_Escape 916596) (by kernel_rfl) (by kernel_rfl) (by kernel_rfl) (by kernel_rfl) (fun x => by kernel_rfl) (fun k x => by kernel_rfl) K
noncomputable def c_converge_Escape_458298 (K : Nat) : List (Nat × Piece) := (458298, p_converge_Escape_458298 K K) :: c_converge_Escape_109 K
theorem o_converge_Escape_458298 (K : Nat) (hB : Base Try.prog tabs (fs_made_Mod K)) : PcsOk Try.prog b_converge_Escape (c_converge_Escape_458298 K) := PcsOk.cons (k_converge_Escape_458298 K hB) (o_converge_Escape_109 K hB)
def converge_Escape_1790 (K : Nat) : (k : Nat) → (x9 : (List Bool)) → (x12 : Int) → (o0 : ((List Int) × ((List (List (Int × (Int × Unit)))) × Unit))) → (o1 : (List (Int × Int))) → (o2 : (List Int)) → Option ((Unit × (Unit × (Int × Unit))) × ((List Int) × ((List Int) × Unit)))
  | 0, _, _, _, _, _ => none
  | k + 1, x9, x12, o0, o1, o2 =>
    if (mget (.int .i64) o1 x12).isSome then
      if decide (0 ≤ (mget (.int .i64) o1 x12).getD 0 ∧ (mget (.int .i64) o1 x12).getD 0 ≤ (o2.length : Int)) then
        if decide (([] : List Int).length + (o2.take (((mget (.int .i64) o1 x12).getD 0).toNat)).length ≤ 4294967296) then
          if decide (0 ≤ (mget (.int .i64) o1 x12).getD 0 ∧ (mget (.int .i64) o1 x12).getD 0 ≤ (o2.length : Int)) then
            if decide (([] : List Int).length + (view o2 (some (((mget (.int .i64) o1 x12).getD 0).toNat, (o2.length - (((mget (.int .i64) o1 x12).getD 0).toNat))))).length ≤ 4294967296) then
              some (((), ((), (0, ()))), ((([] : List Int) ++ o2.take (((mget (.int .i64) o1 x12).getD 0).toNat)), ((([] : List Int) ++ view o2 (some (((mget (.int .i64) o1 x12).getD 0).toNat, (o2.length - (((mget (.int .i64) o1 x12).getD 0).toNat))))), ())))
            else
              none
          else
            none
        else
          none
      else
        none
    else
      if decide (o2.length + ([x12]).length ≤ 4294967296) then
        if decide (0 ≤ x12 ∧ x12 < (o0.2.1.length : Int)) then
          (converge_Escape_458298 K K x9 (o0.2.1.getD x12.toNat []) ((o0.2.1.getD x12.toNat []).length : Int) 0).bind fun y4 =>
            match y4 with
            | .inl y5 =>
              converge_Escape_1790 K k x9 y5.1.1 o0 (mput (.int .i64) o1 x12 (o2.length : Int)) (o2 ++ [x12])
            | .inr y6 =>
              some (((), ((), (0, ()))), ((o2 ++ [x12]), ([], ())))
        else
          none
      else
        none
@[reducible] def p_converge_Escape_1790 (K k : Nat) : Piece := { slots := [(3, (.ref 0 (.pair (.slice (.int .u32)) (.pair (.slice (.slice (.pair (.int .u32) (.pair (.int .i64) .unit)))) .unit)))), (9, (.v (.slice .bool))), (10, (.mref 1)), (11, (.href 2)), (12, (.v (.int .i64)))], objs := [(.box (.pair (.slice (.int .u32)) (.pair (.slice (.slice (.pair (.int .u32) (.pair (.int .i64) .unit)))) .unit)) (.v (.pair (.slice (.int .u32)) (.pair (.slice (.slice (.pair (.int .u32) (.pair (.int .i64) .unit)))) .unit)))), (.map (.int .i64) (.int .i64)), (.row (.int .i64))], outs := [{ ex := .ret, slots := [(6, (.href 0)), (7, (.href 1)), (8, (.v (.int .i64)))], objs := [(none, (.row (.int .i64))), (none, (.row (.int .i64)))] }], asg := [6, 7, 8, 11, 12, 13, 14, 16, 43, 44, 45, 46, 47, 48, 49, 50, 51, 52, 53, 54, 55, 56, 57, 58, 59, 60, 61, 62, 63, 64, 65, 66, 67, 68, 69, 70, 71, 72, 73, 74, 75, 76, 77, 78, 79, 80, 81, 82, 83, 84], nt := 85, fn := fun x => converge_Escape_1790 K k x.1.2.1 x.1.2.2.2.2.1 x.2.1 x.2.2.1 x.2.2.2.1 }
theorem k_converge_Escape_1790 (K : Nat) (hB : Base Try.prog tabs (fs_made_Mod K)) : PcOk Try.prog (codeAt b_converge_Escape 1790) (p_converge_Escape_1790 K K) :=
  loop_thm hB (o_converge_Escape_458298 K hB) 1790 (p_converge_Escape_1790 K 0) (l := fun k x => converge_Escape_1790 K k x.1.2.1 x.1.2.2.2.2.1 x.2.1 x.2.2.1 x.2.2.2.1) (c := codeAt b_converge_Escape 3580) (by kernel_rfl) (by kernel_rfl) (by kernel_rfl) (by kernel_rfl) (fun x => by kernel_rfl) (fun k x => by kernel_rfl) K
noncomputable def c_converge_Escape_1790 (K : Nat) : List (Nat × Piece) := (1790, p_converge_Escape_1790 K K) :: c_converge_Escape_458298 K
theorem o_converge_Escape_1790 (K : Nat) (hB : Base Try.prog tabs (fs_made_Mod K)) : PcsOk Try.prog b_converge_Escape (c_converge_Escape_1790 K) := PcsOk.cons (k_converge_Escape_1790 K hB) (o_converge_Escape_458298 K hB)
def converge_Escape_55 (K : Nat) (x2 : Int) (x9 : (List Bool)) (o0 : ((List Int) × ((List (List (Int × (Int × Unit)))) × Unit))) : Option ((Unit × (Unit × (Int × Unit))) × ((List Int) × ((List Int) × Unit))) :=
  (converge_Escape_1790 K K x9 x2 o0 [] []).bind fun y1 =>
    some (((), ((), (y1.1.2.2.1, ()))), (y1.2.1, (y1.2.2.1, ())))
@[reducible] def p_converge_Escape_55 (K : Nat) : Piece := { slots := [(2, (.v (.int .i64))), (3, (.ref 0 (.pair (.slice (.int .u32)) (.pair (.slice (.slice (.pair (.int .u32) (.pair (.int .i64) .unit)))) .unit)))), (9, (.v (.slice .bool)))], objs := [(.box (.pair (.slice (.int .u32)) (.pair (.slice (.slice (.pair (.int .u32) (.pair (.int .i64) .unit)))) .unit)) (.v (.pair (.slice (.int .u32)) (.pair (.slice (.slice (.pair (.int .u32) (.pair (.int .i64) .unit)))) .unit))))], outs := [{ ex := .ret, slots := [(6, (.href 0)), (7, (.href 1)), (8, (.v (.int .i64)))], objs := [(none, (.row (.int .i64))), (none, (.row (.int .i64)))] }], asg := [6, 7, 8, 10, 11, 12, 13, 14, 16, 41, 42, 43, 44, 45, 46, 47, 48, 49, 50, 51, 52, 53, 54, 55, 56, 57, 58, 59, 60, 61, 62, 63, 64, 65, 66, 67, 68, 69, 70, 71, 72, 73, 74, 75, 76, 77, 78, 79, 80, 81, 82, 83, 84], nt := 85, fn := fun x => converge_Escape_55 K x.1.1 x.1.2.2.1 x.2.1 }
theorem k_converge_Escape_55 (K : Nat) (hB : Base Try.prog tabs (fs_made_Mod K)) : PcOk Try.prog (codeAt b_converge_Escape 55) (p_converge_Escape_55 K) :=
  seg_thm hB (o_converge_Escape_1790 K hB) 55 (p_converge_Escape_55 K) (by kernel_rfl) (by kernel_rfl) (by kernel_rfl) (fun x => by kernel_rfl)
noncomputable def c_converge_Escape_55 (K : Nat) : List (Nat × Piece) := (55, p_converge_Escape_55 K) :: c_converge_Escape_1790 K
theorem o_converge_Escape_55 (K : Nat) (hB : Base Try.prog tabs (fs_made_Mod K)) : PcsOk Try.prog b_converge_Escape (c_converge_Escape_55 K) := PcsOk.cons (k_converge_Escape_55 K hB) (o_converge_Escape_1790 K hB)
def converge_Escape (K : Nat) (x0 : ((List Int) × ((List (List (Int × (Int × Unit)))) × Unit))) (x1 : (List Bool)) (x2 : Int) : Option (((Unit × (Unit × (Int × Unit))) × Unit) × ((List Int) × ((List Int) × Unit))) :=
  (converge_Core K x0 x1).bind fun y2 =>
    if !decide (y2.1.1.2.1 = 0) then
      some ((((), ((), (y2.1.1.2.1, ()))), ()), ([], ([], ())))
    else
      if decide (x2 < 0) then
        (converge_Escape_109 K true).bind fun y3 =>
          match y3 with
          | .inl y4 =>
            (converge_Escape_55 K x2 y2.2.1 x0).bind fun y6 =>
              some ((((), ((), (y6.1.2.2.1, ()))), ()), (y6.2.1, (y6.2.2.1, ())))
          | .inr y5 =>
            some ((((), ((), (y5.1.2.2.1, ()))), ()), (y5.2.1, (y5.2.2.1, ())))
      else
        if decide ((y2.2.1.length : Int) ≤ x2) then
          (converge_Escape_109 K true).bind fun y7 =>
            match y7 with
            | .inl y8 =>
              (converge_Escape_55 K x2 y2.2.1 x0).bind fun y10 =>
                some ((((), ((), (y10.1.2.2.1, ()))), ()), (y10.2.1, (y10.2.2.1, ())))
            | .inr y9 =>
              some ((((), ((), (y9.1.2.2.1, ()))), ()), (y9.2.1, (y9.2.2.1, ())))
        else
          if decide (0 ≤ x2 ∧ x2 < (y2.2.1.length : Int)) then
            (converge_Escape_109 K (!(y2.2.1.getD x2.toNat false))).bind fun y11 =>
              match y11 with
              | .inl y12 =>
                (converge_Escape_55 K x2 y2.2.1 x0).bind fun y14 =>
                  some ((((), ((), (y14.1.2.2.1, ()))), ()), (y14.2.1, (y14.2.2.1, ())))
              | .inr y13 =>
                some ((((), ((), (y13.1.2.2.1, ()))), ()), (y13.2.1, (y13.2.2.1, ())))
          else
            none
@[reducible] def p_converge_Escape (K : Nat) : Piece := { slots := [(0, (.v (.pair (.slice (.int .u32)) (.pair (.slice (.slice (.pair (.int .u32) (.pair (.int .i64) .unit)))) .unit)))), (1, (.v (.slice .bool))), (2, (.v (.int .i64)))], objs := [], outs := [{ ex := .ret, slots := [(0, (.tup (.cons (.href 0) (.cons (.href 1) (.cons (.v (.int .i64)) .nil)))))], objs := [(none, (.row (.int .i64))), (none, (.row (.int .i64)))] }], asg := [], nt := 85, fn := fun x => converge_Escape K x.1.1 x.1.2.1 x.1.2.2.1 }
theorem s_converge_Escape (K : Nat) (hB : Base Try.prog tabs (fs_made_Mod K)) : FnSound Try.prog 21 (p_converge_Escape K) :=
  fun_thm hB (o_converge_Escape_55 K hB) Try.func21 (body := b_converge_Escape) rfl (p_converge_Escape K) (rs := [.tmp 6, .tmp 7, .tmp 8]) rfl (Nat.le_of_ble_eq_true (by kernel_rfl)) (fun x => by kernel_rfl)
noncomputable def fs_converge_Escape (K : Nat) : List (Nat × Piece) := (21, p_converge_Escape K) :: fs_made_Mod K
theorem base_converge_Escape (K : Nat) : Base Try.prog tabs (fs_converge_Escape K) := ⟨(base_made_Mod K).mixed, (base_made_Mod K).tabs, FnsOk.cons (s_converge_Escape K (base_made_Mod K)) (by kernel_rfl) (base_made_Mod K).fns⟩
/-! "selfstab/selfstabref19.Begin" -/
noncomputable def b_ref19_Begin : Code := codeOf Try.f29
noncomputable def c_ref19_Begin_0 (K : Nat) : List (Nat × Piece) := []
theorem o_ref19_Begin_0 (K : Nat) : PcsOk Try.prog b_ref19_Begin (c_ref19_Begin_0 K) := PcsOk.nil
def ref19_Begin (K : Nat) (x0 : ((List Int) × ((List (List (Int × (Int × Unit)))) × Unit))) (x1 : (List Bool)) : Option ((Int × Unit) × Unit) :=
  (ref18_Valid K x0).bind fun y4 =>
    if !y4.1.1 then
      some ((13, ()), ())
    else
      if !decide ((x1.length : Int) = (x0.1.length : Int)) then
        some ((7, ()), ())
      else
        some ((0, ()), ())
@[reducible] def p_ref19_Begin (K : Nat) : Piece := { slots := [(0, (.v (.pair (.slice (.int .u32)) (.pair (.slice (.slice (.pair (.int .u32) (.pair (.int .i64) .unit)))) .unit)))), (1, (.v (.slice .bool)))], objs := [], outs := [{ ex := .ret, slots := [(0, (.v (.int .i64)))], objs := [] }], asg := [], nt := 14, fn := fun x => ref19_Begin K x.1.1 x.1.2.1 }
theorem s_ref19_Begin (K : Nat) (hB : Base Try.prog tabs (fs_converge_Escape K)) : FnSound Try.prog 29 (p_ref19_Begin K) :=
  fun_thm hB (o_ref19_Begin_0 K) Try.func29 (body := b_ref19_Begin) rfl (p_ref19_Begin K) (rs := [.tmp 4]) rfl (Nat.le_of_ble_eq_true (by kernel_rfl)) (fun x => by kernel_rfl)
noncomputable def fs_ref19_Begin (K : Nat) : List (Nat × Piece) := (29, p_ref19_Begin K) :: fs_converge_Escape K
theorem base_ref19_Begin (K : Nat) : Base Try.prog tabs (fs_ref19_Begin K) := ⟨(base_converge_Escape K).mixed, (base_converge_Escape K).tabs, FnsOk.cons (s_ref19_Begin K (base_converge_Escape K)) (by kernel_rfl) (base_converge_Escape K).fns⟩
/-! "selfstab/selfstabref19.into" -/
noncomputable def b_ref19_into : Code := codeOf Try.f30
noncomputable def c_ref19_into_0 (K : Nat) : List (Nat × Piece) := []
theorem o_ref19_into_0 (K : Nat) : PcsOk Try.prog b_ref19_into (c_ref19_into_0 K) := PcsOk.nil
def ref19_into_58 (K : Nat) : (k : Nat) → (x0 : (List (Int × (Int × Unit)))) → (x1 : (List Bool)) → (x5 : Int) → (x6 : Int) → Option ((Int × Unit) × Unit)
  | 0, _, _, _, _ => none
  | k + 1, x0, x1, x5, x6 =>
    if decide (x6 < (x0.length : Int)) then
      if decide (0 ≤ x6 ∧ x6 < (x0.length : Int)) then
        if decide (0 ≤ ((x0.getD x6.toNat (0, (0, ()))).2).1 ∧ ((x0.getD x6.toNat (0, (0, ()))).2).1 < (x1.length : Int)) then
          if x1.getD ((((x0.getD x6.toNat (0, (0, ()))).2).1).toNat) false then
            ref19_into_58 K k x0 x1 (IntKind.i64.wrap (x5 + 1)) (IntKind.i64.wrap (x6 + 1))
          else
            ref19_into_58 K k x0 x1 x5 (IntKind.i64.wrap (x6 + 1))
        else
          none
      else
        none
    else
      some ((x5, ()), ())
@[reducible] def p_ref19_into_58 (K k : Nat) : Piece := { slots := [(0, (.v (.slice (.pair (.int .u32) (.pair (.int .i64) .unit))))), (1, (.v (.slice .bool))), (5, (.v (.int .i64))), (6, (.v (.int .i64)))], objs := [], outs := [{ ex := (.exit 0), slots := [(5, (.v (.int .i64)))], objs := [] }], asg := [5, 6, 7, 8, 9, 10, 11, 12, 13, 14, 15, 16, 17, 18, 19, 20, 21, 22], nt := 24, fn := fun x => ref19_into_58 K k x.1.1 x.1.2.1 x.1.2.2.1 x.1.2.2.2.1 }
theorem k_ref19_into_58 (K : Nat) (hB : Base Try.prog tabs (fs_ref19_Begin K)) : PcOk Try.prog (codeAt b_ref19_into 58) (p_ref19_into_58 K K) :=
  loop_thm hB (o_ref19_into_0 K) 58 (p_ref19_into_58 K 0) (l := fun k x => ref19_into_58 K k x.1.1 x.1.2.1 x.1.2.2.1 x.1.2.2.2.1) (c := codeAt b_ref19_into 116) (by kernel_rfl) (by kernel_rfl) (by kernel_rfl) (by kernel_rfl) (fun x => by kernel_rfl) (fun k x => by kernel_rfl) K
noncomputable def c_ref19_into_58 (K : Nat) : List (Nat × Piece) := (58, p_ref19_into_58 K K) :: c_ref19_into_0 K
theorem o_ref19_into_58 (K : Nat) (hB : Base Try.prog tabs (fs_ref19_Begin K)) : PcsOk Try.prog b_ref19_into (c_ref19_into_58 K) := PcsOk.cons (k_ref19_into_58 K hB) (o_ref19_into_0 K)
def ref19_into (K : Nat) (x0 : (List (Int × (Int × Unit)))) (x1 : (List Bool)) : Option ((Int × Unit) × Unit) :=
  (ref19_into_58 K K x0 x1 0 0).bind fun y2 =>
    some ((y2.1.1, ()), ())
@[reducible] def p_ref19_into (K : Nat) : Piece := { slots := [(0, (.v (.slice (.pair (.int .u32) (.pair (.int .i64) .unit))))), (1, (.v (.slice .bool)))], objs := [], outs := [{ ex := .ret, slots := [(0, (.v (.int .i64)))], objs := [] }], asg := [], nt := 24, fn := fun x => ref19_into K x.1.1 x.1.2.1 }
theorem s_ref19_into (K : Nat) (hB : Base Try.prog tabs (fs_ref19_Begin K)) : FnSound Try.prog 30 (p_ref19_into K) :=
  fun_thm hB (o_ref19_into_58 K hB) Try.func30 (body := b_ref19_into) rfl (p_ref19_into K) (rs := [.tmp 4]) rfl (Nat.le_of_ble_eq_true (by kernel_rfl)) (fun x => by kernel_rfl)
noncomputable def fs_ref19_into (K : Nat) : List (Nat × Piece) := (30, p_ref19_into K) :: fs_ref19_Begin K
theorem base_ref19_into (K : Nat) : Base Try.prog tabs (fs_ref19_into K) := ⟨(base_ref19_Begin K).mixed, (base_ref19_Begin K).tabs, FnsOk.cons (s_ref19_into K (base_ref19_Begin K)) (by kernel_rfl) (base_ref19_Begin K).fns⟩
/-! "selfstab/selfstabref19.Core" -/
noncomputable def b_ref19_Core : Code := codeOf Try.f20
noncomputable def c_ref19_Core_0 (K : Nat) : List (Nat × Piece) := []
theorem o_ref19_Core_0 (K : Nat) : PcsOk Try.prog b_ref19_Core (c_ref19_Core_0 K) := PcsOk.nil
def ref19_Core_122 (K : Nat) : (k : Nat) → (x1 : (List Bool)) → (x8 : Int) → (o0 : (List Bool)) → Option ((Unit × Unit) × ((List Bool) × Unit))
  | 0, _, _, _ => none
  | k + 1, x1, x8, o0 =>
    if decide (x8 < (x1.length : Int)) then
      if decide (0 ≤ x8 ∧ x8 < (x1.length : Int)) then
        if decide (o0.length + ([!(x1.getD x8.toNat false)]).length ≤ 4294967296) then
          ref19_Core_122 K k x1 (IntKind.i64.wrap (x8 + 1)) (o0 ++ [!(x1.getD x8.toNat false)])
        else
          none
      else
        none
    else
      some (((), ()), (o0, ()))
@[reducible] def p_ref19_Core_122 (K k : Nat) : Piece := { slots := [(1, (.v (.slice .bool))), (7, (.href 0)), (8, (.v (.int .i64)))], objs := [(.row .bool)], outs := [{ ex := (.exit 0), slots := [(7, (.href 0))], objs := [(none, (.row .bool))] }], asg := [7, 8, 17, 18, 19, 20, 21, 22, 23, 24, 25, 26, 27, 28, 29, 30], nt := 65, fn := fun x => ref19_Core_122 K k x.1.1 x.1.2.2.1 x.2.1 }
theorem k_ref19_Core_122 (K : Nat) (hB : Base Try.prog tabs (fs_ref19_into K)) : PcOk Try.prog (codeAt b_ref19_Core 122) (p_ref19_Core_122 K K) :=
  loop_thm hB (o_ref19_Core_0 K) 122 (p_ref19_Core_122 K 0) (l := fun k x => ref19_Core_122 K k x.1.1 x.1.2.2.1 x.2.1) (c := codeAt b_ref19_Core 244) (by kernel_rfl) (by kernel_rfl) (by kernel_rfl) (by kernel_rfl) (fun x => by kernel_rfl) (fun k x => by kernel_rfl) K
noncomputable def c_ref19_Core_122 (K : Nat) : List (Nat × Piece) := (122, p_ref19_Core_122 K K) :: c_ref19_Core_0 K
theorem o_ref19_Core_122 (K : Nat) (hB : Base Try.prog tabs (fs_ref19_into K)) : PcsOk Try.prog b_ref19_Core (c_ref19_Core_122 K) := PcsOk.cons (k_ref19_Core_122 K hB) (o_ref19_Core_0 K)
def ref19_Core_512713 (K : Nat) (x9 : Bool) (x10 : Int) (x60 : Bool) (o0 : (List Bool)) : Option ((Bool × Unit) × ((List Bool) × Unit)) :=
  if x60 then
    if decide (0 ≤ x10 ∧ x10 < (o0.length : Int)) then
      some ((true, ()), (o0.set x10.toNat false, ()))
    else
      none
  else
    some ((x9, ()), (o0, ()))
@[reducible] def p_ref19_Core_512713 (K : Nat) : Piece := { slots := [(7, (.href 0)), (9, (.v .bool)), (10, (.v (.int .i64))), (60, (.v .bool))], objs := [(.row .bool)], outs := [{ ex := .normal, slots := [(9, (.v .bool))], objs := [(some 0, (.row .bool))] }], asg := [9, 61, 62, 63], nt := 65, fn := fun x => ref19_Core_512713 K x.1.2.1 x.1.2.2.1 x.1.2.2.2.1 x.2.1 }
theorem k_ref19_Core_512713 (K : Nat) (hB : Base Try.prog tabs (fs_ref19_into K)) : PcOk Try.prog (codeAt b_ref19_Core 512713) (p_ref19_Core_512713 K) :=
  seg_thm hB (o_ref19_Core_122 K hB) 512713 (p_ref19_Core_512713 K) (by kernel_rfl) (by kernel_rfl) (by kernel_rfl) (fun x => by kernel_rfl)
noncomputable def c_ref19_Core_512713 (K : Nat) : List (Nat × Piece) := (512713, p_ref19_Core_512713 K) :: c_ref19_Core_122 K
theorem o_ref19_Core_512713 (K : Nat) (hB : Base Try.prog tabs (fs_ref19_into K)) : PcsOk Try.prog b_ref19_Core (c_ref19_Core_512713 K) := PcsOk.cons (k_ref19_Core_512713 K hB) (o_ref19_Core_122 K hB)
def ref19_Core_16022 (K : Nat) : (k : Nat) → (x9 : Bool) → (x10 : Int) → (o0 : ((List Int) × ((List (List (Int × (Int × Unit)))) × Unit))) → (o1 : (List Bool)) → Option ((Bool × Unit) × (((List Int) × ((List (List (Int × (Int × Unit)))) × Unit)) × ((List Bool) × Unit)))
  | 0, _, _, _, _ => none
  | k + 1, x9, x10, o0, o1 =>
    if decide (x10 < (o1.length : Int)) then
      if decide (0 ≤ x10 ∧ x10 < (o1.length : Int)) then
        if o1.getD x10.toNat false then
          if decide (0 ≤ x10 ∧ x10 < (o0.2.1.length : Int)) then
            if decide (0 < ((o0.2.1.getD x10.toNat []).length : Int)) then
              if decide (0 ≤ x10 ∧ x10 < (o0.2.1.length : Int)) then
                (ref19_into K (o0.2.1.getD x10.toNat []) o1).bind fun y5 =>
                  (ref19_Core_512713 K x9 x10 (decide (y5.1.1 = 0)) o1).bind fun y6 =>
                    ref19_Core_16022 K k y6.1.1 (IntKind.i64.wrap (x10 + 1)) o0 y6.2.1
              else
                none
            else
              (ref19_Core_512713 K x9 x10 false o1).bind fun y7 =>
                ref19_Core_16022 K k y7.1.1 (IntKind.i64.wrap (x10 + 1)) o0 y7.2.1
          else
            none
        else
          (ref19_Core_512713 K x9 x10 false o1).bind fun y8 =>
            ref19_Core_16022 K k y8.1.1 (IntKind.i64.wrap (x10 + 1)) o0 y8.2.1
      else
        none
    else
      some ((x9, ()), (o0, (o1, ())))
@[reducible] def p_ref19_Core_16022 (K k : Nat) : Piece := { slots := [(2, (.ref 0 (.pair (.slice (.int .u32)) (.pair (.slice (.slice (.pair (.int .u32) (.pair (.int .i64) .unit)))) .unit)))), (7, (.href 1)), (9, (.v .bool)), (10, (.v (.int .i64)))], objs := [(.box (.pair (.slice (.int .u32)) (.pair (.slice (.slice (.pair (.int .u32) (.pair (.int .i64) .unit)))) .unit)) (.v (.pair (.slice (.int .u32)) (.pair (.slice (.slice (.pair (.int .u32) (.pair (.int .i64) .unit)))) .unit)))), (.row .bool)], outs := [{ ex := (.exit 4), slots := [(9, (.v .bool))], objs := [(some 0, (.box (.pair (.slice (.int .u32)) (.pair (.slice (.slice (.pair (.int .u32) (.pair (.int .i64) .unit)))) .unit)) (.v (.pair (.slice (.int .u32)) (.pair (.slice (.slice (.pair (.int .u32) (.pair (.int .i64) .unit)))) .unit))))), (some 1, (.row .bool))] }], asg := [9, 10, 32, 33, 34, 35, 36, 37, 38, 39, 40, 41, 42, 43, 44, 45, 46, 47, 48, 49, 50, 51, 52, 53, 54, 55, 56, 57, 58, 59, 60, 61, 62, 63], nt := 65, fn := fun x => ref19_Core_16022 K k x.1.2.2.1 x.1.2.2.2.1 x.2.1 x.2.2.1 }
theorem k_ref19_Core_16022 (K : Nat) (hB : Base Try.prog tabs (fs_ref19_into K)) : PcOk Try.prog (codeAt b_ref19_Core 16022) (p_ref19_Core_16022 K K) :=
  loop_thm hB (o_ref19_Core_512713 K hB) 16022 (p_ref19_Core_16022 K 0) (l := fun k x => ref19_Core_16022 K k x.1.2.2.1 x.1.2.2.2.1 x.2.1 x.2.2.1) (c := codeAt b_ref19_Core 32044) (by kernel_rfl) (by kernel_rfl) (by kernel_rfl) (by kernel_rfl) (fun x => by kernel_rfl) (fun k x => by kernel_rfl) K
noncomputable def c_ref19_Core_16022 (K : Nat) : List (Nat × Piece) := (16022, p_ref19_Core_16022 K K) :: c_ref19_Core_512713 K
theorem o_ref19_Core_16022 (K : Nat) (hB : Base Try.prog tabs (fs_ref19_into K)) : PcsOk Try.prog b_ref19_Core (c_ref19_Core_16022 K) := PcsOk.cons (k_ref19_Core_16022 K hB) (o_ref19_Core_512713 K hB)
def ref19_Core_250 (K : Nat) : (k : Nat) → (x9 : Bool) → (o0 : ((List Int) × ((List (List (Int × (Int × Unit)))) × Unit))) → (o1 : (List Bool)) → Option (Unit × ((List Bool) × Unit))
  | 0, _, _, _ => none
  | k + 1, x9, o0, o1 =>
    if x9 then
      (ref19_Core_16022 K K false 0 o0 o1).bind fun y1 =>
        ref19_Core_250 K k y1.1.1 y1.2.1 y1.2.2.1
    else
      some ((), (o1, ()))
@[reducible] def p_ref19_Core_250 (K k : Nat) : Piece := { slots := [(2, (.ref 0 (.pair (.slice (.int .u32)) (.pair (.slice (.slice (.pair (.int .u32) (.pair (.int .i64) .unit)))) .unit)))), (7, (.href 1)), (9, (.v .bool))], objs := [(.box (.pair (.slice (.int .u32)) (.pair (.slice (.slice (.pair (.int .u32) (.pair (.int .i64) .unit)))) .unit)) (.v (.pair (.slice (.int .u32)) (.pair (.slice (.slice (.pair (.int .u32) (.pair (.int .i64) .unit)))) .unit)))), (.row .bool)], outs := [{ ex := (.exit 2), slots := [], objs := [(some 1, (.row .bool))] }], asg := [9, 10, 31, 32, 33, 34, 35, 36, 37, 38, 39, 40, 41, 42, 43, 44, 45, 46, 47, 48, 49, 50, 51, 52, 53, 54, 55, 56, 57, 58, 59, 60, 61, 62, 63], nt := 65, fn := fun x => ref19_Core_250 K k x.1.2.2.1 x.2.1 x.2.2.1 }
theorem k_ref19_Core_250 (K : Nat) (hB : Base Try.prog tabs (fs_ref19_into K)) : PcOk Try.prog (codeAt b_ref19_Core 250) (p_ref19_Core_250 K K) :=
  loop_thm hB (o_ref19_Core_16022 K hB) 250 (p_ref19_Core_250 K 0) (l := fun k x => ref19_Core_250 K k x.1.2.2.1 x.2.1 x.2.2.1) (c := codeAt b_ref19_Core 500) (by kernel_rfl) (by kernel_rfl) (by kernel_rfl) (by kernel_rfl) (fun x => by kernel_rfl) (fun k x => by kernel_rfl) K
noncomputable def c_ref19_Core_250 (K : Nat) : List (Nat × Piece) := (250, p_ref19_Core_250 K K) :: c_ref19_Core_16022 K
theorem o_ref19_Core_250 (K : Nat) (hB : Base Try.prog tabs (fs_ref19_into K)) : PcsOk Try.prog b_ref19_Core (c_ref19_Core_250 K) := PcsOk.cons (k_ref19_Core_250 K hB) (o_ref19_Core_16022 K hB)
def ref19_Core (K : Nat) (x0 : ((List Int) × ((List (List (Int × (Int × Unit)))) × Unit))) (x1 : (List Bool)) : Option (((Unit × (Int × Unit)) × Unit) × ((List Bool) × Unit)) :=
  (ref19_Begin K x0 x1).bind fun y4 =>
    if !decide (y4.1.1 = 0) then
      some ((((), (y4.1.1, ())), ()), ([], ()))
    else
      (ref19_Core_122 K K x1 0 []).bind fun y6 =>
        (ref19_Core_250 K K true x0 y6.2.1).bind fun y8 =>
          some ((((), (0, ())), ()), (y8.2.1, ()))
@[reducible] def p_ref19_Core (K : Nat) : Piece := { slots := [(0, (.v (.pair (.slice (.int .u32)) (.pair (.slice (.slice (.pair (.int .u32) (.pair (.int .i64) .unit)))) .unit)))), (1, (.v (.slice .bool)))], objs := [], outs := [{ ex := .ret, slots := [(0, (.tup (.cons (.href 0) (.cons (.v (.int .i64)) .nil))))], objs := [(none, (.row .bool))] }], asg := [], nt := 65, fn := fun x => ref19_Core K x.1.1 x.1.2.1 }
theorem s_ref19_Core (K : Nat) (hB : Base Try.prog tabs (fs_ref19_into K)) : FnSound Try.prog 20 (p_ref19_Core K) :=
  fun_thm hB (o_ref19_Core_250 K hB) Try.func20 (body := b_ref19_Core) rfl (p_ref19_Core K) (rs := [.tmp 4, .tmp 5]) rfl (Nat.le_of_ble_eq_true (by kernel_rfl)) (fun x => by kernel_rfl)
noncomputable def fs_ref19_Core (K : Nat) : List (Nat × Piece) := (20, p_ref19_Core K) :: fs_ref19_into K
theorem base_ref19_Core (K : Nat) : Base Try.prog tabs (fs_ref19_Core K) := ⟨(base_ref19_into K).mixed, (base_ref19_into K).tabs, FnsOk.cons (s_ref19_Core K (base_ref19_into K)) (by kernel_rfl) (base_ref19_into K).fns⟩
/-! "selfstab/selfstablaw19.leads" -/
noncomputable def b_law19_leads : Code := codeOf Try.f24
noncomputable def c_law19_leads_0 (K : Nat) : List (Nat × Piece) := []
theorem o_law19_leads_0 (K : Nat) : PcsOk Try.prog b_law19_leads (c_law19_leads_0 K) := PcsOk.nil
def law19_leads_26 (K : Nat) : (k : Nat) → (x1 : Int) → (x2 : Int) → (x7 : Int) → (o0 : ((List Int) × ((List (List (Int × (Int × Unit)))) × Unit))) → Option ((Unit × Unit) ⊕ ((Bool × Unit) × Unit))
  | 0, _, _, _, _ => none
  | k + 1, x1, x2, x7, o0 =>
    if decide (0 ≤ x1 ∧ x1 < (o0.2.1.length : Int)) then
      if decide (x7 < ((o0.2.1.getD x1.toNat []).length : Int)) then
        if decide (0 ≤ x1 ∧ x1 < (o0.2.1.length : Int)) then
          if decide (0 ≤ x7 ∧ x7 < ((o0.2.1.getD x1.toNat []).length : Int)) then
            if decide (((((o0.2.1.getD x1.toNat []).getD x7.toNat (0, (0, ()))).2).1) = x2) then
              some (.inr ((true, ()), ()))
            else
              law19_leads_26 K k x1 x2 (IntKind.i64.wrap (x7 + 1)) o0
          else
            none
        else
          none
      else
        some (.inl ((), ()))
    else
      none
@[reducible] def p_law19_leads_26 (K k : Nat) : Piece := { slots := [(1, (.v (.int .i64))), (2, (.v (.int .i64))), (3, (.ref 0 (.pair (.slice (.int .u32)) (.pair (.slice (.slice (.pair (.int .u32) (.pair (.int .i64) .unit)))) .unit)))), (7, (.v (.int .i64)))], objs := [(.box (.pair (.slice (.int .u32)) (.pair (.slice (.slice (.pair (.int .u32) (.pair (.int .i64) .unit)))) .unit)) (.v (.pair (.slice (.int .u32)) (.pair (.slice (.slice (.pair (.int .u32) (.pair (.int .i64) .unit)))) .unit))))], outs := [{ ex := (.exit 0), slots := [], objs := [] }, { ex := .ret, slots := [(6, (.v .bool))], objs := [] }], asg := [6, 7, 8, 9, 10, 11, 12, 13, 14, 15, 16, 17, 18, 19, 20, 21, 22, 23, 24, 25, 26, 27, 28], nt := 29, fn := fun x => law19_leads_26 K k x.1.1 x.1.2.1 x.1.2.2.2.1 x.2.1 }
theorem k_law19_leads_26 (K : Nat) (hB : Base Try.prog tabs (fs_ref19_Core K)) : PcOk Try.prog (codeAt b_law19_leads 26) (p_law19_leads_26 K K) :=
  loop_thm hB (o_law19_leads_0 K) 26 (p_law19_leads_26 K 0) (l := fun k x => law19_leads_26 K k x.1.1 x.1.2.1 x.1.2.2.2.1 x.2.1) (c := codeAt b_law19_leads 52) (by kernel_rfl) (by kernel_rfl) (by kernel_rfl) (by kernel_rfl) (fun x => by kernel_rfl) (fun k x => by kernel_rfl) K
noncomputable def c_law19_leads_26 (K : Nat) : List (Nat × Piece) := (26, p_law19_leads_26 K K) :: c_law19_leads_0 K
theorem o_law19_leads_26 (K : Nat) (hB : Base Try.prog tabs (fs_ref19_Core K)) : PcsOk Try.prog b_law19_leads (c_law19_leads_26 K) := PcsOk.cons (k_law19_leads_26 K hB) (o_law19_leads_0 K)
def law19_leads (K : Nat) (x0 : ((List Int) × ((List (List (Int × (Int × Unit)))) × Unit))) (x1 : Int) (x2 : Int) : Option ((Bool × Unit) × Unit) :=
  (law19_leads_26 K K x1 x2 0 x0).bind fun y4 =>
    match y4 with
    | .inl y5 =>
      some ((false, ()), ())
    | .inr y6 =>
      some ((y6.1.1, ()), ())
@[reducible] def p_law19_leads (K : Nat) : Piece := { slots := [(0, (.v (.pair (.slice (.int .u32)) (.pair (.slice (.slice (.pair (.int .u32) (.pair (.int .i64) .unit)))) .unit)))), (1, (.v (.int .i64))), (2, (.v (.int .i64)))], objs := [], outs := [{ ex := .ret, slots := [(0, (.v .bool))], objs := [] }], asg := [], nt := 29, fn := fun x => law19_leads K x.1.1 x.1.2.1 x.1.2.2.1 }
theorem s_law19_leads (K : Nat) (hB : Base Try.prog tabs (fs_ref19_Core K)) : FnSound Try.prog 24 (p_law19_leads K) :=
  fun_thm hB (o_law19_leads_26 K hB) Try.func24 (body := b_law19_leads) rfl (p_law19_leads K) (rs := [.tmp 6]) rfl (Nat.le_of_ble_eq_true (by kernel_rfl)) (fun x => by kernel_rfl)
noncomputable def fs_law19_leads (K : Nat) : List (Nat × Piece) := (24, p_law19_leads K) :: fs_ref19_Core K
theorem base_law19_leads (K : Nat) : Base Try.prog tabs (fs_law19_leads K) := ⟨(base_ref19_Core K).mixed, (base_ref19_Core K).tabs, FnsOk.cons (s_law19_leads K (base_ref19_Core K)) (by kernel_rfl) (base_ref19_Core K).fns⟩
/-! "selfstab/selfstablaw19.ConvergeEscapesForEver" -/
noncomputable def b_law19_ConvergeEscapesForEver : Code := codeOf Try.f9
noncomputable def c_law19_ConvergeEscapesForEver_0 (K : Nat) : List (Nat × Piece) := []
theorem o_law19_ConvergeEscapesForEver_0 (K : Nat) : PcsOk Try.prog b_law19_ConvergeEscapesForEver (c_law19_ConvergeEscapesForEver_0 K) := PcsOk.nil
def law19_ConvergeEscapesForEver_4090 (K : Nat) : (k : Nat) → (x1 : (List Bool)) → (x13 : Int) → (o0 : ((List Int) × ((List (List (Int × (Int × Unit)))) × Unit))) → (o1 : (List Int)) → Option ((Unit × (((List Int) × ((List (List (Int × (Int × Unit)))) × Unit)) × ((List Int) × Unit))) ⊕ ((Bool × Unit) × Unit))
  | 0, _, _, _, _ => none
  | k + 1, x1, x13, o0, o1 =>
    if decide (x13 < (o1.length : Int)) then
      if decide (0 ≤ x13 ∧ x13 < (o1.length : Int)) then
        if decide ((o1.getD x13.toNat 0) < 0) then
          some (.inr ((false, ()), ()))
        else
          if decide (0 ≤ x13 ∧ x13 < (o1.length : Int)) then
            if decide ((x1.length : Int) ≤ (o1.getD x13.toNat 0)) then
              some (.inr ((false, ()), ()))
            else
              if decide (0 ≤ x13 ∧ x13 < (o1.length : Int)) then
                if decide (0 ≤ o1.getD x13.toNat 0 ∧ o1.getD x13.toNat 0 < (x1.length : Int)) then
                  if x1.getD ((o1.getD x13.toNat 0).toNat) false then
                    some (.inr ((false, ()), ()))
                  else
                    if decide (0 < x13) then
                      if decide (0 ≤ IntKind.i64.wrap (x13 - 1) ∧ IntKind.i64.wrap (x13 - 1) < (o1.length : Int)) then
                        if decide (0 ≤ x13 ∧ x13 < (o1.length : Int)) then
                          (law19_leads K o0 (o1.getD ((IntKind.i64.wrap (x13 - 1)).toNat) 0) (o1.getD x13.toNat 0)).bind fun y4 =>
                            if !y4.1.1 then
                              some (.inr ((false, ()), ()))
                            else
                              law19_ConvergeEscapesForEver_4090 K k x1 (IntKind.i64.wrap (x13 + 1)) o0 o1
                        else
                          none
                      else
                        none
                    else
                      law19_ConvergeEscapesForEver_4090 K k x1 (IntKind.i64.wrap (x13 + 1)) o0 o1
                else
                  none
              else
                none
          else
            none
      else
        none
    else
      some (.inl ((), (o0, (o1, ()))))
@[reducible] def p_law19_ConvergeEscapesForEver_4090 (K k : Nat) : Piece := { slots := [(1, (.v (.slice .bool))), (3, (.ref 0 (.pair (.slice (.int .u32)) (.pair (.slice (.slice (.pair (.int .u32) (.pair (.int .i64) .unit)))) .unit)))), (12, (.href 1)), (13, (.v (.int .i64)))], objs := [(.box (.pair (.slice (.int .u32)) (.pair (.slice (.slice (.pair (.int .u32) (.pair (.int .i64) .unit)))) .unit)) (.v (.pair (.slice (.int .u32)) (.pair (.slice (.slice (.pair (.int .u32) (.pair (.int .i64) .unit)))) .unit)))), (.row (.int .i64))], outs := [{ ex := (.exit 0), slots := [], objs := [(some 0, (.box (.pair (.slice (.int .u32)) (.pair (.slice (.slice (.pair (.int .u32) (.pair (.int .i64) .unit)))) .unit)) (.v (.pair (.slice (.int .u32)) (.pair (.slice (.slice (.pair (.int .u32) (.pair (.int .i64) .unit)))) .unit))))), (some 1, (.row (.int .i64)))] }, { ex := .ret, slots := [(6, (.v .bool))], objs := [] }], asg := [6, 13, 83, 84, 85, 86, 87, 88, 89, 90, 91, 92, 93, 94, 95, 96, 97, 98, 99, 100, 101, 102, 103, 104, 105, 106, 107, 108, 109, 110, 111, 112, 113, 114, 115, 116, 117, 118, 119, 120, 121, 122, 123, 124, 125, 126, 127], nt := 156, fn := fun x => law19_ConvergeEscapesForEver_4090 K k x.1.1 x.1.2.2.2.1 x.2.1 x.2.2.1 }
theorem k_law19_ConvergeEscapesForEver_4090 (K : Nat) (hB : Base Try.prog tabs (fs_law19_leads K)) : PcOk Try.prog (codeAt b_law19_ConvergeEscapesForEver 4090) (p_law19_ConvergeEscapesForEver_4090 K K) :=
  loop_thm hB (o_law19_ConvergeEscapesForEver_0 K) 4090 (p_law19_ConvergeEscapesForEver_4090 K 0) (l := fun k x => law19_ConvergeEscapesForEver_4090 K k x.1.1 x.1.2.2.2.1 x.2.1 x.2.2.1) (c := codeAt b_law19_ConvergeEscapesForEver 8180) (by kernel_rfl) (by kernel_rfl) (by kernel_rfl) (by kernel_rfl) (fun x => by kernel_rfl) (fun k x => by kernel_rfl) K
noncomputable def c_law19_ConvergeEscapesForEver_4090 (K : Nat) : List (Nat × Piece) := (4090, p_law19_ConvergeEscapesForEver_4090 K K) :: c_law19_ConvergeEscapesForEver_0 K
theorem o_law19_ConvergeEscapesForEver_4090 (K : Nat) (hB : Base Try.prog tabs (fs_law19_leads K)) : PcsOk Try.prog b_law19_ConvergeEscapesForEver (c_law19_ConvergeEscapesForEver_4090 K) := PcsOk.cons (k_law19_ConvergeEscapesForEver_4090 K hB) (o_law19_ConvergeEscapesForEver_0 K)
def law19_ConvergeEscapesForEver (K : Nat) (x0 : ((List Int) × ((List (List (Int × (Int × Unit)))) × Unit))) (x1 : (List Bool)) (x2 : Int) : Option ((Bool × Unit) × Unit) :=
  (law19_fair K x0 x1).bind fun y5 =>
    if !y5.1.1 then
      (law19_awake K).bind fun y6 =>
        some ((y6.1.1, ()), ())
    else
      (made_Mod K x2 (x1.length : Int)).bind fun y8 =>
        (converge_Escape K x0 x1 y8.1.1).bind fun y10 =>
          (ref19_Core K x0 x1).bind fun y12 =>
            if decide (0 ≤ y8.1.1 ∧ y8.1.1 < (y12.2.1.length : Int)) then
              if !(y12.2.1.getD y8.1.1.toNat false) then
                (law19_awake K).bind fun y14 =>
                  if y14.1.1 then
                    if decide (y10.1.1.2.2.1 = 2) then
                      if decide ((y10.2.1.length : Int) = 0) then
                        some ((decide ((y10.2.2.1.length : Int) = 0), ()), ())
                      else
                        some ((false, ()), ())
                    else
                      some ((false, ()), ())
                  else
                    some ((false, ()), ())
              else
                if decide (([] : List Int).length + y10.2.1.length ≤ 4294967296) then
                  if decide ((([] : List Int) ++ y10.2.1).length + y10.2.2.1.length ≤ 4294967296) then
                    if !decide (y10.1.1.2.2.1 = 0) then
                      some ((false, ()), ())
                    else
                      if decide ((((([] : List Int) ++ y10.2.1) ++ y10.2.2.1).length : Int) = 0) then
                        some ((false, ()), ())
                      else
                        if decide ((x1.length : Int) < (((([] : List Int) ++ y10.2.1) ++ y10.2.2.1).length : Int)) then
                          some ((false, ()), ())
                        else
                          if decide (0 ≤ (0 : Int) ∧ 0 < (((([] : List Int) ++ y10.2.1) ++ y10.2.2.1).length : Int)) then
                            if !decide ((((([] : List Int) ++ y10.2.1) ++ y10.2.2.1).getD ((0 : Int).toNat) 0) = y8.1.1) then
                              some ((false, ()), ())
                            else
                              (law19_ConvergeEscapesForEver_4090 K K x1 0 x0 ((([] : List Int) ++ y10.2.1) ++ y10.2.2.1)).bind fun y18 =>
                                match y18 with
                                | .inl y19 =>
                                  if decide (0 ≤ IntKind.i64.wrap ((y19.2.2.1.length : Int) - 1) ∧ IntKind.i64.wrap ((y19.2.2.1.length : Int) - 1) < (y19.2.2.1.length : Int)) then
                                    if decide ((y10.2.2.1.length : Int) = 0) then
                                      (law19_awake K).bind fun y22 =>
                                        if y22.1.1 then
                                          if decide (0 ≤ y19.2.2.1.getD ((IntKind.i64.wrap ((y19.2.2.1.length : Int) - 1)).toNat) 0 ∧ y19.2.2.1.getD ((IntKind.i64.wrap ((y19.2.2.1.length : Int) - 1)).toNat) 0 < (y19.2.1.2.1.length : Int)) then
                                            some ((decide (((y19.2.1.2.1.getD ((y19.2.2.1.getD ((IntKind.i64.wrap ((y19.2.2.1.length : Int) - 1)).toNat) 0).toNat) []).length : Int) = 0), ()), ())
                                          else
                                            none
                                        else
                                          some ((false, ()), ())
                                    else
                                      (law19_awake K).bind fun y23 =>
                                        if y23.1.1 then
                                          if decide (0 ≤ (0 : Int) ∧ 0 < (y10.2.2.1.length : Int)) then
                                            (law19_leads K y19.2.1 (y19.2.2.1.getD ((IntKind.i64.wrap ((y19.2.2.1.length : Int) - 1)).toNat) 0) (y10.2.2.1.getD ((0 : Int).toNat) 0)).bind fun y24 =>
                                              some ((y24.1.1, ()), ())
                                          else
                                            none
                                        else
                                          some ((false, ()), ())
                                  else
                                    none
                                | .inr y20 =>
                                  some ((y20.1.1, ()), ())
                          else
                            none
                  else
                    none
                else
                  none
            else
              none
@[reducible] def p_law19_ConvergeEscapesForEver (K : Nat) : Piece := { slots := [(0, (.v (.pair (.slice (.int .u32)) (.pair (.slice (.slice (.pair (.int .u32) (.pair (.int .i64) .unit)))) .unit)))), (1, (.v (.slice .bool))), (2, (.v (.int .i64)))], objs := [], outs := [{ ex := .ret, slots := [(0, (.v .bool))], objs := [] }], asg := [], nt := 156, fn := fun x => law19_ConvergeEscapesForEver K x.1.1 x.1.2.1 x.1.2.2.1 }
theorem s_law19_ConvergeEscapesForEver (K : Nat) (hB : Base Try.prog tabs (fs_law19_leads K)) : FnSound Try.prog 9 (p_law19_ConvergeEscapesForEver K) :=
  fun_thm hB (o_law19_ConvergeEscapesForEver_4090 K hB) Try.func9 (body := b_law19_ConvergeEscapesForEver) rfl (p_law19_ConvergeEscapesForEver K) (rs := [.tmp 6]) rfl (Nat.le_of_ble_eq_true (by kernel_rfl)) (fun x => by kernel_rfl)
noncomputable def fs_law19_ConvergeEscapesForEver (K : Nat) : List (Nat × Piece) := (9, p_law19_ConvergeEscapesForEver K) :: fs_law19_leads K
theorem base_law19_ConvergeEscapesForEver (K : Nat) : Base Try.prog tabs (fs_law19_ConvergeEscapesForEver K) := ⟨(base_law19_leads K).mixed, (base_law19_leads K).tabs, FnsOk.cons (s_law19_ConvergeEscapesForEver K (base_law19_leads K)) (by kernel_rfl) (base_law19_leads K).fns⟩
theorem law_law19_ConvergeEscapesForEver (K : Nat) : FnSound Try.prog 9 (p_law19_ConvergeEscapesForEver K) := s_law19_ConvergeEscapesForEver K (base_law19_leads K)
/-! "selfstab/selfstabref19.find" -/
noncomputable def b_ref19_find : Code := codeOf Try.f33
noncomputable def c_ref19_find_0 (K : Nat) : List (Nat × Piece) := []
theorem o_ref19_find_0 (K : Nat) : PcsOk Try.prog b_ref19_find (c_ref19_find_0 K) := PcsOk.nil
def ref19_find_26 (K : Nat) : (k : Nat) → (x0 : (List Int)) → (x1 : Int) → (x5 : Int) → Option ((Unit × Unit) ⊕ ((Int × Unit) × Unit))
  | 0, _, _, _ => none
  | k + 1, x0, x1, x5 =>
    if decide (x5 < (x0.length : Int)) then
      if decide (0 ≤ x5 ∧ x5 < (x0.length : Int)) then
        if decide ((x0.getD x5.toNat 0) = x1) then
          some (.inr ((x5, ()), ()))
        else
          ref19_find_26 K k x0 x1 (IntKind.i64.wrap (x5 + 1))
      else
        none
    else
      some (.inl ((), ()))
@[reducible] def p_ref19_find_26 (K k : Nat) : Piece := { slots := [(0, (.v (.slice (.int .i64)))), (1, (.v (.int .i64))), (5, (.v (.int .i64)))], objs := [], outs := [{ ex := (.exit 0), slots := [], objs := [] }, { ex := .ret, slots := [(4, (.v (.int .i64)))], objs := [] }], asg := [4, 5, 6, 7, 8, 9, 10, 11, 12, 13, 14, 15, 16, 17, 18], nt := 19, fn := fun x => ref19_find_26 K k x.1.1 x.1.2.1 x.1.2.2.1 }
theorem k_ref19_find_26 (K : Nat) (hB : Base Try.prog tabs (fs_law19_ConvergeEscapesForEver K)) : PcOk Try.prog (codeAt b_ref19_find 26) (p_ref19_find_26 K K) :=
  loop_thm hB (o_ref19_find_0 K) 26 (p_ref19_find_26 K 0) (l := fun k x => ref19_find_26 K k x.1.1 x.1.2.1 x.1.2.2.1) (c := codeAt b_ref19_find 52) (by kernel_rfl) (by kernel_rfl) (by kernel_rfl) (by kernel_rfl) (fun x => by kernel_rfl) (fun k x => by kernel_rfl) K
noncomputable def c_ref19_find_26 (K : Nat) : List (Nat × Piece) := (26, p_ref19_find_26 K K) :: c_ref19_find_0 K
theorem o_ref19_find_26 (K : Nat) (hB : Base Try.prog tabs (fs_law19_ConvergeEscapesForEver K)) : PcsOk Try.prog b_ref19_find (c_ref19_find_26 K) := PcsOk.cons (k_ref19_find_26 K hB) (o_ref19_find_0 K)
def ref19_find (K : Nat) (x0 : (List Int)) (x1 : Int) : Option ((Int × Unit) × Unit) :=
  (ref19_find_26 K K x0 x1 0).bind fun y4 =>
    match y4 with
    | .inl y5 =>
      some (((-1), ()), ())
    | .inr y6 =>
      some ((y6.1.1, ()), ())
@[reducible] def p_ref19_find (K : Nat) : Piece := { slots := [(0, (.v (.slice (.int .i64)))), (1, (.v (.int .i64)))], objs := [], outs := [{ ex := .ret, slots := [(0, (.v (.int .i64)))], objs := [] }], asg := [], nt := 19, fn := fun x => ref19_find K x.1.1 x.1.2.1 }
theorem s_ref19_find (K : Nat) (hB : Base Try.prog tabs (fs_law19_ConvergeEscapesForEver K)) : FnSound Try.prog 33 (p_ref19_find K) :=
  fun_thm hB (o_ref19_find_26 K hB) Try.func33 (body := b_ref19_find) rfl (p_ref19_find K) (rs := [.tmp 4]) rfl (Nat.le_of_ble_eq_true (by kernel_rfl)) (fun x => by kernel_rfl)
noncomputable def fs_ref19_find (K : Nat) : List (Nat × Piece) := (33, p_ref19_find K) :: fs_law19_ConvergeEscapesForEver K
theorem base_ref19_find (K : Nat) : Base Try.prog tabs (fs_ref19_find K) := ⟨(base_law19_ConvergeEscapesForEver K).mixed, (base_law19_ConvergeEscapesForEver K).tabs, FnsOk.cons (s_ref19_find K (base_law19_ConvergeEscapesForEver K)) (by kernel_rfl) (base_law19_ConvergeEscapesForEver K).fns⟩
/-! "selfstab/selfstabref19.follow" -/
noncomputable def b_ref19_follow : Code := codeOf Try.f32
noncomputable def c_ref19_follow_0 (K : Nat) : List (Nat × Piece) := []
theorem o_ref19_follow_0 (K : Nat) : PcsOk Try.prog b_ref19_follow (c_ref19_follow_0 K) := PcsOk.nil
def ref19_follow_26 (K : Nat) : (k : Nat) → (x0 : (List (Int × (Int × Unit)))) → (x1 : (List Bool)) → (x5 : Int) → Option ((Unit × Unit) ⊕ ((Int × Unit) × Unit))
  | 0, _, _, _ => none
  | k + 1, x0, x1, x5 =>
    if decide (x5 < (x0.length : Int)) then
      if decide (0 ≤ x5 ∧ x5 < (x0.length : Int)) then
        if decide (0 ≤ ((x0.getD x5.toNat (0, (0, ()))).2).1 ∧ ((x0.getD x5.toNat (0, (0, ()))).2).1 < (x1.length : Int)) then
          if x1.getD ((((x0.getD x5.toNat (0, (0, ()))).2).1).toNat) false then
            if decide (0 ≤ x5 ∧ x5 < (x0.length : Int)) then
              some (.inr ((((x0.getD x5.toNat (0, (0, ()))).2).1, ()), ()))
            else
              none
          else
            ref19_follow_26 K k x0 x1 (IntKind.i64.wrap (x5 + 1))
        else
          none
      else
        none
    else
      some (.inl ((), ()))
@[reducible] def p_ref19_follow_26 (K k : Nat) : Piece := { slots := [(0, (.v (.slice (.pair (.int .u32) (.pair (.int .i64) .unit))))), (1, (.v (.slice .bool))), (5, (.v (.int .i64)))], objs := [], outs := [{ ex := (.exit 0), slots := [], objs := [] }, { ex := .ret, slots := [(4, (.v (.int .i64)))], objs := [] }], asg := [4, 5, 6, 7, 8, 9, 10, 11, 12, 13, 14, 15, 16, 17, 18, 19, 20, 21, 22, 23, 24], nt := 25, fn := fun x => ref19_follow_26 K k x.1.1 x.1.2.1 x.1.2.2.1 }
theorem k_ref19_follow_26 (K : Nat) (hB : Base Try.prog tabs (fs_ref19_find K)) : PcOk Try.prog (codeAt b_ref19_follow 26) (p_ref19_follow_26 K K) :=
  loop_thm hB (o_ref19_follow_0 K) 26 (p_ref19_follow_26 K 0) (l := fun k x => ref19_follow_26 K k x.1.1 x.1.2.1 x.1.2.2.1) (c := codeAt b_ref19_follow 52) (by kernel_rfl) (by kernel_rfl) (by kernel_rfl) (by kernel_rfl) (fun x => by kernel_rfl) (fun k x => by kernel_rfl) K
noncomputable def c_ref19_follow_26 (K : Nat) : List (Nat × Piece) := (26, p_ref19_follow_26 K K) :: c_ref19_follow_0 K
theorem o_ref19_follow_26 (K : Nat) (hB : Base Try.prog tabs (fs_ref19_find K)) : PcsOk Try.prog b_ref19_follow (c_ref19_follow_26 K) := PcsOk.cons (k_ref19_follow_26 K hB) (o_ref19_follow_0 K)
def ref19_follow (K : Nat) (x0 : (List (Int × (Int × Unit)))) (x1 : (List Bool)) : Option ((Int × Unit) × Unit) :=
  (ref19_follow_26 K K x0 x1 0).bind fun y4 =>
    match y4 with
    | .inl y5 =>
      some (((-1), ()), ())
    | .inr y6 =>
      some ((y6.1.1, ()), ())
@[reducible] def p_ref19_follow (K : Nat) : Piece := { slots := [(0, (.v (.slice (.pair (.int .u32) (.pair (.int .i64) .unit))))), (1, (.v (.slice .bool)))], objs := [], outs := [{ ex := .ret, slots := [(0, (.v (.int .i64)))], objs := [] }], asg := [], nt := 25, fn := fun x => ref19_follow K x.1.1 x.1.2.1 }
theorem s_ref19_follow (K : Nat) (hB : Base Try.prog tabs (fs_ref19_find K)) : FnSound Try.prog 32 (p_ref19_follow K) :=
  fun_thm hB (o_ref19_follow_26 K hB) Try.func32 (body := b_ref19_follow) rfl (p_ref19_follow K) (rs := [.tmp 4]) rfl (Nat.le_of_ble_eq_true (by kernel_rfl)) (fun x => by kernel_rfl)
noncomputable def fs_ref19_follow (K : Nat) : List (Nat × Piece) := (32, p_ref19_follow K) :: fs_ref19_find K
theorem base_ref19_follow (K : Nat) : Base Try.prog tabs (fs_ref19_follow K) := ⟨(base_ref19_find K).mixed, (base_ref19_find K).tabs, FnsOk.cons (s_ref19_follow K (base_ref19_find K)) (by kernel_rfl) (base_ref19_find K).fns⟩
/-! "selfstab/selfstabref19.Escape" -/
noncomputable def b_ref19_Escape : Code := codeOf Try.f22
noncomputable def c_ref19_Escape_0 (K : Nat) : List (Nat × Piece) := []
theorem o_ref19_Escape_0 (K : Nat) : PcsOk Try.prog b_ref19_Escape (c_ref19_Escape_0 K) := PcsOk.nil
def ref19_Escape_506 (K : Nat) : (k : Nat) → (x9 : (List Bool)) → (x12 : Int) → (o0 : ((List Int) × ((List (List (Int × (Int × Unit)))) × Unit))) → (o1 : (List Int)) → Option (((Unit × Unit) × ((List Int) × Unit)) ⊕ ((Unit × (Unit × (Int × Unit))) × ((List Int) × ((List Int) × Unit))))
  | 0, _, _, _, _ => none
  | k + 1, x9, x12, o0, o1 =>
    if decide (0 ≤ x12) then
      (ref19_find K o1 x12).bind fun y8 =>
        if decide (0 ≤ y8.1.1) then
          if decide (0 ≤ y8.1.1 ∧ y8.1.1 ≤ (o1.length : Int)) then
            if decide (([] : List Int).length + (o1.take y8.1.1.toNat).length ≤ 4294967296) then
              if decide (0 ≤ y8.1.1 ∧ y8.1.1 ≤ (o1.length : Int)) then
                if decide (([] : List Int).length + (view o1 (some (y8.1.1.toNat, (o1.length - y8.1.1.toNat)))).length ≤ 4294967296) then
                  some (.inr (((), ((), (0, ()))), ((([] : List Int) ++ o1.take y8.1.1.toNat), ((([] : List Int) ++ view o1 (some (y8.1.1.toNat, (o1.length - y8.1.1.toNat)))), ()))))
                else
                  none
              else
                none
            else
              none
          else
            none
        else
          if decide (o1.length + ([x12]).length ≤ 4294967296) then
            if decide (0 ≤ x12 ∧ x12 < (o0.2.1.length : Int)) then
              (ref19_follow K (o0.2.1.getD x12.toNat []) x9).bind fun y9 =>
                ref19_Escape_506 K k x9 y9.1.1 o0 (o1 ++ [x12])
            else
              none
          else
            none
    else
      some (.inl (((), ()), (o1, ())))
@[reducible] def p_ref19_Escape_506 (K k : Nat) : Piece := { slots := [(3, (.ref 0 (.pair (.slice (.int .u32)) (.pair (.slice (.slice (.pair (.int .u32) (.pair (.int .i64) .unit)))) .unit)))), (9, (.v (.slice .bool))), (11, (.href 1)), (12, (.v (.int .i64)))], objs := [(.box (.pair (.slice (.int .u32)) (.pair (.slice (.slice (.pair (.int .u32) (.pair (.int .i64) .unit)))) .unit)) (.v (.pair (.slice (.int .u32)) (.pair (.slice (.slice (.pair (.int .u32) (.pair (.int .i64) .unit)))) .unit)))), (.row (.int .i64))], outs := [{ ex := (.exit 0), slots := [(11, (.href 0))], objs := [(none, (.row (.int .i64)))] }, { ex := .ret, slots := [(6, (.href 0)), (7, (.href 1)), (8, (.v (.int .i64)))], objs := [(none, (.row (.int .i64))), (none, (.row (.int .i64)))] }], asg := [6, 7, 8, 11, 12, 13, 37, 38, 39, 40, 41, 42, 43, 44, 45, 46, 47, 48, 49, 50, 51, 52, 53, 54, 55, 56, 57, 58, 59, 60, 61, 62], nt := 64, fn := fun x => ref19_Escape_506 K k x.1.2.1 x.1.2.2.2.1 x.2.1 x.2.2.1 }
theorem k_ref19_Escape_506 (K : Nat) (hB : Base Try.prog tabs (fs_ref19_follow K)) : PcOk Try.prog (codeAt b_ref19_Escape 506) (p_ref19_Escape_506 K K) :=
  loop_thm hB (o_ref19_Escape_0 K) 506 (p_ref19_Escape_506 K 0) (l := fun k x => ref19_Escape_506 K k x.1.2.1 x.1.2.2.2.1 x.2.1 x.2.2.1) (c := codeAt b_ref19_Escape 1012) (by kernel_rfl) (by kernel_rfl) (by kernel_rfl) (by kernel_rfl) (fun x => by kernel_rfl) (fun k x => by kernel_rfl) K
noncomputable def c_ref19_Escape_506 (K : Nat) : List (Nat × Piece) := (506, p_ref19_Escape_506 K K) :: c_ref19_Escape_0 K
theorem o_ref19_Escape_506 (K : Nat) (hB : Base Try.prog tabs (fs_ref19_follow K)) : PcsOk Try.prog b_ref19_Escape (c_ref19_Escape_506 K) := PcsOk.cons (k_ref19_Escape_506 K hB) (o_ref19_Escape_0 K)
def ref19_Escape (K : Nat) (x0 : ((List Int) × ((List (List (Int × (Int × Unit)))) × Unit))) (x1 : (List Bool)) (x2 : Int) : Option (((Unit × (Unit × (Int × Unit))) × Unit) × ((List Int) × ((List Int) × Unit))) :=
  (ref19_Core K x0 x1).bind fun y2 =>
    if !decide (y2.1.1.2.1 = 0) then
      some ((((), ((), (y2.1.1.2.1, ()))), ()), ([], ([], ())))
    else
      (ref01_In K x2 0 (IntKind.i64.wrap ((y2.2.1.length : Int) - 1))).bind fun y6 =>
        if !y6.1.1 then
          some ((((), ((), (2, ()))), ()), ([], ([], ())))
        else
          if decide (0 ≤ x2 ∧ x2 < (y2.2.1.length : Int)) then
            if !(y2.2.1.getD x2.toNat false) then
              some ((((), ((), (2, ()))), ()), ([], ([], ())))
            else
              (ref19_Escape_506 K K y2.2.1 x2 x0 []).bind fun y10 =>
                match y10 with
                | .inl y11 =>
                  some ((((), ((), (0, ()))), ()), (y11.2.1, ([], ())))
                | .inr y12 =>
                  some ((((), ((), (y12.1.2.2.1, ()))), ()), (y12.2.1, (y12.2.2.1, ())))
          else
            none
@[reducible] def p_ref19_Escape (K : Nat) : Piece := { slots := [(0, (.v (.pair (.slice (.int .u32)) (.pair (.slice (.slice (.pair (.int .u32) (.pair (.int .i64) .unit)))) .unit)))), (1, (.v (.slice .bool))), (2, (.v (.int .i64)))], objs := [], outs := [{ ex := .ret, slots := [(0, (.tup (.cons (.href 0) (.cons (.href 1) (.cons (.v (.int .i64)) .nil)))))], objs := [(none, (.row (.int .i64))), (none, (.row (.int .i64)))] }], asg := [], nt := 64, fn := fun x => ref19_Escape K x.1.1 x.1.2.1 x.1.2.2.1 }
theorem s_ref19_Escape (K : Nat) (hB : Base Try.prog tabs (fs_ref19_follow K)) : FnSound Try.prog 22 (p_ref19_Escape K) :=
  fun_thm hB (o_ref19_Escape_506 K hB) Try.func22 (body := b_ref19_Escape) rfl (p_ref19_Escape K) (rs := [.tmp 6, .tmp 7, .tmp 8]) rfl (Nat.le_of_ble_eq_true (by kernel_rfl)) (fun x => by kernel_rfl)
noncomputable def fs_ref19_Escape (K : Nat) : List (Nat × Piece) := (22, p_ref19_Escape K) :: fs_ref19_follow K
theorem base_ref19_Escape (K : Nat) : Base Try.prog tabs (fs_ref19_Escape K) := ⟨(base_ref19_follow K).mixed, (base_ref19_follow K).tabs, FnsOk.cons (s_ref19_Escape K (base_ref19_follow K)) (by kernel_rfl) (base_ref19_follow K).fns⟩
/-! "selfstab/selfstabref01.SameInts" -/
noncomputable def b_ref01_SameInts : Code := codeOf Try.f23
noncomputable def c_ref01_SameInts_0 (K : Nat) : List (Nat × Piece) := []
theorem o_ref01_SameInts_0 (K : Nat) : PcsOk Try.prog b_ref01_SameInts (c_ref01_SameInts_0 K) := PcsOk.nil
def ref01_SameInts_58 (K : Nat) : (k : Nat) → (x0 : (List Int)) → (x1 : (List Int)) → (x5 : Int) → Option ((Unit × Unit) ⊕ ((Bool × Unit) × Unit))
  | 0, _, _, _ => none
  | k + 1, x0, x1, x5 =>
    if decide (x5 < (x0.length : Int)) then
      if decide (0 ≤ x5 ∧ x5 < (x0.length : Int)) then
        if decide (0 ≤ x5 ∧ x5 < (x1.length : Int)) then
          if !decide ((x0.getD x5.toNat 0) = (x1.getD x5.toNat 0)) then
            some (.inr ((false, ()), ()))
          else
            ref01_SameInts_58 K k x0 x1 (IntKind.i64.wrap (x5 + 1))
        else
          none
      else
        none
    else
      some (.inl ((), ()))
@[reducible] def p_ref01_SameInts_58 (K k : Nat) : Piece := { slots := [(0, (.v (.slice (.int .i64)))), (1, (.v (.slice (.int .i64)))), (5, (.v (.int .i64)))], objs := [], outs := [{ ex := (.exit 0), slots := [], objs := [] }, { ex := .ret, slots := [(4, (.v .bool))], objs := [] }], asg := [4, 5, 11, 12, 13, 14, 15, 16, 17, 18, 19, 20, 21, 22, 23, 24, 25], nt := 26, fn := fun x => ref01_SameInts_58 K k x.1.1 x.1.2.1 x.1.2.2.1 }
theorem k_ref01_SameInts_58 (K : Nat) (hB : Base Try.prog tabs (fs_ref19_Escape K)) : PcOk Try.prog (codeAt b_ref01_SameInts 58) (p_ref01_SameInts_58 K K) :=
  loop_thm hB (o_ref01_SameInts_0 K) 58 (p_ref01_SameInts_58 K 0) (l := fun k x => ref01_SameInts_58 K k x.1.1 x.1.2.1 x.1.2.2.1) (c := codeAt b_ref01_SameInts 116) (by kernel_rfl) (by kernel_rfl) (by kernel_rfl) (by kernel_rfl) (fun x => by kernel_rfl) (fun k x => by kernel_rfl) K
noncomputable def c_ref01_SameInts_58 (K : Nat) : List (Nat × Piece) := (58, p_ref01_SameInts_58 K K) :: c_ref01_SameInts_0 K
theorem o_ref01_SameInts_58 (K : Nat) (hB : Base Try.prog tabs (fs_ref19_Escape K)) : PcsOk Try.prog b_ref01_SameInts (c_ref01_SameInts_58 K) := PcsOk.cons (k_ref01_SameInts_58 K hB) (o_ref01_SameInts_0 K)
def ref01_SameInts (K : Nat) (x0 : (List Int)) (x1 : (List Int)) : Option ((Bool × Unit) × Unit) :=
  if !decide ((x0.length : Int) = (x1.length : Int)) then
    some ((false, ()), ())
  else
    (ref01_SameInts_58 K K x0 x1 0).bind fun y4 =>
      match y4 with
      | .inl y5 =>
        some ((true, ()), ())
      | .inr y6 =>
        some ((y6.1.1, ()), ())
@[reducible] def p_ref01_SameInts (K : Nat) : Piece := { slots := [(0, (.v (.slice (.int .i64)))), (1, (.v (.slice (.int .i64))))], objs := [], outs := [{ ex := .ret, slots := [(0, (.v .bool))], objs := [] }], asg := [], nt := 26, fn := fun x => ref01_SameInts K x.1.1 x.1.2.1 }
theorem s_ref01_SameInts (K : Nat) (hB : Base Try.prog tabs (fs_ref19_Escape K)) : FnSound Try.prog 23 (p_ref01_SameInts K) :=
  fun_thm hB (o_ref01_SameInts_58 K hB) Try.func23 (body := b_ref01_SameInts) rfl (p_ref01_SameInts K) (rs := [.tmp 4]) rfl (Nat.le_of_ble_eq_true (by kernel_rfl)) (fun x => by kernel_rfl)
noncomputable def fs_ref01_SameInts (K : Nat) : List (Nat × Piece) := (23, p_ref01_SameInts K) :: fs_ref19_Escape K
theorem base_ref01_SameInts (K : Nat) : Base Try.prog tabs (fs_ref01_SameInts K) := ⟨(base_ref19_Escape K).mixed, (base_ref19_Escape K).tabs, FnsOk.cons (s_ref01_SameInts K (base_ref19_Escape K)) (by kernel_rfl) (base_ref19_Escape K).fns⟩
/-! "selfstab/selfstablaw19.ConvergeEscapes" -/
noncomputable def b_law19_ConvergeEscapes : Code := codeOf Try.f8
noncomputable def c_law19_ConvergeEscapes_0 (K : Nat) : List (Nat × Piece) := []
theorem o_law19_ConvergeEscapes_0 (K : Nat) : PcsOk Try.prog b_law19_ConvergeEscapes (c_law19_ConvergeEscapes_0 K) := PcsOk.nil
def law19_ConvergeEscapes (K : Nat) (x0 : ((List Int) × ((List (List (Int × (Int × Unit)))) × Unit))) (x1 : (List Bool)) (x2 : Int) : Option ((Bool × Unit) × Unit) :=
  (law19_light K x0 x1).bind fun y5 =>
    if !y5.1.1 then
      (law19_awake K).bind fun y6 =>
        some ((y6.1.1, ()), ())
    else
      (converge_Escape K x0 x1 x2).bind fun y8 =>
        (ref19_Escape K x0 x1 x2).bind fun y10 =>
          (law19_awake K).bind fun y11 =>
            if y11.1.1 then
              (ref01_SameInts K y8.2.1 y10.2.1).bind fun y12 =>
                if y12.1.1 then
                  (ref01_SameInts K y8.2.2.1 y10.2.2.1).bind fun y13 =>
                    if y13.1.1 then
                      some ((decide (y8.1.1.2.2.1 = y10.1.1.2.2.1), ()), ())
                    else
                      some ((false, ()), ())
                else
                  some ((false, ()), ())
            else
              some ((false, ()), ())
@[reducible] def p_law19_ConvergeEscapes (K : Nat) : Piece := { slots := [(0, (.v (.pair (.slice (.int .u32)) (.pair (.slice (.slice (.pair (.int .u32) (.pair (.int .i64) .unit)))) .unit)))), (1, (.v (.slice .bool))), (2, (.v (.int .i64)))], objs := [], outs := [{ ex := .ret, slots := [(0, (.v .bool))], objs := [] }], asg := [], nt := 50, fn := fun x => law19_ConvergeEscapes K x.1.1 x.1.2.1 x.1.2.2.1 }
theorem s_law19_ConvergeEscapes (K : Nat) (hB : Base Try.prog tabs (fs_ref01_SameInts K)) : FnSound Try.prog 8 (p_law19_ConvergeEscapes K) :=
  fun_thm hB (o_law19_ConvergeEscapes_0 K) Try.func8 (body := b_law19_ConvergeEscapes) rfl (p_law19_ConvergeEscapes K) (rs := [.tmp 6]) rfl (Nat.le_of_ble_eq_true (by kernel_rfl)) (fun x => by kernel_rfl)
noncomputable def fs_law19_ConvergeEscapes (K : Nat) : List (Nat × Piece) := (8, p_law19_ConvergeEscapes K) :: fs_ref01_SameInts K
theorem base_law19_ConvergeEscapes (K : Nat) : Base Try.prog tabs (fs_law19_ConvergeEscapes K) := ⟨(base_ref01_SameInts K).mixed, (base_ref01_SameInts K).tabs, FnsOk.cons (s_law19_ConvergeEscapes K (base_ref01_SameInts K)) (by kernel_rfl) (base_ref01_SameInts K).fns⟩
theorem law_law19_ConvergeEscapes (K : Nat) : FnSound Try.prog 8 (p_law19_ConvergeEscapes K) := s_law19_ConvergeEscapes K (base_ref01_SameInts K)
/-! "selfstab/selfstabref19.Same" -/
noncomputable def b_ref19_Same : Code := codeOf Try.f14
noncomputable def c_ref19_Same_0 (K : Nat) : List (Nat × Piece) := []
theorem o_ref19_Same_0 (K : Nat) : PcsOk Try.prog b_ref19_Same (c_ref19_Same_0 K) := PcsOk.nil
def ref19_Same_58 (K : Nat) : (k : Nat) → (x0 : (List Bool)) → (x1 : (List Bool)) → (x5 : Int) → Option ((Unit × Unit) ⊕ ((Bool × Unit) × Unit))
  | 0, _, _, _ => none
  | k + 1, x0, x1, x5 =>
    if decide (x5 < (x0.length : Int)) then
      if decide (0 ≤ x5 ∧ x5 < (x0.length : Int)) then
        if decide (0 ≤ x5 ∧ x5 < (x1.length : Int)) then
          if !(GTy.beq .bool (x0.getD x5.toNat false) (x1.getD x5.toNat false)) then
            some (.inr ((false, ()), ()))
          else
            ref19_Same_58 K k x0 x1 (IntKind.i64.wrap (x5 + 1))
        else
          none
      else
        none
    else
      some (.inl ((), ()))
@[reducible] def p_ref19_Same_58 (K k : Nat) : Piece := { slots := [(0, (.v (.slice .bool))), (1, (.v (.slice .bool))), (5, (.v (.int .i64)))], objs := [], outs := [{ ex := (.exit 0), slots := [], objs := [] }, { ex := .ret, slots := [(4, (.v .bool))], objs := [] }], asg := [4, 5, 11, 12, 13, 14, 15, 16, 17, 18, 19, 20, 21, 22, 23, 24, 25], nt := 26, fn := fun x => ref19_Same_58 K k x.1.1 x.1.2.1 x.1.2.2.1 }
theorem k_ref19_Same_58 (K : Nat) (hB : Base Try.prog tabs (fs_law19_ConvergeEscapes K)) : PcOk Try.prog (codeAt b_ref19_Same 58) (p_ref19_Same_58 K K) :=
  loop_thm hB (o_ref19_Same_0 K) 58 (p_ref19_Same_58 K 0) (l := fun k x => ref19_Same_58 K k x.1.1 x.1.2.1 x.1.2.2.1) (c := codeAt b_ref19_Same 116) (by kernel_rfl) (by kernel_rfl) (by kernel_rfl) (by kernel_rfl) (fun x => by kernel_rfl) (fun k x => by kernel_rfl) K
noncomputable def c_ref19_Same_58 (K : Nat) : List (Nat × Piece) := (58, p_ref19_Same_58 K K) :: c_ref19_Same_0 K
theorem o_ref19_Same_58 (K : Nat) (hB : Base Try.prog tabs (fs_law19_ConvergeEscapes K)) : PcsOk Try.prog b_ref19_Same (c_ref19_Same_58 K) := PcsOk.cons (k_ref19_Same_58 K hB) (o_ref19_Same_0 K)
def ref19_Same (K : Nat) (x0 : (List Bool)) (x1 : (List Bool)) : Option ((Bool × Unit) × Unit) :=
  if !decide ((x0.length : Int) = (x1.length : Int)) then
    some ((false, ()), ())
  else
    (ref19_Same_58 K K x0 x1 0).bind fun y4 =>
      match y4 with
      | .inl y5 =>
        some ((true, ()), ())
      | .inr y6 =>
        some ((y6.1.1, ()), ())
@[reducible] def p_ref19_Same (K : Nat) : Piece := { slots := [(0, (.v (.slice .bool))), (1, (.v (.slice .bool)))], objs := [], outs := [{ ex := .ret, slots := [(0, (.v .bool))], objs := [] }], asg := [], nt := 26, fn := fun x => ref19_Same K x.1.1 x.1.2.1 }
theorem s_ref19_Same (K : Nat) (hB : Base Try.prog tabs (fs_law19_ConvergeEscapes K)) : FnSound Try.prog 14 (p_ref19_Same K) :=
  fun_thm hB (o_ref19_Same_58 K hB) Try.func14 (body := b_ref19_Same) rfl (p_ref19_Same K) (rs := [.tmp 4]) rfl (Nat.le_of_ble_eq_true (by kernel_rfl)) (fun x => by kernel_rfl)
noncomputable def fs_ref19_Same (K : Nat) : List (Nat × Piece) := (14, p_ref19_Same K) :: fs_law19_ConvergeEscapes K
theorem base_ref19_Same (K : Nat) : Base Try.prog tabs (fs_ref19_Same K) := ⟨(base_law19_ConvergeEscapes K).mixed, (base_law19_ConvergeEscapes K).tabs, FnsOk.cons (s_ref19_Same K (base_law19_ConvergeEscapes K)) (by kernel_rfl) (base_law19_ConvergeEscapes K).fns⟩
/-! "selfstab/selfstablaw19.ConvergeIsMonotone" -/
noncomputable def b_law19_ConvergeIsMonotone : Code := codeOf Try.f4
noncomputable def c_law19_ConvergeIsMonotone_0 (K : Nat) : List (Nat × Piece) := []
theorem o_law19_ConvergeIsMonotone_0 (K : Nat) : PcsOk Try.prog b_law19_ConvergeIsMonotone (c_law19_ConvergeIsMonotone_0 K) := PcsOk.nil
def law19_ConvergeIsMonotone_122 (K : Nat) : (k : Nat) → (x1 : (List Bool)) → (x2 : (List Bool)) → (x8 : Int) → (o0 : (List Bool)) → Option ((Unit × Unit) × ((List Bool) × Unit))
  | 0, _, _, _, _ => none
  | k + 1, x1, x2, x8, o0 =>
    if decide (x8 < (x1.length : Int)) then
      if decide (0 ≤ x8 ∧ x8 < (x1.length : Int)) then
        if x1.getD x8.toNat false then
          if decide (o0.length + ([true]).length ≤ 4294967296) then
            law19_ConvergeIsMonotone_122 K k x1 x2 (IntKind.i64.wrap (x8 + 1)) (o0 ++ [true])
          else
            none
        else
          if decide (0 ≤ x8 ∧ x8 < (x2.length : Int)) then
            if decide (o0.length + ([x2.getD x8.toNat false]).length ≤ 4294967296) then
              law19_ConvergeIsMonotone_122 K k x1 x2 (IntKind.i64.wrap (x8 + 1)) (o0 ++ [x2.getD x8.toNat false])
            else
              none
          else
            none
      else
        none
    else
      some (((), ()), (o0, ()))
@[reducible] def p_law19_ConvergeIsMonotone_122 (K k : Nat) : Piece := { slots := [(1, (.v (.slice .bool))), (2, (.v (.slice .bool))), (7, (.href 0)), (8, (.v (.int .i64)))], objs := [(.row .bool)], outs := [{ ex := (.exit 0), slots := [(7, (.href 0))], objs := [(none, (.row .bool))] }], asg := [7, 8, 28, 29, 30, 31, 32, 33, 34, 35, 36, 37, 38, 39, 40, 41, 42, 43, 44, 45, 46], nt := 126, fn := fun x => law19_ConvergeIsMonotone_122 K k x.1.1 x.1.2.1 x.1.2.2.2.1 x.2.1 }
theorem k_law19_ConvergeIsMonotone_122 (K : Nat) (hB : Base Try.prog tabs (fs_ref19_Same K)) : PcOk Try.prog (codeAt b_law19_ConvergeIsMonotone 122) (p_law19_ConvergeIsMonotone_122 K K) :=
  loop_thm hB (o_law19_ConvergeIsMonotone_0 K) 122 (p_law19_ConvergeIsMonotone_122 K 0) (l := fun k x => law19_ConvergeIsMonotone_122 K k x.1.1 x.1.2.1 x.1.2.2.2.1 x.2.1) (c := codeAt b_law19_ConvergeIsMonotone 244) (by kernel_rfl) (by kernel_rfl) (by kernel_rfl) (by kernel_rfl) (fun x => by kernel_rfl) (fun k x => by kernel_rfl) K
noncomputable def c_law19_ConvergeIsMonotone_122 (K : Nat) : List (Nat × Piece) := (122, p_law19_ConvergeIsMonotone_122 K K) :: c_law19_ConvergeIsMonotone_0 K
theorem o_law19_ConvergeIsMonotone_122 (K : Nat) (hB : Base Try.prog tabs (fs_ref19_Same K)) : PcsOk Try.prog b_law19_ConvergeIsMonotone (c_law19_ConvergeIsMonotone_122 K) := PcsOk.cons (k_law19_ConvergeIsMonotone_122 K hB) (o_law19_ConvergeIsMonotone_0 K)
def law19_ConvergeIsMonotone_1021 (K : Nat) (x94 : Bool) : Option ((Unit × Unit) ⊕ ((Bool × Unit) × Unit)) :=
  if x94 then
    some (.inr ((false, ()), ()))
  else
    some (.inl ((), ()))
@[reducible] def p_law19_ConvergeIsMonotone_1021 (K : Nat) : Piece := { slots := [(94, (.v .bool))], objs := [], outs := [{ ex := .normal, slots := [], objs := [] }, { ex := .ret, slots := [(6, (.v .bool))], objs := [] }], asg := [6], nt := 126, fn := fun x => law19_ConvergeIsMonotone_1021 K x.1.1 }
theorem k_law19_ConvergeIsMonotone_1021 (K : Nat) (hB : Base Try.prog tabs (fs_ref19_Same K)) : PcOk Try.prog (codeAt b_law19_ConvergeIsMonotone 1021) (p_law19_ConvergeIsMonotone_1021 K) :=
  seg_thm hB (o_law19_ConvergeIsMonotone_122 K hB) 1021 (p_law19_ConvergeIsMonotone_1021 K) (by kernel_rfl) (by kernel_rfl) (by kernel_rfl) (fun x => by kernel_rfl)
noncomputable def c_law19_ConvergeIsMonotone_1021 (K : Nat) : List (Nat × Piece) := (1021, p_law19_ConvergeIsMonotone_1021 K) :: c_law19_ConvergeIsMonotone_122 K
theorem o_law19_ConvergeIsMonotone_1021 (K : Nat) (hB : Base Try.prog tabs (fs_ref19_Same K)) : PcsOk Try.prog b_law19_ConvergeIsMonotone (c_law19_ConvergeIsMonotone_1021 K) := PcsOk.cons (k_law19_ConvergeIsMonotone_1021 K hB) (o_law19_ConvergeIsMonotone_122 K hB)
def law19_ConvergeIsMonotone_130889 (K : Nat) (x124 : Bool) : Option ((Unit × Unit) ⊕ ((Bool × Unit) × Unit)) :=
  if x124 then
    some (.inr ((false, ()), ()))
  else
    some (.inl ((), ()))
@[reducible] def p_law19_ConvergeIsMonotone_130889 (K : Nat) : Piece := { slots := [(124, (.v .bool))], objs := [], outs := [{ ex := .normal, slots := [], objs := [] }, { ex := .ret, slots := [(6, (.v .bool))], objs := [] }], asg := [6], nt := 126, fn := fun x => law19_ConvergeIsMonotone_130889 K x.1.1 }
theorem k_law19_ConvergeIsMonotone_130889 (K : Nat) (hB : Base Try.prog tabs (fs_ref19_Same K)) : PcOk Try.prog (codeAt b_law19_ConvergeIsMonotone 130889) (p_law19_ConvergeIsMonotone_130889 K) :=
  seg_thm hB (o_law19_ConvergeIsMonotone_1021 K hB) 130889 (p_law19_ConvergeIsMonotone_130889 K) (by kernel_rfl) (by kernel_rfl) (by kernel_rfl) (fun x => by kernel_rfl)
noncomputable def c_law19_ConvergeIsMonotone_130889 (K : Nat) : List (Nat × Piece) := (130889, p_law19_ConvergeIsMonotone_130889 K) :: c_law19_ConvergeIsMonotone_1021 K
theorem o_law19_ConvergeIsMonotone_130889 (K : Nat) (hB : Base Try.prog tabs (fs_ref19_Same K)) : PcsOk Try.prog b_law19_ConvergeIsMonotone (c_law19_ConvergeIsMonotone_130889 K) := PcsOk.cons (k_law19_ConvergeIsMonotone_130889 K hB) (o_law19_ConvergeIsMonotone_1021 K hB)
def law19_ConvergeIsMonotone_32723 (K : Nat) (x15 : Int) : Option ((Int × Unit) × Unit) :=
  some ((IntKind.i64.wrap (x15 + 1), ()), ())
@[reducible] def p_law19_ConvergeIsMonotone_32723 (K : Nat) : Piece := { slots := [(15, (.v (.int .i64)))], objs := [], outs := [{ ex := .normal, slots := [(15, (.v (.int .i64)))], objs := [] }], asg := [15, 99, 100], nt := 126, fn := fun x => law19_ConvergeIsMonotone_32723 K x.1.1 }
theorem k_law19_ConvergeIsMonotone_32723 (K : Nat) (hB : Base Try.prog tabs (fs_ref19_Same K)) : PcOk Try.prog (codeAt b_law19_ConvergeIsMonotone 32723) (p_law19_ConvergeIsMonotone_32723 K) :=
  seg_thm hB (o_law19_ConvergeIsMonotone_130889 K hB) 32723 (p_law19_ConvergeIsMonotone_32723 K) (by kernel_rfl) (by kernel_rfl) (by kernel_rfl) (fun x => by kernel_rfl)
noncomputable def c_law19_ConvergeIsMonotone_32723 (K : Nat) : List (Nat × Piece) := (32723, p_law19_ConvergeIsMonotone_32723 K) :: c_law19_ConvergeIsMonotone_130889 K
theorem o_law19_ConvergeIsMonotone_32723 (K : Nat) (hB : Base Try.prog tabs (fs_ref19_Same K)) : PcsOk Try.prog b_law19_ConvergeIsMonotone (c_law19_ConvergeIsMonotone_32723 K) := PcsOk.cons (k_law19_ConvergeIsMonotone_32723 K hB) (o_law19_ConvergeIsMonotone_130889 K hB)
def law19_ConvergeIsMonotone_4090 (K : Nat) : (k : Nat) → (x1 : (List Bool)) → (x9 : (List Bool)) → (x11 : (List Bool)) → (x15 : Int) → Option ((Unit × Unit) ⊕ ((Bool × Unit) × Unit))
  | 0, _, _, _, _ => none
  | k + 1, x1, x9, x11, x15 =>
    if decide (x15 < (x1.length : Int)) then
      if decide (0 ≤ x15 ∧ x15 < (x9.length : Int)) then
        if x9.getD x15.toNat false then
          if decide (0 ≤ x15 ∧ x15 < (x11.length : Int)) then
            if !(x11.getD x15.toNat false) then
              (law19_ConvergeIsMonotone_130889 K true).bind fun y1 =>
                match y1 with
                | .inl y2 =>
                  (law19_ConvergeIsMonotone_32723 K x15).bind fun y4 =>
                    law19_ConvergeIsMonotone_4090 K k x1 x9 x11 y4.1.1
                | .inr y3 =>
                  some (.inr ((y3.1.1, ()), ()))
            else
              if decide (0 ≤ x15 ∧ x15 < (x1.length : Int)) then
                if x1.getD x15.toNat false then
                  if decide (0 ≤ x15 ∧ x15 < (x9.length : Int)) then
                    (law19_ConvergeIsMonotone_130889 K (!(x9.getD x15.toNat false))).bind fun y5 =>
                      match y5 with
                      | .inl y6 =>
                        (law19_ConvergeIsMonotone_32723 K x15).bind fun y8 =>
                          law19_ConvergeIsMonotone_4090 K k x1 x9 x11 y8.1.1
                      | .inr y7 =>
                        some (.inr ((y7.1.1, ()), ()))
                  else
                    none
                else
                  (law19_ConvergeIsMonotone_130889 K false).bind fun y9 =>
                    match y9 with
                    | .inl y10 =>
                      (law19_ConvergeIsMonotone_32723 K x15).bind fun y12 =>
                        law19_ConvergeIsMonotone_4090 K k x1 x9 x11 y12.1.1
                    | .inr y11 =>
                      some (.inr ((y11.1.1, ()), ()))
              else
                none
          else
            none
        else
          if decide (0 ≤ x15 ∧ x15 < (x1.length : Int)) then
            if x1.getD x15.toNat false then
              if decide (0 ≤ x15 ∧ x15 < (x9.length : Int)) then
                (law19_ConvergeIsMonotone_130889 K (!(x9.getD x15.toNat false))).bind fun y13 =>
                  match y13 with
                  | .inl y14 =>
                    (law19_ConvergeIsMonotone_32723 K x15).bind fun y16 =>
                      law19_ConvergeIsMonotone_4090 K k x1 x9 x11 y16.1.1
                  | .inr y15 =>
                    some (.inr ((y15.1.1, ()), ()))
              else
                none
            else
              (law19_ConvergeIsMonotone_130889 K false).bind fun y17 =>
                match y17 with
                | .inl y18 =>
                  (law19_ConvergeIsMonotone_32723 K x15).bind fun y20 =>
                    law19_ConvergeIsMonotone_4090 K k x1 x9 x11 y20.1.1
                | .inr y19 =>
                  some (.inr ((y19.1.1, ()), ()))
          else
            none
      else
        none
    else
      some (.inl ((), ()))
@[reducible] def p_law19_ConvergeIsMonotone_4090 (K k : Nat) : Piece := { slots := [(1, (.v (.slice .bool))), (9, (.v (.slice .bool))), (11, (.v (.slice .bool))), (15, (.v (.int .i64)))], objs := [], outs := [{ ex := (.exit 2), slots := [], objs := [] }, { ex := .ret, slots := [(6, (.v .bool))], objs := [] }], asg := [6, 15, 95, 96, 97, 98, 99, 100, 101, 102, 103, 104, 105, 106, 107, 108, 109, 110, 111, 112, 113, 114, 115, 116, 117, 118, 119, 120, 121, 122, 123, 124], nt := 126, fn := fun x => law19_ConvergeIsMonotone_4090 K k x.1.1 x.1.2.1 x.1.2.2.1 x.1.2.2.2.1 }
theorem k_law19_ConvergeIsMonotone_4090 (K : Nat) (hB : Base Try.prog tabs (fs_ref19_Same K)) : PcOk Try.prog (codeAt b_law19_ConvergeIsMonotone 4090) (p_law19_ConvergeIsMonotone_4090 K K) :=
  loop_thm hB (o_law19_ConvergeIsMonotone_32723 K hB) 4090 (p_law19_ConvergeIsMonotone_4090 K 0) (l := fun k x => law19_ConvergeIsMonotone_4090 K k x.1.1 x.1.2.1 x.1.2.2.1 x.1.2.2.2.1) (c := codeAt b_law19_ConvergeIsMonotone 8180) (by kernel_rfl) (by kernel_rfl) (by kernel_rfl) (by kernel_rfl) (fun x => by kernel_rfl) (fun k x => by kernel_rfl) K
noncomputable def c_law19_ConvergeIsMonotone_4090 (K : Nat) : List (Nat × Piece) := (4090, p_law19_ConvergeIsMonotone_4090 K K) :: c_law19_ConvergeIsMonotone_32723 K
theorem o_law19_ConvergeIsMonotone_4090 (K : Nat) (hB : Base Try.prog tabs (fs_ref19_Same K)) : PcsOk Try.prog b_law19_ConvergeIsMonotone (c_law19_ConvergeIsMonotone_4090 K) := PcsOk.cons (k_law19_ConvergeIsMonotone_4090 K hB) (o_law19_ConvergeIsMonotone_32723 K hB)
def law19_ConvergeIsMonotone_511 (K : Nat) (x1 : (List Bool)) (x9 : (List Bool)) (x11 : (List Bool)) : Option ((Bool × Unit) × Unit) :=
  (law19_ConvergeIsMonotone_4090 K K x1 x9 x11 0).bind fun y4 =>
    match y4 with
    | .inl y5 =>
      (law19_awake K).bind fun y7 =>
        some ((y7.1.1, ()), ())
    | .inr y6 =>
      some ((y6.1.1, ()), ())
@[reducible] def p_law19_ConvergeIsMonotone_511 (K : Nat) : Piece := { slots := [(1, (.v (.slice .bool))), (9, (.v (.slice .bool))), (11, (.v (.slice .bool)))], objs := [], outs := [{ ex := .ret, slots := [(6, (.v .bool))], objs := [] }], asg := [6, 15, 95, 96, 97, 98, 99, 100, 101, 102, 103, 104, 105, 106, 107, 108, 109, 110, 111, 112, 113, 114, 115, 116, 117, 118, 119, 120, 121, 122, 123, 124, 125], nt := 126, fn := fun x => law19_ConvergeIsMonotone_511 K x.1.1 x.1.2.1 x.1.2.2.1 }
theorem k_law19_ConvergeIsMonotone_511 (K : Nat) (hB : Base Try.prog tabs (fs_ref19_Same K)) : PcOk Try.prog (codeAt b_law19_ConvergeIsMonotone 511) (p_law19_ConvergeIsMonotone_511 K) :=
  seg_thm hB (o_law19_ConvergeIsMonotone_4090 K hB) 511 (p_law19_ConvergeIsMonotone_511 K) (by kernel_rfl) (by kernel_rfl) (by kernel_rfl) (fun x => by kernel_rfl)
noncomputable def c_law19_ConvergeIsMonotone_511 (K : Nat) : List (Nat × Piece) := (511, p_law19_ConvergeIsMonotone_511 K) :: c_law19_ConvergeIsMonotone_4090 K
theorem o_law19_ConvergeIsMonotone_511 (K : Nat) (hB : Base Try.prog tabs (fs_ref19_Same K)) : PcsOk Try.prog b_law19_ConvergeIsMonotone (c_law19_ConvergeIsMonotone_511 K) := PcsOk.cons (k_law19_ConvergeIsMonotone_511 K hB) (o_law19_ConvergeIsMonotone_4090 K hB)
def law19_ConvergeIsMonotone (K : Nat) (x0 : ((List Int) × ((List (List (Int × (Int × Unit)))) × Unit))) (x1 : (List Bool)) (x2 : (List Bool)) : Option ((Bool × Unit) × Unit) :=
  (law19_fair K x0 x1).bind fun y6 =>
    if !y6.1.1 then
      (law19_awake K).bind fun y7 =>
        some ((y7.1.1, ()), ())
    else
      if !decide ((x2.length : Int) = (x1.length : Int)) then
        (law19_awake K).bind fun y8 =>
          some ((y8.1.1, ()), ())
      else
        (law19_ConvergeIsMonotone_122 K K x1 x2 0 []).bind fun y10 =>
          (converge_Attractor K x0 x1).bind fun y12 =>
            (converge_Attractor K x0 y10.2.1).bind fun y14 =>
              (converge_Attractor K x0 y12.2.1).bind fun y16 =>
                if !decide (y12.1.1.2.1 = 0) then
                  (law19_ConvergeIsMonotone_1021 K true).bind fun y17 =>
                    match y17 with
                    | .inl y18 =>
                      (law19_ConvergeIsMonotone_511 K x1 y12.2.1 y14.2.1).bind fun y20 =>
                        some ((y20.1.1, ()), ())
                    | .inr y19 =>
                      some ((y19.1.1, ()), ())
                else
                  if !decide (y14.1.1.2.1 = 0) then
                    (law19_ConvergeIsMonotone_1021 K true).bind fun y21 =>
                      match y21 with
                      | .inl y22 =>
                        (law19_ConvergeIsMonotone_511 K x1 y12.2.1 y14.2.1).bind fun y24 =>
                          some ((y24.1.1, ()), ())
                      | .inr y23 =>
                        some ((y23.1.1, ()), ())
                  else
                    if !decide (y16.1.1.2.1 = 0) then
                      (law19_ConvergeIsMonotone_1021 K true).bind fun y25 =>
                        match y25 with
                        | .inl y26 =>
                          (law19_ConvergeIsMonotone_511 K x1 y12.2.1 y14.2.1).bind fun y28 =>
                            some ((y28.1.1, ()), ())
                        | .inr y27 =>
                          some ((y27.1.1, ()), ())
                    else
                      if !decide ((y12.2.1.length : Int) = (x1.length : Int)) then
                        (law19_ConvergeIsMonotone_1021 K true).bind fun y29 =>
                          match y29 with
                          | .inl y30 =>
                            (law19_ConvergeIsMonotone_511 K x1 y12.2.1 y14.2.1).bind fun y32 =>
                              some ((y32.1.1, ()), ())
                          | .inr y31 =>
                            some ((y31.1.1, ()), ())
                      else
                        if !decide ((y14.2.1.length : Int) = (x1.length : Int)) then
                          (law19_ConvergeIsMonotone_1021 K true).bind fun y33 =>
                            match y33 with
                            | .inl y34 =>
                              (law19_ConvergeIsMonotone_511 K x1 y12.2.1 y14.2.1).bind fun y36 =>
                                some ((y36.1.1, ()), ())
                            | .inr y35 =>
                              some ((y35.1.1, ()), ())
                        else
                          (ref19_Same K y12.2.1 y16.2.1).bind fun y37 =>
                            (law19_ConvergeIsMonotone_1021 K (!y37.1.1)).bind fun y38 =>
                              match y38 with
                              | .inl y39 =>
                                (law19_ConvergeIsMonotone_511 K x1 y12.2.1 y14.2.1).bind fun y41 =>
                                  some ((y41.1.1, ()), ())
                              | .inr y40 =>
                                some ((y40.1.1, ()), ())
@[reducible] def p_law19_ConvergeIsMonotone (K : Nat) : Piece := { slots := [(0, (.v (.pair (.slice (.int .u32)) (.pair (.slice (.slice (.pair (.int .u32) (.pair (.int .i64) .unit)))) .unit)))), (1, (.v (.slice .bool))), (2, (.v (.slice .bool)))], objs := [], outs := [{ ex := .ret, slots := [(0, (.v .bool))], objs := [] }], asg := [], nt := 126, fn := fun x => law19_ConvergeIsMonotone K x.1.1 x.1.2.1 x.1.2.2.1 }
theorem s_law19_ConvergeIsMonotone (K : Nat) (hB : Base Try.prog tabs (fs_ref19_Same K)) : FnSound Try.prog 4 (p_law19_ConvergeIsMonotone K) :=
  fun_thm hB (o_law19_ConvergeIsMonotone_511 K hB) Try.func4 (body := b_law19_ConvergeIsMonotone) rfl (p_law19_ConvergeIsMonotone K) (rs := [.tmp 6]) rfl (Nat.le_of_ble_eq_true (by kernel_rfl)) (fun x => by kernel_rfl)
noncomputable def fs_law19_ConvergeIsMonotone (K : Nat) : List (Nat × Piece) := (4, p_law19_ConvergeIsMonotone K) :: fs_ref19_Same K
theorem base_law19_ConvergeIsMonotone (K : Nat) : Base Try.prog tabs (fs_law19_ConvergeIsMonotone K) := ⟨(base_ref19_Same K).mixed, (base_ref19_Same K).tabs, FnsOk.cons (s_law19_ConvergeIsMonotone K (base_ref19_Same K)) (by kernel_rfl) (base_ref19_Same K).fns⟩
theorem law_law19_ConvergeIsMonotone (K : Nat) : FnSound Try.prog 4 (p_law19_ConvergeIsMonotone K) := s_law19_ConvergeIsMonotone K (base_ref19_Same K)
/-! "selfstab/selfstablaw19.ConvergeByRandomWalks" -/
noncomputable def b_law19_ConvergeByRandomWalks : Code := codeOf Try.f6
noncomputable def c_law19_ConvergeByRandomWalks_0 (K : Nat) : List (Nat × Piece) := []
theorem o_law19_ConvergeByRandomWalks_0 (K : Nat) : PcsOk Try.prog b_law19_ConvergeByRandomWalks (c_law19_ConvergeByRandomWalks_0 K) := PcsOk.nil
def law19_ConvergeByRandomWalks_1018 (K : Nat) : (k : Nat) → (x1 : (List Bool)) → (x3 : (List Int)) → (x9 : (List Bool)) → (x11 : Int) → (x12 : Int) → (x13 : Int) → (o0 : ((List Int) × ((List (List (Int × (Int × Unit)))) × Unit))) → Option (((Int × (Int × Unit)) × Unit) ⊕ ((Bool × Unit) × Unit))
  | 0, _, _, _, _, _, _, _ => none
  | k + 1, x1, x3, x9, x11, x12, x13, o0 =>
    if decide (x13 < (x3.length : Int)) then
      if decide (0 ≤ x11 ∧ x11 < (x1.length : Int)) then
        if !(x1.getD x11.toNat false) then
          if decide (0 ≤ x11 ∧ x11 < (o0.2.1.length : Int)) then
            if decide (((o0.2.1.getD x11.toNat []).length : Int) = 0) then
              some (.inr ((false, ()), ()))
            else
              if decide (0 ≤ x11 ∧ x11 < (o0.2.1.length : Int)) then
                if decide (0 ≤ x13 ∧ x13 < (x3.length : Int)) then
                  if decide (0 ≤ x11 ∧ x11 < (o0.2.1.length : Int)) then
                    if decide (((o0.2.1.getD x11.toNat []).length : Int) = 0) then
                      none
                    else
                      if decide (0 ≤ Int.tmod (IntKind.i64.wrap (x3.getD x13.toNat 0)) ((o0.2.1.getD x11.toNat []).length : Int) ∧ Int.tmod (IntKind.i64.wrap (x3.getD x13.toNat 0)) ((o0.2.1.getD x11.toNat []).length : Int) < ((o0.2.1.getD x11.toNat []).length : Int)) then
                        if decide (0 ≤ (((o0.2.1.getD x11.toNat []).getD ((Int.tmod (IntKind.i64.wrap (x3.getD x13.toNat 0)) ((o0.2.1.getD x11.toNat []).length : Int)).toNat) (0, (0, ()))).2).1 ∧ (((o0.2.1.getD x11.toNat []).getD ((Int.tmod (IntKind.i64.wrap (x3.getD x13.toNat 0)) ((o0.2.1.getD x11.toNat []).length : Int)).toNat) (0, (0, ()))).2).1 < (x9.length : Int)) then
                          if !(x9.getD (((((o0.2.1.getD x11.toNat []).getD ((Int.tmod (IntKind.i64.wrap (x3.getD x13.toNat 0)) ((o0.2.1.getD x11.toNat []).length : Int)).toNat) (0, (0, ()))).2).1).toNat) false) then
                            some (.inr ((false, ()), ()))
                          else
                            law19_ConvergeByRandomWalks_1018 K k x1 x3 x9 ((((o0.2.1.getD x11.toNat []).getD ((Int.tmod (IntKind.i64.wrap (x3.getD x13.toNat 0)) ((o0.2.1.getD x11.toNat []).length : Int)).toNat) (0, (0, ()))).2).1) (IntKind.i64.wrap (x12 + 1)) (IntKind.i64.wrap (x13 + 1)) o0
                        else
                          none
                      else
                        none
                  else
                    none
                else
                  none
              else
                none
          else
            none
        else
          some (.inl ((x11, (x12, ())), ()))
      else
        none
    else
      some (.inl ((x11, (x12, ())), ()))
@[reducible] def p_law19_ConvergeByRandomWalks_1018 (K k : Nat) : Piece := { slots := [(1, (.v (.slice .bool))), (3, (.v (.slice (.int .u8)))), (4, (.ref 0 (.pair (.slice (.int .u32)) (.pair (.slice (.slice (.pair (.int .u32) (.pair (.int .i64) .unit)))) .unit)))), (9, (.v (.slice .bool))), (11, (.v (.int .i64))), (12, (.v (.int .i64))), (13, (.v (.int .i64)))], objs := [(.box (.pair (.slice (.int .u32)) (.pair (.slice (.slice (.pair (.int .u32) (.pair (.int .i64) .unit)))) .unit)) (.v (.pair (.slice (.int .u32)) (.pair (.slice (.slice (.pair (.int .u32) (.pair (.int .i64) .unit)))) .unit))))], outs := [{ ex := (.exit 0), slots := [(11, (.v (.int .i64))), (12, (.v (.int .i64)))], objs := [] }, { ex := .ret, slots := [(8, (.v .bool))], objs := [] }], asg := [8, 11, 12, 13, 51, 52, 53, 54, 55, 56, 57, 58, 59, 60, 61, 62, 63, 64, 65, 66, 67, 68, 69, 70, 71, 72, 73, 74, 75, 76, 77, 78, 79, 80, 81, 82, 83, 84, 85, 86, 87, 88, 89, 90, 91, 92, 93, 94, 95, 96, 97], nt := 111, fn := fun x => law19_ConvergeByRandomWalks_1018 K k x.1.1 x.1.2.1 x.1.2.2.2.1 x.1.2.2.2.2.1 x.1.2.2.2.2.2.1 x.1.2.2.2.2.2.2.1 x.2.1 }
theorem k_law19_ConvergeByRandomWalks_1018 (K : Nat) (hB : Base Try.prog tabs (fs_law19_ConvergeIsMonotone K)) : PcOk Try.prog (codeAt b_law19_ConvergeByRandomWalks 1018) (p_law19_ConvergeByRandomWalks_1018 K K) :=
  loop_thm hB (o_law19_ConvergeByRandomWalks_0 K) 1018 (p_law19_ConvergeByRandomWalks_1018 K 0) (l := fun k x => law19_ConvergeByRandomWalks_1018 K k x.1.1 x.1.2.1 x.1.2.2.2.1 x.1.2.2.2.2.1 x.1.2.2.2.2.2.1 x.1.2.2.2.2.2.2.1 x.2.1) (c := codeAt b_law19_ConvergeByRandomWalks 2036) (by kernel_rfl) (by kernel_rfl) (by kernel_rfl) (by kernel_rfl) (fun x => by kernel_rfl) (fun k x => by kernel_rfl) K
noncomputable def c_law19_ConvergeByRandomWalks_1018 (K : Nat) : List (Nat × Piece) := (1018, p_law19_ConvergeByRandomWalks_1018 K K) :: c_law19_ConvergeByRandomWalks_0 K
theorem o_law19_ConvergeByRandomWalks_1018 (K : Nat) (hB : Base Try.prog tabs (fs_law19_ConvergeIsMonotone K)) : PcsOk Try.prog b_law19_ConvergeByRandomWalks (c_law19_ConvergeByRandomWalks_1018 K) := PcsOk.cons (k_law19_ConvergeByRandomWalks_1018 K hB) (o_law19_ConvergeByRandomWalks_0 K)
def law19_ConvergeByRandomWalks (K : Nat) (x0 : ((List Int) × ((List (List (Int × (Int × Unit)))) × Unit))) (x1 : (List Bool)) (x2 : Int) (x3 : (List Int)) : Option ((Bool × Unit) × Unit) :=
  (law19_fair K x0 x1).bind fun y5 =>
    if !y5.1.1 then
      (law19_awake K).bind fun y6 =>
        some ((y6.1.1, ()), ())
    else
      (converge_Attractor K x0 x1).bind fun y8 =>
        if !decide (y8.1.1.2.1 = 0) then
          some ((false, ()), ())
        else
          if !decide ((y8.2.1.length : Int) = (x1.length : Int)) then
            some ((false, ()), ())
          else
            (made_Mod K x2 (x1.length : Int)).bind fun y10 =>
              if decide (0 ≤ y10.1.1 ∧ y10.1.1 < (y8.2.1.length : Int)) then
                if !(y8.2.1.getD y10.1.1.toNat false) then
                  (law19_awake K).bind fun y12 =>
                    if y12.1.1 then
                      if decide (0 ≤ y10.1.1 ∧ y10.1.1 < (x1.length : Int)) then
                        some ((!(x1.getD y10.1.1.toNat false), ()), ())
                      else
                        none
                    else
                      some ((false, ()), ())
                else
                  (law19_ConvergeByRandomWalks_1018 K K x1 x3 y8.2.1 y10.1.1 0 0 x0).bind fun y16 =>
                    match y16 with
                    | .inl y17 =>
                      (law19_awake K).bind fun y19 =>
                        if y19.1.1 then
                          if decide (0 ≤ y17.1.1 ∧ y17.1.1 < (x1.length : Int)) then
                            if x1.getD y17.1.1.toNat false then
                              some ((true, ()), ())
                            else
                              some ((decide (y17.1.2.1 < (x1.length : Int)), ()), ())
                          else
                            none
                        else
                          some ((false, ()), ())
                    | .inr y18 =>
                      some ((y18.1.1, ()), ())
              else
                none
@[reducible] def p_law19_ConvergeByRandomWalks (K : Nat) : Piece := { slots := [(0, (.v (.pair (.slice (.int .u32)) (.pair (.slice (.slice (.pair (.int .u32) (.pair (.int .i64) .unit)))) .unit)))), (1, (.v (.slice .bool))), (2, (.v (.int .i64))), (3, (.v (.slice (.int .u8))))], objs := [], outs := [{ ex := .ret, slots := [(0, (.v .bool))], objs := [] }], asg := [], nt := 111, fn := fun x => law19_ConvergeByRandomWalks K x.1.1 x.1.2.1 x.1.2.2.1 x.1.2.2.2.1 }
theorem s_law19_ConvergeByRandomWalks (K : Nat) (hB : Base Try.prog tabs (fs_law19_ConvergeIsMonotone K)) : FnSound Try.prog 6 (p_law19_ConvergeByRandomWalks K) :=
  fun_thm hB (o_law19_ConvergeByRandomWalks_1018 K hB) Try.func6 (body := b_law19_ConvergeByRandomWalks) rfl (p_law19_ConvergeByRandomWalks K) (rs := [.tmp 8]) rfl (Nat.le_of_ble_eq_true (by kernel_rfl)) (fun x => by kernel_rfl)
noncomputable def fs_law19_ConvergeByRandomWalks (K : Nat) : List (Nat × Piece) := (6, p_law19_ConvergeByRandomWalks K) :: fs_law19_ConvergeIsMonotone K
theorem base_law19_ConvergeByRandomWalks (K : Nat) : Base Try.prog tabs (fs_law19_ConvergeByRandomWalks K) := ⟨(base_law19_ConvergeIsMonotone K).mixed, (base_law19_ConvergeIsMonotone K).tabs, FnsOk.cons (s_law19_ConvergeByRandomWalks K (base_law19_ConvergeIsMonotone K)) (by kernel_rfl) (base_law19_ConvergeIsMonotone K).fns⟩
theorem law_law19_ConvergeByRandomWalks (K : Nat) : FnSound Try.prog 6 (p_law19_ConvergeByRandomWalks K) := s_law19_ConvergeByRandomWalks K (base_law19_ConvergeIsMonotone K)
/-! "selfstab/converge.Closed" -/
noncomputable def b_converge_Closed : Code := codeOf Try.f17
noncomputable def c_converge_Closed_0 (K : Nat) : List (Nat × Piece) := []
theorem o_converge_Closed_0 (K : Nat) : PcsOk Try.prog b_converge_Closed (c_converge_Closed_0 K) := PcsOk.nil
def converge_Closed_14950 (K : Nat) : (k : Nat) → (x1 : (List Bool)) → (x7 : Int) → (x25 : (List (Int × (Int × Unit)))) → (x26 : Int) → (x27 : Int) → Option ((Unit × Unit) ⊕ ((Bool × (Int × Unit)) × Unit))
  | 0, _, _, _, _, _ => none
  | k + 1, x1, x7, x25, x26, x27 =>
    if decide (x27 < x26) then
      if decide (0 ≤ x27 ∧ x27 < (x25.length : Int)) then
        if decide (0 ≤ x7 ∧ x7 < (x1.length : Int)) then
          if x1.getD x7.toNat false then
            if decide (0 ≤ ((x25.getD x27.toNat (0, (0, ()))).2).1 ∧ ((x25.getD x27.toNat (0, (0, ()))).2).1 < (x1.length : Int)) then
              if !(x1.getD ((((x25.getD x27.toNat (0, (0, ()))).2).1).toNat) false) then
                some (.inr ((false, (0, ())), ()))
              else
                converge_Closed_14950 K k x1 x7 x25 x26 (IntKind.i64.wrap (x27 + 1))
            else
              none
          else
            converge_Closed_14950 K k x1 x7 x25 x26 (IntKind.i64.wrap (x27 + 1))
        else
          none
      else
        none
    else
      some (.inl ((), ()))
@[reducible] def p_converge_Closed_14950 (K k : Nat) : Piece := { slots := [(1, (.v (.slice .bool))), (7, (.v (.int .i64))), (25, (.v (.slice (.pair (.int .u32) (.pair (.int .i64) .unit))))), (26, (.v (.int .i64))), (27, (.v (.int .i64)))], objs := [], outs := [{ ex := (.exit 2), slots := [], objs := [] }, { ex := .ret, slots := [(4, (.v .bool)), (5, (.v (.int .i64)))], objs := [] }], asg := [4, 5, 10, 27, 28, 29, 30, 31, 32, 33, 34, 35, 36, 37, 38, 39, 40, 41, 42, 43], nt := 45, fn := fun x => converge_Closed_14950 K k x.1.1 x.1.2.1 x.1.2.2.1 x.1.2.2.2.1 x.1.2.2.2.2.1 }
theorem k_converge_Closed_14950 (K : Nat) (hB : Base Try.prog tabs (fs_law19_ConvergeByRandomWalks K)) : PcOk Try.prog (codeAt b_converge_Closed 14950) (p_converge_Closed_14950 K K) :=
  loop_thm hB (o_converge_Closed_0 K) 14950 (p_converge_Closed_14950 K 0) (l := fun k x => converge_Closed_14950 K k x.1.1 x.1.2.1 x.1.2.2.1 x.1.2.2.2.1 x.1.2.2.2.2.1) (c := codeAt b_converge_Closed 29900) (by kernel_rfl) (by kernel_rfl) (by kernel_rfl) (by kernel_rfl) (fun x => by kernel_rfl) (fun k x => by kernel_rfl) K
noncomputable def c_converge_Closed_14950 (K : Nat) : List (Nat × Piece) := (14950, p_converge_Closed_14950 K K) :: c_converge_Closed_0 K
theorem o_converge_Closed_14950 (K : Nat) (hB : Base Try.prog tabs (fs_law19_ConvergeByRandomWalks K)) : PcsOk Try.prog b_converge_Closed (c_converge_Closed_14950 K) := PcsOk.cons (k_converge_Closed_14950 K hB) (o_converge_Closed_0 K)
def converge_Closed_58 (K : Nat) : (k : Nat) → (x1 : (List Bool)) → (x18 : (List (List (Int × (Int × Unit))))) → (x19 : Int) → (x20 : Int) → Option ((Unit × Unit) ⊕ ((Bool × (Int × Unit)) × Unit))
  | 0, _, _, _, _ => none
  | k + 1, x1, x18, x19, x20 =>
    if decide (x20 < x19) then
      if decide (0 ≤ x20 ∧ x20 < (x18.length : Int)) then
        (converge_Closed_14950 K K x1 x20 (x18.getD x20.toNat []) ((x18.getD x20.toNat []).length : Int) 0).bind fun y4 =>
          match y4 with
          | .inl y5 =>
            converge_Closed_58 K k x1 x18 x19 (IntKind.i64.wrap (x20 + 1))
          | .inr y6 =>
            some (.inr ((y6.1.1, (y6.1.2.1, ())), ()))
      else
        none
    else
      some (.inl ((), ()))
@[reducible] def p_converge_Closed_58 (K k : Nat) : Piece := { slots := [(1, (.v (.slice .bool))), (18, (.v (.slice (.slice (.pair (.int .u32) (.pair (.int .i64) .unit)))))), (19, (.v (.int .i64))), (20, (.v (.int .i64)))], objs := [], outs := [{ ex := (.exit 0), slots := [], objs := [] }, { ex := .ret, slots := [(4, (.v .bool)), (5, (.v (.int .i64)))], objs := [] }], asg := [4, 5, 7, 8, 10, 20, 21, 22, 23, 24, 25, 26, 27, 28, 29, 30, 31, 32, 33, 34, 35, 36, 37, 38, 39, 40, 41, 42, 43, 44], nt := 45, fn := fun x => converge_Closed_58 K k x.1.1 x.1.2.1 x.1.2.2.1 x.1.2.2.2.1 }
theorem k_converge_Closed_58 (K : Nat) (hB : Base Try.prog tabs (fs_law19_ConvergeByRandomWalks K)) : PcOk Try.prog (codeAt b_converge_Closed 58) (p_converge_Closed_58 K K) :=
  loop_thm hB (o_converge_Closed_14950 K hB) 58 (p_converge_Closed_58 K 0) (l := fun k x => converge_Closed_58 K k x.1.1 x.1.2.1 x.1.2.2.1 x.1.2.2.2.1) (c := codeAt b_converge_Closed 116) (by kernel_rfl) (by kernel_rfl) (by kernel_rfl) (by kernel_rfl) (fun x => by kernel_rfl) (fun k x => by kernel_rfl) K
noncomputable def c_converge_Closed_58 (K : Nat) : List (Nat × Piece) := (58, p_converge_Closed_58 K K) :: c_converge_Closed_14950 K
theorem o_converge_Closed_58 (K : Nat) (hB : Base Try.prog tabs (fs_law19_ConvergeByRandomWalks K)) : PcsOk Try.prog b_converge_Closed (c_converge_Closed_58 K) := PcsOk.cons (k_converge_Closed_58 K hB) (o_converge_Closed_14950 K hB)
def converge_Closed (K : Nat) (x0 : ((List Int) × ((List (List (Int × (Int × Unit)))) × Unit))) (x1 : (List Bool)) : Option (((Bool × (Int × Unit)) × Unit) × Unit) :=
  (converge_check K x0 x1).bind fun y4 =>
    if !decide (y4.1.1 = 0) then
      some (((false, (y4.1.1, ())), ()), ())
    else
      (converge_Closed_58 K K x1 x0.2.1 (x0.2.1.length : Int) 0).bind fun y8 =>
        match y8 with
        | .inl y9 =>
          some (((true, (0, ())), ()), ())
        | .inr y10 =>
          some (((y10.1.1, (y10.1.2.1, ())), ()), ())
@[reducible] def p_converge_Closed (K : Nat) : Piece := { slots := [(0, (.v (.pair (.slice (.int .u32)) (.pair (.slice (.slice (.pair (.int .u32) (.pair (.int .i64) .unit)))) .unit)))), (1, (.v (.slice .bool)))], objs := [], outs := [{ ex := .ret, slots := [(0, (.tup (.cons (.v .bool) (.cons (.v (.int .i64)) .nil))))], objs := [] }], asg := [], nt := 45, fn := fun x => converge_Closed K x.1.1 x.1.2.1 }
theorem s_converge_Closed (K : Nat) (hB : Base Try.prog tabs (fs_law19_ConvergeByRandomWalks K)) : FnSound Try.prog 17 (p_converge_Closed K) :=
  fun_thm hB (o_converge_Closed_58 K hB) Try.func17 (body := b_converge_Closed) rfl (p_converge_Closed K) (rs := [.tmp 4, .tmp 5]) rfl (Nat.le_of_ble_eq_true (by kernel_rfl)) (fun x => by kernel_rfl)
noncomputable def fs_converge_Closed (K : Nat) : List (Nat × Piece) := (17, p_converge_Closed K) :: fs_law19_ConvergeByRandomWalks K
theorem base_converge_Closed (K : Nat) : Base Try.prog tabs (fs_converge_Closed K) := ⟨(base_law19_ConvergeByRandomWalks K).mixed, (base_law19_ConvergeByRandomWalks K).tabs, FnsOk.cons (s_converge_Closed K (base_law19_ConvergeByRandomWalks K)) (by kernel_rfl) (base_law19_ConvergeByRandomWalks K).fns⟩
/-! "selfstab/selfstabref19.Closed" -/
noncomputable def b_ref19_Closed : Code := codeOf Try.f18
noncomputable def c_ref19_Closed_0 (K : Nat) : List (Nat × Piece) := []
theorem o_ref19_Closed_0 (K : Nat) : PcsOk Try.prog b_ref19_Closed (c_ref19_Closed_0 K) := PcsOk.nil
def ref19_Closed_3730 (K : Nat) : (k : Nat) → (x1 : (List Bool)) → (x7 : Int) → (x8 : Int) → (o0 : ((List Int) × ((List (List (Int × (Int × Unit)))) × Unit))) → Option ((Unit × (((List Int) × ((List (List (Int × (Int × Unit)))) × Unit)) × Unit)) ⊕ ((Bool × (Int × Unit)) × Unit))
  | 0, _, _, _, _ => none
  | k + 1, x1, x7, x8, o0 =>
    if decide (0 ≤ x7 ∧ x7 < (o0.2.1.length : Int)) then
      if decide (x8 < ((o0.2.1.getD x7.toNat []).length : Int)) then
        if decide (0 ≤ x7 ∧ x7 < (x1.length : Int)) then
          if x1.getD x7.toNat false then
            if decide (0 ≤ x7 ∧ x7 < (o0.2.1.length : Int)) then
              if decide (0 ≤ x8 ∧ x8 < ((o0.2.1.getD x7.toNat []).length : Int)) then
                if decide (0 ≤ (((o0.2.1.getD x7.toNat []).getD x8.toNat (0, (0, ()))).2).1 ∧ (((o0.2.1.getD x7.toNat []).getD x8.toNat (0, (0, ()))).2).1 < (x1.length : Int)) then
                  if !(x1.getD (((((o0.2.1.getD x7.toNat []).getD x8.toNat (0, (0, ()))).2).1).toNat) false) then
                    some (.inr ((false, (0, ())), ()))
                  else
                    ref19_Closed_3730 K k x1 x7 (IntKind.i64.wrap (x8 + 1)) o0
                else
                  none
              else
                none
            else
              none
          else
            ref19_Closed_3730 K k x1 x7 (IntKind.i64.wrap (x8 + 1)) o0
        else
          none
      else
        some (.inl ((), (o0, ())))
    else
      none
@[reducible] def p_ref19_Closed_3730 (K k : Nat) : Piece := { slots := [(1, (.v (.slice .bool))), (2, (.ref 0 (.pair (.slice (.int .u32)) (.pair (.slice (.slice (.pair (.int .u32) (.pair (.int .i64) .unit)))) .unit)))), (7, (.v (.int .i64))), (8, (.v (.int .i64)))], objs := [(.box (.pair (.slice (.int .u32)) (.pair (.slice (.slice (.pair (.int .u32) (.pair (.int .i64) .unit)))) .unit)) (.v (.pair (.slice (.int .u32)) (.pair (.slice (.slice (.pair (.int .u32) (.pair (.int .i64) .unit)))) .unit))))], outs := [{ ex := (.exit 2), slots := [], objs := [(some 0, (.box (.pair (.slice (.int .u32)) (.pair (.slice (.slice (.pair (.int .u32) (.pair (.int .i64) .unit)))) .unit)) (.v (.pair (.slice (.int .u32)) (.pair (.slice (.slice (.pair (.int .u32) (.pair (.int .i64) .unit)))) .unit)))))] }, { ex := .ret, slots := [(4, (.v .bool)), (5, (.v (.int .i64)))], objs := [] }], asg := [4, 5, 8, 21, 22, 23, 24, 25, 26, 27, 28, 29, 30, 31, 32, 33, 34, 35, 36, 37, 38, 39, 40, 41, 42, 43, 44, 45, 46, 47, 48, 49], nt := 50, fn := fun x => ref19_Closed_3730 K k x.1.1 x.1.2.2.1 x.1.2.2.2.1 x.2.1 }
theorem k_ref19_Closed_3730 (K : Nat) (hB : Base Try.prog tabs (fs_converge_Closed K)) : PcOk Try.prog (codeAt b_ref19_Closed 3730) (p_ref19_Closed_3730 K K) :=
  loop_thm hB (o_ref19_Closed_0 K) 3730 (p_ref19_Closed_3730 K 0) (l := fun k x => ref19_Closed_3730 K k x.1.1 x.1.2.2.1 x.1.2.2.2.1 x.2.1) (c := codeAt b_ref19_Closed 7460) (by kernel_rfl) (by kernel_rfl) (by kernel_rfl) (by kernel_rfl) (fun x => by kernel_rfl) (fun k x => by kernel_rfl) K
noncomputable def c_ref19_Closed_3730 (K : Nat) : List (Nat × Piece) := (3730, p_ref19_Closed_3730 K K) :: c_ref19_Closed_0 K
theorem o_ref19_Closed_3730 (K : Nat) (hB : Base Try.prog tabs (fs_converge_Closed K)) : PcsOk Try.prog b_ref19_Closed (c_ref19_Closed_3730 K) := PcsOk.cons (k_ref19_Closed_3730 K hB) (o_ref19_Closed_0 K)
def ref19_Closed_58 (K : Nat) : (k : Nat) → (x1 : (List Bool)) → (x7 : Int) → (o0 : ((List Int) × ((List (List (Int × (Int × Unit)))) × Unit))) → Option ((Unit × Unit) ⊕ ((Bool × (Int × Unit)) × Unit))
  | 0, _, _, _ => none
  | k + 1, x1, x7, o0 =>
    if decide (x7 < (x1.length : Int)) then
      (ref19_Closed_3730 K K x1 x7 0 o0).bind fun y4 =>
        match y4 with
        | .inl y5 =>
          ref19_Closed_58 K k x1 (IntKind.i64.wrap (x7 + 1)) y5.2.1
        | .inr y6 =>
          some (.inr ((y6.1.1, (y6.1.2.1, ())), ()))
    else
      some (.inl ((), ()))
@[reducible] def p_ref19_Closed_58 (K k : Nat) : Piece := { slots := [(1, (.v (.slice .bool))), (2, (.ref 0 (.pair (.slice (.int .u32)) (.pair (.slice (.slice (.pair (.int .u32) (.pair (.int .i64) .unit)))) .unit)))), (7, (.v (.int .i64)))], objs := [(.box (.pair (.slice (.int .u32)) (.pair (.slice (.slice (.pair (.int .u32) (.pair (.int .i64) .unit)))) .unit)) (.v (.pair (.slice (.int .u32)) (.pair (.slice (.slice (.pair (.int .u32) (.pair (.int .i64) .unit)))) .unit))))], outs := [{ ex := (.exit 0), slots := [], objs := [] }, { ex := .ret, slots := [(4, (.v .bool)), (5, (.v (.int .i64)))], objs := [] }], asg := [4, 5, 7, 8, 15, 16, 17, 18, 19, 20, 21, 22, 23, 24, 25, 26, 27, 28, 29, 30, 31, 32, 33, 34, 35, 36, 37, 38, 39, 40, 41, 42, 43, 44, 45, 46, 47, 48, 49], nt := 50, fn := fun x => ref19_Closed_58 K k x.1.1 x.1.2.2.1 x.2.1 }
theorem k_ref19_Closed_58 (K : Nat) (hB : Base Try.prog tabs (fs_converge_Closed K)) : PcOk Try.prog (codeAt b_ref19_Closed 58) (p_ref19_Closed_58 K K) :=
  loop_thm hB (o_ref19_Closed_3730 K hB) 58 (p_ref19_Closed_58 K 0) (l := fun k x => ref19_Closed_58 K k x.1.1 x.1.2.2.1 x.2.1) (c := codeAt b_ref19_Closed 116) (by kernel_rfl) (by kernel_rfl) (by kernel_rfl) (by kernel_rfl) (fun x => by kernel_rfl) (fun k x => by kernel_rfl) K
noncomputable def c_ref19_Closed_58 (K : Nat) : List (Nat × Piece) := (58, p_ref19_Closed_58 K K) :: c_ref19_Closed_3730 K
theorem o_ref19_Closed_58 (K : Nat) (hB : Base Try.prog tabs (fs_converge_Closed K)) : PcsOk Try.prog b_ref19_Closed (c_ref19_Closed_58 K) := PcsOk.cons (k_ref19_Closed_58 K hB) (o_ref19_Closed_3730 K hB)
def ref19_Closed (K : Nat) (x0 : ((List Int) × ((List (List (Int × (Int × Unit)))) × Unit))) (x1 : (List Bool)) : Option (((Bool × (Int × Unit)) × Unit) × Unit) :=
  (ref19_Begin K x0 x1).bind fun y4 =>
    if !decide (y4.1.1 = 0) then
      some (((false, (y4.1.1, ())), ()), ())
    else
      (ref19_Closed_58 K K x1 0 x0).bind fun y8 =>
        match y8 with
        | .inl y9 =>
          some (((true, (0, ())), ()), ())
        | .inr y10 =>
          some (((y10.1.1, (y10.1.2.1, ())), ()), ())
@[reducible] def p_ref19_Closed (K : Nat) : Piece := { slots := [(0, (.v (.pair (.slice (.int .u32)) (.pair (.slice (.slice (.pair (.int .u32) (.pair (.int .i64) .unit)))) .unit)))), (1, (.v (.slice .bool)))], objs := [], outs := [{ ex := .ret, slots := [(0, (.tup (.cons (.v .bool) (.cons (.v (.int .i64)) .nil))))], objs := [] }], asg := [], nt := 50, fn := fun x => ref19_Closed K x.1.1 x.1.2.1 }
theorem s_ref19_Closed (K : Nat) (hB : Base Try.prog tabs (fs_converge_Closed K)) : FnSound Try.prog 18 (p_ref19_Closed K) :=
  fun_thm hB (o_ref19_Closed_58 K hB) Try.func18 (body := b_ref19_Closed) rfl (p_ref19_Closed K) (rs := [.tmp 4, .tmp 5]) rfl (Nat.le_of_ble_eq_true (by kernel_rfl)) (fun x => by kernel_rfl)
noncomputable def fs_ref19_Closed (K : Nat) : List (Nat × Piece) := (18, p_ref19_Closed K) :: fs_converge_Closed K
theorem base_ref19_Closed (K : Nat) : Base Try.prog tabs (fs_ref19_Closed K) := ⟨(base_converge_Closed K).mixed, (base_converge_Closed K).tabs, FnsOk.cons (s_ref19_Closed K (base_converge_Closed K)) (by kernel_rfl) (base_converge_Closed K).fns⟩
/-! "selfstab/selfstabref19.Attractor" -/
noncomputable def b_ref19_Attractor : Code := codeOf Try.f19
noncomputable def c_ref19_Attractor_0 (K : Nat) : List (Nat × Piece) := []
theorem o_ref19_Attractor_0 (K : Nat) : PcsOk Try.prog b_ref19_Attractor (c_ref19_Attractor_0 K) := PcsOk.nil
def ref19_Attractor_250569 (K : Nat) (x8 : Bool) (x9 : Int) (x54 : Bool) (o0 : (List Bool)) : Option ((Bool × Unit) × ((List Bool) × Unit)) :=
  if x54 then
    if decide (0 ≤ x9 ∧ x9 < (o0.length : Int)) then
      some ((true, ()), (o0.set x9.toNat true, ()))
    else
      none
  else
    some ((x8, ()), (o0, ()))
@[reducible] def p_ref19_Attractor_250569 (K : Nat) : Piece := { slots := [(7, (.href 0)), (8, (.v .bool)), (9, (.v (.int .i64))), (54, (.v .bool))], objs := [(.row .bool)], outs := [{ ex := .normal, slots := [(8, (.v .bool))], objs := [(some 0, (.row .bool))] }], asg := [8, 55, 56, 57], nt := 59, fn := fun x => ref19_Attractor_250569 K x.1.2.1 x.1.2.2.1 x.1.2.2.2.1 x.2.1 }
theorem k_ref19_Attractor_250569 (K : Nat) (hB : Base Try.prog tabs (fs_ref19_Closed K)) : PcOk Try.prog (codeAt b_ref19_Attractor 250569) (p_ref19_Attractor_250569 K) :=
  seg_thm hB (o_ref19_Attractor_0 K) 250569 (p_ref19_Attractor_250569 K) (by kernel_rfl) (by kernel_rfl) (by kernel_rfl) (fun x => by kernel_rfl)
noncomputable def c_ref19_Attractor_250569 (K : Nat) : List (Nat × Piece) := (250569, p_ref19_Attractor_250569 K) :: c_ref19_Attractor_0 K
theorem o_ref19_Attractor_250569 (K : Nat) (hB : Base Try.prog tabs (fs_ref19_Closed K)) : PcsOk Try.prog b_ref19_Attractor (c_ref19_Attractor_250569 K) := PcsOk.cons (k_ref19_Attractor_250569 K hB) (o_ref19_Attractor_0 K)
def ref19_Attractor_7830 (K : Nat) : (k : Nat) → (x8 : Bool) → (x9 : Int) → (o0 : ((List Int) × ((List (List (Int × (Int × Unit)))) × Unit))) → (o1 : (List Bool)) → Option ((Bool × Unit) × (((List Int) × ((List (List (Int × (Int × Unit)))) × Unit)) × ((List Bool) × Unit)))
  | 0, _, _, _, _ => none
  | k + 1, x8, x9, o0, o1 =>
    if decide (x9 < (o1.length : Int)) then
      if decide (0 ≤ x9 ∧ x9 < (o1.length : Int)) then
        if !(o1.getD x9.toNat false) then
          if decide (0 ≤ x9 ∧ x9 < (o0.2.1.length : Int)) then
            if decide (0 < ((o0.2.1.getD x9.toNat []).length : Int)) then
              if decide (0 ≤ x9 ∧ x9 < (o0.2.1.length : Int)) then
                (ref19_into K (o0.2.1.getD x9.toNat []) o1).bind fun y5 =>
                  if decide (0 ≤ x9 ∧ x9 < (o0.2.1.length : Int)) then
                    (ref19_Attractor_250569 K x8 x9 (decide (y5.1.1 = ((o0.2.1.getD x9.toNat []).length : Int))) o1).bind fun y6 =>
                      ref19_Attractor_7830 K k y6.1.1 (IntKind.i64.wrap (x9 + 1)) o0 y6.2.1
                  else
                    none
              else
                none
            else
              (ref19_Attractor_250569 K x8 x9 false o1).bind fun y7 =>
                ref19_Attractor_7830 K k y7.1.1 (IntKind.i64.wrap (x9 + 1)) o0 y7.2.1
          else
            none
        else
          (ref19_Attractor_250569 K x8 x9 false o1).bind fun y8 =>
            ref19_Attractor_7830 K k y8.1.1 (IntKind.i64.wrap (x9 + 1)) o0 y8.2.1
      else
        none
    else
      some ((x8, ()), (o0, (o1, ())))
@[reducible] def p_ref19_Attractor_7830 (K k : Nat) : Piece := { slots := [(2, (.ref 0 (.pair (.slice (.int .u32)) (.pair (.slice (.slice (.pair (.int .u32) (.pair (.int .i64) .unit)))) .unit)))), (7, (.href 1)), (8, (.v .bool)), (9, (.v (.int .i64)))], objs := [(.box (.pair (.slice (.int .u32)) (.pair (.slice (.slice (.pair (.int .u32) (.pair (.int .i64) .unit)))) .unit)) (.v (.pair (.slice (.int .u32)) (.pair (.slice (.slice (.pair (.int .u32) (.pair (.int .i64) .unit)))) .unit)))), (.row .bool)], outs := [{ ex := (.exit 2), slots := [(8, (.v .bool))], objs := [(some 0, (.box (.pair (.slice (.int .u32)) (.pair (.slice (.slice (.pair (.int .u32) (.pair (.int .i64) .unit)))) .unit)) (.v (.pair (.slice (.int .u32)) (.pair (.slice (.slice (.pair (.int .u32) (.pair (.int .i64) .unit)))) .unit))))), (some 1, (.row .bool))] }], asg := [8, 9, 19, 20, 21, 22, 23, 24, 25, 26, 27, 28, 29, 30, 31, 32, 33, 34, 35, 36, 37, 38, 39, 40, 41, 42, 43, 44, 45, 46, 47, 48, 49, 50, 51, 52, 53, 54, 55, 56, 57], nt := 59, fn := fun x => ref19_Attractor_7830 K k x.1.2.2.1 x.1.2.2.2.1 x.2.1 x.2.2.1 }
theorem k_ref19_Attractor_7830 (K : Nat) (hB : Base Try.prog tabs (fs_ref19_Closed K)) : PcOk Try.prog (codeAt b_ref19_Attractor 7830) (p_ref19_Attractor_7830 K K) :=
  loop_thm hB (o_ref19_Attractor_250569 K hB) 7830 (p_ref19_Attractor_7830 K 0) (l := fun k x => ref19_Attractor_7830 K k x.1.2.2.1 x.1.2.2.2.1 x.2.1 x.2.2.1) (c := codeAt b_ref19_Attractor 15660) (by kernel_rfl) (by kernel_rfl) (by kernel_rfl) (by kernel_rfl) (fun x => by kernel_rfl) (fun k x => by kernel_rfl) K
noncomputable def c_ref19_Attractor_7830 (K : Nat) : List (Nat × Piece) := (7830, p_ref19_Attractor_7830 K K) :: c_ref19_Attractor_250569 K
theorem o_ref19_Attractor_7830 (K : Nat) (hB : Base Try.prog tabs (fs_ref19_Closed K)) : PcsOk Try.prog b_ref19_Attractor (c_ref19_Attractor_7830 K) := PcsOk.cons (k_ref19_Attractor_7830 K hB) (o_ref19_Attractor_250569 K hB)
def ref19_Attractor_122 (K : Nat) : (k : Nat) → (x8 : Bool) → (o0 : ((List Int) × ((List (List (Int × (Int × Unit)))) × Unit))) → (o1 : (List Bool)) → Option (Unit × ((List Bool) × Unit))
  | 0, _, _, _ => none
  | k + 1, x8, o0, o1 =>
    if x8 then
      (ref19_Attractor_7830 K K false 0 o0 o1).bind fun y1 =>
        ref19_Attractor_122 K k y1.1.1 y1.2.1 y1.2.2.1
    else
      some ((), (o1, ()))
@[reducible] def p_ref19_Attractor_122 (K k : Nat) : Piece := { slots := [(2, (.ref 0 (.pair (.slice (.int .u32)) (.pair (.slice (.slice (.pair (.int .u32) (.pair (.int .i64) .unit)))) .unit)))), (7, (.href 1)), (8, (.v .bool))], objs := [(.box (.pair (.slice (.int .u32)) (.pair (.slice (.slice (.pair (.int .u32) (.pair (.int .i64) .unit)))) .unit)) (.v (.pair (.slice (.int .u32)) (.pair (.slice (.slice (.pair (.int .u32) (.pair (.int .i64) .unit)))) .unit)))), (.row .bool)], outs := [{ ex := (.exit 0), slots := [], objs := [(some 1, (.row .bool))] }], asg := [8, 9, 18, 19, 20, 21, 22, 23, 24, 25, 26, 27, 28, 29, 30, 31, 32, 33, 34, 35, 36, 37, 38, 39, 40, 41, 42, 43, 44, 45, 46, 47, 48, 49, 50, 51, 52, 53, 54, 55, 56, 57], nt := 59, fn := fun x => ref19_Attractor_122 K k x.1.2.2.1 x.2.1 x.2.2.1 }
theorem k_ref19_Attractor_122 (K : Nat) (hB : Base Try.prog tabs (fs_ref19_Closed K)) : PcOk Try.prog (codeAt b_ref19_Attractor 122) (p_ref19_Attractor_122 K K) :=
  loop_thm hB (o_ref19_Attractor_7830 K hB) 122 (p_ref19_Attractor_122 K 0) (l := fun k x => ref19_Attractor_122 K k x.1.2.2.1 x.2.1 x.2.2.1) (c := codeAt b_ref19_Attractor 244) (by kernel_rfl) (by kernel_rfl) (by kernel_rfl) (by kernel_rfl) (fun x => by kernel_rfl) (fun k x => by kernel_rfl) K
noncomputable def c_ref19_Attractor_122 (K : Nat) : List (Nat × Piece) := (122, p_ref19_Attractor_122 K K) :: c_ref19_Attractor_7830 K
theorem o_ref19_Attractor_122 (K : Nat) (hB : Base Try.prog tabs (fs_ref19_Closed K)) : PcsOk Try.prog b_ref19_Attractor (c_ref19_Attractor_122 K) := PcsOk.cons (k_ref19_Attractor_122 K hB) (o_ref19_Attractor_7830 K hB)
def ref19_Attractor (K : Nat) (x0 : ((List Int) × ((List (List (Int × (Int × Unit)))) × Unit))) (x1 : (List Bool)) : Option (((Unit × (Int × Unit)) × Unit) × ((List Bool) × Unit)) :=
  (ref19_Begin K x0 x1).bind fun y4 =>
    if !decide (y4.1.1 = 0) then
      some ((((), (y4.1.1, ())), ()), ([], ()))
    else
      if decide (([] : List Bool).length + x1.length ≤ 4294967296) then
        (ref19_Attractor_122 K K true x0 (([] : List Bool) ++ x1)).bind fun y6 =>
          some ((((), (0, ())), ()), (y6.2.1, ()))
      else
        none
@[reducible] def p_ref19_Attractor (K : Nat) : Piece := { slots := [(0, (.v (.pair (.slice (.int .u32)) (.pair (.slice (.slice (.pair (.int .u32) (.pair (.int .i64) .unit)))) .unit)))), (1, (.v (.slice .bool)))], objs := [], outs := [{ ex := .ret, slots := [(0, (.tup (.cons (.href 0) (.cons (.v (.int .i64)) .nil))))], objs := [(none, (.row .bool))] }], asg := [], nt := 59, fn := fun x => ref19_Attractor K x.1.1 x.1.2.1 }
theorem s_ref19_Attractor (K : Nat) (hB : Base Try.prog tabs (fs_ref19_Closed K)) : FnSound Try.prog 19 (p_ref19_Attractor K) :=
  fun_thm hB (o_ref19_Attractor_122 K hB) Try.func19 (body := b_ref19_Attractor) rfl (p_ref19_Attractor K) (rs := [.tmp 4, .tmp 5]) rfl (Nat.le_of_ble_eq_true (by kernel_rfl)) (fun x => by kernel_rfl)
noncomputable def fs_ref19_Attractor (K : Nat) : List (Nat × Piece) := (19, p_ref19_Attractor K) :: fs_ref19_Closed K
theorem base_ref19_Attractor (K : Nat) : Base Try.prog tabs (fs_ref19_Attractor K) := ⟨(base_ref19_Closed K).mixed, (base_ref19_Closed K).tabs, FnsOk.cons (s_ref19_Attractor K (base_ref19_Closed K)) (by kernel_rfl) (base_ref19_Closed K).fns⟩
/-! "selfstab/selfstablaw19.ConvergeFinds" -/
noncomputable def b_law19_ConvergeFinds : Code := codeOf Try.f7
noncomputable def c_law19_ConvergeFinds_0 (K : Nat) : List (Nat × Piece) := []
theorem o_law19_ConvergeFinds_0 (K : Nat) : PcsOk Try.prog b_law19_ConvergeFinds (c_law19_ConvergeFinds_0 K) := PcsOk.nil
def law19_ConvergeFinds (K : Nat) (x0 : ((List Int) × ((List (List (Int × (Int × Unit)))) × Unit))) (x1 : (List Bool)) : Option ((Bool × Unit) × Unit) :=
  (law19_light K x0 x1).bind fun y5 =>
    if !y5.1.1 then
      (law19_awake K).bind fun y6 =>
        some ((y6.1.1, ()), ())
    else
      (converge_Closed K x0 x1).bind fun y8 =>
        (ref19_Closed K x0 x1).bind fun y10 =>
          (converge_Attractor K x0 x1).bind fun y12 =>
            (ref19_Attractor K x0 x1).bind fun y14 =>
              (converge_Core K x0 x1).bind fun y16 =>
                (ref19_Core K x0 x1).bind fun y18 =>
                  (law19_awake K).bind fun y19 =>
                    if y19.1.1 then
                      if GTy.beq .bool y8.1.1.1 y10.1.1.1 then
                        if decide (y8.1.1.2.1 = y10.1.1.2.1) then
                          (ref19_Same K y12.2.1 y14.2.1).bind fun y20 =>
                            if y20.1.1 then
                              if decide (y12.1.1.2.1 = y14.1.1.2.1) then
                                (ref19_Same K y16.2.1 y18.2.1).bind fun y21 =>
                                  if y21.1.1 then
                                    some ((decide (y16.1.1.2.1 = y18.1.1.2.1), ()), ())
                                  else
                                    some ((false, ()), ())
                              else
                                some ((false, ()), ())
                            else
                              some ((false, ()), ())
                        else
                          some ((false, ()), ())
                      else
                        some ((false, ()), ())
                    else
                      some ((false, ()), ())
@[reducible] def p_law19_ConvergeFinds (K : Nat) : Piece := { slots := [(0, (.v (.pair (.slice (.int .u32)) (.pair (.slice (.slice (.pair (.int .u32) (.pair (.int .i64) .unit)))) .unit)))), (1, (.v (.slice .bool)))], objs := [], outs := [{ ex := .ret, slots := [(0, (.v .bool))], objs := [] }], asg := [], nt := 89, fn := fun x => law19_ConvergeFinds K x.1.1 x.1.2.1 }
theorem s_law19_ConvergeFinds (K : Nat) (hB : Base Try.prog tabs (fs_ref19_Attractor K)) : FnSound Try.prog 7 (p_law19_ConvergeFinds K) :=
  fun_thm hB (o_law19_ConvergeFinds_0 K) Try.func7 (body := b_law19_ConvergeFinds) rfl (p_law19_ConvergeFinds K) (rs := [.tmp 4]) rfl (Nat.le_of_ble_eq_true (by kernel_rfl)) (fun x => by kernel_rfl)
noncomputable def fs_law19_ConvergeFinds (K : Nat) : List (Nat × Piece) := (7, p_law19_ConvergeFinds K) :: fs_ref19_Attractor K
theorem base_law19_ConvergeFinds (K : Nat) : Base Try.prog tabs (fs_law19_ConvergeFinds K) := ⟨(base_ref19_Attractor K).mixed, (base_ref19_Attractor K).tabs, FnsOk.cons (s_law19_ConvergeFinds K (base_ref19_Attractor K)) (by kernel_rfl) (base_ref19_Attractor K).fns⟩
theorem law_law19_ConvergeFinds (K : Nat) : FnSound Try.prog 7 (p_law19_ConvergeFinds K) := s_law19_ConvergeFinds K (base_ref19_Attractor K)
/-! "selfstab/selfstablaw19.ConvergeSplitsStates" -/
noncomputable def b_law19_ConvergeSplitsStates : Code := codeOf Try.f3
noncomputable def c_law19_ConvergeSplitsStates_0 (K : Nat) : List (Nat × Piece) := []
theorem o_law19_ConvergeSplitsStates_0 (K : Nat) : PcsOk Try.prog b_law19_ConvergeSplitsStates (c_law19_ConvergeSplitsStates_0 K) := PcsOk.nil
def law19_ConvergeSplitsStates_506 (K : Nat) : (k : Nat) → (x1 : (List Bool)) → (x5 : (List Bool)) → (x7 : (List Bool)) → (x9 : Int) → Option ((Unit × Unit) ⊕ ((Bool × Unit) × Unit))
  | 0, _, _, _, _ => none
  | k + 1, x1, x5, x7, x9 =>
    if decide (x9 < (x1.length : Int)) then
      if decide (0 ≤ x9 ∧ x9 < (x5.length : Int)) then
        if decide (0 ≤ x9 ∧ x9 < (x7.length : Int)) then
          if GTy.beq .bool (x5.getD x9.toNat false) (x7.getD x9.toNat false) then
            some (.inr ((false, ()), ()))
          else
            if decide (0 ≤ x9 ∧ x9 < (x1.length : Int)) then
              if x1.getD x9.toNat false then
                if decide (0 ≤ x9 ∧ x9 < (x7.length : Int)) then
                  if x7.getD x9.toNat false then
                    some (.inr ((false, ()), ()))
                  else
                    law19_ConvergeSplitsStates_506 K k x1 x5 x7 (IntKind.i64.wrap (x9 + 1))
                else
                  none
              else
                law19_ConvergeSplitsStates_506 K k x1 x5 x7 (IntKind.i64.wrap (x9 + 1))
            else
              none
        else
          none
      else
        none
    else
      some (.inl ((), ()))
@[reducible] def p_law19_ConvergeSplitsStates_506 (K k : Nat) : Piece := { slots := [(1, (.v (.slice .bool))), (5, (.v (.slice .bool))), (7, (.v (.slice .bool))), (9, (.v (.int .i64)))], objs := [], outs := [{ ex := (.exit 0), slots := [], objs := [] }, { ex := .ret, slots := [(4, (.v .bool))], objs := [] }], asg := [4, 9, 47, 48, 49, 50, 51, 52, 53, 54, 55, 56, 57, 58, 59, 60, 61, 62, 63, 64, 65, 66, 67, 68, 69, 70, 71, 72, 73], nt := 75, fn := fun x => law19_ConvergeSplitsStates_506 K k x.1.1 x.1.2.1 x.1.2.2.1 x.1.2.2.2.1 }
theorem k_law19_ConvergeSplitsStates_506 (K : Nat) (hB : Base Try.prog tabs (fs_law19_ConvergeFinds K)) : PcOk Try.prog (codeAt b_law19_ConvergeSplitsStates 506) (p_law19_ConvergeSplitsStates_506 K K) :=
  loop_thm hB (o_law19_ConvergeSplitsStates_0 K) 506 (p_law19_ConvergeSplitsStates_506 K 0) (l := fun k x => law19_ConvergeSplitsStates_506 K k x.1.1 x.1.2.1 x.1.2.2.1 x.1.2.2.2.1) (c := codeAt b_law19_ConvergeSplitsStates 1012) (by kernel_rfl) (by kernel_rfl) (by kernel_rfl) (by kernel_rfl) (fun x => by kernel_rfl) (fun k x => by kernel_rfl) K
noncomputable def c_law19_ConvergeSplitsStates_506 (K : Nat) : List (Nat × Piece) := (506, p_law19_ConvergeSplitsStates_506 K K) :: c_law19_ConvergeSplitsStates_0 K
theorem o_law19_ConvergeSplitsStates_506 (K : Nat) (hB : Base Try.prog tabs (fs_law19_ConvergeFinds K)) : PcsOk Try.prog b_law19_ConvergeSplitsStates (c_law19_ConvergeSplitsStates_506 K) := PcsOk.cons (k_law19_ConvergeSplitsStates_506 K hB) (o_law19_ConvergeSplitsStates_0 K)
def law19_ConvergeSplitsStates (K : Nat) (x0 : ((List Int) × ((List (List (Int × (Int × Unit)))) × Unit))) (x1 : (List Bool)) : Option ((Bool × Unit) × Unit) :=
  (law19_fair K x0 x1).bind fun y5 =>
    if !y5.1.1 then
      (law19_awake K).bind fun y6 =>
        some ((y6.1.1, ()), ())
    else
      (converge_Attractor K x0 x1).bind fun y8 =>
        (converge_Core K x0 x1).bind fun y10 =>
          if !decide (y8.1.1.2.1 = 0) then
            some ((false, ()), ())
          else
            if !decide (y10.1.1.2.1 = 0) then
              some ((false, ()), ())
            else
              if !decide ((y8.2.1.length : Int) = (x1.length : Int)) then
                some ((false, ()), ())
              else
                if !decide ((y10.2.1.length : Int) = (x1.length : Int)) then
                  some ((false, ()), ())
                else
                  (law19_ConvergeSplitsStates_506 K K x1 y8.2.1 y10.2.1 0).bind fun y14 =>
                    match y14 with
                    | .inl y15 =>
                      (law19_awake K).bind fun y17 =>
                        some ((y17.1.1, ()), ())
                    | .inr y16 =>
                      some ((y16.1.1, ()), ())
@[reducible] def p_law19_ConvergeSplitsStates (K : Nat) : Piece := { slots := [(0, (.v (.pair (.slice (.int .u32)) (.pair (.slice (.slice (.pair (.int .u32) (.pair (.int .i64) .unit)))) .unit)))), (1, (.v (.slice .bool)))], objs := [], outs := [{ ex := .ret, slots := [(0, (.v .bool))], objs := [] }], asg := [], nt := 75, fn := fun x => law19_ConvergeSplitsStates K x.1.1 x.1.2.1 }
theorem s_law19_ConvergeSplitsStates (K : Nat) (hB : Base Try.prog tabs (fs_law19_ConvergeFinds K)) : FnSound Try.prog 3 (p_law19_ConvergeSplitsStates K) :=
  fun_thm hB (o_law19_ConvergeSplitsStates_506 K hB) Try.func3 (body := b_law19_ConvergeSplitsStates) rfl (p_law19_ConvergeSplitsStates K) (rs := [.tmp 4]) rfl (Nat.le_of_ble_eq_true (by kernel_rfl)) (fun x => by kernel_rfl)
noncomputable def fs_law19_ConvergeSplitsStates (K : Nat) : List (Nat × Piece) := (3, p_law19_ConvergeSplitsStates K) :: fs_law19_ConvergeFinds K
theorem base_law19_ConvergeSplitsStates (K : Nat) : Base Try.prog tabs (fs_law19_ConvergeSplitsStates K) := ⟨(base_law19_ConvergeFinds K).mixed, (base_law19_ConvergeFinds K).tabs, FnsOk.cons (s_law19_ConvergeSplitsStates K (base_law19_ConvergeFinds K)) (by kernel_rfl) (base_law19_ConvergeFinds K).fns⟩
theorem law_law19_ConvergeSplitsStates (K : Nat) : FnSound Try.prog 3 (p_law19_ConvergeSplitsStates K) := s_law19_ConvergeSplitsStates K (base_law19_ConvergeFinds K)
end Go.Proofs.Yteemomggcpaakaa.G
