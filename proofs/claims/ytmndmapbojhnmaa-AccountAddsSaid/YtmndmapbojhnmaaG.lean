/- Printed by a program of this work: for each function that is reached, what it computes, and that the code computes it. -/
import Derived.Test.YtmndmapbojhnmaaFwE
import Derived.Test.YtmndmapbojhnmaaProg
import Derived.KernelRfl
namespace Go.Proofs.Ytmndmapbojhnmaa.G
open Go Go.Fw Go.Proofs
set_option maxRecDepth 100000
set_option linter.unusedVariables false
@[reducible] def tabs : Tabs := { ty := [(3, (.int .i64)), (4, .bool), (5, (.int .u8)), (9, .str), (22, (.int .u32)), (24, (.pair (.int .i64) (.pair (.int .i64) (.pair (.int .i64) (.pair (.int .i64) (.pair (.int .u32) .unit)))))), (34, (.slice (.pair (.int .u32) (.pair (.int .u32) .unit)))), (35, (.slice (.int .u32))), (41, (.int .u64)), (44, (.pair (.int .u32) (.pair (.int .u32) .unit)))], eq := [4, 24], mt := [] }
noncomputable def codeOf (f : Func) : Code := match f.body with | some c => c | none => .skip
noncomputable def fs0 (K : Nat) : List (Nat × Piece) := []
theorem base0 (K : Nat) : Base Try.prog tabs (fs0 K) := ⟨by kernel_rfl, by kernel_rfl, FnsOk.nil⟩
def bytes0 : ByteArray := { data := (List.toArray (List.append (List.append [0, 1, 1, 2, 1, 2, 2, 3, 1, 2, 2, 3, 2, 3, 3, 4, 1, 2, 2, 3, 2, 3, 3, 4, 2, 3, 3, 4, 3, 4, 4, 5, 1, 2, 2, 3, 2, 3, 3, 4, 2, 3, 3, 4, 3, 4, 4, 5, 2, 3, 3, 4, 3, 4, 4, 5, 3, 4, 4, 5, 4, 5, 5, 6] [1, 2, 2, 3, 2, 3, 3, 4, 2, 3, 3, 4, 3, 4, 4, 5, 2, 3, 3, 4, 3, 4, 4, 5, 3, 4, 4, 5, 4, 5, 5, 6, 2, 3, 3, 4, 3, 4, 4, 5, 3, 4, 4, 5, 4, 5, 5, 6, 3, 4, 4, 5, 4, 5, 5, 6, 4, 5, 5, 6, 5, 6, 6, 7]) (List.append [1, 2, 2, 3, 2, 3, 3, 4, 2, 3, 3, 4, 3, 4, 4, 5, 2, 3, 3, 4, 3, 4, 4, 5, 3, 4, 4, 5, 4, 5, 5, 6, 2, 3, 3, 4, 3, 4, 4, 5, 3, 4, 4, 5, 4, 5, 5, 6, 3, 4, 4, 5, 4, 5, 5, 6, 4, 5, 5, 6, 5, 6, 6, 7] [2, 3, 3, 4, 3, 4, 4, 5, 3, 4, 4, 5, 4, 5, 5, 6, 3, 4, 4, 5, 4, 5, 5, 6, 4, 5, 5, 6, 5, 6, 6, 7, 3, 4, 4, 5, 4, 5, 5, 6, 4, 5, 5, 6, 5, 6, 6, 7, 4, 5, 5, 6, 5, 6, 6, 7, 5, 6, 6, 7, 6, 7, 7, 8]))) }
/-! "selfstab/account.inside" -/
noncomputable def b18 : Code := codeOf Try.f18
noncomputable def c18_0 (K : Nat) : List (Nat × Piece) := []
theorem o18_0 (K : Nat) : PcsOk Try.prog b18 (c18_0 K) := PcsOk.nil
def f18_26 (K : Nat) : (k : Nat) → (x5 : (List Int)) → (x6 : Int) → (x7 : Int) → Option ((Unit × Unit) ⊕ ((Bool × Unit) × Unit))
  | 0, _, _, _ => none
  | k + 1, x5, x6, x7 =>
    if decide (x7 < x6) then
      if decide (0 ≤ x7 ∧ x7 < (x5.length : Int)) then
        if !decide ((ishr .u32 (rdl (.int .u32) x5 x7.toNat) 24) = 0) then
          some (.inr ((false, ()), ()))
        else
          f18_26 K k x5 x6 (IntKind.i64.wrap (x7 + 1))
      else
        none
    else
      some (.inl ((), ()))
@[reducible] def p_f18_26 (K k : Nat) : Piece := { slots := [(5, (.v (.slice (.int .u32)))), (6, (.v (.int .i64))), (7, (.v (.int .i64)))], objs := [], outs := [{ ex := (.exit 0), slots := [], objs := [] }, { ex := .ret, slots := [(2, (.v .bool))], objs := [] }], asg := [2, 4, 7, 8, 9, 10, 11, 12, 13, 14], nt := 15, fn := fun x => f18_26 K k x.1.1 x.1.2.1 x.1.2.2.1 }
theorem k_f18_26 (K : Nat) (hB : Base Try.prog tabs (fs0 K)) : PcOk Try.prog (codeAt b18 26) (p_f18_26 K K) :=
  loop_thm hB (o18_0 K) 26 (p_f18_26 K 0) (l := fun k x => f18_26 K k x.1.1 x.1.2.1 x.1.2.2.1) (c := codeAt b18 52) (by kernel_rfl) (by kernel_rfl) (by kernel_rfl) (by kernel_rfl) (fun x => by kernel_rfl) (fun k x => by kernel_rfl) K
noncomputable def c18_26 (K : Nat) : List (Nat × Piece) := (26, p_f18_26 K K) :: c18_0 K
theorem o18_26 (K : Nat) (hB : Base Try.prog tabs (fs0 K)) : PcsOk Try.prog b18 (c18_26 K) := PcsOk.cons (k_f18_26 K hB) (o18_0 K)
def f18 (K : Nat) (x0 : (List Int)) : Option ((Bool × Unit) × Unit) :=
  (f18_26 K K x0 (x0.length : Int) 0).bind fun y4 =>
    match y4 with
    | .inl y5 =>
      some ((true, ()), ())
    | .inr y6 =>
      some ((y6.1.1, ()), ())
@[reducible] def p_f18 (K : Nat) : Piece := { slots := [(0, (.v (.slice (.int .u32))))], objs := [], outs := [{ ex := .ret, slots := [(0, (.v .bool))], objs := [] }], asg := [], nt := 15, fn := fun x => f18 K x.1.1 }
theorem s_f18 (K : Nat) (hB : Base Try.prog tabs (fs0 K)) : FnSound Try.prog 18 (p_f18 K) :=
  fun_thm hB (o18_26 K hB) Try.func18 (body := b18) rfl (p_f18 K) (rs := [.tmp 2]) rfl (Nat.le_of_ble_eq_true (by kernel_rfl)) (fun x => by kernel_rfl)
noncomputable def fs18 (K : Nat) : List (Nat × Piece) := (18, p_f18 K) :: fs0 K
theorem base18 (K : Nat) : Base Try.prog tabs (fs18 K) := ⟨(base0 K).mixed, (base0 K).tabs, FnsOk.cons (s_f18 K (base0 K)) (by kernel_rfl) (base0 K).fns⟩
/-! "selfstab/account.Valid" -/
noncomputable def b11 : Code := codeOf Try.f11
noncomputable def c11_0 (K : Nat) : List (Nat × Piece) := []
theorem o11_0 (K : Nat) : PcsOk Try.prog b11 (c11_0 K) := PcsOk.nil
def f11 (K : Nat) (x0 : (Int × (Int × (Int × (Int × (Int × Unit)))))) : Option ((Bool × Unit) × Unit) :=
  if decide (0 ≤ x0.2.2.1) then
    if decide (x0.2.2.1 ≤ x0.2.2.2.1) then
      if decide ((IntKind.i64.wrap (x0.2.2.2.1 - x0.2.2.1)) ≤ 1) then
        if decide (x0.2.2.2.1 ≤ x0.1) then
          if decide (x0.1 ≤ 4096) then
            if decide (x0.1 ≤ x0.2.1) then
              if decide (x0.2.1 ≤ (IntKind.i64.wrap (24 * x0.1))) then
                (f18 K ([x0.2.2.2.2.1])).bind fun y1 =>
                  some ((y1.1.1, ()), ())
              else
                some ((false, ()), ())
            else
              some ((false, ()), ())
          else
            some ((false, ()), ())
        else
          some ((false, ()), ())
      else
        some ((false, ()), ())
    else
      some ((false, ()), ())
  else
    some ((false, ()), ())
@[reducible] def p_f11 (K : Nat) : Piece := { slots := [(0, (.v (.pair (.int .i64) (.pair (.int .i64) (.pair (.int .i64) (.pair (.int .i64) (.pair (.int .u32) .unit)))))))], objs := [], outs := [{ ex := .ret, slots := [(0, (.v .bool))], objs := [] }], asg := [], nt := 54, fn := fun x => f11 K x.1.1 }
theorem s_f11 (K : Nat) (hB : Base Try.prog tabs (fs18 K)) : FnSound Try.prog 11 (p_f11 K) :=
  fun_thm hB (o11_0 K) Try.func11 (body := b11) rfl (p_f11 K) (rs := [.tmp 2]) rfl (Nat.le_of_ble_eq_true (by kernel_rfl)) (fun x => by kernel_rfl)
noncomputable def fs11 (K : Nat) : List (Nat × Piece) := (11, p_f11 K) :: fs18 K
theorem base11 (K : Nat) : Base Try.prog tabs (fs11 K) := ⟨(base18 K).mixed, (base18 K).tabs, FnsOk.cons (s_f11 K (base18 K)) (by kernel_rfl) (base18 K).fns⟩
/-! "math/bits.OnesCount32" -/
noncomputable def b19 : Code := codeOf Try.f19
noncomputable def c19_0 (K : Nat) : List (Nat × Piece) := []
theorem o19_0 (K : Nat) : PcsOk Try.prog b19 (c19_0 K) := PcsOk.nil
def f19 (K : Nat) (x0 : Int) : Option ((Int × Unit) × Unit) :=
  if decide (0 ≤ ishr .u32 x0 24 ∧ ishr .u32 x0 24 < (bytes0.size : Int)) then
    if decide (0 ≤ iand .u32 (ishr .u32 x0 16) 255 ∧ iand .u32 (ishr .u32 x0 16) 255 < (bytes0.size : Int)) then
      if decide (0 ≤ iand .u32 (ishr .u32 x0 8) 255 ∧ iand .u32 (ishr .u32 x0 8) 255 < (bytes0.size : Int)) then
        if decide (0 ≤ iand .u32 x0 255 ∧ iand .u32 x0 255 < (bytes0.size : Int)) then
          some ((IntKind.i64.wrap (IntKind.u8.wrap ((IntKind.u8.wrap ((IntKind.u8.wrap (((bytes0.data.toList.getD (ishr .u32 x0 24).toNat 0).toNat : Int) + ((bytes0.data.toList.getD (iand .u32 (ishr .u32 x0 16) 255).toNat 0).toNat : Int))) + ((bytes0.data.toList.getD (iand .u32 (ishr .u32 x0 8) 255).toNat 0).toNat : Int))) + ((bytes0.data.toList.getD (iand .u32 x0 255).toNat 0).toNat : Int))), ()), ())
        else
          none
      else
        none
    else
      none
  else
    none
@[reducible] def p_f19 (K : Nat) : Piece := { slots := [(0, (.v (.int .u32)))], objs := [], outs := [{ ex := .ret, slots := [(0, (.v (.int .i64)))], objs := [] }], asg := [], nt := 21, fn := fun x => f19 K x.1.1 }
theorem s_f19 (K : Nat) (hB : Base Try.prog tabs (fs11 K)) : FnSound Try.prog 19 (p_f19 K) :=
  fun_thm hB (o19_0 K) Try.func19 (body := b19) rfl (p_f19 K) (rs := [.tmp 2]) rfl (Nat.le_of_ble_eq_true (by kernel_rfl)) (fun x => by kernel_rfl)
noncomputable def fs19 (K : Nat) : List (Nat × Piece) := (19, p_f19 K) :: fs11 K
theorem base19 (K : Nat) : Base Try.prog tabs (fs19 K) := ⟨(base11 K).mixed, (base11 K).tabs, FnsOk.cons (s_f19 K (base11 K)) (by kernel_rfl) (base11 K).fns⟩
/-! "selfstab/account.Add" -/
noncomputable def b8 : Code := codeOf Try.f8
noncomputable def c8_0 (K : Nat) : List (Nat × Piece) := []
theorem o8_0 (K : Nat) : PcsOk Try.prog b8 (c8_0 K) := PcsOk.nil
def f8_103 (K : Nat) (x1 : Int) (x2 : Int) (x13 : Bool) (o0 : (Int × (Int × (Int × (Int × (Int × Unit)))))) (o1 : (Int × (Int × (Int × (Int × (Int × Unit)))))) : Option ((Unit × ((Int × (Int × (Int × (Int × (Int × Unit))))) × ((Int × (Int × (Int × (Int × (Int × Unit))))) × Unit))) ⊕ ((Int × Unit) × ((Int × (Int × (Int × (Int × (Int × Unit))))) × Unit))) :=
  if x13 then
    some (.inr ((11, ()), ((0, (0, (0, (0, (0, ()))))), ())))
  else
    if decide (o0.1 = 4096) then
      some (.inr ((3, ()), ((0, (0, (0, (0, (0, ()))))), ())))
    else
      some (.inl ((), (o0, (o1, ()))))
@[reducible] def p_f8_103 (K : Nat) : Piece := { slots := [(1, (.v (.int .u32))), (2, (.v (.int .u32))), (3, (.ref 0 (.pair (.int .i64) (.pair (.int .i64) (.pair (.int .i64) (.pair (.int .i64) (.pair (.int .u32) .unit))))))), (6, (.ref 1 (.pair (.int .i64) (.pair (.int .i64) (.pair (.int .i64) (.pair (.int .i64) (.pair (.int .u32) .unit))))))), (13, (.v .bool))], objs := [(.box (.pair (.int .i64) (.pair (.int .i64) (.pair (.int .i64) (.pair (.int .i64) (.pair (.int .u32) .unit))))) (.v (.pair (.int .i64) (.pair (.int .i64) (.pair (.int .i64) (.pair (.int .i64) (.pair (.int .u32) .unit))))))), (.box (.pair (.int .i64) (.pair (.int .i64) (.pair (.int .i64) (.pair (.int .i64) (.pair (.int .u32) .unit))))) (.v (.pair (.int .i64) (.pair (.int .i64) (.pair (.int .i64) (.pair (.int .i64) (.pair (.int .u32) .unit)))))))], outs := [{ ex := .normal, slots := [], objs := [(some 0, (.box (.pair (.int .i64) (.pair (.int .i64) (.pair (.int .i64) (.pair (.int .i64) (.pair (.int .u32) .unit))))) (.v (.pair (.int .i64) (.pair (.int .i64) (.pair (.int .i64) (.pair (.int .i64) (.pair (.int .u32) .unit)))))))), (some 1, (.box (.pair (.int .i64) (.pair (.int .i64) (.pair (.int .i64) (.pair (.int .i64) (.pair (.int .u32) .unit))))) (.v (.pair (.int .i64) (.pair (.int .i64) (.pair (.int .i64) (.pair (.int .i64) (.pair (.int .u32) .unit))))))))] }, { ex := .ret, slots := [(7, (.v (.int .i64)))], objs := [(some 1, (.box (.pair (.int .i64) (.pair (.int .i64) (.pair (.int .i64) (.pair (.int .i64) (.pair (.int .u32) .unit))))) (.v (.pair (.int .i64) (.pair (.int .i64) (.pair (.int .i64) (.pair (.int .i64) (.pair (.int .u32) .unit))))))))] }], asg := [7, 23, 24, 25, 26, 27, 28], nt := 59, fn := fun x => f8_103 K x.1.1 x.1.2.1 x.1.2.2.2.2.1 x.2.1 x.2.2.1 }
theorem k_f8_103 (K : Nat) (hB : Base Try.prog tabs (fs19 K)) : PcOk Try.prog (codeAt b8 103) (p_f8_103 K) :=
  seg_thm hB (o8_0 K) 103 (p_f8_103 K) (by kernel_rfl) (by kernel_rfl) (by kernel_rfl) (fun x => by kernel_rfl)
noncomputable def c8_103 (K : Nat) : List (Nat × Piece) := (103, p_f8_103 K) :: c8_0 K
theorem o8_103 (K : Nat) (hB : Base Try.prog tabs (fs19 K)) : PcsOk Try.prog b8 (c8_103 K) := PcsOk.cons (k_f8_103 K hB) (o8_0 K)
def f8_7 (K : Nat) (x1 : Int) (x2 : Int) (o0 : (Int × (Int × (Int × (Int × (Int × Unit)))))) (o1 : (Int × (Int × (Int × (Int × (Int × Unit)))))) : Option ((Int × Unit) × ((Int × (Int × (Int × (Int × (Int × Unit))))) × Unit)) :=
  (f19 K x1).bind fun y2 =>
    if decide ((iand .u32 (iandNot .u32 o0.2.2.2.2.1 x1) x2) = 0) then
      some ((0, ()), ((IntKind.i64.wrap (o0.1 + 1), (IntKind.i64.wrap (o0.2.1 + y2.1.1), (IntKind.i64.wrap (o0.2.2.1 + 1), (IntKind.i64.wrap (o0.2.2.1 + 1), (x2, o0.2.2.2.2.2))))), ()))
    else
      some ((0, ()), ((IntKind.i64.wrap (o0.1 + 1), (IntKind.i64.wrap (o0.2.1 + y2.1.1), (o0.2.2.1, (IntKind.i64.wrap (o0.2.2.1 + 1), (iand .u32 (iandNot .u32 o0.2.2.2.2.1 x1) x2, o0.2.2.2.2.2))))), ()))
@[reducible] def p_f8_7 (K : Nat) : Piece := { slots := [(1, (.v (.int .u32))), (2, (.v (.int .u32))), (3, (.ref 0 (.pair (.int .i64) (.pair (.int .i64) (.pair (.int .i64) (.pair (.int .i64) (.pair (.int .u32) .unit))))))), (6, (.ref 1 (.pair (.int .i64) (.pair (.int .i64) (.pair (.int .i64) (.pair (.int .i64) (.pair (.int .u32) .unit)))))))], objs := [(.box (.pair (.int .i64) (.pair (.int .i64) (.pair (.int .i64) (.pair (.int .i64) (.pair (.int .u32) .unit))))) (.v (.pair (.int .i64) (.pair (.int .i64) (.pair (.int .i64) (.pair (.int .i64) (.pair (.int .u32) .unit))))))), (.box (.pair (.int .i64) (.pair (.int .i64) (.pair (.int .i64) (.pair (.int .i64) (.pair (.int .u32) .unit))))) (.v (.pair (.int .i64) (.pair (.int .i64) (.pair (.int .i64) (.pair (.int .i64) (.pair (.int .u32) .unit)))))))], outs := [{ ex := .ret, slots := [(7, (.v (.int .i64)))], objs := [(some 1, (.box (.pair (.int .i64) (.pair (.int .i64) (.pair (.int .i64) (.pair (.int .i64) (.pair (.int .u32) .unit))))) (.v (.pair (.int .i64) (.pair (.int .i64) (.pair (.int .i64) (.pair (.int .i64) (.pair (.int .u32) .unit))))))))] }], asg := [7, 29, 30, 31, 32, 33, 34, 35, 36, 37, 38, 39, 40, 41, 42, 43, 44, 45, 46, 47, 48, 49, 50, 51, 52, 53, 54, 55, 56, 57, 58], nt := 59, fn := fun x => f8_7 K x.1.1 x.1.2.1 x.2.1 x.2.2.1 }
theorem k_f8_7 (K : Nat) (hB : Base Try.prog tabs (fs19 K)) : PcOk Try.prog (codeAt b8 7) (p_f8_7 K) :=
  seg_thm hB (o8_103 K hB) 7 (p_f8_7 K) (by kernel_rfl) (by kernel_rfl) (by kernel_rfl) (fun x => by kernel_rfl)
noncomputable def c8_7 (K : Nat) : List (Nat × Piece) := (7, p_f8_7 K) :: c8_103 K
theorem o8_7 (K : Nat) (hB : Base Try.prog tabs (fs19 K)) : PcsOk Try.prog b8 (c8_7 K) := PcsOk.cons (k_f8_7 K hB) (o8_103 K hB)
def f8 (K : Nat) (x0 : (Int × (Int × (Int × (Int × (Int × Unit)))))) (x1 : Int) (x2 : Int) : Option ((((Int × (Int × (Int × (Int × (Int × Unit))))) × (Int × Unit)) × Unit) × Unit) :=
  (f11 K x0).bind fun y2 =>
    if !y2.1.1 then
      some ((((0, (0, (0, (0, (0, ()))))), (7, ())), ()), ())
    else
      if decide (x1 = 0) then
        (f8_103 K x1 x2 true x0 (0, (0, (0, (0, (0, ())))))).bind fun y3 =>
          match y3 with
          | .inl y4 =>
            (f8_7 K x1 x2 y4.2.1 y4.2.2.1).bind fun y6 =>
              some (((y6.2.1, (y6.1.1, ())), ()), ())
          | .inr y5 =>
            some (((y5.2.1, (y5.1.1, ())), ()), ())
      else
        (f18 K ([x1, x2])).bind fun y7 =>
          (f8_103 K x1 x2 (!y7.1.1) x0 (0, (0, (0, (0, (0, ())))))).bind fun y8 =>
            match y8 with
            | .inl y9 =>
              (f8_7 K x1 x2 y9.2.1 y9.2.2.1).bind fun y11 =>
                some (((y11.2.1, (y11.1.1, ())), ()), ())
            | .inr y10 =>
              some (((y10.2.1, (y10.1.1, ())), ()), ())
@[reducible] def p_f8 (K : Nat) : Piece := { slots := [(0, (.v (.pair (.int .i64) (.pair (.int .i64) (.pair (.int .i64) (.pair (.int .i64) (.pair (.int .u32) .unit))))))), (1, (.v (.int .u32))), (2, (.v (.int .u32)))], objs := [], outs := [{ ex := .ret, slots := [(0, (.tup (.cons (.v (.pair (.int .i64) (.pair (.int .i64) (.pair (.int .i64) (.pair (.int .i64) (.pair (.int .u32) .unit)))))) (.cons (.v (.int .i64)) .nil))))], objs := [] }], asg := [], nt := 59, fn := fun x => f8 K x.1.1 x.1.2.1 x.1.2.2.1 }
theorem s_f8 (K : Nat) (hB : Base Try.prog tabs (fs19 K)) : FnSound Try.prog 8 (p_f8 K) :=
  fun_thm hB (o8_7 K hB) Try.func8 (body := b8) rfl (p_f8 K) (rs := [.cell 6 24, .tmp 7]) rfl (Nat.le_of_ble_eq_true (by kernel_rfl)) (fun x => by kernel_rfl)
noncomputable def fs8 (K : Nat) : List (Nat × Piece) := (8, p_f8 K) :: fs19 K
theorem base8 (K : Nat) : Base Try.prog tabs (fs8 K) := ⟨(base19 K).mixed, (base19 K).tabs, FnsOk.cons (s_f8 K (base19 K)) (by kernel_rfl) (base19 K).fns⟩
/-! "selfstab/selfstabref01.All" -/
noncomputable def b15 : Code := codeOf Try.f15
noncomputable def c15_0 (K : Nat) : List (Nat × Piece) := []
theorem o15_0 (K : Nat) : PcsOk Try.prog b15 (c15_0 K) := PcsOk.nil
def f15_58 (K : Nat) : (k : Nat) → (x0 : Int) → (x3 : Int) → (x4 : Int) → Option ((Int × Unit) × Unit)
  | 0, _, _, _ => none
  | k + 1, x0, x3, x4 =>
    if decide (x4 < x0) then
      if decide (x4 < 32) then
        if decide ((IntKind.u64.wrap (x4)) < 0) then
          none
        else
          f15_58 K k x0 (ior .u32 x3 (ishl .u32 1 (IntKind.u64.wrap (x4)))) (IntKind.i64.wrap (x4 + 1))
      else
        some ((x3, ()), ())
    else
      some ((x3, ()), ())
@[reducible] def p_f15_58 (K k : Nat) : Piece := { slots := [(0, (.v (.int .i64))), (3, (.v (.int .u32))), (4, (.v (.int .i64)))], objs := [], outs := [{ ex := (.exit 0), slots := [(3, (.v (.int .u32)))], objs := [] }], asg := [3, 4, 5, 6, 7, 8, 9, 10, 11, 12, 13, 14, 15, 16, 17, 18], nt := 20, fn := fun x => f15_58 K k x.1.1 x.1.2.1 x.1.2.2.1 }
theorem k_f15_58 (K : Nat) (hB : Base Try.prog tabs (fs8 K)) : PcOk Try.prog (codeAt b15 58) (p_f15_58 K K) :=
  loop_thm hB (o15_0 K) 58 (p_f15_58 K 0) (l := fun k x => f15_58 K k x.1.1 x.1.2.1 x.1.2.2.1) (c := codeAt b15 116) (by kernel_rfl) (by kernel_rfl) (by kernel_rfl) (by kernel_rfl) (fun x => by kernel_rfl) (fun k x => by kernel_rfl) K
noncomputable def c15_58 (K : Nat) : List (Nat × Piece) := (58, p_f15_58 K K) :: c15_0 K
theorem o15_58 (K : Nat) (hB : Base Try.prog tabs (fs8 K)) : PcsOk Try.prog b15 (c15_58 K) := PcsOk.cons (k_f15_58 K hB) (o15_0 K)
def f15 (K : Nat) (x0 : Int) : Option ((Int × Unit) × Unit) :=
  (f15_58 K K x0 0 0).bind fun y2 =>
    some ((y2.1.1, ()), ())
@[reducible] def p_f15 (K : Nat) : Piece := { slots := [(0, (.v (.int .i64)))], objs := [], outs := [{ ex := .ret, slots := [(0, (.v (.int .u32)))], objs := [] }], asg := [], nt := 20, fn := fun x => f15 K x.1.1 }
theorem s_f15 (K : Nat) (hB : Base Try.prog tabs (fs8 K)) : FnSound Try.prog 15 (p_f15 K) :=
  fun_thm hB (o15_58 K hB) Try.func15 (body := b15) rfl (p_f15 K) (rs := [.tmp 2]) rfl (Nat.le_of_ble_eq_true (by kernel_rfl)) (fun x => by kernel_rfl)
noncomputable def fs15 (K : Nat) : List (Nat × Piece) := (15, p_f15 K) :: fs8 K
theorem base15 (K : Nat) : Base Try.prog tabs (fs15 K) := ⟨(base8 K).mixed, (base8 K).tabs, FnsOk.cons (s_f15 K (base8 K)) (by kernel_rfl) (base8 K).fns⟩
/-! "selfstab/selfstabref16.Valid" -/
noncomputable def b12 : Code := codeOf Try.f12
noncomputable def c12_0 (K : Nat) : List (Nat × Piece) := []
theorem o12_0 (K : Nat) : PcsOk Try.prog b12 (c12_0 K) := PcsOk.nil
def f12 (K : Nat) (x0 : (Int × (Int × (Int × (Int × (Int × Unit)))))) : Option ((Bool × Unit) × Unit) :=
  if decide (x0.2.2.1 < 0) then
    some ((false, ()), ())
  else
    if decide (x0.2.2.2.1 < x0.2.2.1) then
      some ((false, ()), ())
    else
      if decide (1 < (IntKind.i64.wrap (x0.2.2.2.1 - x0.2.2.1))) then
        some ((false, ()), ())
      else
        if decide (x0.1 < x0.2.2.2.1) then
          some ((false, ()), ())
        else
          if decide (x0.1 ≤ 4096) then
            if decide (x0.1 ≤ x0.2.1) then
              if decide (x0.2.1 ≤ (IntKind.i64.wrap (24 * x0.1))) then
                (f15 K 24).bind fun y1 =>
                  some ((decide ((iandNot .u32 x0.2.2.2.2.1 y1.1.1) = 0), ()), ())
              else
                some ((false, ()), ())
            else
              some ((false, ()), ())
          else
            some ((false, ()), ())
@[reducible] def p_f12 (K : Nat) : Piece := { slots := [(0, (.v (.pair (.int .i64) (.pair (.int .i64) (.pair (.int .i64) (.pair (.int .i64) (.pair (.int .u32) .unit)))))))], objs := [], outs := [{ ex := .ret, slots := [(0, (.v .bool))], objs := [] }], asg := [], nt := 53, fn := fun x => f12 K x.1.1 }
theorem s_f12 (K : Nat) (hB : Base Try.prog tabs (fs15 K)) : FnSound Try.prog 12 (p_f12 K) :=
  fun_thm hB (o12_0 K) Try.func12 (body := b12) rfl (p_f12 K) (rs := [.tmp 2]) rfl (Nat.le_of_ble_eq_true (by kernel_rfl)) (fun x => by kernel_rfl)
noncomputable def fs12 (K : Nat) : List (Nat × Piece) := (12, p_f12 K) :: fs15 K
theorem base12 (K : Nat) : Base Try.prog tabs (fs12 K) := ⟨(base15 K).mixed, (base15 K).tabs, FnsOk.cons (s_f12 K (base15 K)) (by kernel_rfl) (base15 K).fns⟩
/-! "selfstab/selfstabref01.Has" -/
noncomputable def b20 : Code := codeOf Try.f20
noncomputable def c20_0 (K : Nat) : List (Nat × Piece) := []
theorem o20_0 (K : Nat) : PcsOk Try.prog b20 (c20_0 K) := PcsOk.nil
def f20 (K : Nat) (x0 : Int) (x1 : Int) : Option ((Bool × Unit) × Unit) :=
  if decide (0 ≤ x1) then
    if decide (x1 < 32) then
      if decide ((IntKind.u64.wrap (x1)) < 0) then
        none
      else
        some ((decide ((iand .u32 (ishr .u32 x0 (IntKind.u64.wrap (x1))) 1) = 1), ()), ())
    else
      some ((false, ()), ())
  else
    some ((false, ()), ())
@[reducible] def p_f20 (K : Nat) : Piece := { slots := [(0, (.v (.int .u32))), (1, (.v (.int .i64)))], objs := [], outs := [{ ex := .ret, slots := [(0, (.v .bool))], objs := [] }], asg := [], nt := 19, fn := fun x => f20 K x.1.1 x.1.2.1 }
theorem s_f20 (K : Nat) (hB : Base Try.prog tabs (fs12 K)) : FnSound Try.prog 20 (p_f20 K) :=
  fun_thm hB (o20_0 K) Try.func20 (body := b20) rfl (p_f20 K) (rs := [.tmp 4]) rfl (Nat.le_of_ble_eq_true (by kernel_rfl)) (fun x => by kernel_rfl)
noncomputable def fs20 (K : Nat) : List (Nat × Piece) := (20, p_f20 K) :: fs12 K
theorem base20 (K : Nat) : Base Try.prog tabs (fs20 K) := ⟨(base12 K).mixed, (base12 K).tabs, FnsOk.cons (s_f20 K (base12 K)) (by kernel_rfl) (base12 K).fns⟩
/-! "selfstab/selfstabref15.Count" -/
noncomputable def b16 : Code := codeOf Try.f16
noncomputable def c16_0 (K : Nat) : List (Nat × Piece) := []
theorem o16_0 (K : Nat) : PcsOk Try.prog b16 (c16_0 K) := PcsOk.nil
def f16_58 (K : Nat) : (k : Nat) → (x0 : Int) → (x3 : Int) → (x4 : Int) → Option ((Int × Unit) × Unit)
  | 0, _, _, _ => none
  | k + 1, x0, x3, x4 =>
    if decide (x4 < 32) then
      (f20 K x0 x4).bind fun y4 =>
        if y4.1.1 then
          f16_58 K k x0 (IntKind.i64.wrap (x3 + 1)) (IntKind.i64.wrap (x4 + 1))
        else
          f16_58 K k x0 x3 (IntKind.i64.wrap (x4 + 1))
    else
      some ((x3, ()), ())
@[reducible] def p_f16_58 (K k : Nat) : Piece := { slots := [(0, (.v (.int .u32))), (3, (.v (.int .i64))), (4, (.v (.int .i64)))], objs := [], outs := [{ ex := (.exit 0), slots := [(3, (.v (.int .i64)))], objs := [] }], asg := [3, 4, 5, 6, 7, 8, 9, 10, 11, 12, 13], nt := 15, fn := fun x => f16_58 K k x.1.1 x.1.2.1 x.1.2.2.1 }
theorem k_f16_58 (K : Nat) (hB : Base Try.prog tabs (fs20 K)) : PcOk Try.prog (codeAt b16 58) (p_f16_58 K K) :=
  loop_thm hB (o16_0 K) 58 (p_f16_58 K 0) (l := fun k x => f16_58 K k x.1.1 x.1.2.1 x.1.2.2.1) (c := codeAt b16 116) (by kernel_rfl) (by kernel_rfl) (by kernel_rfl) (by kernel_rfl) (fun x => by kernel_rfl) (fun k x => by kernel_rfl) K
noncomputable def c16_58 (K : Nat) : List (Nat × Piece) := (58, p_f16_58 K K) :: c16_0 K
theorem o16_58 (K : Nat) (hB : Base Try.prog tabs (fs20 K)) : PcsOk Try.prog b16 (c16_58 K) := PcsOk.cons (k_f16_58 K hB) (o16_0 K)
def f16 (K : Nat) (x0 : Int) : Option ((Int × Unit) × Unit) :=
  (f16_58 K K x0 0 0).bind fun y2 =>
    some ((y2.1.1, ()), ())
@[reducible] def p_f16 (K : Nat) : Piece := { slots := [(0, (.v (.int .u32)))], objs := [], outs := [{ ex := .ret, slots := [(0, (.v (.int .i64)))], objs := [] }], asg := [], nt := 15, fn := fun x => f16 K x.1.1 }
theorem s_f16 (K : Nat) (hB : Base Try.prog tabs (fs20 K)) : FnSound Try.prog 16 (p_f16 K) :=
  fun_thm hB (o16_58 K hB) Try.func16 (body := b16) rfl (p_f16 K) (rs := [.tmp 2]) rfl (Nat.le_of_ble_eq_true (by kernel_rfl)) (fun x => by kernel_rfl)
noncomputable def fs16 (K : Nat) : List (Nat × Piece) := (16, p_f16 K) :: fs20 K
theorem base16 (K : Nat) : Base Try.prog tabs (fs16 K) := ⟨(base20 K).mixed, (base20 K).tabs, FnsOk.cons (s_f16 K (base20 K)) (by kernel_rfl) (base20 K).fns⟩
/-! "selfstab/selfstabref16.Add" -/
noncomputable def b9 : Code := codeOf Try.f9
noncomputable def c9_0 (K : Nat) : List (Nat × Piece) := []
theorem o9_0 (K : Nat) : PcsOk Try.prog b9 (c9_0 K) := PcsOk.nil
def f9_103 (K : Nat) (x1 : Int) (x2 : Int) (x13 : Bool) (o0 : (Int × (Int × (Int × (Int × (Int × Unit)))))) (o1 : (Int × (Int × (Int × (Int × (Int × Unit)))))) : Option ((Unit × ((Int × (Int × (Int × (Int × (Int × Unit))))) × ((Int × (Int × (Int × (Int × (Int × Unit))))) × Unit))) ⊕ ((Int × Unit) × ((Int × (Int × (Int × (Int × (Int × Unit))))) × Unit))) :=
  if x13 then
    some (.inr ((11, ()), ((0, (0, (0, (0, (0, ()))))), ())))
  else
    if decide (o0.1 = 4096) then
      some (.inr ((3, ()), ((0, (0, (0, (0, (0, ()))))), ())))
    else
      some (.inl ((), (o0, (o1, ()))))
@[reducible] def p_f9_103 (K : Nat) : Piece := { slots := [(1, (.v (.int .u32))), (2, (.v (.int .u32))), (3, (.ref 0 (.pair (.int .i64) (.pair (.int .i64) (.pair (.int .i64) (.pair (.int .i64) (.pair (.int .u32) .unit))))))), (6, (.ref 1 (.pair (.int .i64) (.pair (.int .i64) (.pair (.int .i64) (.pair (.int .i64) (.pair (.int .u32) .unit))))))), (13, (.v .bool))], objs := [(.box (.pair (.int .i64) (.pair (.int .i64) (.pair (.int .i64) (.pair (.int .i64) (.pair (.int .u32) .unit))))) (.v (.pair (.int .i64) (.pair (.int .i64) (.pair (.int .i64) (.pair (.int .i64) (.pair (.int .u32) .unit))))))), (.box (.pair (.int .i64) (.pair (.int .i64) (.pair (.int .i64) (.pair (.int .i64) (.pair (.int .u32) .unit))))) (.v (.pair (.int .i64) (.pair (.int .i64) (.pair (.int .i64) (.pair (.int .i64) (.pair (.int .u32) .unit)))))))], outs := [{ ex := .normal, slots := [], objs := [(some 0, (.box (.pair (.int .i64) (.pair (.int .i64) (.pair (.int .i64) (.pair (.int .i64) (.pair (.int .u32) .unit))))) (.v (.pair (.int .i64) (.pair (.int .i64) (.pair (.int .i64) (.pair (.int .i64) (.pair (.int .u32) .unit)))))))), (some 1, (.box (.pair (.int .i64) (.pair (.int .i64) (.pair (.int .i64) (.pair (.int .i64) (.pair (.int .u32) .unit))))) (.v (.pair (.int .i64) (.pair (.int .i64) (.pair (.int .i64) (.pair (.int .i64) (.pair (.int .u32) .unit))))))))] }, { ex := .ret, slots := [(7, (.v (.int .i64)))], objs := [(some 1, (.box (.pair (.int .i64) (.pair (.int .i64) (.pair (.int .i64) (.pair (.int .i64) (.pair (.int .u32) .unit))))) (.v (.pair (.int .i64) (.pair (.int .i64) (.pair (.int .i64) (.pair (.int .i64) (.pair (.int .u32) .unit))))))))] }], asg := [7, 24, 25, 26, 27, 28, 29], nt := 60, fn := fun x => f9_103 K x.1.1 x.1.2.1 x.1.2.2.2.2.1 x.2.1 x.2.2.1 }
theorem k_f9_103 (K : Nat) (hB : Base Try.prog tabs (fs16 K)) : PcOk Try.prog (codeAt b9 103) (p_f9_103 K) :=
  seg_thm hB (o9_0 K) 103 (p_f9_103 K) (by kernel_rfl) (by kernel_rfl) (by kernel_rfl) (fun x => by kernel_rfl)
noncomputable def c9_103 (K : Nat) : List (Nat × Piece) := (103, p_f9_103 K) :: c9_0 K
theorem o9_103 (K : Nat) (hB : Base Try.prog tabs (fs16 K)) : PcsOk Try.prog b9 (c9_103 K) := PcsOk.cons (k_f9_103 K hB) (o9_0 K)
def f9_7 (K : Nat) (x1 : Int) (x2 : Int) (o0 : (Int × (Int × (Int × (Int × (Int × Unit)))))) (o1 : (Int × (Int × (Int × (Int × (Int × Unit)))))) : Option ((Int × Unit) × ((Int × (Int × (Int × (Int × (Int × Unit))))) × Unit)) :=
  (f16 K x1).bind fun y2 =>
    if decide ((iand .u32 (iandNot .u32 o0.2.2.2.2.1 x1) x2) = 0) then
      some ((0, ()), ((IntKind.i64.wrap (o0.1 + 1), (IntKind.i64.wrap (o0.2.1 + y2.1.1), (IntKind.i64.wrap (o0.2.2.1 + 1), (IntKind.i64.wrap (o0.2.2.1 + 1), (x2, o0.2.2.2.2.2))))), ()))
    else
      some ((0, ()), ((IntKind.i64.wrap (o0.1 + 1), (IntKind.i64.wrap (o0.2.1 + y2.1.1), (o0.2.2.1, (IntKind.i64.wrap (o0.2.2.1 + 1), (iand .u32 (iandNot .u32 o0.2.2.2.2.1 x1) x2, o0.2.2.2.2.2))))), ()))
@[reducible] def p_f9_7 (K : Nat) : Piece := { slots := [(1, (.v (.int .u32))), (2, (.v (.int .u32))), (3, (.ref 0 (.pair (.int .i64) (.pair (.int .i64) (.pair (.int .i64) (.pair (.int .i64) (.pair (.int .u32) .unit))))))), (6, (.ref 1 (.pair (.int .i64) (.pair (.int .i64) (.pair (.int .i64) (.pair (.int .i64) (.pair (.int .u32) .unit)))))))], objs := [(.box (.pair (.int .i64) (.pair (.int .i64) (.pair (.int .i64) (.pair (.int .i64) (.pair (.int .u32) .unit))))) (.v (.pair (.int .i64) (.pair (.int .i64) (.pair (.int .i64) (.pair (.int .i64) (.pair (.int .u32) .unit))))))), (.box (.pair (.int .i64) (.pair (.int .i64) (.pair (.int .i64) (.pair (.int .i64) (.pair (.int .u32) .unit))))) (.v (.pair (.int .i64) (.pair (.int .i64) (.pair (.int .i64) (.pair (.int .i64) (.pair (.int .u32) .unit)))))))], outs := [{ ex := .ret, slots := [(7, (.v (.int .i64)))], objs := [(some 1, (.box (.pair (.int .i64) (.pair (.int .i64) (.pair (.int .i64) (.pair (.int .i64) (.pair (.int .u32) .unit))))) (.v (.pair (.int .i64) (.pair (.int .i64) (.pair (.int .i64) (.pair (.int .i64) (.pair (.int .u32) .unit))))))))] }], asg := [7, 30, 31, 32, 33, 34, 35, 36, 37, 38, 39, 40, 41, 42, 43, 44, 45, 46, 47, 48, 49, 50, 51, 52, 53, 54, 55, 56, 57, 58, 59], nt := 60, fn := fun x => f9_7 K x.1.1 x.1.2.1 x.2.1 x.2.2.1 }
theorem k_f9_7 (K : Nat) (hB : Base Try.prog tabs (fs16 K)) : PcOk Try.prog (codeAt b9 7) (p_f9_7 K) :=
  seg_thm hB (o9_103 K hB) 7 (p_f9_7 K) (by kernel_rfl) (by kernel_rfl) (by kernel_rfl) (fun x => by kernel_rfl)
noncomputable def c9_7 (K : Nat) : List (Nat × Piece) := (7, p_f9_7 K) :: c9_103 K
theorem o9_7 (K : Nat) (hB : Base Try.prog tabs (fs16 K)) : PcsOk Try.prog b9 (c9_7 K) := PcsOk.cons (k_f9_7 K hB) (o9_103 K hB)
def f9 (K : Nat) (x0 : (Int × (Int × (Int × (Int × (Int × Unit)))))) (x1 : Int) (x2 : Int) : Option ((((Int × (Int × (Int × (Int × (Int × Unit))))) × (Int × Unit)) × Unit) × Unit) :=
  (f12 K x0).bind fun y2 =>
    if !y2.1.1 then
      some ((((0, (0, (0, (0, (0, ()))))), (7, ())), ()), ())
    else
      if decide (x1 = 0) then
        (f9_103 K x1 x2 true x0 (0, (0, (0, (0, (0, ())))))).bind fun y3 =>
          match y3 with
          | .inl y4 =>
            (f9_7 K x1 x2 y4.2.1 y4.2.2.1).bind fun y6 =>
              some (((y6.2.1, (y6.1.1, ())), ()), ())
          | .inr y5 =>
            some (((y5.2.1, (y5.1.1, ())), ()), ())
      else
        (f15 K 24).bind fun y7 =>
          (f9_103 K x1 x2 (!decide ((iandNot .u32 (ior .u32 x1 x2) y7.1.1) = 0)) x0 (0, (0, (0, (0, (0, ())))))).bind fun y8 =>
            match y8 with
            | .inl y9 =>
              (f9_7 K x1 x2 y9.2.1 y9.2.2.1).bind fun y11 =>
                some (((y11.2.1, (y11.1.1, ())), ()), ())
            | .inr y10 =>
              some (((y10.2.1, (y10.1.1, ())), ()), ())
@[reducible] def p_f9 (K : Nat) : Piece := { slots := [(0, (.v (.pair (.int .i64) (.pair (.int .i64) (.pair (.int .i64) (.pair (.int .i64) (.pair (.int .u32) .unit))))))), (1, (.v (.int .u32))), (2, (.v (.int .u32)))], objs := [], outs := [{ ex := .ret, slots := [(0, (.tup (.cons (.v (.pair (.int .i64) (.pair (.int .i64) (.pair (.int .i64) (.pair (.int .i64) (.pair (.int .u32) .unit)))))) (.cons (.v (.int .i64)) .nil))))], objs := [] }], asg := [], nt := 60, fn := fun x => f9 K x.1.1 x.1.2.1 x.1.2.2.1 }
theorem s_f9 (K : Nat) (hB : Base Try.prog tabs (fs16 K)) : FnSound Try.prog 9 (p_f9 K) :=
  fun_thm hB (o9_7 K hB) Try.func9 (body := b9) rfl (p_f9 K) (rs := [.cell 6 24, .tmp 7]) rfl (Nat.le_of_ble_eq_true (by kernel_rfl)) (fun x => by kernel_rfl)
noncomputable def fs9 (K : Nat) : List (Nat × Piece) := (9, p_f9 K) :: fs16 K
theorem base9 (K : Nat) : Base Try.prog tabs (fs9 K) := ⟨(base16 K).mixed, (base16 K).tabs, FnsOk.cons (s_f9 K (base16 K)) (by kernel_rfl) (base16 K).fns⟩
/-! "selfstab/account.Begin" -/
noncomputable def b13 : Code := codeOf Try.f13
noncomputable def c13_0 (K : Nat) : List (Nat × Piece) := []
theorem o13_0 (K : Nat) : PcsOk Try.prog b13 (c13_0 K) := PcsOk.nil
def f13 (K : Nat) (x0 : Int) : Option (((Int × (Int × (Int × (Int × (Int × Unit))))) × Unit) × Unit) :=
  some (((0, (0, (0, (0, (iand .u32 x0 16777215, ()))))), ()), ())
@[reducible] def p_f13 (K : Nat) : Piece := { slots := [(0, (.v (.int .u32)))], objs := [], outs := [{ ex := .ret, slots := [(0, (.v (.pair (.int .i64) (.pair (.int .i64) (.pair (.int .i64) (.pair (.int .i64) (.pair (.int .u32) .unit)))))))], objs := [] }], asg := [], nt := 6, fn := fun x => f13 K x.1.1 }
theorem s_f13 (K : Nat) (hB : Base Try.prog tabs (fs9 K)) : FnSound Try.prog 13 (p_f13 K) :=
  fun_thm hB (o13_0 K) Try.func13 (body := b13) rfl (p_f13 K) (rs := [.cell 2 24]) rfl (Nat.le_of_ble_eq_true (by kernel_rfl)) (fun x => by kernel_rfl)
noncomputable def fs13 (K : Nat) : List (Nat × Piece) := (13, p_f13 K) :: fs9 K
theorem base13 (K : Nat) : Base Try.prog tabs (fs13 K) := ⟨(base9 K).mixed, (base9 K).tabs, FnsOk.cons (s_f13 K (base9 K)) (by kernel_rfl) (base9 K).fns⟩
/-! "selfstab/selfstablaw16.awake" -/
noncomputable def b10 : Code := codeOf Try.f10
noncomputable def c10_0 (K : Nat) : List (Nat × Piece) := []
theorem o10_0 (K : Nat) : PcsOk Try.prog b10 (c10_0 K) := PcsOk.nil
def f10 (K : Nat) : Option ((Bool × Unit) × Unit) :=
  (f13 K 3).bind fun y3 =>
    (f8 K y3.1.1 1 2).bind fun y4 =>
      (f8 K y4.1.1.1 2 0).bind fun y6 =>
        if decide (y4.1.1.2.1 = 0) then
          if decide (y6.1.1.2.1 = 0) then
            if decide (y4.1.1.1.2.2.2.2.1 = 2) then
              if decide (y4.1.1.1.2.2.1 = 0) then
                if decide (y4.1.1.1.2.2.2.1 = 1) then
                  if decide (y6.1.1.1.2.2.1 = 1) then
                    some ((decide (y6.1.1.1.2.1 = 2), ()), ())
                  else
                    some ((false, ()), ())
                else
                  some ((false, ()), ())
              else
                some ((false, ()), ())
            else
              some ((false, ()), ())
          else
            some ((false, ()), ())
        else
          some ((false, ()), ())
@[reducible] def p_f10 (K : Nat) : Piece := { slots := [], objs := [], outs := [{ ex := .ret, slots := [(0, (.v .bool))], objs := [] }], asg := [], nt := 46, fn := fun x => f10 K }
theorem s_f10 (K : Nat) (hB : Base Try.prog tabs (fs13 K)) : FnSound Try.prog 10 (p_f10 K) :=
  fun_thm hB (o10_0 K) Try.func10 (body := b10) rfl (p_f10 K) (rs := [.tmp 0]) rfl (Nat.le_of_ble_eq_true (by kernel_rfl)) (fun x => by kernel_rfl)
noncomputable def fs10 (K : Nat) : List (Nat × Piece) := (10, p_f10 K) :: fs13 K
theorem base10 (K : Nat) : Base Try.prog tabs (fs10 K) := ⟨(base13 K).mixed, (base13 K).tabs, FnsOk.cons (s_f10 K (base13 K)) (by kernel_rfl) (base13 K).fns⟩
/-! "selfstab/selfstabref16.Begin" -/
noncomputable def b14 : Code := codeOf Try.f14
noncomputable def c14_0 (K : Nat) : List (Nat × Piece) := []
theorem o14_0 (K : Nat) : PcsOk Try.prog b14 (c14_0 K) := PcsOk.nil
def f14 (K : Nat) (x0 : Int) : Option (((Int × (Int × (Int × (Int × (Int × Unit))))) × Unit) × Unit) :=
  (f15 K 24).bind fun y1 =>
    some (((0, (0, (0, (0, (iand .u32 x0 y1.1.1, ()))))), ()), ())
@[reducible] def p_f14 (K : Nat) : Piece := { slots := [(0, (.v (.int .u32)))], objs := [], outs := [{ ex := .ret, slots := [(0, (.v (.pair (.int .i64) (.pair (.int .i64) (.pair (.int .i64) (.pair (.int .i64) (.pair (.int .u32) .unit)))))))], objs := [] }], asg := [], nt := 7, fn := fun x => f14 K x.1.1 }
theorem s_f14 (K : Nat) (hB : Base Try.prog tabs (fs10 K)) : FnSound Try.prog 14 (p_f14 K) :=
  fun_thm hB (o14_0 K) Try.func14 (body := b14) rfl (p_f14 K) (rs := [.cell 2 24]) rfl (Nat.le_of_ble_eq_true (by kernel_rfl)) (fun x => by kernel_rfl)
noncomputable def fs14 (K : Nat) : List (Nat × Piece) := (14, p_f14 K) :: fs10 K
theorem base14 (K : Nat) : Base Try.prog tabs (fs14 K) := ⟨(base10 K).mixed, (base10 K).tabs, FnsOk.cons (s_f14 K (base10 K)) (by kernel_rfl) (base10 K).fns⟩
/-! "selfstab/selfstablaw16.AccountAdds" -/
noncomputable def b3 : Code := codeOf Try.f3
noncomputable def c3_0 (K : Nat) : List (Nat × Piece) := []
theorem o3_0 (K : Nat) : PcsOk Try.prog b3 (c3_0 K) := PcsOk.nil
def f3 (K : Nat) (x0 : (Int × (Int × (Int × (Int × (Int × Unit)))))) (x1 : Int) (x2 : Int) : Option ((Bool × Unit) × Unit) :=
  (f8 K x0 x1 x2).bind fun y2 =>
    (f9 K x0 x1 x2).bind fun y4 =>
      (f10 K).bind fun y5 =>
        if y5.1.1 then
          (f11 K x0).bind fun y6 =>
            (f12 K x0).bind fun y7 =>
              if GTy.beq .bool y6.1.1 y7.1.1 then
                (f13 K x2).bind fun y8 =>
                  (f14 K x2).bind fun y9 =>
                    if GTy.beq (.pair (.int .i64) (.pair (.int .i64) (.pair (.int .i64) (.pair (.int .i64) (.pair (.int .u32) .unit))))) y8.1.1 y9.1.1 then
                      if GTy.beq (.pair (.int .i64) (.pair (.int .i64) (.pair (.int .i64) (.pair (.int .i64) (.pair (.int .u32) .unit))))) y2.1.1.1 y4.1.1.1 then
                        some ((decide (y2.1.1.2.1 = y4.1.1.2.1), ()), ())
                      else
                        some ((false, ()), ())
                    else
                      some ((false, ()), ())
              else
                some ((false, ()), ())
        else
          some ((false, ()), ())
@[reducible] def p_f3 (K : Nat) : Piece := { slots := [(0, (.v (.pair (.int .i64) (.pair (.int .i64) (.pair (.int .i64) (.pair (.int .i64) (.pair (.int .u32) .unit))))))), (1, (.v (.int .u32))), (2, (.v (.int .u32)))], objs := [], outs := [{ ex := .ret, slots := [(0, (.v .bool))], objs := [] }], asg := [], nt := 50, fn := fun x => f3 K x.1.1 x.1.2.1 x.1.2.2.1 }
theorem s_f3 (K : Nat) (hB : Base Try.prog tabs (fs14 K)) : FnSound Try.prog 3 (p_f3 K) :=
  fun_thm hB (o3_0 K) Try.func3 (body := b3) rfl (p_f3 K) (rs := [.tmp 6]) rfl (Nat.le_of_ble_eq_true (by kernel_rfl)) (fun x => by kernel_rfl)
noncomputable def fs3 (K : Nat) : List (Nat × Piece) := (3, p_f3 K) :: fs14 K
theorem base3 (K : Nat) : Base Try.prog tabs (fs3 K) := ⟨(base14 K).mixed, (base14 K).tabs, FnsOk.cons (s_f3 K (base14 K)) (by kernel_rfl) (base14 K).fns⟩
/-! "selfstab/selfstablaw16.AccountStaysValid" -/
noncomputable def b4 : Code := codeOf Try.f4
noncomputable def c4_0 (K : Nat) : List (Nat × Piece) := []
theorem o4_0 (K : Nat) : PcsOk Try.prog b4 (c4_0 K) := PcsOk.nil
def f4 (K : Nat) (x0 : (Int × (Int × (Int × (Int × (Int × Unit)))))) (x1 : Int) (x2 : Int) : Option ((Bool × Unit) × Unit) :=
  (f15 K 24).bind fun y3 =>
    (f15 K 24).bind fun y4 =>
      (f12 K x0).bind fun y11 =>
        if !y11.1.1 then
          (f10 K).bind fun y12 =>
            some ((y12.1.1, ()), ())
        else
          if decide ((iand .u32 x1 y3.1.1) = 0) then
            (f10 K).bind fun y13 =>
              some ((y13.1.1, ()), ())
          else
            if decide (x0.1 = 4096) then
              (f10 K).bind fun y14 =>
                some ((y14.1.1, ()), ())
            else
              (f8 K x0 (iand .u32 x1 y3.1.1) (iand .u32 x2 y4.1.1)).bind fun y16 =>
                (f10 K).bind fun y17 =>
                  if y17.1.1 then
                    if decide (y16.1.1.2.1 = 0) then
                      (f11 K y16.1.1.1).bind fun y18 =>
                        if y18.1.1 then
                          if decide (y16.1.1.1.1 = (IntKind.i64.wrap (x0.1 + 1))) then
                            (f16 K (iand .u32 x1 y3.1.1)).bind fun y19 =>
                              if decide (y16.1.1.1.2.1 = (IntKind.i64.wrap (x0.2.1 + y19.1.1))) then
                                if decide (x0.2.2.1 ≤ y16.1.1.1.2.2.1) then
                                  if decide (y16.1.1.1.2.2.1 ≤ (IntKind.i64.wrap (x0.2.2.1 + 1))) then
                                    if decide (x0.2.2.2.1 ≤ y16.1.1.1.2.2.2.1) then
                                      some ((decide (y16.1.1.1.2.2.2.1 ≤ (IntKind.i64.wrap (x0.2.2.2.1 + 1))), ()), ())
                                    else
                                      some ((false, ()), ())
                                  else
                                    some ((false, ()), ())
                                else
                                  some ((false, ()), ())
                              else
                                some ((false, ()), ())
                          else
                            some ((false, ()), ())
                        else
                          some ((false, ()), ())
                    else
                      some ((false, ()), ())
                  else
                    some ((false, ()), ())
@[reducible] def p_f4 (K : Nat) : Piece := { slots := [(0, (.v (.pair (.int .i64) (.pair (.int .i64) (.pair (.int .i64) (.pair (.int .i64) (.pair (.int .u32) .unit))))))), (1, (.v (.int .u32))), (2, (.v (.int .u32)))], objs := [], outs := [{ ex := .ret, slots := [(0, (.v .bool))], objs := [] }], asg := [], nt := 92, fn := fun x => f4 K x.1.1 x.1.2.1 x.1.2.2.1 }
theorem s_f4 (K : Nat) (hB : Base Try.prog tabs (fs3 K)) : FnSound Try.prog 4 (p_f4 K) :=
  fun_thm hB (o4_0 K) Try.func4 (body := b4) rfl (p_f4 K) (rs := [.tmp 6]) rfl (Nat.le_of_ble_eq_true (by kernel_rfl)) (fun x => by kernel_rfl)
noncomputable def fs4 (K : Nat) : List (Nat × Piece) := (4, p_f4 K) :: fs3 K
theorem base4 (K : Nat) : Base Try.prog tabs (fs4 K) := ⟨(base3 K).mixed, (base3 K).tabs, FnsOk.cons (s_f4 K (base3 K)) (by kernel_rfl) (base3 K).fns⟩
/-! "selfstab/selfstablaw16.run" -/
noncomputable def b17 : Code := codeOf Try.f17
noncomputable def c17_0 (K : Nat) : List (Nat × Piece) := []
theorem o17_0 (K : Nat) : PcsOk Try.prog b17 (c17_0 K) := PcsOk.nil
def f17_250 (K : Nat) : (k : Nat) → (x1 : (List (Int × (Int × Unit)))) → (x11 : Int) → (o0 : (Int × (Int × (Int × (Int × (Int × Unit)))))) → (o1 : (List Int)) → (o2 : (List Int)) → (o3 : (Int × (Int × (Int × (Int × (Int × Unit)))))) → Option (((Unit × (Unit × Unit)) × ((List Int) × ((List Int) × ((Int × (Int × (Int × (Int × (Int × Unit))))) × ((Int × (Int × (Int × (Int × (Int × Unit))))) × Unit))))) ⊕ ((Unit × (Unit × (Bool × Unit))) × ((List Int) × ((List Int) × ((Int × (Int × (Int × (Int × (Int × Unit))))) × Unit)))))
  | 0, _, _, _, _, _, _ => none
  | k + 1, x1, x11, o0, o1, o2, o3 =>
    if decide (x11 < (x1.length : Int)) then
      if decide (0 ≤ IntKind.i64.wrap ((o1.length : Int) - 1) ∧ IntKind.i64.wrap ((o1.length : Int) - 1) < (o1.length : Int)) then
        if decide (0 ≤ x11 ∧ x11 < (x1.length : Int)) then
          if decide ((iand .u32 ((rdl (.pair (.int .u32) (.pair (.int .u32) .unit)) x1 x11.toNat).1) (rdl (.int .u32) o1 ((IntKind.i64.wrap ((o1.length : Int) - 1)).toNat))) = 0) then
            f17_250 K k x1 (IntKind.i64.wrap (x11 + 1)) o0 o1 o2 o3
          else
            if decide (0 ≤ x11 ∧ x11 < (x1.length : Int)) then
              (f15 K 24).bind fun y8 =>
                (f8 K o3 (iand .u32 ((rdl (.pair (.int .u32) (.pair (.int .u32) .unit)) x1 x11.toNat).1) (rdl (.int .u32) o1 ((IntKind.i64.wrap ((o1.length : Int) - 1)).toNat))) (iand .u32 (((rdl (.pair (.int .u32) (.pair (.int .u32) .unit)) x1 x11.toNat).2).1) y8.1.1)).bind fun y9 =>
                  if !decide (y9.1.1.2.1 = 0) then
                    some (.inr (((), ((), (false, ()))), ([], ([], (o3, ())))))
                  else
                    if decide (o2.length + ([iand .u32 ((rdl (.pair (.int .u32) (.pair (.int .u32) .unit)) x1 x11.toNat).1) (rdl (.int .u32) o1 ((IntKind.i64.wrap ((o1.length : Int) - 1)).toNat))]).length ≤ 4294967296) then
                      if decide (0 ≤ x11 ∧ x11 < (x1.length : Int)) then
                        (f15 K 24).bind fun y10 =>
                          if decide (o1.length + ([iand .u32 (((rdl (.pair (.int .u32) (.pair (.int .u32) .unit)) x1 x11.toNat).2).1) y10.1.1]).length ≤ 4294967296) then
                            f17_250 K k x1 (IntKind.i64.wrap (x11 + 1)) o0 (o1 ++ [iand .u32 (((rdl (.pair (.int .u32) (.pair (.int .u32) .unit)) x1 x11.toNat).2).1) y10.1.1]) (o2 ++ [iand .u32 ((rdl (.pair (.int .u32) (.pair (.int .u32) .unit)) x1 x11.toNat).1) (rdl (.int .u32) o1 ((IntKind.i64.wrap ((o1.length : Int) - 1)).toNat))]) y9.1.1.1
                          else
                            none
                      else
                        none
                    else
                      none
            else
              none
        else
          none
      else
        none
    else
      some (.inl (((), ((), ())), (o1, (o2, (o0, (o3, ()))))))
@[reducible] def p_f17_250 (K k : Nat) : Piece := { slots := [(1, (.v (.slice (.pair (.int .u32) (.pair (.int .u32) .unit))))), (6, (.ref 0 (.pair (.int .i64) (.pair (.int .i64) (.pair (.int .i64) (.pair (.int .i64) (.pair (.int .u32) .unit))))))), (8, (.href 1)), (9, (.href 2)), (10, (.ref 3 (.pair (.int .i64) (.pair (.int .i64) (.pair (.int .i64) (.pair (.int .i64) (.pair (.int .u32) .unit))))))), (11, (.v (.int .i64)))], objs := [(.box (.pair (.int .i64) (.pair (.int .i64) (.pair (.int .i64) (.pair (.int .i64) (.pair (.int .u32) .unit))))) (.v (.pair (.int .i64) (.pair (.int .i64) (.pair (.int .i64) (.pair (.int .i64) (.pair (.int .u32) .unit))))))), (.row (.int .u32)), (.row (.int .u32)), (.box (.pair (.int .i64) (.pair (.int .i64) (.pair (.int .i64) (.pair (.int .i64) (.pair (.int .u32) .unit))))) (.v (.pair (.int .i64) (.pair (.int .i64) (.pair (.int .i64) (.pair (.int .i64) (.pair (.int .u32) .unit)))))))], outs := [{ ex := (.exit 0), slots := [(8, (.href 0)), (9, (.href 1))], objs := [(none, (.row (.int .u32))), (none, (.row (.int .u32))), (some 0, (.box (.pair (.int .i64) (.pair (.int .i64) (.pair (.int .i64) (.pair (.int .i64) (.pair (.int .u32) .unit))))) (.v (.pair (.int .i64) (.pair (.int .i64) (.pair (.int .i64) (.pair (.int .i64) (.pair (.int .u32) .unit)))))))), (some 3, (.box (.pair (.int .i64) (.pair (.int .i64) (.pair (.int .i64) (.pair (.int .i64) (.pair (.int .u32) .unit))))) (.v (.pair (.int .i64) (.pair (.int .i64) (.pair (.int .i64) (.pair (.int .i64) (.pair (.int .u32) .unit))))))))] }, { ex := .ret, slots := [(4, (.href 0)), (5, (.href 1)), (7, (.v .bool))], objs := [(none, (.row (.int .u32))), (none, (.row (.int .u32))), (some 0, (.box (.pair (.int .i64) (.pair (.int .i64) (.pair (.int .i64) (.pair (.int .i64) (.pair (.int .u32) .unit))))) (.v (.pair (.int .i64) (.pair (.int .i64) (.pair (.int .i64) (.pair (.int .i64) (.pair (.int .u32) .unit))))))))] }], asg := [4, 5, 7, 8, 9, 11, 12, 13, 14, 15, 22, 23, 24, 25, 26, 27, 28, 29, 30, 31, 32, 33, 34, 35, 36, 37, 38, 39, 40, 41, 42, 43, 44, 45, 46, 47, 48, 49, 50, 51, 52, 53, 54, 55, 56, 57, 58, 59, 60, 61, 62, 63, 64, 65, 66, 67, 68, 69, 70, 71, 72, 73], nt := 77, fn := fun x => f17_250 K k x.1.1 x.1.2.2.2.2.2.1 x.2.1 x.2.2.1 x.2.2.2.1 x.2.2.2.2.1 }
theorem k_f17_250 (K : Nat) (hB : Base Try.prog tabs (fs4 K)) : PcOk Try.prog (codeAt b17 250) (p_f17_250 K K) :=
  loop_thm hB (o17_0 K) 250 (p_f17_250 K 0) (l := fun k x => f17_250 K k x.1.1 x.1.2.2.2.2.2.1 x.2.1 x.2.2.1 x.2.2.2.1 x.2.2.2.2.1) (c := codeAt b17 500) (by kernel_rfl) (by kernel_rfl) (by kernel_rfl) (by kernel_rfl) (fun x => by kernel_rfl) (fun k x => by kernel_rfl) K
noncomputable def c17_250 (K : Nat) : List (Nat × Piece) := (250, p_f17_250 K K) :: c17_0 K
theorem o17_250 (K : Nat) (hB : Base Try.prog tabs (fs4 K)) : PcsOk Try.prog b17 (c17_250 K) := PcsOk.cons (k_f17_250 K hB) (o17_0 K)
def f17 (K : Nat) (x0 : Int) (x1 : (List (Int × (Int × Unit)))) : Option (((Unit × (Unit × ((Int × (Int × (Int × (Int × (Int × Unit))))) × (Bool × Unit)))) × Unit) × ((List Int) × ((List Int) × Unit))) :=
  (f15 K 24).bind fun y2 =>
    (f13 K x0).bind fun y4 =>
      (f17_250 K K x1 0 (0, (0, (0, (0, (0, ()))))) ([iand .u32 x0 y2.1.1]) [] y4.1.1).bind fun y8 =>
        match y8 with
        | .inl y9 =>
          some ((((), ((), (y9.2.2.2.2.1, (true, ())))), ()), (y9.2.2.1, (y9.2.1, ())))
        | .inr y10 =>
          some ((((), ((), (y10.2.2.2.1, (y10.1.2.2.1, ())))), ()), (y10.2.1, (y10.2.2.1, ())))
@[reducible] def p_f17 (K : Nat) : Piece := { slots := [(0, (.v (.int .u32))), (1, (.v (.slice (.pair (.int .u32) (.pair (.int .u32) .unit)))))], objs := [], outs := [{ ex := .ret, slots := [(0, (.tup (.cons (.href 0) (.cons (.href 1) (.cons (.v (.pair (.int .i64) (.pair (.int .i64) (.pair (.int .i64) (.pair (.int .i64) (.pair (.int .u32) .unit)))))) (.cons (.v .bool) .nil))))))], objs := [(none, (.row (.int .u32))), (none, (.row (.int .u32)))] }], asg := [], nt := 77, fn := fun x => f17 K x.1.1 x.1.2.1 }
theorem s_f17 (K : Nat) (hB : Base Try.prog tabs (fs4 K)) : FnSound Try.prog 17 (p_f17 K) :=
  fun_thm hB (o17_250 K hB) Try.func17 (body := b17) rfl (p_f17 K) (rs := [.tmp 4, .tmp 5, .cell 6 24, .tmp 7]) rfl (Nat.le_of_ble_eq_true (by kernel_rfl)) (fun x => by kernel_rfl)
noncomputable def fs17 (K : Nat) : List (Nat × Piece) := (17, p_f17 K) :: fs4 K
theorem base17 (K : Nat) : Base Try.prog tabs (fs17 K) := ⟨(base4 K).mixed, (base4 K).tabs, FnsOk.cons (s_f17 K (base4 K)) (by kernel_rfl) (base4 K).fns⟩
/-! "selfstab/selfstablaw16.AccountCountsRounds" -/
noncomputable def b5 : Code := codeOf Try.f5
noncomputable def c5_0 (K : Nat) : List (Nat × Piece) := []
theorem o5_0 (K : Nat) : PcsOk Try.prog b5 (c5_0 K) := PcsOk.nil
def f5_259226 (K : Nat) : (k : Nat) → (x5 : (List Int)) → (x6 : (List Int)) → (x9 : Int) → (x10 : Int) → (x11 : Int) → (x12 : Int) → (x13 : Int) → (x14 : Int) → (o0 : (Int × (Int × (Int × (Int × (Int × Unit)))))) → Option ((Int × Unit) × ((Int × (Int × (Int × (Int × (Int × Unit))))) × Unit))
  | 0, _, _, _, _, _, _, _, _, _ => none
  | k + 1, x5, x6, x9, x10, x11, x12, x13, x14, o0 =>
    if decide (x14 ≤ x12) then
      if decide (0 ≤ x14 ∧ x14 < (x5.length : Int)) then
        if decide (0 ≤ IntKind.i64.wrap (x14 + 1) ∧ IntKind.i64.wrap (x14 + 1) < (x6.length : Int)) then
          f5_259226 K k x5 x6 x9 x10 x11 x12 (ior .u32 x13 (ior .u32 (rdl (.int .u32) x5 x14.toNat) (ixor .u32 4294967295 (rdl (.int .u32) x6 ((IntKind.i64.wrap (x14 + 1)).toNat))))) (IntKind.i64.wrap (x14 + 1)) o0
        else
          none
      else
        none
    else
      some ((x13, ()), (o0, ()))
@[reducible] def p_f5_259226 (K k : Nat) : Piece := { slots := [(5, (.v (.slice (.int .u32)))), (6, (.v (.slice (.int .u32)))), (7, (.ref 0 (.pair (.int .i64) (.pair (.int .i64) (.pair (.int .i64) (.pair (.int .i64) (.pair (.int .u32) .unit))))))), (9, (.v (.int .i64))), (10, (.v (.int .i64))), (11, (.v (.int .i64))), (12, (.v (.int .i64))), (13, (.v (.int .u32))), (14, (.v (.int .i64)))], objs := [(.box (.pair (.int .i64) (.pair (.int .i64) (.pair (.int .i64) (.pair (.int .i64) (.pair (.int .u32) .unit))))) (.v (.pair (.int .i64) (.pair (.int .i64) (.pair (.int .i64) (.pair (.int .i64) (.pair (.int .u32) .unit)))))))], outs := [{ ex := (.exit 2), slots := [(13, (.v (.int .u32)))], objs := [(some 0, (.box (.pair (.int .i64) (.pair (.int .i64) (.pair (.int .i64) (.pair (.int .i64) (.pair (.int .u32) .unit))))) (.v (.pair (.int .i64) (.pair (.int .i64) (.pair (.int .i64) (.pair (.int .i64) (.pair (.int .u32) .unit))))))))] }], asg := [13, 14, 41, 42, 43, 44, 45, 46, 47, 48, 49, 50, 51, 52, 53, 54, 55, 56, 57, 58], nt := 90, fn := fun x => f5_259226 K k x.1.1 x.1.2.1 x.1.2.2.2.1 x.1.2.2.2.2.1 x.1.2.2.2.2.2.1 x.1.2.2.2.2.2.2.1 x.1.2.2.2.2.2.2.2.1 x.1.2.2.2.2.2.2.2.2.1 x.2.1 }
theorem k_f5_259226 (K : Nat) (hB : Base Try.prog tabs (fs17 K)) : PcOk Try.prog (codeAt b5 259226) (p_f5_259226 K K) :=
  loop_thm hB (o5_0 K) 259226 (p_f5_259226 K 0) (l := fun k x => f5_259226 K k x.1.1 x.1.2.1 x.1.2.2.2.1 x.1.2.2.2.2.1 x.1.2.2.2.2.2.1 x.1.2.2.2.2.2.2.1 x.1.2.2.2.2.2.2.2.1 x.1.2.2.2.2.2.2.2.2.1 x.2.1) (c := codeAt b5 518452) (by kernel_rfl) (by kernel_rfl) (by kernel_rfl) (by kernel_rfl) (fun x => by kernel_rfl) (fun k x => by kernel_rfl) K
noncomputable def c5_259226 (K : Nat) : List (Nat × Piece) := (259226, p_f5_259226 K K) :: c5_0 K
theorem o5_259226 (K : Nat) (hB : Base Try.prog tabs (fs17 K)) : PcsOk Try.prog b5 (c5_259226 K) := PcsOk.cons (k_f5_259226 K hB) (o5_0 K)
def f5_16201 (K : Nat) (x5 : (List Int)) (x6 : (List Int)) (x9 : Int) (x10 : Int) (x11 : Int) (x12 : Int) (o0 : (Int × (Int × (Int × (Int × (Int × Unit)))))) : Option ((Int × (Int × Unit)) × ((Int × (Int × (Int × (Int × (Int × Unit))))) × Unit)) :=
  (f5_259226 K K x5 x6 x9 x10 x11 x12 0 x11 o0).bind fun y2 =>
    if decide (0 ≤ x11 ∧ x11 < (x6.length : Int)) then
      if decide ((iandNot .u32 (rdl (.int .u32) x6 x11.toNat) y2.1.1) = 0) then
        some ((IntKind.i64.wrap (x9 + 1), (IntKind.i64.wrap (x12 + 1), ())), (y2.2.1, ()))
      else
        some ((x9, (x11, ())), (y2.2.1, ()))
    else
      none
@[reducible] def p_f5_16201 (K : Nat) : Piece := { slots := [(5, (.v (.slice (.int .u32)))), (6, (.v (.slice (.int .u32)))), (7, (.ref 0 (.pair (.int .i64) (.pair (.int .i64) (.pair (.int .i64) (.pair (.int .i64) (.pair (.int .u32) .unit))))))), (9, (.v (.int .i64))), (10, (.v (.int .i64))), (11, (.v (.int .i64))), (12, (.v (.int .i64)))], objs := [(.box (.pair (.int .i64) (.pair (.int .i64) (.pair (.int .i64) (.pair (.int .i64) (.pair (.int .u32) .unit))))) (.v (.pair (.int .i64) (.pair (.int .i64) (.pair (.int .i64) (.pair (.int .i64) (.pair (.int .u32) .unit)))))))], outs := [{ ex := .normal, slots := [(9, (.v (.int .i64))), (11, (.v (.int .i64)))], objs := [(some 0, (.box (.pair (.int .i64) (.pair (.int .i64) (.pair (.int .i64) (.pair (.int .i64) (.pair (.int .u32) .unit))))) (.v (.pair (.int .i64) (.pair (.int .i64) (.pair (.int .i64) (.pair (.int .i64) (.pair (.int .u32) .unit))))))))] }], asg := [9, 11, 13, 14, 40, 41, 42, 43, 44, 45, 46, 47, 48, 49, 50, 51, 52, 53, 54, 55, 56, 57, 58, 59, 60, 61, 62, 63, 64, 65, 66, 67, 68, 69], nt := 90, fn := fun x => f5_16201 K x.1.1 x.1.2.1 x.1.2.2.2.1 x.1.2.2.2.2.1 x.1.2.2.2.2.2.1 x.1.2.2.2.2.2.2.1 x.2.1 }
theorem k_f5_16201 (K : Nat) (hB : Base Try.prog tabs (fs17 K)) : PcOk Try.prog (codeAt b5 16201) (p_f5_16201 K) :=
  seg_thm hB (o5_259226 K hB) 16201 (p_f5_16201 K) (by kernel_rfl) (by kernel_rfl) (by kernel_rfl) (fun x => by kernel_rfl)
noncomputable def c5_16201 (K : Nat) : List (Nat × Piece) := (16201, p_f5_16201 K) :: c5_259226 K
theorem o5_16201 (K : Nat) (hB : Base Try.prog tabs (fs17 K)) : PcsOk Try.prog b5 (c5_16201 K) := PcsOk.cons (k_f5_16201 K hB) (o5_259226 K hB)
def f5_506 (K : Nat) : (k : Nat) → (x5 : (List Int)) → (x6 : (List Int)) → (x9 : Int) → (x10 : Int) → (x11 : Int) → (x12 : Int) → (o0 : (Int × (Int × (Int × (Int × (Int × Unit)))))) → Option ((Int × (Int × Unit)) × ((Int × (Int × (Int × (Int × (Int × Unit))))) × Unit))
  | 0, _, _, _, _, _, _, _ => none
  | k + 1, x5, x6, x9, x10, x11, x12, o0 =>
    if decide (x12 < (x5.length : Int)) then
      if decide (x12 = x11) then
        (f5_16201 K x5 x6 x9 (IntKind.i64.wrap (x10 + 1)) x11 x12 o0).bind fun y3 =>
          f5_506 K k x5 x6 y3.1.1 (IntKind.i64.wrap (x10 + 1)) y3.1.2.1 (IntKind.i64.wrap (x12 + 1)) y3.2.1
      else
        (f5_16201 K x5 x6 x9 x10 x11 x12 o0).bind fun y4 =>
          f5_506 K k x5 x6 y4.1.1 x10 y4.1.2.1 (IntKind.i64.wrap (x12 + 1)) y4.2.1
    else
      some ((x9, (x10, ())), (o0, ()))
@[reducible] def p_f5_506 (K k : Nat) : Piece := { slots := [(5, (.v (.slice (.int .u32)))), (6, (.v (.slice (.int .u32)))), (7, (.ref 0 (.pair (.int .i64) (.pair (.int .i64) (.pair (.int .i64) (.pair (.int .i64) (.pair (.int .u32) .unit))))))), (9, (.v (.int .i64))), (10, (.v (.int .i64))), (11, (.v (.int .i64))), (12, (.v (.int .i64)))], objs := [(.box (.pair (.int .i64) (.pair (.int .i64) (.pair (.int .i64) (.pair (.int .i64) (.pair (.int .u32) .unit))))) (.v (.pair (.int .i64) (.pair (.int .i64) (.pair (.int .i64) (.pair (.int .i64) (.pair (.int .u32) .unit)))))))], outs := [{ ex := (.exit 0), slots := [(9, (.v (.int .i64))), (10, (.v (.int .i64)))], objs := [(some 0, (.box (.pair (.int .i64) (.pair (.int .i64) (.pair (.int .i64) (.pair (.int .i64) (.pair (.int .u32) .unit))))) (.v (.pair (.int .i64) (.pair (.int .i64) (.pair (.int .i64) (.pair (.int .i64) (.pair (.int .u32) .unit))))))))] }], asg := [9, 10, 11, 12, 13, 14, 29, 30, 31, 32, 33, 34, 35, 36, 37, 38, 39, 40, 41, 42, 43, 44, 45, 46, 47, 48, 49, 50, 51, 52, 53, 54, 55, 56, 57, 58, 59, 60, 61, 62, 63, 64, 65, 66, 67, 68, 69], nt := 90, fn := fun x => f5_506 K k x.1.1 x.1.2.1 x.1.2.2.2.1 x.1.2.2.2.2.1 x.1.2.2.2.2.2.1 x.1.2.2.2.2.2.2.1 x.2.1 }
theorem k_f5_506 (K : Nat) (hB : Base Try.prog tabs (fs17 K)) : PcOk Try.prog (codeAt b5 506) (p_f5_506 K K) :=
  loop_thm hB (o5_16201 K hB) 506 (p_f5_506 K 0) (l := fun k x => f5_506 K k x.1.1 x.1.2.1 x.1.2.2.2.1 x.1.2.2.2.2.1 x.1.2.2.2.2.2.1 x.1.2.2.2.2.2.2.1 x.2.1) (c := codeAt b5 1012) (by kernel_rfl) (by kernel_rfl) (by kernel_rfl) (by kernel_rfl) (fun x => by kernel_rfl) (fun k x => by kernel_rfl) K
noncomputable def c5_506 (K : Nat) : List (Nat × Piece) := (506, p_f5_506 K K) :: c5_16201 K
theorem o5_506 (K : Nat) (hB : Base Try.prog tabs (fs17 K)) : PcsOk Try.prog b5 (c5_506 K) := PcsOk.cons (k_f5_506 K hB) (o5_16201 K hB)
def f5 (K : Nat) (x0 : Int) (x1 : (List (Int × (Int × Unit)))) : Option ((Bool × Unit) × Unit) :=
  if decide (100 < (x1.length : Int)) then
    (f10 K).bind fun y2 =>
      some ((y2.1.1, ()), ())
  else
    (f17 K x0 x1).bind fun y4 =>
      if !y4.1.1.2.2.2.1 then
        some ((false, ()), ())
      else
        (f5_506 K K y4.2.1 y4.2.2.1 0 0 0 0 y4.1.1.2.2.1).bind fun y6 =>
          (f10 K).bind fun y7 =>
            if y7.1.1 then
              if decide (y6.2.1.2.2.1 = y6.1.1) then
                if decide (y6.2.1.2.2.2.1 = y6.1.2.1) then
                  some ((decide (y6.2.1.1 = (y4.2.1.length : Int)), ()), ())
                else
                  some ((false, ()), ())
              else
                some ((false, ()), ())
            else
              some ((false, ()), ())
@[reducible] def p_f5 (K : Nat) : Piece := { slots := [(0, (.v (.int .u32))), (1, (.v (.slice (.pair (.int .u32) (.pair (.int .u32) .unit)))))], objs := [], outs := [{ ex := .ret, slots := [(0, (.v .bool))], objs := [] }], asg := [], nt := 90, fn := fun x => f5 K x.1.1 x.1.2.1 }
theorem s_f5 (K : Nat) (hB : Base Try.prog tabs (fs17 K)) : FnSound Try.prog 5 (p_f5 K) :=
  fun_thm hB (o5_506 K hB) Try.func5 (body := b5) rfl (p_f5 K) (rs := [.tmp 4]) rfl (Nat.le_of_ble_eq_true (by kernel_rfl)) (fun x => by kernel_rfl)
noncomputable def fs5 (K : Nat) : List (Nat × Piece) := (5, p_f5 K) :: fs17 K
theorem base5 (K : Nat) : Base Try.prog tabs (fs5 K) := ⟨(base17 K).mixed, (base17 K).tabs, FnsOk.cons (s_f5 K (base17 K)) (by kernel_rfl) (base17 K).fns⟩
/-! "selfstab/selfstablaw16.AccountKnowsWhoIsPending" -/
noncomputable def b6 : Code := codeOf Try.f6
noncomputable def c6_0 (K : Nat) : List (Nat × Piece) := []
theorem o6_0 (K : Nat) : PcsOk Try.prog b6 (c6_0 K) := PcsOk.nil
def f6_260682 (K : Nat) : (k : Nat) → (x5 : (List Int)) → (x6 : (List Int)) → (x9 : Int) → (x10 : Int) → (x11 : Int) → (x12 : Int) → (o0 : (Int × (Int × (Int × (Int × (Int × Unit)))))) → Option ((Int × Unit) × ((Int × (Int × (Int × (Int × (Int × Unit))))) × Unit))
  | 0, _, _, _, _, _, _, _ => none
  | k + 1, x5, x6, x9, x10, x11, x12, o0 =>
    if decide (x12 ≤ x11) then
      if decide (0 ≤ x12 ∧ x12 < (x5.length : Int)) then
        if decide (0 ≤ IntKind.i64.wrap (x12 + 1) ∧ IntKind.i64.wrap (x12 + 1) < (x6.length : Int)) then
          f6_260682 K k x5 x6 x9 (iand .u32 (iandNot .u32 x10 (rdl (.int .u32) x5 x12.toNat)) (rdl (.int .u32) x6 ((IntKind.i64.wrap (x12 + 1)).toNat))) x11 (IntKind.i64.wrap (x12 + 1)) o0
        else
          none
      else
        none
    else
      some ((x10, ()), (o0, ()))
@[reducible] def p_f6_260682 (K k : Nat) : Piece := { slots := [(5, (.v (.slice (.int .u32)))), (6, (.v (.slice (.int .u32)))), (7, (.ref 0 (.pair (.int .i64) (.pair (.int .i64) (.pair (.int .i64) (.pair (.int .i64) (.pair (.int .u32) .unit))))))), (9, (.v (.int .i64))), (10, (.v (.int .u32))), (11, (.v (.int .i64))), (12, (.v (.int .i64)))], objs := [(.box (.pair (.int .i64) (.pair (.int .i64) (.pair (.int .i64) (.pair (.int .i64) (.pair (.int .u32) .unit))))) (.v (.pair (.int .i64) (.pair (.int .i64) (.pair (.int .i64) (.pair (.int .i64) (.pair (.int .u32) .unit)))))))], outs := [{ ex := (.exit 2), slots := [(10, (.v (.int .u32)))], objs := [(some 0, (.box (.pair (.int .i64) (.pair (.int .i64) (.pair (.int .i64) (.pair (.int .i64) (.pair (.int .u32) .unit))))) (.v (.pair (.int .i64) (.pair (.int .i64) (.pair (.int .i64) (.pair (.int .i64) (.pair (.int .u32) .unit))))))))] }], asg := [10, 12, 41, 42, 43, 44, 45, 46, 47, 48, 49, 50, 51, 52, 53, 54, 55, 56, 57], nt := 85, fn := fun x => f6_260682 K k x.1.1 x.1.2.1 x.1.2.2.2.1 x.1.2.2.2.2.1 x.1.2.2.2.2.2.1 x.1.2.2.2.2.2.2.1 x.2.1 }
theorem k_f6_260682 (K : Nat) (hB : Base Try.prog tabs (fs5 K)) : PcOk Try.prog (codeAt b6 260682) (p_f6_260682 K K) :=
  loop_thm hB (o6_0 K) 260682 (p_f6_260682 K 0) (l := fun k x => f6_260682 K k x.1.1 x.1.2.1 x.1.2.2.2.1 x.1.2.2.2.2.1 x.1.2.2.2.2.2.1 x.1.2.2.2.2.2.2.1 x.2.1) (c := codeAt b6 521364) (by kernel_rfl) (by kernel_rfl) (by kernel_rfl) (by kernel_rfl) (fun x => by kernel_rfl) (fun k x => by kernel_rfl) K
noncomputable def c6_260682 (K : Nat) : List (Nat × Piece) := (260682, p_f6_260682 K K) :: c6_0 K
theorem o6_260682 (K : Nat) (hB : Base Try.prog tabs (fs5 K)) : PcsOk Try.prog b6 (c6_260682 K) := PcsOk.cons (k_f6_260682 K hB) (o6_0 K)
def f6_1018 (K : Nat) : (k : Nat) → (x5 : (List Int)) → (x6 : (List Int)) → (x9 : Int) → (x10 : Int) → (x11 : Int) → (o0 : (Int × (Int × (Int × (Int × (Int × Unit)))))) → Option ((Int × Unit) × ((Int × (Int × (Int × (Int × (Int × Unit))))) × Unit))
  | 0, _, _, _, _, _, _ => none
  | k + 1, x5, x6, x9, x10, x11, o0 =>
    if decide (x11 < (x5.length : Int)) then
      if decide (0 ≤ x9 ∧ x9 < (x6.length : Int)) then
        (f6_260682 K K x5 x6 x9 (rdl (.int .u32) x6 x9.toNat) x11 x9 o0).bind fun y4 =>
          if decide (y4.1.1 = 0) then
            if decide (0 ≤ IntKind.i64.wrap (x11 + 1) ∧ IntKind.i64.wrap (x11 + 1) < (x6.length : Int)) then
              f6_1018 K k x5 x6 (IntKind.i64.wrap (x11 + 1)) (rdl (.int .u32) x6 ((IntKind.i64.wrap (x11 + 1)).toNat)) (IntKind.i64.wrap (x11 + 1)) y4.2.1
            else
              none
          else
            f6_1018 K k x5 x6 x9 y4.1.1 (IntKind.i64.wrap (x11 + 1)) y4.2.1
      else
        none
    else
      some ((x10, ()), (o0, ()))
@[reducible] def p_f6_1018 (K k : Nat) : Piece := { slots := [(5, (.v (.slice (.int .u32)))), (6, (.v (.slice (.int .u32)))), (7, (.ref 0 (.pair (.int .i64) (.pair (.int .i64) (.pair (.int .i64) (.pair (.int .i64) (.pair (.int .u32) .unit))))))), (9, (.v (.int .i64))), (10, (.v (.int .u32))), (11, (.v (.int .i64)))], objs := [(.box (.pair (.int .i64) (.pair (.int .i64) (.pair (.int .i64) (.pair (.int .i64) (.pair (.int .u32) .unit))))) (.v (.pair (.int .i64) (.pair (.int .i64) (.pair (.int .i64) (.pair (.int .i64) (.pair (.int .u32) .unit)))))))], outs := [{ ex := (.exit 0), slots := [(10, (.v (.int .u32)))], objs := [(some 0, (.box (.pair (.int .i64) (.pair (.int .i64) (.pair (.int .i64) (.pair (.int .i64) (.pair (.int .u32) .unit))))) (.v (.pair (.int .i64) (.pair (.int .i64) (.pair (.int .i64) (.pair (.int .i64) (.pair (.int .u32) .unit))))))))] }], asg := [9, 10, 11, 12, 30, 31, 32, 33, 34, 35, 36, 37, 38, 39, 40, 41, 42, 43, 44, 45, 46, 47, 48, 49, 50, 51, 52, 53, 54, 55, 56, 57, 58, 59, 60, 61, 62, 63, 64, 65, 66], nt := 85, fn := fun x => f6_1018 K k x.1.1 x.1.2.1 x.1.2.2.2.1 x.1.2.2.2.2.1 x.1.2.2.2.2.2.1 x.2.1 }
theorem k_f6_1018 (K : Nat) (hB : Base Try.prog tabs (fs5 K)) : PcOk Try.prog (codeAt b6 1018) (p_f6_1018 K K) :=
  loop_thm hB (o6_260682 K hB) 1018 (p_f6_1018 K 0) (l := fun k x => f6_1018 K k x.1.1 x.1.2.1 x.1.2.2.2.1 x.1.2.2.2.2.1 x.1.2.2.2.2.2.1 x.2.1) (c := codeAt b6 2036) (by kernel_rfl) (by kernel_rfl) (by kernel_rfl) (by kernel_rfl) (fun x => by kernel_rfl) (fun k x => by kernel_rfl) K
noncomputable def c6_1018 (K : Nat) : List (Nat × Piece) := (1018, p_f6_1018 K K) :: c6_260682 K
theorem o6_1018 (K : Nat) (hB : Base Try.prog tabs (fs5 K)) : PcsOk Try.prog b6 (c6_1018 K) := PcsOk.cons (k_f6_1018 K hB) (o6_260682 K hB)
def f6 (K : Nat) (x0 : Int) (x1 : (List (Int × (Int × Unit)))) : Option ((Bool × Unit) × Unit) :=
  if decide (100 < (x1.length : Int)) then
    (f10 K).bind fun y2 =>
      some ((y2.1.1, ()), ())
  else
    (f17 K x0 x1).bind fun y4 =>
      if !y4.1.1.2.2.2.1 then
        some ((false, ()), ())
      else
        if decide (0 ≤ (0 : Int) ∧ 0 < (y4.2.2.1.length : Int)) then
          (f6_1018 K K y4.2.1 y4.2.2.1 0 (rdl (.int .u32) y4.2.2.1 ((0 : Int).toNat)) 0 y4.1.1.2.2.1).bind fun y6 =>
            (f10 K).bind fun y7 =>
              if y7.1.1 then
                if decide (y6.2.1.2.2.2.2.1 = y6.1.1) then
                  if decide (0 ≤ IntKind.i64.wrap ((y4.2.2.1.length : Int) - 1) ∧ IntKind.i64.wrap ((y4.2.2.1.length : Int) - 1) < (y4.2.2.1.length : Int)) then
                    some ((decide ((iandNot .u32 y6.1.1 (rdl (.int .u32) y4.2.2.1 ((IntKind.i64.wrap ((y4.2.2.1.length : Int) - 1)).toNat))) = 0), ()), ())
                  else
                    none
                else
                  some ((false, ()), ())
              else
                some ((false, ()), ())
        else
          none
@[reducible] def p_f6 (K : Nat) : Piece := { slots := [(0, (.v (.int .u32))), (1, (.v (.slice (.pair (.int .u32) (.pair (.int .u32) .unit)))))], objs := [], outs := [{ ex := .ret, slots := [(0, (.v .bool))], objs := [] }], asg := [], nt := 85, fn := fun x => f6 K x.1.1 x.1.2.1 }
theorem s_f6 (K : Nat) (hB : Base Try.prog tabs (fs5 K)) : FnSound Try.prog 6 (p_f6 K) :=
  fun_thm hB (o6_1018 K hB) Try.func6 (body := b6) rfl (p_f6 K) (rs := [.tmp 4]) rfl (Nat.le_of_ble_eq_true (by kernel_rfl)) (fun x => by kernel_rfl)
noncomputable def fs6 (K : Nat) : List (Nat × Piece) := (6, p_f6 K) :: fs5 K
theorem base6 (K : Nat) : Base Try.prog tabs (fs6 K) := ⟨(base5 K).mixed, (base5 K).tabs, FnsOk.cons (s_f6 K (base5 K)) (by kernel_rfl) (base5 K).fns⟩
/-! "selfstab/selfstablaw16.AccountOfSynchronousRuns" -/
noncomputable def b7 : Code := codeOf Try.f7
noncomputable def c7_0 (K : Nat) : List (Nat × Piece) := []
theorem o7_0 (K : Nat) : PcsOk Try.prog b7 (c7_0 K) := PcsOk.nil
def f7_250 (K : Nat) : (k : Nat) → (x1 : (List Int)) → (x5 : Int) → (x7 : Int) → (o0 : (Int × (Int × (Int × (Int × (Int × Unit)))))) → Option ((Unit × Unit) ⊕ ((Bool × Unit) × Unit))
  | 0, _, _, _, _ => none
  | k + 1, x1, x5, x7, o0 =>
    if decide (x7 < (x1.length : Int)) then
      if !decide (x5 = 0) then
        if decide (0 ≤ x7 ∧ x7 < (x1.length : Int)) then
          (f15 K 24).bind fun y6 =>
            (f8 K o0 x5 (iand .u32 (rdl (.int .u32) x1 x7.toNat) y6.1.1)).bind fun y8 =>
              if !decide (y8.1.1.2.1 = 0) then
                some (.inr ((false, ()), ()))
              else
                if !decide (y8.1.1.1.2.2.1 = (IntKind.i64.wrap (o0.2.2.1 + 1))) then
                  some (.inr ((false, ()), ()))
                else
                  if !decide (y8.1.1.1.2.2.2.1 = y8.1.1.1.2.2.1) then
                    some (.inr ((false, ()), ()))
                  else
                    if !decide (y8.1.1.1.2.2.2.2.1 = (iand .u32 (rdl (.int .u32) x1 x7.toNat) y6.1.1)) then
                      some (.inr ((false, ()), ()))
                    else
                      f7_250 K k x1 (iand .u32 (rdl (.int .u32) x1 x7.toNat) y6.1.1) (IntKind.i64.wrap (x7 + 1)) y8.1.1.1
        else
          none
      else
        some (.inl ((), ()))
    else
      some (.inl ((), ()))
@[reducible] def p_f7_250 (K k : Nat) : Piece := { slots := [(1, (.v (.slice (.int .u32)))), (5, (.v (.int .u32))), (6, (.ref 0 (.pair (.int .i64) (.pair (.int .i64) (.pair (.int .i64) (.pair (.int .i64) (.pair (.int .u32) .unit))))))), (7, (.v (.int .i64)))], objs := [(.box (.pair (.int .i64) (.pair (.int .i64) (.pair (.int .i64) (.pair (.int .i64) (.pair (.int .u32) .unit))))) (.v (.pair (.int .i64) (.pair (.int .i64) (.pair (.int .i64) (.pair (.int .i64) (.pair (.int .u32) .unit)))))))], outs := [{ ex := (.exit 0), slots := [], objs := [] }, { ex := .ret, slots := [(4, (.v .bool))], objs := [] }], asg := [4, 5, 7, 8, 9, 10, 20, 21, 22, 23, 24, 25, 26, 27, 28, 29, 30, 31, 32, 33, 34, 35, 36, 37, 38, 39, 40, 41, 42, 43, 44, 45, 46, 47, 48, 49, 50, 51, 52, 53, 54, 55, 56, 57, 58, 59, 60, 61, 62, 63, 64, 65, 66, 67], nt := 69, fn := fun x => f7_250 K k x.1.1 x.1.2.1 x.1.2.2.2.1 x.2.1 }
theorem k_f7_250 (K : Nat) (hB : Base Try.prog tabs (fs6 K)) : PcOk Try.prog (codeAt b7 250) (p_f7_250 K K) :=
  loop_thm hB (o7_0 K) 250 (p_f7_250 K 0) (l := fun k x => f7_250 K k x.1.1 x.1.2.1 x.1.2.2.2.1 x.2.1) (c := codeAt b7 500) (by kernel_rfl) (by kernel_rfl) (by kernel_rfl) (by kernel_rfl) (fun x => by kernel_rfl) (fun k x => by kernel_rfl) K
noncomputable def c7_250 (K : Nat) : List (Nat × Piece) := (250, p_f7_250 K K) :: c7_0 K
theorem o7_250 (K : Nat) (hB : Base Try.prog tabs (fs6 K)) : PcsOk Try.prog b7 (c7_250 K) := PcsOk.cons (k_f7_250 K hB) (o7_0 K)
def f7 (K : Nat) (x0 : Int) (x1 : (List Int)) : Option ((Bool × Unit) × Unit) :=
  if decide (100 < (x1.length : Int)) then
    (f10 K).bind fun y2 =>
      some ((y2.1.1, ()), ())
  else
    (f15 K 24).bind fun y4 =>
      (f13 K (iand .u32 x0 y4.1.1)).bind fun y6 =>
        (f7_250 K K x1 (iand .u32 x0 y4.1.1) 0 y6.1.1).bind fun y10 =>
          match y10 with
          | .inl y11 =>
            (f10 K).bind fun y13 =>
              some ((y13.1.1, ()), ())
          | .inr y12 =>
            some ((y12.1.1, ()), ())
@[reducible] def p_f7 (K : Nat) : Piece := { slots := [(0, (.v (.int .u32))), (1, (.v (.slice (.int .u32))))], objs := [], outs := [{ ex := .ret, slots := [(0, (.v .bool))], objs := [] }], asg := [], nt := 69, fn := fun x => f7 K x.1.1 x.1.2.1 }
theorem s_f7 (K : Nat) (hB : Base Try.prog tabs (fs6 K)) : FnSound Try.prog 7 (p_f7 K) :=
  fun_thm hB (o7_250 K hB) Try.func7 (body := b7) rfl (p_f7 K) (rs := [.tmp 4]) rfl (Nat.le_of_ble_eq_true (by kernel_rfl)) (fun x => by kernel_rfl)
noncomputable def fs7 (K : Nat) : List (Nat × Piece) := (7, p_f7 K) :: fs6 K
theorem base7 (K : Nat) : Base Try.prog tabs (fs7 K) := ⟨(base6 K).mixed, (base6 K).tabs, FnsOk.cons (s_f7 K (base6 K)) (by kernel_rfl) (base6 K).fns⟩
end Go.Proofs.Ytmndmapbojhnmaa.G
