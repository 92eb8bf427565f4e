/- Printed by a program of this work: for each function that is reached, what it computes, and that the code computes it. -/
import Derived.Test.YtmndmapbojhnmaaFwE
import Derived.Test.YtmndmapbojhnmaaProg
import Derived.KernelRfl
namespace Go.Proofs.Ytmndmapbojhnmaa.G
open Go Go.Fw Go.Proofs
set_option maxRecDepth 100000
set_option linter.unusedVariables false
@[reducible] def tabs : Tabs := { ty := [(3, (.int .i64)), (4, .bool), (5, (.int .u8)), (9, .str), (22, (.int .u32)), (24, (.pair (.int .i64) (.pair (.int .i64) (.pair (.int .i64) (.pair (.int .i64) (.pair (.int .u32) .unit)))))), (34, (.slice (.pair (.int .u32) (.pair (.int .u32) .unit)))), (35, (.slice (.int .u32))), (41, (.int .u64)), (44, (.pair (.int .u32) (.pair (.int .u32) .unit)))], eq := [4, 24], mt := [] }
noncomputable def codeOf (f : Func) : Code := match f.body with | some c => c | none => .skip
noncomputable def fs_0 (K : Nat) : List (Nat × Piece) := []
theorem base_0 (K : Nat) : Base Try.prog tabs (fs_0 K) := ⟨by kernel_rfl, by kernel_rfl, FnsOk.nil⟩
def bytes_93484e48 : ByteArray := { data := (List.toArray (List.append (List.append [0, 1, 1, 2, 1, 2, 2, 3, 1, 2, 2, 3, 2, 3, 3, 4, 1, 2, 2, 3, 2, 3, 3, 4, 2, 3, 3, 4, 3, 4, 4, 5, 1, 2, 2, 3, 2, 3, 3, 4, 2, 3, 3, 4, 3, 4, 4, 5, 2, 3, 3, 4, 3, 4, 4, 5, 3, 4, 4, 5, 4, 5, 5, 6] [1, 2, 2, 3, 2, 3, 3, 4, 2, 3, 3, 4, 3, 4, 4, 5, 2, 3, 3, 4, 3, 4, 4, 5, 3, 4, 4, 5, 4, 5, 5, 6, 2, 3, 3, 4, 3, 4, 4, 5, 3, 4, 4, 5, 4, 5, 5, 6, 3, 4, 4, 5, 4, 5, 5, 6, 4, 5, 5, 6, 5, 6, 6, 7]) (List.append [1, 2, 2, 3, 2, 3, 3, 4, 2, 3, 3, 4, 3, 4, 4, 5, 2, 3, 3, 4, 3, 4, 4, 5, 3, 4, 4, 5, 4, 5, 5, 6, 2, 3, 3, 4, 3, 4, 4, 5, 3, 4, 4, 5, 4, 5, 5, 6, 3, 4, 4, 5, 4, 5, 5, 6, 4, 5, 5, 6, 5, 6, 6, 7] [2, 3, 3, 4, 3, 4, 4, 5, 3, 4, 4, 5, 4, 5, 5, 6, 3, 4, 4, 5, 4, 5, 5, 6, 4, 5, 5, 6, 5, 6, 6, 7, 3, 4, 4, 5, 4, 5, 5, 6, 4, 5, 5, 6, 5, 6, 6, 7, 4, 5, 5, 6, 5, 6, 6, 7, 5, 6, 6, 7, 6, 7, 7, 8]))) }
/-! "selfstab/account.inside" -/
noncomputable def b_account_inside : Code := codeOf Try.f18
noncomputable def c_account_inside_0 (K : Nat) : List (Nat × Piece) := []
theorem o_account_inside_0 (K : Nat) : PcsOk Try.prog b_account_inside (c_account_inside_0 K) := PcsOk.nil
def account_inside_26 (K : Nat) : (k : Nat) → (x5 : (List Int)) → (x6 : Int) → (x7 : Int) → Option ((Unit × Unit) ⊕ ((Bool × Unit) × Unit))
  | 0, _, _, _ => none
  | k + 1, x5, x6, x7 =>
    if decide (x7 < x6) then
      if decide (0 ≤ x7 ∧ x7 < (x5.length : Int)) then
        if !decide ((ishr .u32 (rdl (.int .u32) x5 x7.toNat) 24) = 0) then
          some (.inr ((false, ()), ()))
        else
          account_inside_26 K k x5 x6 (IntKind.i64.wrap (x7 + 1))
      else
        none
    else
      some (.inl ((), ()))
@[reducible] def p_account_inside_26 (K k : Nat) : Piece := { slots := [(5, (.v (.slice (.int .u32)))), (6, (.v (.int .i64))), (7, (.v (.int .i64)))], objs := [], outs := [{ ex := (.exit 0), slots := [], objs := [] }, { ex := .ret, slots := [(2, (.v .bool))], objs := [] }], asg := [2, 4, 7, 8, 9, 10, 11, 12, 13, 14], nt := 15, fn := fun x => account_inside_26 K k x.1.1 x.1.2.1 x.1.2.2.1 }
theorem k_account_inside_26 (K : Nat) (hB : Base Try.prog tabs (fs_0 K)) : PcOk Try.prog (codeAt b_account_inside 26) (p_account_inside_26 K K) :=
  loop_thm hB (o_account_inside_0 K) 26 (p_account_inside_26 K 0) (l := fun k x => account_inside_26 K k x.1.1 x.1.2.1 x.1.2.2.1) (c := codeAt b_account_inside 52) (by kernel_rfl) (by kernel_rfl) (by kernel_rfl) (by kernel_rfl) (fun x => by kernel_rfl) (fun k x => by kernel_rfl) K
noncomputable def c_account_inside_26 (K : Nat) : List (Nat × Piece) := (26, p_account_inside_26 K K) :: c_account_inside_0 K
theorem o_account_inside_26 (K : Nat) (hB : Base Try.prog tabs (fs_0 K)) : PcsOk Try.prog b_account_inside (c_account_inside_26 K) := PcsOk.cons (k_account_inside_26 K hB) (o_account_inside_0 K)
def account_inside (K : Nat) (x0 : (List Int)) : Option ((Bool × Unit) × Unit) :=
  (account_inside_26 K K x0 (x0.length : Int) 0).bind fun y4 =>
    match y4 with
    | .inl y5 =>
      some ((true, ()), ())
    | .inr y6 =>
      some ((y6.1.1, ()), ())
@[reducible] def p_account_inside (K : Nat) : Piece := { slots := [(0, (.v (.slice (.int .u32))))], objs := [], outs := [{ ex := .ret, slots := [(0, (.v .bool))], objs := [] }], asg := [], nt := 15, fn := fun x => account_inside K x.1.1 }
theorem s_account_inside (K : Nat) (hB : Base Try.prog tabs (fs_0 K)) : FnSound Try.prog 18 (p_account_inside K) :=
  fun_thm hB (o_account_inside_26 K hB) Try.func18 (body := b_account_inside) rfl (p_account_inside K) (rs := [.tmp 2]) rfl (Nat.le_of_ble_eq_true (by kernel_rfl)) (fun x => by kernel_rfl)
noncomputable def fs_account_inside (K : Nat) : List (Nat × Piece) := (18, p_account_inside K) :: fs_0 K
theorem base_account_inside (K : Nat) : Base Try.prog tabs (fs_account_inside K) := ⟨(base_0 K).mixed, (base_0 K).tabs, FnsOk.cons (s_account_inside K (base_0 K)) (by kernel_rfl) (base_0 K).fns⟩
/-! "selfstab/account.Valid" -/
noncomputable def b_account_Valid : Code := codeOf Try.f11
noncomputable def c_account_Valid_0 (K : Nat) : List (Nat × Piece) := []
theorem o_account_Valid_0 (K : Nat) : PcsOk Try.prog b_account_Valid (c_account_Valid_0 K) := PcsOk.nil
def account_Valid (K : Nat) (x0 : (Int × (Int × (Int × (Int × (Int × Unit)))))) : Option ((Bool × Unit) × Unit) :=
  if decide (0 ≤ x0.2.2.1) then
    if decide (x0.2.2.1 ≤ x0.2.2.2.1) then
      if decide ((IntKind.i64.wrap (x0.2.2.2.1 - x0.2.2.1)) ≤ 1) then
        if decide (x0.2.2.2.1 ≤ x0.1) then
          if decide (x0.1 ≤ 4096) then
            if decide (x0.1 ≤ x0.2.1) then
              if decide (x0.2.1 ≤ (IntKind.i64.wrap (24 * x0.1))) then
                (account_inside K ([x0.2.2.2.2.1])).bind fun y1 =>
                  some ((y1.1.1, ()), ())
              else
                some ((false, ()), ())
            else
              some ((false, ()), ())
          else
            some ((false, ()), ())
        else
          some ((false, ()), ())
      else
        some ((false, ()), ())
    else
      some ((false, ()), ())
  else
    some ((false, ()), ())
@[reducible] def p_account_Valid (K : Nat) : Piece := { slots := [(0, (.v (.pair (.int .i64) (.pair (.int .i64) (.pair (.int .i64) (.pair (.int .i64) (.pair (.int .u32) .unit)))))))], objs := [], outs := [{ ex := .ret, slots := [(0, (.v .bool))], objs := [] }], asg := [], nt := 54, fn := fun x => account_Valid K x.1.1 }
theorem s_account_Valid (K : Nat) (hB : Base Try.prog tabs (fs_account_inside K)) : FnSound Try.prog 11 (p_account_Valid K) :=
  fun_thm hB (o_account_Valid_0 K) Try.func11 (body := b_account_Valid) rfl (p_account_Valid K) (rs := [.tmp 2]) rfl (Nat.le_of_ble_eq_true (by kernel_rfl)) (fun x => by kernel_rfl)
noncomputable def fs_account_Valid (K : Nat) : List (Nat × Piece) := (11, p_account_Valid K) :: fs_account_inside K
theorem base_account_Valid (K : Nat) : Base Try.prog tabs (fs_account_Valid K) := ⟨(base_account_inside K).mixed, (base_account_inside K).tabs, FnsOk.cons (s_account_Valid K (base_account_inside K)) (by kernel_rfl) (base_account_inside K).fns⟩
/-! "math/bits.OnesCount32" -/
noncomputable def b_bits_OnesCount32 : Code := codeOf Try.f19
noncomputable def c_bits_OnesCount32_0 (K : Nat) : List (Nat × Piece) := []
theorem o_bits_OnesCount32_0 (K : Nat) : PcsOk Try.prog b_bits_OnesCount32 (c_bits_OnesCount32_0 K) := PcsOk.nil
def bits_OnesCount32 (K : Nat) (x0 : Int) : Option ((Int × Unit) × Unit) :=
  if decide (0 ≤ ishr .u32 x0 24 ∧ ishr .u32 x0 24 < (bytes_93484e48.size : Int)) then
    if decide (0 ≤ iand .u32 (ishr .u32 x0 16) 255 ∧ iand .u32 (ishr .u32 x0 16) 255 < (bytes_93484e48.size : Int)) then
      if decide (0 ≤ iand .u32 (ishr .u32 x0 8) 255 ∧ iand .u32 (ishr .u32 x0 8) 255 < (bytes_93484e48.size : Int)) then
        if decide (0 ≤ iand .u32 x0 255 ∧ iand .u32 x0 255 < (bytes_93484e48.size : Int)) then
          some ((IntKind.i64.wrap (IntKind.u8.wrap ((IntKind.u8.wrap ((IntKind.u8.wrap (((bytes_93484e48.data.toList.getD (ishr .u32 x0 24).toNat 0).toNat : Int) + ((bytes_93484e48.data.toList.getD (iand .u32 (ishr .u32 x0 16) 255).toNat 0).toNat : Int))) + ((bytes_93484e48.data.toList.getD (iand .u32 (ishr .u32 x0 8) 255).toNat 0).toNat : Int))) + ((bytes_93484e48.data.toList.getD (iand .u32 x0 255).toNat 0).toNat : Int))), ()), ())
        else
          none
      else
        none
    else
      none
  else
    none
@[reducible] def p_bits_OnesCount32 (K : Nat) : Piece := { slots := [(0, (.v (.int .u32)))], objs := [], outs := [{ ex := .ret, slots := [(0, (.v (.int .i64)))], objs := [] }], asg := [], nt := 21, fn := fun x => bits_OnesCount32 K x.1.1 }
theorem s_bits_OnesCount32 (K : Nat) (hB : Base Try.prog tabs (fs_account_Valid K)) : FnSound Try.prog 19 (p_bits_OnesCount32 K) :=
  fun_thm hB (o_bits_OnesCount32_0 K) Try.func19 (body := b_bits_OnesCount32) rfl (p_bits_OnesCount32 K) (rs := [.tmp 2]) rfl (Nat.le_of_ble_eq_true (by kernel_rfl)) (fun x => by kernel_rfl)
noncomputable def fs_bits_OnesCount32 (K : Nat) : List (Nat × Piece) := (19, p_bits_OnesCount32 K) :: fs_account_Valid K
theorem base_bits_OnesCount32 (K : Nat) : Base Try.prog tabs (fs_bits_OnesCount32 K) := ⟨(base_account_Valid K).mixed, (base_account_Valid K).tabs, FnsOk.cons (s_bits_OnesCount32 K (base_account_Valid K)) (by kernel_rfl) (base_account_Valid K).fns⟩
/-! "selfstab/account.Add" -/
noncomputable def b_account_Add : Code := codeOf Try.f8
noncomputable def c_account_Add_0 (K : Nat) : List (Nat × Piece) := []
theorem o_account_Add_0 (K : Nat) : PcsOk Try.prog b_account_Add (c_account_Add_0 K) := PcsOk.nil
def account_Add_103 (K : Nat) (x1 : Int) (x2 : Int) (x13 : Bool) (o0 : (Int × (Int × (Int × (Int × (Int × Unit)))))) (o1 : (Int × (Int × (Int × (Int × (Int × Unit)))))) : Option ((Unit × ((Int × (Int × (Int × (Int × (Int × Unit))))) × ((Int × (Int × (Int × (Int × (Int × Unit))))) × Unit))) ⊕ ((Int × Unit) × ((Int × (Int × (Int × (Int × (Int × Unit))))) × Unit))) :=
  if x13 then
    some (.inr ((11, ()), ((0, (0, (0, (0, (0, ()))))), ())))
  else
    if decide (o0.1 = 4096) then
      some (.inr ((3, ()), ((0, (0, (0, (0, (0, ()))))), ())))
    else
      some (.inl ((), (o0, (o1, ()))))
@[reducible] def p_account_Add_103 (K : Nat) : Piece := { slots := [(1, (.v (.int .u32))), (2, (.v (.int .u32))), (3, (.ref 0 (.pair (.int .i64) (.pair (.int .i64) (.pair (.int .i64) (.pair (.int .i64) (.pair (.int .u32) .unit))))))), (6, (.ref 1 (.pair (.int .i64) (.pair (.int .i64) (.pair (.int .i64) (.pair (.int .i64) (.pair (.int .u32) .unit))))))), (13, (.v .bool))], objs := [(.box (.pair (.int .i64) (.pair (.int .i64) (.pair (.int .i64) (.pair (.int .i64) (.pair (.int .u32) .unit))))) (.v (.pair (.int .i64) (.pair (.int .i64) (.pair (.int .i64) (.pair (.int .i64) (.pair (.int .u32) .unit))))))), (.box (.pair (.int .i64) (.pair (.int .i64) (.pair (.int .i64) (.pair (.int .i64) (.pair (.int .u32) .unit))))) (.v (.pair (.int .i64) (.pair (.int .i64) (.pair (.int .i64) (.pair (.int .i64) (.pair (.int .u32) .unit)))))))], outs := [{ ex := .normal, slots := [], objs := [(some 0, (.box (.pair (.int .i64) (.pair (.int .i64) (.pair (.int .i64) (.pair (.int .i64) (.pair (.int .u32) .unit))))) (.v (.pair (.int .i64) (.pair (.int .i64) (.pair (.int .i64) (.pair (.int .i64) (.pair (.int .u32) .unit)))))))), (some 1, (.box (.pair (.int .i64) (.pair (.int .i64) (.pair (.int .i64) (.pair (.int .i64) (.pair (.int .u32) .unit))))) (.v (.pair (.int .i64) (.pair (.int .i64) (.pair (.int .i64) (.pair (.int .i64) (.pair (.int .u32) .unit))))))))] }, { ex := .ret, slots := [(7, (.v (.int .i64)))], objs := [(some 1, (.box (.pair (.int .i64) (.pair (.int .i64) (.pair (.int .i64) (.pair (.int .i64) (.pair (.int .u32) .unit))))) (.v (.pair (.int .i64) (.pair (.int .i64) (.pair (.int .i64) (.pair (.int .i64) (.pair (.int .u32) .unit))))))))] }], asg := [7, 23, 24, 25, 26, 27, 28], nt := 59, fn := fun x => account_Add_103 K x.1.1 x.1.2.1 x.1.2.2.2.2.1 x.2.1 x.2.2.1 }
theorem k_account_Add_103 (K : Nat) (hB : Base Try.prog tabs (fs_bits_OnesCount32 K)) : PcOk Try.prog (codeAt b_account_Add 103) (p_account_Add_103 K) :=
  seg_thm hB (o_account_Add_0 K) 103 (p_account_Add_103 K) (by kernel_rfl) (by kernel_rfl) (by kernel_rfl) (fun x => by kernel_rfl)
noncomputable def c_account_Add_103 (K : Nat) : List (Nat × Piece) := (103, p_account_Add_103 K) :: c_account_Add_0 K
theorem o_account_Add_103 (K : Nat) (hB : Base Try.prog tabs (fs_bits_OnesCount32 K)) : PcsOk Try.prog b_account_Add (c_account_Add_103 K) := PcsOk.cons (k_account_Add_103 K hB) (o_account_Add_0 K)
def account_Add_7 (K : Nat) (x1 : Int) (x2 : Int) (o0 : (Int × (Int × (Int × (Int × (Int × Unit)))))) (o1 : (Int × (Int × (Int × (Int × (Int × Unit)))))) : Option ((Int × Unit) × ((Int × (Int × (Int × (Int × (Int × Unit))))) × Unit)) :=
  (bits_OnesCount32 K x1).bind fun y2 =>
    if decide ((iand .u32 (iandNot .u32 o0.2.2.2.2.1 x1) x2) = 0) then
      some ((0, ()), ((IntKind.i64.wrap (o0.1 + 1), (IntKind.i64.wrap (o0.2.1 + y2.1.1), (IntKind.i64.wrap (o0.2.2.1 + 1), (IntKind.i64.wrap (o0.2.2.1 + 1), (x2, o0.2.2.2.2.2))))), ()))
    else
      some ((0, ()), ((IntKind.i64.wrap (o0.1 + 1), (IntKind.i64.wrap (o0.2.1 + y2.1.1), (o0.2.2.1, (IntKind.i64.wrap (o0.2.2.1 + 1), (iand .u32 (iandNot .u32 o0.2.2.2.2.1 x1) x2, o0.2.2.2.2.2))))), ()))
@[reducible] def p_account_Add_7 (K : Nat) : Piece := { slots := [(1, (.v (.int .u32))), (2, (.v (.int .u32))), (3, (.ref 0 (.pair (.int .i64) (.pair (.int .i64) (.pair (.int .i64) (.pair (.int .i64) (.pair (.int .u32) .unit))))))), (6, (.ref 1 (.pair (.int .i64) (.pair (.int .i64) (.pair (.int .i64) (.pair (.int .i64) (.pair (.int .u32) .unit)))))))], objs := [(.box (.pair (.int .i64) (.pair (.int .i64) (.pair (.int .i64) (.pair (.int .i64) (.pair (.int .u32) .unit))))) (.v (.pair (.int .i64) (.pair (.int .i64) (.pair (.int .i64) (.pair (.int .i64) (.pair (.int .u32) .unit))))))), (.box (.pair (.int .i64) (.pair (.int .i64) (.pair (.int .i64) (.pair (.int .i64) (.pair (.int .u32) .unit))))) (.v (.pair (.int .i64) (.pair (.int .i64) (.pair (.int .i64) (.pair (.int .i64) (.pair (.int .u32) .unit)))))))], outs := [{ ex := .ret, slots := [(7, (.v (.int .i64)))], objs := [(some 1, (.box (.pair (.int .i64) (.pair (.int .i64) (.pair (.int .i64) (.pair (.int .i64) (.pair (.int .u32) .unit))))) (.v (.pair (.int .i64) (.pair (.int .i64) (.pair (.int .i64) (.pair (.int .i64) (.pair (.int .u32) .unit))))))))] }], asg := [7, 29, 30, 31, 32, 33, 34, 35, 36, 37, 38, 39, 40, 41, 42, 43, 44, 45, 46, 47, 48, 49, 50, 51, 52, 53, 54, 55, 56, 57, 58], nt := 59, fn := fun x => account_Add_7 K x.1.1 x.1.2.1 x.2.1 x.2.2.1 }
theorem k_account_Add_7 (K : Nat) (hB : Base Try.prog tabs (fs_bits_OnesCount32 K)) : PcOk Try.prog (codeAt b_account_Add 7) (p_account_Add_7 K) :=
  seg_thm hB (o_account_Add_103 K hB) 7 (p_account_Add_7 K) (by kernel_rfl) (by kernel_rfl) (by kernel_rfl) (fun x => by kernel_rfl)
noncomputable def c_account_Add_7 (K : Nat) : List (Nat × Piece) := (7, p_account_Add_7 K) :: c_account_Add_103 K
theorem o_account_Add_7 (K : Nat) (hB : Base Try.prog tabs (fs_bits_OnesCount32 K)) : PcsOk Try.prog b_account_Add (c_account_Add_7 K) := PcsOk.cons (k_account_Add_7 K hB) (o_account_Add_103 K hB)
def account_Add (K : Nat) (x0 : (Int × (Int × (Int × (Int × (Int × Unit)))))) (x1 : Int) (x2 : Int) : Option ((((Int × (Int × (Int × (Int × (Int × Unit))))) × (Int × Unit)) × Unit) × Unit) :=
  (account_Valid K x0).bind fun y2 =>
    if !y2.1.1 then
      some ((((0, (0, (0, (0, (0, ()))))), (7, ())), ()), ())
    else
      if decide (x1 = 0) then
        (account_Add_103 K x1 x2 true x0 (0, (0, (0, (0, (0, ())))))).bind fun y3 =>
          match y3 with
          | .inl y4 =>
            (account_Add_7 K x1 x2 y4.2.1 y4.2.2.1).bind fun y6 =>
              some (((y6.2.1, (y6.1.1, ())), ()), ())
          | .inr y5 =>
            some (((y5.2.1, (y5.1.1, ())), ()), ())
      else
        (account_inside K ([x1, x2])).bind fun y7 =>
          (account_Add_103 K x1 x2 (!y7.1.1) x0 (0, (0, (0, (0, (0, ())))))).bind fun y8 =>
            match y8 with
            | .inl y9 =>
              (account_Add_7 K x1 x2 y9.2.1 y9.2.2.1).bind fun y11 =>
                some (((y11.2.1, (y11.1.1, ())), ()), ())
            | .inr y10 =>
              some (((y10.2.1, (y10.1.1, ())), ()), ())
@[reducible] def p_account_Add (K : Nat) : Piece := { slots := [(0, (.v (.pair (.int .i64) (.pair (.int .i64) (.pair (.int .i64) (.pair (.int .i64) (.pair (.int .u32) .unit))))))), (1, (.v (.int .u32))), (2, (.v (.int .u32)))], objs := [], outs := [{ ex := .ret, slots := [(0, (.tup (.cons (.v (.pair (.int .i64) (.pair (.int .i64) (.pair (.int .i64) (.pair (.int .i64) (.pair (.int .u32) .unit)))))) (.cons (.v (.int .i64)) .nil))))], objs := [] }], asg := [], nt := 59, fn := fun x => account_Add K x.1.1 x.1.2.1 x.1.2.2.1 }
theorem s_account_Add (K : Nat) (hB : Base Try.prog tabs (fs_bits_OnesCount32 K)) : FnSound Try.prog 8 (p_account_Add K) :=
  fun_thm hB (o_account_Add_7 K hB) Try.func8 (body := b_account_Add) rfl (p_account_Add K) (rs := [.cell 6 24, .tmp 7]) rfl (Nat.le_of_ble_eq_true (by kernel_rfl)) (fun x => by kernel_rfl)
noncomputable def fs_account_Add (K : Nat) : List (Nat × Piece) := (8, p_account_Add K) :: fs_bits_OnesCount32 K
theorem base_account_Add (K : Nat) : Base Try.prog tabs (fs_account_Add K) := ⟨(base_bits_OnesCount32 K).mixed, (base_bits_OnesCount32 K).tabs, FnsOk.cons (s_account_Add K (base_bits_OnesCount32 K)) (by kernel_rfl) (base_bits_OnesCount32 K).fns⟩
/-! "selfstab/selfstabref01.All" -/
noncomputable def b_ref01_All : Code := codeOf Try.f15
noncomputable def c_ref01_All_0 (K : Nat) : List (Nat × Piece) := []
theorem o_ref01_All_0 (K : Nat) : PcsOk Try.prog b_ref01_All (c_ref01_All_0 K) := PcsOk.nil
def ref01_All_58 (K : Nat) : (k : Nat) → (x0 : Int) → (x3 : Int) → (x4 : Int) → Option ((Int × Unit) × Unit)
  | 0, _, _, _ => none
  | k + 1, x0, x3, x4 =>
    if decide (x4 < x0) then
      if decide (x4 < 32) then
        if decide ((IntKind.u64.wrap (x4)) < 0) then
          none
        else
          ref01_All_58 K k x0 (ior .u32 x3 (ishl .u32 1 (IntKind.u64.wrap (x4)))) (IntKind.i64.wrap (x4 + 1))
      else
        some ((x3, ()), ())
    else
      some ((x3, ()), ())
@[reducible] def p_ref01_All_58 (K k : Nat) : Piece := { slots := [(0, (.v (.int .i64))), (3, (.v (.int .u32))), (4, (.v (.int .i64)))], objs := [], outs := [{ ex := (.exit 0), slots := [(3, (.v (.int .u32)))], objs := [] }], asg := [3, 4, 5, 6, 7, 8, 9, 10, 11, 12, 13, 14, 15, 16, 17, 18], nt := 20, fn := fun x => ref01_All_58 K k x.1.1 x.1.2.1 x.1.2.2.1 }
theorem k_ref01_All_58 (K : Nat) (hB : Base Try.prog tabs (fs_account_Add K)) : PcOk Try.prog (codeAt b_ref01_All 58) (p_ref01_All_58 K K) :=
  loop_thm hB (o_ref01_All_0 K) 58 (p_ref01_All_58 K 0) (l := fun k x => ref01_All_58 K k x.1.1 x.1.2.1 x.1.2.2.1) (c := codeAt b_ref01_All 116) (by kernel_rfl) (by kernel_rfl) (by kernel_rfl) (by kernel_rfl) (fun x => by kernel_rfl) (fun k x => by kernel_rfl) K
noncomputable def c_ref01_All_58 (K : Nat) : List (Nat × Piece) := (58, p_ref01_All_58 K K) :: c_ref01_All_0 K
theorem o_ref01_All_58 (K : Nat) (hB : Base Try.prog tabs (fs_account_Add K)) : PcsOk Try.prog b_ref01_All (c_ref01_All_58 K) := PcsOk.cons (k_ref01_All_58 K hB) (o_ref01_All_0 K)
def ref01_All (K : Nat) (x0 : Int) : Option ((Int × Unit) × Unit) :=
  (ref01_All_58 K K x0 0 0).bind fun y2 =>
    some ((y2.1.1, ()), ())
@[reducible] def p_ref01_All (K : Nat) : Piece := { slots := [(0, (.v (.int .i64)))], objs := [], outs := [{ ex := .ret, slots := [(0, (.v (.int .u32)))], objs := [] }], asg := [], nt := 20, fn := fun x => ref01_All K x.1.1 }
theorem s_ref01_All (K : Nat) (hB : Base Try.prog tabs (fs_account_Add K)) : FnSound Try.prog 15 (p_ref01_All K) :=
  fun_thm hB (o_ref01_All_58 K hB) Try.func15 (body := b_ref01_All) rfl (p_ref01_All K) (rs := [.tmp 2]) rfl (Nat.le_of_ble_eq_true (by kernel_rfl)) (fun x => by kernel_rfl)
noncomputable def fs_ref01_All (K : Nat) : List (Nat × Piece) := (15, p_ref01_All K) :: fs_account_Add K
theorem base_ref01_All (K : Nat) : Base Try.prog tabs (fs_ref01_All K) := ⟨(base_account_Add K).mixed, (base_account_Add K).tabs, FnsOk.cons (s_ref01_All K (base_account_Add K)) (by kernel_rfl) (base_account_Add K).fns⟩
/-! "selfstab/selfstabref16.Valid" -/
noncomputable def b_ref16_Valid : Code := codeOf Try.f12
noncomputable def c_ref16_Valid_0 (K : Nat) : List (Nat × Piece) := []
theorem o_ref16_Valid_0 (K : Nat) : PcsOk Try.prog b_ref16_Valid (c_ref16_Valid_0 K) := PcsOk.nil
def ref16_Valid (K : Nat) (x0 : (Int × (Int × (Int × (Int × (Int × Unit)))))) : Option ((Bool × Unit) × Unit) :=
  if decide (x0.2.2.1 < 0) then
    some ((false, ()), ())
  else
    if decide (x0.2.2.2.1 < x0.2.2.1) then
      some ((false, ()), ())
    else
      if decide (1 < (IntKind.i64.wrap (x0.2.2.2.1 - x0.2.2.1))) then
        some ((false, ()), ())
      else
        if decide (x0.1 < x0.2.2.2.1) then
          some ((false, ()), ())
        else
          if decide (x0.1 ≤ 4096) then
            if decide (x0.1 ≤ x0.2.1) then
              if decide (x0.2.1 ≤ (IntKind.i64.wrap (24 * x0.1))) then
                (ref01_All K 24).bind fun y1 =>
                  some ((decide ((iandNot .u32 x0.2.2.2.2.1 y1.1.1) = 0), ()), ())
              else
                some ((false, ()), ())
            else
              some ((false, ()), ())
          else
            some ((false, ()), ())
@[reducible] def p_ref16_Valid (K : Nat) : Piece := { slots := [(0, (.v (.pair (.int .i64) (.pair (.int .i64) (.pair (.int .i64) (.pair (.int .i64) (.pair (.int .u32) .unit)))))))], objs := [], outs := [{ ex := .ret, slots := [(0, (.v .bool))], objs := [] }], asg := [], nt := 53, fn := fun x => ref16_Valid K x.1.1 }
theorem s_ref16_Valid (K : Nat) (hB : Base Try.prog tabs (fs_ref01_All K)) : FnSound Try.prog 12 (p_ref16_Valid K) :=
  fun_thm hB (o_ref16_Valid_0 K) Try.func12 (body := b_ref16_Valid) rfl (p_ref16_Valid K) (rs := [.tmp 2]) rfl (Nat.le_of_ble_eq_true (by kernel_rfl)) (fun x => by kernel_rfl)
noncomputable def fs_ref16_Valid (K : Nat) : List (Nat × Piece) := (12, p_ref16_Valid K) :: fs_ref01_All K
theorem base_ref16_Valid (K : Nat) : Base Try.prog tabs (fs_ref16_Valid K) := ⟨(base_ref01_All K).mixed, (base_ref01_All K).tabs, FnsOk.cons (s_ref16_Valid K (base_ref01_All K)) (by kernel_rfl) (base_ref01_All K).fns⟩
/-! "selfstab/selfstabref01.Has" -/
noncomputable def b_ref01_Has : Code := codeOf Try.f20
noncomputable def c_ref01_Has_0 (K : Nat) : List (Nat × Piece) := []
theorem o_ref01_Has_0 (K : Nat) : PcsOk Try.prog b_ref01_Has (c_ref01_Has_0 K) := PcsOk.nil
def ref01_Has (K : Nat) (x0 : Int) (x1 : Int) : Option ((Bool × Unit) × Unit) :=
  if decide (0 ≤ x1) then
    if decide (x1 < 32) then
      if decide ((IntKind.u64.wrap (x1)) < 0) then
        none
      else
        some ((decide ((iand .u32 (ishr .u32 x0 (IntKind.u64.wrap (x1))) 1) = 1), ()), ())
    else
      some ((false, ()), ())
  else
    some ((false, ()), ())
@[reducible] def p_ref01_Has (K : Nat) : Piece := { slots := [(0, (.v (.int .u32))), (1, (.v (.int .i64)))], objs := [], outs := [{ ex := .ret, slots := [(0, (.v .bool))], objs := [] }], asg := [], nt := 19, fn := fun x => ref01_Has K x.1.1 x.1.2.1 }
theorem s_ref01_Has (K : Nat) (hB : Base Try.prog tabs (fs_ref16_Valid K)) : FnSound Try.prog 20 (p_ref01_Has K) :=
  fun_thm hB (o_ref01_Has_0 K) Try.func20 (body := b_ref01_Has) rfl (p_ref01_Has K) (rs := [.tmp 4]) rfl (Nat.le_of_ble_eq_true (by kernel_rfl)) (fun x => by kernel_rfl)
noncomputable def fs_ref01_Has (K : Nat) : List (Nat × Piece) := (20, p_ref01_Has K) :: fs_ref16_Valid K
theorem base_ref01_Has (K : Nat) : Base Try.prog tabs (fs_ref01_Has K) := ⟨(base_ref16_Valid K).mixed, (base_ref16_Valid K).tabs, FnsOk.cons (s_ref01_Has K (base_ref16_Valid K)) (by kernel_rfl) (base_ref16_Valid K).fns⟩
/-! "selfstab/selfstabref15.Count" -/
noncomputable def b_ref15_Count : Code := codeOf Try.f16
noncomputable def c_ref15_Count_0 (K : Nat) : List (Nat × Piece) := []
theorem o_ref15_Count_0 (K : Nat) : PcsOk Try.prog b_ref15_Count (c_ref15_Count_0 K) := PcsOk.nil
def ref15_Count_58 (K : Nat) : (k : Nat) → (x0 : Int) → (x3 : Int) → (x4 : Int) → Option ((Int × Unit) × Unit)
  | 0, _, _, _ => none
  | k + 1, x0, x3, x4 =>
    if decide (x4 < 32) then
      (ref01_Has K x0 x4).bind fun y4 =>
        if y4.1.1 then
          ref15_Count_58 K k x0 (IntKind.i64.wrap (x3 + 1)) (IntKind.i64.wrap (x4 + 1))
        else
          ref15_Count_58 K k x0 x3 (IntKind.i64.wrap (x4 + 1))
    else
      some ((x3, ()), ())
@[reducible] def p_ref15_Count_58 (K k : Nat) : Piece := { slots := [(0, (.v (.int .u32))), (3, (.v (.int .i64))), (4, (.v (.int .i64)))], objs := [], outs := [{ ex := (.exit 0), slots := [(3, (.v (.int .i64)))], objs := [] }], asg := [3, 4, 5, 6, 7, 8, 9, 10, 11, 12, 13], nt := 15, fn := fun x => ref15_Count_58 K k x.1.1 x.1.2.1 x.1.2.2.1 }
theorem k_ref15_Count_58 (K : Nat) (hB : Base Try.prog tabs (fs_ref01_Has K)) : PcOk Try.prog (codeAt b_ref15_Count 58) (p_ref15_Count_58 K K) :=
  loop_thm hB (o_ref15_Count_0 K) 58 (p_ref15_Count_58 K 0) (l := fun k x => ref15_Count_58 K k x.1.1 x.1.2.1 x.1.2.2.1) (c := codeAt b_ref15_Count 116) (by kernel_rfl) (by kernel_rfl) (by kernel_rfl) (by kernel_rfl) (fun x => by kernel_rfl) (fun k x => by kernel_rfl) K
noncomputable def c_ref15_Count_58 (K : Nat) : List (Nat × Piece) := (58, p_ref15_Count_58 K K) :: c_ref15_Count_0 K
theorem o_ref15_Count_58 (K : Nat) (hB : Base Try.prog tabs (fs_ref01_Has K)) : PcsOk Try.prog b_ref15_Count (c_ref15_Count_58 K) := PcsOk.cons (k_ref15_Count_58 K hB) (o_ref15_Count_0 K)
def ref15_Count (K : Nat) (x0 : Int) : Option ((Int × Unit) × Unit) :=
  (ref15_Count_58 K K x0 0 0).bind fun y2 =>
    some ((y2.1.1, ()), ())
@[reducible] def p_ref15_Count (K : Nat) : Piece := { slots := [(0, (.v (.int .u32)))], objs := [], outs := [{ ex := .ret, slots := [(0, (.v (.int .i64)))], objs := [] }], asg := [], nt := 15, fn := fun x => ref15_Count K x.1.1 }
theorem s_ref15_Count (K : Nat) (hB : Base Try.prog tabs (fs_ref01_Has K)) : FnSound Try.prog 16 (p_ref15_Count K) :=
  fun_thm hB (o_ref15_Count_58 K hB) Try.func16 (body := b_ref15_Count) rfl (p_ref15_Count K) (rs := [.tmp 2]) rfl (Nat.le_of_ble_eq_true (by kernel_rfl)) (fun x => by kernel_rfl)
noncomputable def fs_ref15_Count (K : Nat) : List (Nat × Piece) := (16, p_ref15_Count K) :: fs_ref01_Has K
theorem base_ref15_Count (K : Nat) : Base Try.prog tabs (fs_ref15_Count K) := ⟨(base_ref01_Has K).mixed, (base_ref01_Has K).tabs, FnsOk.cons (s_ref15_Count K (base_ref01_Has K)) (by kernel_rfl) (base_ref01_Has K).fns⟩
/-! "selfstab/selfstabref16.Add" -/
noncomputable def b_ref16_Add : Code := codeOf Try.f9
noncomputable def c_ref16_Add_0 (K : Nat) : List (Nat × Piece) := []
theorem o_ref16_Add_0 (K : Nat) : PcsOk Try.prog b_ref16_Add (c_ref16_Add_0 K) := PcsOk.nil
def ref16_Add_103 (K : Nat) (x1 : Int) (x2 : Int) (x13 : Bool) (o0 : (Int × (Int × (Int × (Int × (Int × Unit)))))) (o1 : (Int × (Int × (Int × (Int × (Int × Unit)))))) : Option ((Unit × ((Int × (Int × (Int × (Int × (Int × Unit))))) × ((Int × (Int × (Int × (Int × (Int × Unit))))) × Unit))) ⊕ ((Int × Unit) × ((Int × (Int × (Int × (Int × (Int × Unit))))) × Unit))) :=
  if x13 then
    some (.inr ((11, ()), ((0, (0, (0, (0, (0, ()))))), ())))
  else
    if decide (o0.1 = 4096) then
      some (.inr ((3, ()), ((0, (0, (0, (0, (0, ()))))), ())))
    else
      some (.inl ((), (o0, (o1, ()))))
@[reducible] def p_ref16_Add_103 (K : Nat) : Piece := { slots := [(1, (.v (.int .u32))), (2, (.v (.int .u32))), (3, (.ref 0 (.pair (.int .i64) (.pair (.int .i64) (.pair (.int .i64) (.pair (.int .i64) (.pair (.int .u32) .unit))))))), (6, (.ref 1 (.pair (.int .i64) (.pair (.int .i64) (.pair (.int .i64) (.pair (.int .i64) (.pair (.int .u32) .unit))))))), (13, (.v .bool))], objs := [(.box (.pair (.int .i64) (.pair (.int .i64) (.pair (.int .i64) (.pair (.int .i64) (.pair (.int .u32) .unit))))) (.v (.pair (.int .i64) (.pair (.int .i64) (.pair (.int .i64) (.pair (.int .i64) (.pair (.int .u32) .unit))))))), (.box (.pair (.int .i64) (.pair (.int .i64) (.pair (.int .i64) (.pair (.int .i64) (.pair (.int .u32) .unit))))) (.v (.pair (.int .i64) (.pair (.int .i64) (.pair (.int .i64) (.pair (.int .i64) (.pair (.int .u32) .unit)))))))], outs := [{ ex := .normal, slots := [], objs := [(some 0, (.box (.pair (.int .i64) (.pair (.int .i64) (.pair (.int .i64) (.pair (.int .i64) (.pair (.int .u32) .unit))))) (.v (.pair (.int .i64) (.pair (.int .i64) (.pair (.int .i64) (.pair (.int .i64) (.pair (.int .u32) .unit)))))))), (some 1, (.box (.pair (.int .i64) (.pair (.int .i64) (.pair (.int .i64) (.pair (.int .i64) (.pair (.int .u32) .unit))))) (.v (.pair (.int .i64) (.pair (.int .i64) (.pair (.int .i64) (.pair (.int .i64) (.pair (.int .u32) .unit))))))))] }, { ex := .ret, slots := [(7, (.v (.int .i64)))], objs := [(some 1, (.box (.pair (.int .i64) (.pair (.int .i64) (.pair (.int .i64) (.pair (.int .i64) (.pair (.int .u32) .unit))))) (.v (.pair (.int .i64) (.pair (.int .i64) (.pair (.int .i64) (.pair (.int .i64) (.pair (.int .u32) .unit))))))))] }], asg := [7, 24, 25, 26, 27, 28, 29], nt := 60, fn := fun x => ref16_Add_103 K x.1.1 x.1.2.1 x.1.2.2.2.2.1 x.2.1 x.2.2.1 }
theorem k_ref16_Add_103 (K : Nat) (hB : Base Try.prog tabs (fs_ref15_Count K)) : PcOk Try.prog (codeAt b_ref16_Add 103) (p_ref16_Add_103 K) :=
  seg_thm hB (o_ref16_Add_0 K) 103 (p_ref16_Add_103 K) (by kernel_rfl) (by kernel_rfl) (by kernel_rfl) (fun x => by kernel_rfl)
noncomputable def c_ref16_Add_103 (K : Nat) : List (Nat × Piece) := (103, p_ref16_Add_103 K) :: c_ref16_Add_0 K
theorem o_ref16_Add_103 (K : Nat) (hB : Base Try.prog tabs (fs_ref15_Count K)) : PcsOk Try.prog b_ref16_Add (c_ref16_Add_103 K) := PcsOk.cons (k_ref16_Add_103 K hB) (o_ref16_Add_0 K)
def ref16_Add_7 (K : Nat) (x1 : Int) (x2 : Int) (o0 : (Int × (Int × (Int × (Int × (Int × Unit)))))) (o1 : (Int × (Int × (Int × (Int × (Int × Unit)))))) : Option ((Int × Unit) × ((Int × (Int × (Int × (Int × (Int × Unit))))) × Unit)) :=
  (ref15_Count K x1).bind fun y2 =>
    if decide ((iand .u32 (iandNot .u32 o0.2.2.2.2.1 x1) x2) = 0) then
      some ((0, ()), ((IntKind.i64.wrap (o0.1 + 1), (IntKind.i64.wrap (o0.2.1 + y2.1.1), (IntKind.i64.wrap (o0.2.2.1 + 1), (IntKind.i64.wrap (o0.2.2.1 + 1), (x2, o0.2.2.2.2.2))))), ()))
    else
      some ((0, ()), ((IntKind.i64.wrap (o0.1 + 1), (IntKind.i64.wrap (o0.2.1 + y2.1.1), (o0.2.2.1, (IntKind.i64.wrap (o0.2.2.1 + 1), (iand .u32 (iandNot .u32 o0.2.2.2.2.1 x1) x2, o0.2.2.2.2.2))))), ()))
@[reducible] def p_ref16_Add_7 (K : Nat) : Piece := { slots := [(1, (.v (.int .u32))), (2, (.v (.int .u32))), (3, (.ref 0 (.pair (.int .i64) (.pair (.int .i64) (.pair (.int .i64) (.pair (.int .i64) (.pair (.int .u32) .unit))))))), (6, (.ref 1 (.pair (.int .i64) (.pair (.int .i64) (.pair (.int .i64) (.pair (.int .i64) (.pair (.int .u32) .unit)))))))], objs := [(.box (.pair (.int .i64) (.pair (.int .i64) (.pair (.int .i64) (.pair (.int .i64) (.pair (.int .u32) .unit))))) (.v (.pair (.int .i64) (.pair (.int .i64) (.pair (.int .i64) (.pair (.int .i64) (.pair (.int .u32) .unit))))))), (.box (.pair (.int .i64) (.pair (.int .i64) (.pair (.int .i64) (.pair (.int .i64) (.pair (.int .u32) .unit))))) (.v (.pair (.int .i64) (.pair (.int .i64) (.pair (.int .i64) (.pair (.int .i64) (.pair (.int .u32) .unit)))))))], outs := [{ ex := .ret, slots := [(7, (.v (.int .i64)))], objs := [(some 1, (.box (.pair (.int .i64) (.pair (.int .i64) (.pair (.int .i64) (.pair (.int .i64) (.pair (.int .u32) .unit))))) (.v (.pair (.int .i64) (.pair (.int .i64) (.pair (.int .i64) (.pair (.int .i64) (.pair (.int .u32) .unit))))))))] }], asg := [7, 30, 31, 32, 33, 34, 35, 36, 37, 38, 39, 40, 41, 42, 43, 44, 45, 46, 47, 48, 49, 50, 51, 52, 53, 54, 55, 56, 57, 58, 59], nt := 60, fn := fun x => ref16_Add_7 K x.1.1 x.1.2.1 x.2.1 x.2.2.1 }
theorem k_ref16_Add_7 (K : Nat) (hB : Base Try.prog tabs (fs_ref15_Count K)) : PcOk Try.prog (codeAt b_ref16_Add 7) (p_ref16_Add_7 K) :=
  seg_thm hB (o_ref16_Add_103 K hB) 7 (p_ref16_Add_7 K) (by kernel_rfl) (by kernel_rfl) (by kernel_rfl) (fun x => by kernel_rfl)
noncomputable def c_ref16_Add_7 (K : Nat) : List (Nat × Piece) := (7, p_ref16_Add_7 K) :: c_ref16_Add_103 K
theorem o_ref16_Add_7 (K : Nat) (hB : Base Try.prog tabs (fs_ref15_Count K)) : PcsOk Try.prog b_ref16_Add (c_ref16_Add_7 K) := PcsOk.cons (k_ref16_Add_7 K hB) (o_ref16_Add_103 K hB)
def ref16_Add (K : Nat) (x0 : (Int × (Int × (Int × (Int × (Int × Unit)))))) (x1 : Int) (x2 : Int) : Option ((((Int × (Int × (Int × (Int × (Int × Unit))))) × (Int × Unit)) × Unit) × Unit) :=
  (ref16_Valid K x0).bind fun y2 =>
    if !y2.1.1 then
      some ((((0, (0, (0, (0, (0, ()))))), (7, ())), ()), ())
    else
      if decide (x1 = 0) then
        (ref16_Add_103 K x1 x2 true x0 (0, (0, (0, (0, (0, ())))))).bind fun y3 =>
          match y3 with
          | .inl y4 =>
            (ref16_Add_7 K x1 x2 y4.2.1 y4.2.2.1).bind fun y6 =>
              some (((y6.2.1, (y6.1.1, ())), ()), ())
          | .inr y5 =>
            some (((y5.2.1, (y5.1.1, ())), ()), ())
      else
        (ref01_All K 24).bind fun y7 =>
          (ref16_Add_103 K x1 x2 (!decide ((iandNot .u32 (ior .u32 x1 x2) y7.1.1) = 0)) x0 (0, (0, (0, (0, (0, ())))))).bind fun y8 =>
            match y8 with
            | .inl y9 =>
              (ref16_Add_7 K x1 x2 y9.2.1 y9.2.2.1).bind fun y11 =>
                some (((y11.2.1, (y11.1.1, ())), ()), ())
            | .inr y10 =>
              some (((y10.2.1, (y10.1.1, ())), ()), ())
@[reducible] def p_ref16_Add (K : Nat) : Piece := { slots := [(0, (.v (.pair (.int .i64) (.pair (.int .i64) (.pair (.int .i64) (.pair (.int .i64) (.pair (.int .u32) .unit))))))), (1, (.v (.int .u32))), (2, (.v (.int .u32)))], objs := [], outs := [{ ex := .ret, slots := [(0, (.tup (.cons (.v (.pair (.int .i64) (.pair (.int .i64) (.pair (.int .i64) (.pair (.int .i64) (.pair (.int .u32) .unit)))))) (.cons (.v (.int .i64)) .nil))))], objs := [] }], asg := [], nt := 60, fn := fun x => ref16_Add K x.1.1 x.1.2.1 x.1.2.2.1 }
theorem s_ref16_Add (K : Nat) (hB : Base Try.prog tabs (fs_ref15_Count K)) : FnSound Try.prog 9 (p_ref16_Add K) :=
  fun_thm hB (o_ref16_Add_7 K hB) Try.func9 (body := b_ref16_Add) rfl (p_ref16_Add K) (rs := [.cell 6 24, .tmp 7]) rfl (Nat.le_of_ble_eq_true (by kernel_rfl)) (fun x => by kernel_rfl)
noncomputable def fs_ref16_Add (K : Nat) : List (Nat × Piece) := (9, p_ref16_Add K) :: fs_ref15_Count K
theorem base_ref16_Add (K : Nat) : Base Try.prog tabs (fs_ref16_Add K) := ⟨(base_ref15_Count K).mixed, (base_ref15_Count K).tabs, FnsOk.cons (s_ref16_Add K (base_ref15_Count K)) (by kernel_rfl) (base_ref15_Count K).fns⟩
/-! "selfstab/account.Begin" -/
noncomputable def b_account_Begin : Code := codeOf Try.f13
noncomputable def c_account_Begin_0 (K : Nat) : List (Nat × Piece) := []
theorem o_account_Begin_0 (K : Nat) : PcsOk Try.prog b_account_Begin (c_account_Begin_0 K) := PcsOk.nil
def account_Begin (K : Nat) (x0 : Int) : Option (((Int × (Int × (Int × (Int × (Int × Unit))))) × Unit) × Unit) :=
  some (((0, (0, (0, (0, (iand .u32 x0 16777215, ()))))), ()), ())
@[reducible] def p_account_Begin (K : Nat) : Piece := { slots := [(0, (.v (.int .u32)))], objs := [], outs := [{ ex := .ret, slots := [(0, (.v (.pair (.int .i64) (.pair (.int .i64) (.pair (.int .i64) (.pair (.int .i64) (.pair (.int .u32) .unit)))))))], objs := [] }], asg := [], nt := 6, fn := fun x => account_Begin K x.1.1 }
theorem s_account_Begin (K : Nat) (hB : Base Try.prog tabs (fs_ref16_Add K)) : FnSound Try.prog 13 (p_account_Begin K) :=
  fun_thm hB (o_account_Begin_0 K) Try.func13 (body := b_account_Begin) rfl (p_account_Begin K) (rs := [.cell 2 24]) rfl (Nat.le_of_ble_eq_true (by kernel_rfl)) (fun x => by kernel_rfl)
noncomputable def fs_account_Begin (K : Nat) : List (Nat × Piece) := (13, p_account_Begin K) :: fs_ref16_Add K
theorem base_account_Begin (K : Nat) : Base Try.prog tabs (fs_account_Begin K) := ⟨(base_ref16_Add K).mixed, (base_ref16_Add K).tabs, FnsOk.cons (s_account_Begin K (base_ref16_Add K)) (by kernel_rfl) (base_ref16_Add K).fns⟩
/-! "selfstab/selfstablaw16.awake" -/
noncomputable def b_law16_awake : Code := codeOf Try.f10
noncomputable def c_law16_awake_0 (K : Nat) : List (Nat × Piece) := []
theorem o_law16_awake_0 (K : Nat) : PcsOk Try.prog b_law16_awake (c_law16_awake_0 K) := PcsOk.nil
def law16_awake (K : Nat) : Option ((Bool × Unit) × Unit) :=
  (account_Begin K 3).bind fun y3 =>
    (account_Add K y3.1.1 1 2).bind fun y4 =>
      (account_Add K y4.1.1.1 2 0).bind fun y6 =>
        if decide (y4.1.1.2.1 = 0) then
          if decide (y6.1.1.2.1 = 0) then
            if decide (y4.1.1.1.2.2.2.2.1 = 2) then
              if decide (y4.1.1.1.2.2.1 = 0) then
                if decide (y4.1.1.1.2.2.2.1 = 1) then
                  if decide (y6.1.1.1.2.2.1 = 1) then
                    some ((decide (y6.1.1.1.2.1 = 2), ()), ())
                  else
                    some ((false, ()), ())
                else
                  some ((false, ()), ())
              else
                some ((false, ()), ())
            else
              some ((false, ()), ())
          else
            some ((false, ()), ())
        else
          some ((false, ()), ())
@[reducible] def p_law16_awake (K : Nat) : Piece := { slots := [], objs := [], outs := [{ ex := .ret, slots := [(0, (.v .bool))], objs := [] }], asg := [], nt := 46, fn := fun x => law16_awake K }
theorem s_law16_awake (K : Nat) (hB : Base Try.prog tabs (fs_account_Begin K)) : FnSound Try.prog 10 (p_law16_awake K) :=
  fun_thm hB (o_law16_awake_0 K) Try.func10 (body := b_law16_awake) rfl (p_law16_awake K) (rs := [.tmp 0]) rfl (Nat.le_of_ble_eq_true (by kernel_rfl)) (fun x => by kernel_rfl)
noncomputable def fs_law16_awake (K : Nat) : List (Nat × Piece) := (10, p_law16_awake K) :: fs_account_Begin K
theorem base_law16_awake (K : Nat) : Base Try.prog tabs (fs_law16_awake K) := ⟨(base_account_Begin K).mixed, (base_account_Begin K).tabs, FnsOk.cons (s_law16_awake K (base_account_Begin K)) (by kernel_rfl) (base_account_Begin K).fns⟩
/-! "selfstab/selfstabref16.Begin" -/
noncomputable def b_ref16_Begin : Code := codeOf Try.f14
noncomputable def c_ref16_Begin_0 (K : Nat) : List (Nat × Piece) := []
theorem o_ref16_Begin_0 (K : Nat) : PcsOk Try.prog b_ref16_Begin (c_ref16_Begin_0 K) := PcsOk.nil
def ref16_Begin (K : Nat) (x0 : Int) : Option (((Int × (Int × (Int × (Int × (Int × Unit))))) × Unit) × Unit) :=
  (ref01_All K 24).bind fun y1 =>
    some (((0, (0, (0, (0, (iand .u32 x0 y1.1.1, ()))))), ()), ())
@[reducible] def p_ref16_Begin (K : Nat) : Piece := { slots := [(0, (.v (.int .u32)))], objs := [], outs := [{ ex := .ret, slots := [(0, (.v (.pair (.int .i64) (.pair (.int .i64) (.pair (.int .i64) (.pair (.int .i64) (.pair (.int .u32) .unit)))))))], objs := [] }], asg := [], nt := 7, fn := fun x => ref16_Begin K x.1.1 }
theorem s_ref16_Begin (K : Nat) (hB : Base Try.prog tabs (fs_law16_awake K)) : FnSound Try.prog 14 (p_ref16_Begin K) :=
  fun_thm hB (o_ref16_Begin_0 K) Try.func14 (body := b_ref16_Begin) rfl (p_ref16_Begin K) (rs := [.cell 2 24]) rfl (Nat.le_of_ble_eq_true (by kernel_rfl)) (fun x => by kernel_rfl)
noncomputable def fs_ref16_Begin (K : Nat) : List (Nat × Piece) := (14, p_ref16_Begin K) :: fs_law16_awake K
theorem base_ref16_Begin (K : Nat) : Base Try.prog tabs (fs_ref16_Begin K) := ⟨(base_law16_awake K).mixed, (base_law16_awake K).tabs, FnsOk.cons (s_ref16_Begin K (base_law16_awake K)) (by kernel_rfl) (base_law16_awake K).fns⟩
/-! "selfstab/selfstablaw16.AccountAdds" -/
noncomputable def b_law16_AccountAdds : Code := codeOf Try.f3
noncomputable def c_law16_AccountAdds_0 (K : Nat) : List (Nat × Piece) := []
theorem o_law16_AccountAdds_0 (K : Nat) : PcsOk Try.prog b_law16_AccountAdds (c_law16_AccountAdds_0 K) := PcsOk.nil
def law16_AccountAdds (K : Nat) (x0 : (Int × (Int × (Int × (Int × (Int × Unit)))))) (x1 : Int) (x2 : Int) : Option ((Bool × Unit) × Unit) :=
  (account_Add K x0 x1 x2).bind fun y2 =>
    (ref16_Add K x0 x1 x2).bind fun y4 =>
      (law16_awake K).bind fun y5 =>
        if y5.1.1 then
          (account_Valid K x0).bind fun y6 =>
            (ref16_Valid K x0).bind fun y7 =>
              if GTy.beq .bool y6.1.1 y7.1.1 then
                (account_Begin K x2).bind fun y8 =>
                  (ref16_Begin K x2).bind fun y9 =>
                    if GTy.beq (.pair (.int .i64) (.pair (.int .i64) (.pair (.int .i64) (.pair (.int .i64) (.pair (.int .u32) .unit))))) y8.1.1 y9.1.1 then
                      if GTy.beq (.pair (.int .i64) (.pair (.int .i64) (.pair (.int .i64) (.pair (.int .i64) (.pair (.int .u32) .unit))))) y2.1.1.1 y4.1.1.1 then
                        some ((decide (y2.1.1.2.1 = y4.1.1.2.1), ()), ())
                      else
                        some ((false, ()), ())
                    else
                      some ((false, ()), ())
              else
                some ((false, ()), ())
        else
          some ((false, ()), ())
@[reducible] def p_law16_AccountAdds (K : Nat) : Piece := { slots := [(0, (.v (.pair (.int .i64) (.pair (.int .i64) (.pair (.int .i64) (.pair (.int .i64) (.pair (.int .u32) .unit))))))), (1, (.v (.int .u32))), (2, (.v (.int .u32)))], objs := [], outs := [{ ex := .ret, slots := [(0, (.v .bool))], objs := [] }], asg := [], nt := 50, fn := fun x => law16_AccountAdds K x.1.1 x.1.2.1 x.1.2.2.1 }
theorem s_law16_AccountAdds (K : Nat) (hB : Base Try.prog tabs (fs_ref16_Begin K)) : FnSound Try.prog 3 (p_law16_AccountAdds K) :=
  fun_thm hB (o_law16_AccountAdds_0 K) Try.func3 (body := b_law16_AccountAdds) rfl (p_law16_AccountAdds K) (rs := [.tmp 6]) rfl (Nat.le_of_ble_eq_true (by kernel_rfl)) (fun x => by kernel_rfl)
noncomputable def fs_law16_AccountAdds (K : Nat) : List (Nat × Piece) := (3, p_law16_AccountAdds K) :: fs_ref16_Begin K
theorem base_law16_AccountAdds (K : Nat) : Base Try.prog tabs (fs_law16_AccountAdds K) := ⟨(base_ref16_Begin K).mixed, (base_ref16_Begin K).tabs, FnsOk.cons (s_law16_AccountAdds K (base_ref16_Begin K)) (by kernel_rfl) (base_ref16_Begin K).fns⟩
theorem law_law16_AccountAdds (K : Nat) : FnSound Try.prog 3 (p_law16_AccountAdds K) := s_law16_AccountAdds K (base_ref16_Begin K)
/-! "selfstab/selfstablaw16.AccountStaysValid" -/
noncomputable def b_law16_AccountStaysValid : Code := codeOf Try.f4
noncomputable def c_law16_AccountStaysValid_0 (K : Nat) : List (Nat × Piece) := []
theorem o_law16_AccountStaysValid_0 (K : Nat) : PcsOk Try.prog b_law16_AccountStaysValid (c_law16_AccountStaysValid_0 K) := PcsOk.nil
def law16_AccountStaysValid (K : Nat) (x0 : (Int × (Int × (Int × (Int × (Int × Unit)))))) (x1 : Int) (x2 : Int) : Option ((Bool × Unit) × Unit) :=
  (ref01_All K 24).bind fun y3 =>
    (ref01_All K 24).bind fun y4 =>
      (ref16_Valid K x0).bind fun y11 =>
        if !y11.1.1 then
          (law16_awake K).bind fun y12 =>
            some ((y12.1.1, ()), ())
        else
          if decide ((iand .u32 x1 y3.1.1) = 0) then
            (law16_awake K).bind fun y13 =>
              some ((y13.1.1, ()), ())
          else
            if decide (x0.1 = 4096) then
              (law16_awake K).bind fun y14 =>
                some ((y14.1.1, ()), ())
            else
              (account_Add K x0 (iand .u32 x1 y3.1.1) (iand .u32 x2 y4.1.1)).bind fun y16 =>
                (law16_awake K).bind fun y17 =>
                  if y17.1.1 then
                    if decide (y16.1.1.2.1 = 0) then
                      (account_Valid K y16.1.1.1).bind fun y18 =>
                        if y18.1.1 then
                          if decide (y16.1.1.1.1 = (IntKind.i64.wrap (x0.1 + 1))) then
                            (ref15_Count K (iand .u32 x1 y3.1.1)).bind fun y19 =>
                              if decide (y16.1.1.1.2.1 = (IntKind.i64.wrap (x0.2.1 + y19.1.1))) then
                                if decide (x0.2.2.1 ≤ y16.1.1.1.2.2.1) then
                                  if decide (y16.1.1.1.2.2.1 ≤ (IntKind.i64.wrap (x0.2.2.1 + 1))) then
                                    if decide (x0.2.2.2.1 ≤ y16.1.1.1.2.2.2.1) then
                                      some ((decide (y16.1.1.1.2.2.2.1 ≤ (IntKind.i64.wrap (x0.2.2.2.1 + 1))), ()), ())
                                    else
                                      some ((false, ()), ())
                                  else
                                    some ((false, ()), ())
                                else
                                  some ((false, ()), ())
                              else
                                some ((false, ()), ())
                          else
                            some ((false, ()), ())
                        else
                          some ((false, ()), ())
                    else
                      some ((false, ()), ())
                  else
                    some ((false, ()), ())
@[reducible] def p_law16_AccountStaysValid (K : Nat) : Piece := { slots := [(0, (.v (.pair (.int .i64) (.pair (.int .i64) (.pair (.int .i64) (.pair (.int .i64) (.pair (.int .u32) .unit))))))), (1, (.v (.int .u32))), (2, (.v (.int .u32)))], objs := [], outs := [{ ex := .ret, slots := [(0, (.v .bool))], objs := [] }], asg := [], nt := 92, fn := fun x => law16_AccountStaysValid K x.1.1 x.1.2.1 x.1.2.2.1 }
theorem s_law16_AccountStaysValid (K : Nat) (hB : Base Try.prog tabs (fs_law16_AccountAdds K)) : FnSound Try.prog 4 (p_law16_AccountStaysValid K) :=
  fun_thm hB (o_law16_AccountStaysValid_0 K) Try.func4 (body := b_law16_AccountStaysValid) rfl (p_law16_AccountStaysValid K) (rs := [.tmp 6]) rfl (Nat.le_of_ble_eq_true (by kernel_rfl)) (fun x => by kernel_rfl)
noncomputable def fs_law16_AccountStaysValid (K : Nat) : List (Nat × Piece) := (4, p_law16_AccountStaysValid K) :: fs_law16_AccountAdds K
theorem base_law16_AccountStaysValid (K : Nat) : Base Try.prog tabs (fs_law16_AccountStaysValid K) := ⟨(base_law16_AccountAdds K).mixed, (base_law16_AccountAdds K).tabs, FnsOk.cons (s_law16_AccountStaysValid K (base_law16_AccountAdds K)) (by kernel_rfl) (base_law16_AccountAdds K).fns⟩
theorem law_law16_AccountStaysValid (K : Nat) : FnSound Try.prog 4 (p_law16_AccountStaysValid K) := s_law16_AccountStaysValid K (base_law16_AccountAdds K)
/-! "selfstab/selfstablaw16.run" -/
noncomputable def b_law16_run : Code := codeOf Try.f17
noncomputable def c_law16_run_0 (K : Nat) : List (Nat × Piece) := []
theorem o_law16_run_0 (K : Nat) : PcsOk Try.prog b_law16_run (c_law16_run_0 K) := PcsOk.nil
def law16_run_250 (K : Nat) : (k : Nat) → (x1 : (List (Int × (Int × Unit)))) → (x11 : Int) → (o0 : (Int × (Int × (Int × (Int × (Int × Unit)))))) → (o1 : (List Int)) → (o2 : (List Int)) → (o3 : (Int × (Int × (Int × (Int × (Int × Unit)))))) → Option (((Unit × (Unit × Unit)) × ((List Int) × ((List Int) × ((Int × (Int × (Int × (Int × (Int × Unit))))) × ((Int × (Int × (Int × (Int × (Int × Unit))))) × Unit))))) ⊕ ((Unit × (Unit × (Bool × Unit))) × ((List Int) × ((List Int) × ((Int × (Int × (Int × (Int × (Int × Unit))))) × Unit)))))
  | 0, _, _, _, _, _, _ => none
  | k + 1, x1, x11, o0, o1, o2, o3 =>
    if decide (x11 < (x1.length : Int)) then
      if decide (0 ≤ IntKind.i64.wrap ((o1.length : Int) - 1) ∧ IntKind.i64.wrap ((o1.length : Int) - 1) < (o1.length : Int)) then
        if decide (0 ≤ x11 ∧ x11 < (x1.length : Int)) then
          if decide ((iand .u32 ((rdl (.pair (.int .u32) (.pair (.int .u32) .unit)) x1 x11.toNat).1) (rdl (.int .u32) o1 ((IntKind.i64.wrap ((o1.length : Int) - 1)).toNat))) = 0) then
            law16_run_250 K k x1 (IntKind.i64.wrap (x11 + 1)) o0 o1 o2 o3
          else
            if decide (0 ≤ x11 ∧ x11 < (x1.length : Int)) then
              (ref01_All K 24).bind fun y8 =>
                (account_Add K o3 (iand .u32 ((rdl (.pair (.int .u32) (.pair (.int .u32) .unit)) x1 x11.toNat).1) (rdl (.int .u32) o1 ((IntKind.i64.wrap ((o1.length : Int) - 1)).toNat))) (iand .u32 (((rdl (.pair (.int .u32) (.pair (.int .u32) .unit)) x1 x11.toNat).2).1) y8.1.1)).bind fun y9 =>
                  if !decide (y9.1.1.2.1 = 0) then
                    some (.inr (((), ((), (false, ()))), ([], ([], (o3, ())))))
                  else
                    if decide (o2.length + ([iand .u32 ((rdl (.pair (.int .u32) (.pair (.int .u32) .unit)) x1 x11.toNat).1) (rdl (.int .u32) o1 ((IntKind.i64.wrap ((o1.length : Int) - 1)).toNat))]).length ≤ 4294967296) then
                      if decide (0 ≤ x11 ∧ x11 < (x1.length : Int)) then
                        (ref01_All K 24).bind fun y10 =>
                          if decide (o1.length + ([iand .u32 (((rdl (.pair (.int .u32) (.pair (.int .u32) .unit)) x1 x11.toNat).2).1) y10.1.1]).length ≤ 4294967296) then
                            law16_run_250 K k x1 (IntKind.i64.wrap (x11 + 1)) o0 (o1 ++ [iand .u32 (((rdl (.pair (.int .u32) (.pair (.int .u32) .unit)) x1 x11.toNat).2).1) y10.1.1]) (o2 ++ [iand .u32 ((rdl (.pair (.int .u32) (.pair (.int .u32) .unit)) x1 x11.toNat).1) (rdl (.int .u32) o1 ((IntKind.i64.wrap ((o1.length : Int) - 1)).toNat))]) y9.1.1.1
                          else
                            none
                      else
                        none
                    else
                      none
            else
              none
        else
          none
      else
        none
    else
      some (.inl (((), ((), ())), (o1, (o2, (o0, (o3, ()))))))
@[reducible] def p_law16_run_250 (K k : Nat) : Piece := { slots := [(1, (.v (.slice (.pair (.int .u32) (.pair (.int .u32) .unit))))), (6, (.ref 0 (.pair (.int .i64) (.pair (.int .i64) (.pair (.int .i64) (.pair (.int .i64) (.pair (.int .u32) .unit))))))), (8, (.href 1)), (9, (.href 2)), (10, (.ref 3 (.pair (.int .i64) (.pair (.int .i64) (.pair (.int .i64) (.pair (.int .i64) (.pair (.int .u32) .unit))))))), (11, (.v (.int .i64)))], objs := [(.box (.pair (.int .i64) (.pair (.int .i64) (.pair (.int .i64) (.pair (.int .i64) (.pair (.int .u32) .unit))))) (.v (.pair (.int .i64) (.pair (.int .i64) (.pair (.int .i64) (.pair (.int .i64) (.pair (.int .u32) .unit))))))), (.row (.int .u32)), (.row (.int .u32)), (.box (.pair (.int .i64) (.pair (.int .i64) (.pair (.int .i64) (.pair (.int .i64) (.pair (.int .u32) .unit))))) (.v (.pair (.int .i64) (.pair (.int .i64) (.pair (.int .i64) (.pair (.int .i64) (.pair (.int .u32) .unit)))))))], outs := [{ ex := (.exit 0), slots := [(8, (.href 0)), (9, (.href 1))], objs := [(none, (.row (.int .u32))), (none, (.row (.int .u32))), (some 0, (.box (.pair (.int .i64) (.pair (.int .i64) (.pair (.int .i64) (.pair (.int .i64) (.pair (.int .u32) .unit))))) (.v (.pair (.int .i64) (.pair (.int .i64) (.pair (.int .i64) (.pair (.int .i64) (.pair (.int .u32) .unit)))))))), (some 3, (.box (.pair (.int .i64) (.pair (.int .i64) (.pair (.int .i64) (.pair (.int .i64) (.pair (.int .u32) .unit))))) (.v (.pair (.int .i64) (.pair (.int .i64) (.pair (.int .i64) (.pair (.int .i64) (.pair (.int .u32) .unit))))))))] }, { ex := .ret, slots := [(4, (.href 0)), (5, (.href 1)), (7, (.v .bool))], objs := [(none, (.row (.int .u32))), (none, (.row (.int .u32))), (some 0, (.box (.pair (.int .i64) (.pair (.int .i64) (.pair (.int .i64) (.pair (.int .i64) (.pair (.int .u32) .unit))))) (.v (.pair (.int .i64) (.pair (.int .i64) (.pair (.int .i64) (.pair (.int .i64) (.pair (.int .u32) .unit))))))))] }], asg := [4, 5, 7, 8, 9, 11, 12, 13, 14, 15, 22, 23, 24, 25, 26, 27, 28, 29, 30, 31, 32, 33, 34, 35, 36, 37, 38, 39, 40, 41, 42, 43, 44, 45, 46, 47, 48, 49, 50, 51, 52, 53, 54, 55, 56, 57, 58, 59, 60, 61, 62, 63, 64, 65, 66, 67, 68, 69, 70, 71, 72, 73], nt := 77, fn := fun x => law16_run_250 K k x.1.1 x.1.2.2.2.2.2.1 x.2.1 x.2.2.1 x.2.2.2.1 x.2.2.2.2.1 }
theorem k_law16_run_250 (K : Nat) (hB : Base Try.prog tabs (fs_law16_AccountStaysValid K)) : PcOk Try.prog (codeAt b_law16_run 250) (p_law16_run_250 K K) :=
  loop_thm hB (o_law16_run_0 K) 250 (p_law16_run_250 K 0) (l := fun k x => law16_run_250 K k x.1.1 x.1.2.2.2.2.2.1 x.2.1 x.2.2.1 x.2.2.2.1 x.2.2.2.2.1) (c := codeAt b_law16_run 500) (by kernel_rfl) (by kernel_rfl) (by kernel_rfl) (by kernel_rfl) (fun x => by kernel_rfl) (fun k x => by kernel_rfl) K
noncomputable def c_law16_run_250 (K : Nat) : List (Nat × Piece) := (250, p_law16_run_250 K K) :: c_law16_run_0 K
theorem o_law16_run_250 (K : Nat) (hB : Base Try.prog tabs (fs_law16_AccountStaysValid K)) : PcsOk Try.prog b_law16_run (c_law16_run_250 K) := PcsOk.cons (k_law16_run_250 K hB) (o_law16_run_0 K)
def law16_run (K : Nat) (x0 : Int) (x1 : (List (Int × (Int × Unit)))) : Option (((Unit × (Unit × ((Int × (Int × (Int × (Int × (Int × Unit))))) × (Bool × Unit)))) × Unit) × ((List Int) × ((List Int) × Unit))) :=
  (ref01_All K 24).bind fun y2 =>
    (account_Begin K x0).bind fun y4 =>
      (law16_run_250 K K x1 0 (0, (0, (0, (0, (0, ()))))) ([iand .u32 x0 y2.1.1]) [] y4.1.1).bind fun y8 =>
        match y8 with
        | .inl y9 =>
          some ((((), ((), (y9.2.2.2.2.1, (true, ())))), ()), (y9.2.2.1, (y9.2.1, ())))
        | .inr y10 =>
          some ((((), ((), (y10.2.2.2.1, (y10.1.2.2.1, ())))), ()), (y10.2.1, (y10.2.2.1, ())))
@[reducible] def p_law16_run (K : Nat) : Piece := { slots := [(0, (.v (.int .u32))), (1, (.v (.slice (.pair (.int .u32) (.pair (.int .u32) .unit)))))], objs := [], outs := [{ ex := .ret, slots := [(0, (.tup (.cons (.href 0) (.cons (.href 1) (.cons (.v (.pair (.int .i64) (.pair (.int .i64) (.pair (.int .i64) (.pair (.int .i64) (.pair (.int .u32) .unit)))))) (.cons (.v .bool) .nil))))))], objs := [(none, (.row (.int .u32))), (none, (.row (.int .u32)))] }], asg := [], nt := 77, fn := fun x => law16_run K x.1.1 x.1.2.1 }
theorem s_law16_run (K : Nat) (hB : Base Try.prog tabs (fs_law16_AccountStaysValid K)) : FnSound Try.prog 17 (p_law16_run K) :=
  fun_thm hB (o_law16_run_250 K hB) Try.func17 (body := b_law16_run) rfl (p_law16_run K) (rs := [.tmp 4, .tmp 5, .cell 6 24, .tmp 7]) rfl (Nat.le_of_ble_eq_true (by kernel_rfl)) (fun x => by kernel_rfl)
noncomputable def fs_law16_run (K : Nat) : List (Nat × Piece) := (17, p_law16_run K) :: fs_law16_AccountStaysValid K
theorem base_law16_run (K : Nat) : Base Try.prog tabs (fs_law16_run K) := ⟨(base_law16_AccountStaysValid K).mixed, (base_law16_AccountStaysValid K).tabs, FnsOk.cons (s_law16_run K (base_law16_AccountStaysValid K)) (by kernel_rfl) (base_law16_AccountStaysValid K).fns⟩
/-! "selfstab/selfstablaw16.AccountCountsRounds" -/
noncomputable def b_law16_AccountCountsRounds : Code := codeOf Try.f5
noncomputable def c_law16_AccountCountsRounds_0 (K : Nat) : List (Nat × Piece) := []
theorem o_law16_AccountCountsRounds_0 (K : Nat) : PcsOk Try.prog b_law16_AccountCountsRounds (c_law16_AccountCountsRounds_0 K) := PcsOk.nil
def law16_AccountCountsRounds_259226 (K : Nat) : (k : Nat) → (x5 : (List Int)) → (x6 : (List Int)) → (x9 : Int) → (x10 : Int) → (x11 : Int) → (x12 : Int) → (x13 : Int) → (x14 : Int) → (o0 : (Int × (Int × (Int × (Int × (Int × Unit)))))) → Option ((Int × Unit) × ((Int × (Int × (Int × (Int × (Int × Unit))))) × Unit))
  | 0, _, _, _, _, _, _, _, _, _ => none
  | k + 1, x5, x6, x9, x10, x11, x12, x13, x14, o0 =>
    if decide (x14 ≤ x12) then
      if decide (0 ≤ x14 ∧ x14 < (x5.length : Int)) then
        if decide (0 ≤ IntKind.i64.wrap (x14 + 1) ∧ IntKind.i64.wrap (x14 + 1) < (x6.length : Int)) then
          law16_AccountCountsRounds_259226 K k x5 x6 x9 x10 x11 x12 (ior .u32 x13 (ior .u32 (rdl (.int .u32) x5 x14.toNat) (ixor .u32 4294967295 (rdl (.int .u32) x6 ((IntKind.i64.wrap (x14 + 1)).toNat))))) (IntKind.i64.wrap (x14 + 1)) o0
        else
          none
      else
        none
    else
      some ((x13, ()), (o0, ()))
@[reducible] def p_law16_AccountCountsRounds_259226 (K k : Nat) : Piece := { slots := [(5, (.v (.slice (.int .u32)))), (6, (.v (.slice (.int .u32)))), (7, (.ref 0 (.pair (.int .i64) (.pair (.int .i64) (.pair (.int .i64) (.pair (.int .i64) (.pair (.int .u32) .unit))))))), (9, (.v (.int .i64))), (10, (.v (.int .i64))), (11, (.v (.int .i64))), (12, (.v (.int .i64))), (13, (.v (.int .u32))), (14, (.v (.int .i64)))], objs := [(.box (.pair (.int .i64) (.pair (.int .i64) (.pair (.int .i64) (.pair (.int .i64) (.pair (.int .u32) .unit))))) (.v (.pair (.int .i64) (.pair (.int .i64) (.pair (.int .i64) (.pair (.int .i64) (.pair (.int .u32) .unit)))))))], outs := [{ ex := (.exit 2), slots := [(13, (.v (.int .u32)))], objs := [(some 0, (.box (.pair (.int .i64) (.pair (.int .i64) (.pair (.int .i64) (.pair (.int .i64) (.pair (.int .u32) .unit))))) (.v (.pair (.int .i64) (.pair (.int .i64) (.pair (.int .i64) (.pair (.int .i64) (.pair (.int .u32) .unit))))))))] }], asg := [13, 14, 41, 42, 43, 44, 45, 46, 47, 48, 49, 50, 51, 52, 53, 54, 55, 56, 57, 58], nt := 90, fn := fun x => law16_AccountCountsRounds_259226 K k x.1.1 x.1.2.1 x.1.2.2.2.1 x.1.2.2.2.2.1 x.1.2.2.2.2.2.1 x.1.2.2.2.2.2.2.1 x.1.2.2.2.2.2.2.2.1 x.1.2.2.2.2.2.2.2.2.1 x.2.1 }
theorem k_law16_AccountCountsRounds_259226 (K : Nat) (hB : Base Try.prog tabs (fs_law16_run K)) : PcOk Try.prog (codeAt b_law16_AccountCountsRounds 259226) (p_law16_AccountCountsRounds_259226 K K) :=
  loop_thm hB (o_law16_AccountCountsRounds_0 K) 259226 (p_law16_AccountCountsRounds_259226 K 0) (l := fun k x => law16_AccountCountsRounds_259226 K k x.1.1 x.1.2.1 x.1.2.2.2.1 x.1.2.2.2.2.1 x.1.2.2.2.2.2.1 x.1.2.2.2.2.2.2.1 x.1.2.2.2.2.2.2.2.1 x.1.2.2.2.2.2.2.2.2.1 x.2.1) (c := codeAt b_law16_AccountCountsRounds 518452) (by kernel_rfl) (by kernel_rfl) (by kernel_rfl) (by kernel_rfl) (fun x => by kernel_rfl) (fun k x => by kernel_rfl) K
noncomputable def c_law16_AccountCountsRounds_259226 (K : Nat) : List (Nat × Piece) := (259226, p_law16_AccountCountsRounds_259226 K K) :: c_law16_AccountCountsRounds_0 K
theorem o_law16_AccountCountsRounds_259226 (K : Nat) (hB : Base Try.prog tabs (fs_law16_run K)) : PcsOk Try.prog b_law16_AccountCountsRounds (c_law16_AccountCountsRounds_259226 K) := PcsOk.cons (k_law16_AccountCountsRounds_259226 K hB) (o_law16_AccountCountsRounds_0 K)
def law16_AccountCountsRounds_16201 (K : Nat) (x5 : (List Int)) (x6 : (List Int)) (x9 : Int) (x10 : Int) (x11 : Int) (x12 : Int) (o0 : (Int × (Int × (Int × (Int × (Int × Unit)))))) : Option ((Int × (Int × Unit)) × ((Int × (Int × (Int × (Int × (Int × Unit))))) × Unit)) :=
  (law16_AccountCountsRounds_259226 K K x5 x6 x9 x10 x11 x12 0 x11 o0).bind fun y2 =>
    if decide (0 ≤ x11 ∧ x11 < (x6.length : Int)) then
      if decide ((iandNot .u32 (rdl (.int .u32) x6 x11.toNat) y2.1.1) = 0) then
        some ((IntKind.i64.wrap (x9 + 1), (IntKind.i64.wrap (x12 + 1), ())), (y2.2.1, ()))
      else
        some ((x9, (x11, ())), (y2.2.1, ()))
    else
      none
@[reducible] def p_law16_AccountCountsRounds_16201 (K : Nat) : Piece := { slots := [(5, (.v (.slice (.int .u32)))), (6, (.v (.slice (.int .u32)))), (7, (.ref 0 (.pair (.int .i64) (.pair (.int .i64) (.pair (.int .i64) (.pair (.int .i64) (.pair (.int .u32) .unit))))))), (9, (.v (.int .i64))), (10, (.v (.int .i64))), (11, (.v (.int .i64))), (12, (.v (.int .i64)))], objs := [(.box (.pair (.int .i64) (.pair (.int .i64) (.pair (.int .i64) (.pair (.int .i64) (.pair (.int .u32) .unit))))) (.v (.pair (.int .i64) (.pair (.int .i64) (.pair (.int .i64) (.pair (.int .i64) (.pair (.int .u32) .unit)))))))], outs := [{ ex := .normal, slots := [(9, (.v (.int .i64))), (11, (.v (.int .i64)))], objs := [(some 0, (.box (.pair (.int .i64) (.pair (.int .i64) (.pair (.int .i64) (.pair (.int .i64) (.pair (.int .u32) .unit))))) (.v (.pair (.int .i64) (.pair (.int .i64) (.pair (.int .i64) (.pair (.int .i64) (.pair (.int .u32) .unit))))))))] }], asg := [9, 11, 13, 14, 40, 41, 42, 43, 44, 45, 46, 47, 48, 49, 50, 51, 52, 53, 54, 55, 56, 57, 58, 59, 60, 61, 62, 63, 64, 65, 66, 67, 68, 69], nt := 90, fn := fun x => law16_AccountCountsRounds_16201 K x.1.1 x.1.2.1 x.1.2.2.2.1 x.1.2.2.2.2.1 x.1.2.2.2.2.2.1 x.1.2.2.2.2.2.2.1 x.2.1 }
theorem k_law16_AccountCountsRounds_16201 (K : Nat) (hB : Base Try.prog tabs (fs_law16_run K)) : PcOk Try.prog (codeAt b_law16_AccountCountsRounds 16201) (p_law16_AccountCountsRounds_16201 K) :=
  seg_thm hB (o_law16_AccountCountsRounds_259226 K hB) 16201 (p_law16_AccountCountsRounds_16201 K) (by kernel_rfl) (by kernel_rfl) (by kernel_rfl) (fun x => by kernel_rfl)
noncomputable def c_law16_AccountCountsRounds_16201 (K : Nat) : List (Nat × Piece) := (16201, p_law16_AccountCountsRounds_16201 K) :: c_law16_AccountCountsRounds_259226 K
theorem o_law16_AccountCountsRounds_16201 (K : Nat) (hB : Base Try.prog tabs (fs_law16_run K)) : PcsOk Try.prog b_law16_AccountCountsRounds (c_law16_AccountCountsRounds_16201 K) := PcsOk.cons (k_law16_AccountCountsRounds_16201 K hB) (o_law16_AccountCountsRounds_259226 K hB)
def law16_AccountCountsRounds_506 (K : Nat) : (k : Nat) → (x5 : (List Int)) → (x6 : (List Int)) → (x9 : Int) → (x10 : Int) → (x11 : Int) → (x12 : Int) → (o0 : (Int × (Int × (Int × (Int × (Int × Unit)))))) → Option ((Int × (Int × Unit)) × ((Int × (Int × (Int × (Int × (Int × Unit))))) × Unit))
  | 0, _, _, _, _, _, _, _ => none
  | k + 1, x5, x6, x9, x10, x11, x12, o0 =>
    if decide (x12 < (x5.length : Int)) then
      if decide (x12 = x11) then
        (law16_AccountCountsRounds_16201 K x5 x6 x9 (IntKind.i64.wrap (x10 + 1)) x11 x12 o0).bind fun y3 =>
          law16_AccountCountsRounds_506 K k x5 x6 y3.1.1 (IntKind.i64.wrap (x10 + 1)) y3.1.2.1 (IntKind.i64.wrap (x12 + 1)) y3.2.1
      else
        (law16_AccountCountsRounds_16201 K x5 x6 x9 x10 x11 x12 o0).bind fun y4 =>
          law16_AccountCountsRounds_506 K k x5 x6 y4.1.1 x10 y4.1.2.1 (IntKind.i64.wrap (x12 + 1)) y4.2.1
    else
      some ((x9, (x10, ())), (o0, ()))
@[reducible] def p_law16_AccountCountsRounds_506 (K k : Nat) : Piece := { slots := [(5, (.v (.slice (.int .u32)))), (6, (.v (.slice (.int .u32)))), (7, (.ref 0 (.pair (.int .i64) (.pair (.int .i64) (.pair (.int .i64) (.pair (.int .i64) (.pair (.int .u32) .unit))))))), (9, (.v (.int .i64))), (10, (.v (.int .i64))), (11, (.v (.int .i64))), (12, (.v (.int .i64)))], objs := [(.box (.pair (.int .i64) (.pair (.int .i64) (.pair (.int .i64) (.pair (.int .i64) (.pair (.int .u32) .unit))))) (.v (.pair (.int .i64) (.pair (.int .i64) (.pair (.int .i64) (.pair (.int .i64) (.pair (.int .u32) .unit)))))))], outs := [{ ex := (.exit 0), slots := [(9, (.v (.int .i64))), (10, (.v (.int .i64)))], objs := [(some 0, (.box (.pair (.int .i64) (.pair (.int .i64) (.pair (.int .i64) (.pair (.int .i64) (.pair (.int .u32) .unit))))) (.v (.pair (.int .i64) (.pair (.int .i64) (.pair (.int .i64) (.pair (.int .i64) (.pair (.int .u32) .unit))))))))] }], asg := [9, 10, 11, 12, 13, 14, 29, 30, 31, 32, 33, 34, 35, 36, 37, 38, 39, 40, 41, 42, 43, 44, 45, 46, 47, 48, 49, 50, 51, 52, 53, 54, 55, 56, 57, 58, 59, 60, 61, 62, 63, 64, 65, 66, 67, 68, 69], nt := 90, fn := fun x => law16_AccountCountsRounds_506 K k x.1.1 x.1.2.1 x.1.2.2.2.1 x.1.2.2.2.2.1 x.1.2.2.2.2.2.1 x.1.2.2.2.2.2.2.1 x.2.1 }
theorem k_law16_AccountCountsRounds_506 (K : Nat) (hB : Base Try.prog tabs (fs_law16_run K)) : PcOk Try.prog (codeAt b_law16_AccountCountsRounds 506) (p_law16_AccountCountsRounds_506 K K) :=
  loop_thm hB (o_law16_AccountCountsRounds_16201 K hB) 506 (p_law16_AccountCountsRounds_506 K 0) (l := fun k x => law16_AccountCountsRounds_506 K k x.1.1 x.1.2.1 x.1.2.2.2.1 x.1.2.2.2.2.1 x.1.2.2.2.2.2.1 x.1.2.2.2.2.2.2.1 x.2.1) (c := codeAt b_law16_AccountCountsRounds 1012) (by kernel_rfl) (by kernel_rfl) (by kernel_rfl) (by kernel_rfl) (fun x => by kernel_rfl) (fun k x => by kernel_rfl) K
noncomputable def c_law16_AccountCountsRounds_506 (K : Nat) : List (Nat × Piece) := (506, p_law16_AccountCountsRounds_506 K K) :: c_law16_AccountCountsRounds_16201 K
theorem o_law16_AccountCountsRounds_506 (K : Nat) (hB : Base Try.prog tabs (fs_law16_run K)) : PcsOk Try.prog b_law16_AccountCountsRounds (c_law16_AccountCountsRounds_506 K) := PcsOk.cons (k_law16_AccountCountsRounds_506 K hB) (o_law16_AccountCountsRounds_16201 K hB)
def law16_AccountCountsRounds (K : Nat) (x0 : Int) (x1 : (List (Int × (Int × Unit)))) : Option ((Bool × Unit) × Unit) :=
  if decide (100 < (x1.length : Int)) then
    (law16_awake K).bind fun y2 =>
      some ((y2.1.1, ()), ())
  else
    (law16_run K x0 x1).bind fun y4 =>
      if !y4.1.1.2.2.2.1 then
        some ((false, ()), ())
      else
        (law16_AccountCountsRounds_506 K K y4.2.1 y4.2.2.1 0 0 0 0 y4.1.1.2.2.1).bind fun y6 =>
          (law16_awake K).bind fun y7 =>
            if y7.1.1 then
              if decide (y6.2.1.2.2.1 = y6.1.1) then
                if decide (y6.2.1.2.2.2.1 = y6.1.2.1) then
                  some ((decide (y6.2.1.1 = (y4.2.1.length : Int)), ()), ())
                else
                  some ((false, ()), ())
              else
                some ((false, ()), ())
            else
              some ((false, ()), ())
@[reducible] def p_law16_AccountCountsRounds (K : Nat) : Piece := { slots := [(0, (.v (.int .u32))), (1, (.v (.slice (.pair (.int .u32) (.pair (.int .u32) .unit)))))], objs := [], outs := [{ ex := .ret, slots := [(0, (.v .bool))], objs := [] }], asg := [], nt := 90, fn := fun x => law16_AccountCountsRounds K x.1.1 x.1.2.1 }
theorem s_law16_AccountCountsRounds (K : Nat) (hB : Base Try.prog tabs (fs_law16_run K)) : FnSound Try.prog 5 (p_law16_AccountCountsRounds K) :=
  fun_thm hB (o_law16_AccountCountsRounds_506 K hB) Try.func5 (body := b_law16_AccountCountsRounds) rfl (p_law16_AccountCountsRounds K) (rs := [.tmp 4]) rfl (Nat.le_of_ble_eq_true (by kernel_rfl)) (fun x => by kernel_rfl)
noncomputable def fs_law16_AccountCountsRounds (K : Nat) : List (Nat × Piece) := (5, p_law16_AccountCountsRounds K) :: fs_law16_run K
theorem base_law16_AccountCountsRounds (K : Nat) : Base Try.prog tabs (fs_law16_AccountCountsRounds K) := ⟨(base_law16_run K).mixed, (base_law16_run K).tabs, FnsOk.cons (s_law16_AccountCountsRounds K (base_law16_run K)) (by kernel_rfl) (base_law16_run K).fns⟩
theorem law_law16_AccountCountsRounds (K : Nat) : FnSound Try.prog 5 (p_law16_AccountCountsRounds K) := s_law16_AccountCountsRounds K (base_law16_run K)
/-! "selfstab/selfstablaw16.AccountKnowsWhoIsPending" -/
noncomputable def b_law16_AccountKnowsWhoIsPending : Code := codeOf Try.f6
noncomputable def c_law16_AccountKnowsWhoIsPending_0 (K : Nat) : List (Nat × Piece) := []
theorem o_law16_AccountKnowsWhoIsPending_0 (K : Nat) : PcsOk Try.prog b_law16_AccountKnowsWhoIsPending (c_law16_AccountKnowsWhoIsPending_0 K) := PcsOk.nil
def law16_AccountKnowsWhoIsPending_260682 (K : Nat) : (k : Nat) → (x5 : (List Int)) → (x6 : (List Int)) → (x9 : Int) → (x10 : Int) → (x11 : Int) → (x12 : Int) → (o0 : (Int × (Int × (Int × (Int × (Int × Unit)))))) → Option ((Int × Unit) × ((Int × (Int × (Int × (Int × (Int × Unit))))) × Unit))
  | 0, _, _, _, _, _, _, _ => none
  | k + 1, x5, x6, x9, x10, x11, x12, o0 =>
    if decide (x12 ≤ x11) then
      if decide (0 ≤ x12 ∧ x12 < (x5.length : Int)) then
        if decide (0 ≤ IntKind.i64.wrap (x12 + 1) ∧ IntKind.i64.wrap (x12 + 1) < (x6.length : Int)) then
          law16_AccountKnowsWhoIsPending_260682 K k x5 x6 x9 (iand .u32 (iandNot .u32 x10 (rdl (.int .u32) x5 x12.toNat)) (rdl (.int .u32) x6 ((IntKind.i64.wrap (x12 + 1)).toNat))) x11 (IntKind.i64.wrap (x12 + 1)) o0
        else
          none
      else
        none
    else
      some ((x10, ()), (o0, ()))
@[reducible] def p_law16_AccountKnowsWhoIsPending_260682 (K k : Nat) : Piece := { slots := [(5, (.v (.slice (.int .u32)))), (6, (.v (.slice (.int .u32)))), (7, (.ref 0 (.pair (.int .i64) (.pair (.int .i64) (.pair (.int .i64) (.pair (.int .i64) (.pair (.int .u32) .unit))))))), (9, (.v (.int .i64))), (10, (.v (.int .u32))), (11, (.v (.int .i64))), (12, (.v (.int .i64)))], objs := [(.box (.pair (.int .i64) (.pair (.int .i64) (.pair (.int .i64) (.pair (.int .i64) (.pair (.int .u32) .unit))))) (.v (.pair (.int .i64) (.pair (.int .i64) (.pair (.int .i64) (.pair (.int .i64) (.pair (.int .u32) .unit)))))))], outs := [{ ex := (.exit 2), slots := [(10, (.v (.int .u32)))], objs := [(some 0, (.box (.pair (.int .i64) (.pair (.int .i64) (.pair (.int .i64) (.pair (.int .i64) (.pair (.int .u32) .unit))))) (.v (.pair (.int .i64) (.pair (.int .i64) (.pair (.int .i64) (.pair (.int .i64) (.pair (.int .u32) .unit))))))))] }], asg := [10, 12, 41, 42, 43, 44, 45, 46, 47, 48, 49, 50, 51, 52, 53, 54, 55, 56, 57], nt := 85, fn := fun x => law16_AccountKnowsWhoIsPending_260682 K k x.1.1 x.1.2.1 x.1.2.2.2.1 x.1.2.2.2.2.1 x.1.2.2.2.2.2.1 x.1.2.2.2.2.2.2.1 x.2.1 }
theorem k_law16_AccountKnowsWhoIsPending_260682 (K : Nat) (hB : Base Try.prog tabs (fs_law16_AccountCountsRounds K)) : PcOk Try.prog (codeAt b_law16_AccountKnowsWhoIsPending 260682) (p_law16_AccountKnowsWhoIsPending_260682 K K) :=
  loop_thm hB (o_law16_AccountKnowsWhoIsPending_0 K) 260682 (p_law16_AccountKnowsWhoIsPending_260682 K 0) (l := fun k x => law16_AccountKnowsWhoIsPending_260682 K k x.1.1 x.1.2.1 x.1.2.2.2.1 x.1.2.2.2.2.1 x.1.2.2.2.2.2.1 x.1.2.2.2.2.2.2.1 x.2.1) (c := codeAt b_law16_AccountKnowsWhoIsPending 521364) (by kernel_rfl) (by kernel_rfl) (by kernel_rfl) (by kernel_rfl) (fun x => by kernel_rfl) (fun k x => by kernel_rfl) K
noncomputable def c_law16_AccountKnowsWhoIsPending_260682 (K : Nat) : List (Nat × Piece) := (260682, p_law16_AccountKnowsWhoIsPending_260682 K K) :: c_law16_AccountKnowsWhoIsPending_0 K
theorem o_law16_AccountKnowsWhoIsPending_260682 (K : Nat) (hB : Base Try.prog tabs (fs_law16_AccountCountsRounds K)) : PcsOk Try.prog b_law16_AccountKnowsWhoIsPending (c_law16_AccountKnowsWhoIsPending_260682 K) := PcsOk.cons (k_law16_AccountKnowsWhoIsPending_260682 K hB) (o_law16_AccountKnowsWhoIsPending_0 K)
def law16_AccountKnowsWhoIsPending_1018 (K : Nat) : (k : Nat) → (x5 : (List Int)) → (x6 : (List Int)) → (x9 : Int) → (x10 : Int) → (x11 : Int) → (o0 : (Int × (Int × (Int × (Int × (Int × Unit)))))) → Option ((Int × Unit) × ((Int × (Int × (Int × (Int × (Int × Unit))))) × Unit))
  | 0, _, _, _, _, _, _ => none
  | k + 1, x5, x6, x9, x10, x11, o0 =>
    if decide (x11 < (x5.length : Int)) then
      if decide (0 ≤ x9 ∧ x9 < (x6.length : Int)) then
        (law16_AccountKnowsWhoIsPending_260682 K K x5 x6 x9 (rdl (.int .u32) x6 x9.toNat) x11 x9 o0).bind fun y4 =>
          if decide (y4.1.1 = 0) then
            if decide (0 ≤ IntKind.i64.wrap (x11 + 1) ∧ IntKind.i64.wrap (x11 + 1) < (x6.length : Int)) then
              law16_AccountKnowsWhoIsPending_1018 K k x5 x6 (IntKind.i64.wrap (x11 + 1)) (rdl (.int .u32) x6 ((IntKind.i64.wrap (x11 + 1)).toNat)) (IntKind.i64.wrap (x11 + 1)) y4.2.1
            else
              none
          else
            law16_AccountKnowsWhoIsPending_1018 K k x5 x6 x9 y4.1.1 (IntKind.i64.wrap (x11 + 1)) y4.2.1
      else
        none
    else
      some ((x10, ()), (o0, ()))
@[reducible] def p_law16_AccountKnowsWhoIsPending_1018 (K k : Nat) : Piece := { slots := [(5, (.v (.slice (.int .u32)))), (6, (.v (.slice (.int .u32)))), (7, (.ref 0 (.pair (.int .i64) (.pair (.int .i64) (.pair (.int .i64) (.pair (.int .i64) (.pair (.int .u32) .unit))))))), (9, (.v (.int .i64))), (10, (.v (.int .u32))), (11, (.v (.int .i64)))], objs := [(.box (.pair (.int .i64) (.pair (.int .i64) (.pair (.int .i64) (.pair (.int .i64) (.pair (.int .u32) .unit))))) (.v (.pair (.int .i64) (.pair (.int .i64) (.pair (.int .i64) (.pair (.int .i64) (.pair (.int .u32) .unit)))))))], outs := [{ ex := (.exit 0), slots := [(10, (.v (.int .u32)))], objs := [(some 0, (.box (.pair (.int .i64) (.pair (.int .i64) (.pair (.int .i64) (.pair (.int .i64) (.pair (.int .u32) .unit))))) (.v (.pair (.int .i64) (.pair (.int .i64) (.pair (.int .i64) (.pair (.int .i64) (.pair (.int .u32) .unit))))))))] }], asg := [9, 10, 11, 12, 30, 31, 32, 33, 34, 35, 36, 37, 38, 39, 40, 41, 42, 43, 44, 45, 46, 47, 48, 49, 50, 51, 52, 53, 54, 55, 56, 57, 58, 59, 60, 61, 62, 63, 64, 65, 66], nt := 85, fn := fun x => law16_AccountKnowsWhoIsPending_1018 K k x.1.1 x.1.2.1 x.1.2.2.2.1 x.1.2.2.2.2.1 x.1.2.2.2.2.2.1 x.2.1 }
theorem k_law16_AccountKnowsWhoIsPending_1018 (K : Nat) (hB : Base Try.prog tabs (fs_law16_AccountCountsRounds K)) : PcOk Try.prog (codeAt b_law16_AccountKnowsWhoIsPending 1018) (p_law16_AccountKnowsWhoIsPending_1018 K K) :=
  loop_thm hB (o_law16_AccountKnowsWhoIsPending_260682 K hB) 1018 (p_law16_AccountKnowsWhoIsPending_1018 K 0) (l := fun k x => law16_AccountKnowsWhoIsPending_1018 K k x.1.1 x.1.2.1 x.1.2.2.2.1 x.1.2.2.2.2.1 x.1.2.2.2.2.2.1 x.2.1) (c := codeAt b_law16_AccountKnowsWhoIsPending 2036) (by kernel_rfl) (by kernel_rfl) (by kernel_rfl) (by kernel_rfl) (fun x => by kernel_rfl) (fun k x => by kernel_rfl) K
noncomputable def c_law16_AccountKnowsWhoIsPending_1018 (K : Nat) : List (Nat × Piece) := (1018, p_law16_AccountKnowsWhoIsPending_1018 K K) :: c_law16_AccountKnowsWhoIsPending_260682 K
theorem o_law16_AccountKnowsWhoIsPending_1018 (K : Nat) (hB : Base Try.prog tabs (fs_law16_AccountCountsRounds K)) : PcsOk Try.prog b_law16_AccountKnowsWhoIsPending (c_law16_AccountKnowsWhoIsPending_1018 K) := PcsOk.cons (k_law16_AccountKnowsWhoIsPending_1018 K hB) (o_law16_AccountKnowsWhoIsPending_260682 K hB)
def law16_AccountKnowsWhoIsPending (K : Nat) (x0 : Int) (x1 : (List (Int × (Int × Unit)))) : Option ((Bool × Unit) × Unit) :=
  if decide (100 < (x1.length : Int)) then
    (law16_awake K).bind fun y2 =>
      some ((y2.1.1, ()), ())
  else
    (law16_run K x0 x1).bind fun y4 =>
      if !y4.1.1.2.2.2.1 then
        some ((false, ()), ())
      else
        if decide (0 ≤ (0 : Int) ∧ 0 < (y4.2.2.1.length : Int)) then
          (law16_AccountKnowsWhoIsPending_1018 K K y4.2.1 y4.2.2.1 0 (rdl (.int .u32) y4.2.2.1 ((0 : Int).toNat)) 0 y4.1.1.2.2.1).bind fun y6 =>
            (law16_awake K).bind fun y7 =>
              if y7.1.1 then
                if decide (y6.2.1.2.2.2.2.1 = y6.1.1) then
                  if decide (0 ≤ IntKind.i64.wrap ((y4.2.2.1.length : Int) - 1) ∧ IntKind.i64.wrap ((y4.2.2.1.length : Int) - 1) < (y4.2.2.1.length : Int)) then
                    some ((decide ((iandNot .u32 y6.1.1 (rdl (.int .u32) y4.2.2.1 ((IntKind.i64.wrap ((y4.2.2.1.length : Int) - 1)).toNat))) = 0), ()), ())
                  else
                    none
                else
                  some ((false, ()), ())
              else
                some ((false, ()), ())
        else
          none
@[reducible] def p_law16_AccountKnowsWhoIsPending (K : Nat) : Piece := { slots := [(0, (.v (.int .u32))), (1, (.v (.slice (.pair (.int .u32) (.pair (.int .u32) .unit)))))], objs := [], outs := [{ ex := .ret, slots := [(0, (.v .bool))], objs := [] }], asg := [], nt := 85, fn := fun x => law16_AccountKnowsWhoIsPending K x.1.1 x.1.2.1 }
theorem s_law16_AccountKnowsWhoIsPending (K : Nat) (hB : Base Try.prog tabs (fs_law16_AccountCountsRounds K)) : FnSound Try.prog 6 (p_law16_AccountKnowsWhoIsPending K) :=
  fun_thm hB (o_law16_AccountKnowsWhoIsPending_1018 K hB) Try.func6 (body := b_law16_AccountKnowsWhoIsPending) rfl (p_law16_AccountKnowsWhoIsPending K) (rs := [.tmp 4]) rfl (Nat.le_of_ble_eq_true (by kernel_rfl)) (fun x => by kernel_rfl)
noncomputable def fs_law16_AccountKnowsWhoIsPending (K : Nat) : List (Nat × Piece) := (6, p_law16_AccountKnowsWhoIsPending K) :: fs_law16_AccountCountsRounds K
theorem base_law16_AccountKnowsWhoIsPending (K : Nat) : Base Try.prog tabs (fs_law16_AccountKnowsWhoIsPending K) := ⟨(base_law16_AccountCountsRounds K).mixed, (base_law16_AccountCountsRounds K).tabs, FnsOk.cons (s_law16_AccountKnowsWhoIsPending K (base_law16_AccountCountsRounds K)) (by kernel_rfl) (base_law16_AccountCountsRounds K).fns⟩
theorem law_law16_AccountKnowsWhoIsPending (K : Nat) : FnSound Try.prog 6 (p_law16_AccountKnowsWhoIsPending K) := s_law16_AccountKnowsWhoIsPending K (base_law16_AccountCountsRounds K)
/-! "selfstab/selfstablaw16.AccountOfSynchronousRuns" -/
noncomputable def b_law16_AccountOfSynchronousRuns : Code := codeOf Try.f7
noncomputable def c_law16_AccountOfSynchronousRuns_0 (K : Nat) : List (Nat × Piece) := []
theorem o_law16_AccountOfSynchronousRuns_0 (K : Nat) : PcsOk Try.prog b_law16_AccountOfSynchronousRuns (c_law16_AccountOfSynchronousRuns_0 K) := PcsOk.nil
def law16_AccountOfSynchronousRuns_250 (K : Nat) : (k : Nat) → (x1 : (List Int)) → (x5 : Int) → (x7 : Int) → (o0 : (Int × (Int × (Int × (Int × (Int × Unit)))))) → Option ((Unit × Unit) ⊕ ((Bool × Unit) × Unit))
  | 0, _, _, _, _ => none
  | k + 1, x1, x5, x7, o0 =>
    if decide (x7 < (x1.length : Int)) then
      if !decide (x5 = 0) then
        if decide (0 ≤ x7 ∧ x7 < (x1.length : Int)) then
          (ref01_All K 24).bind fun y6 =>
            (account_Add K o0 x5 (iand .u32 (rdl (.int .u32) x1 x7.toNat) y6.1.1)).bind fun y8 =>
              if !decide (y8.1.1.2.1 = 0) then
                some (.inr ((false, ()), ()))
              else
                if !decide (y8.1.1.1.2.2.1 = (IntKind.i64.wrap (o0.2.2.1 + 1))) then
                  some (.inr ((false, ()), ()))
                else
                  if !decide (y8.1.1.1.2.2.2.1 = y8.1.1.1.2.2.1) then
                    some (.inr ((false, ()), ()))
                  else
                    if !decide (y8.1.1.1.2.2.2.2.1 = (iand .u32 (rdl (.int .u32) x1 x7.toNat) y6.1.1)) then
                      some (.inr ((false, ()), ()))
                    else
                      law16_AccountOfSynchronousRuns_250 K k x1 (iand .u32 (rdl (.int .u32) x1 x7.toNat) y6.1.1) (IntKind.i64.wrap (x7 + 1)) y8.1.1.1
        else
          none
      else
        some (.inl ((), ()))
    else
      some (.inl ((), ()))
@[reducible] def p_law16_AccountOfSynchronousRuns_250 (K k : Nat) : Piece := { slots := [(1, (.v (.slice (.int .u32)))), (5, (.v (.int .u32))), (6, (.ref 0 (.pair (.int .i64) (.pair (.int .i64) (.pair (.int .i64) (.pair (.int .i64) (.pair (.int .u32) .unit))))))), (7, (.v (.int .i64)))], objs := [(.box (.pair (.int .i64) (.pair (.int .i64) (.pair (.int .i64) (.pair (.int .i64) (.pair (.int .u32) .unit))))) (.v (.pair (.int .i64) (.pair (.int .i64) (.pair (.int .i64) (.pair (.int .i64) (.pair (.int .u32) .unit)))))))], outs := [{ ex := (.exit 0), slots := [], objs := [] }, { ex := .ret, slots := [(4, (.v .bool))], objs := [] }], asg := [4, 5, 7, 8, 9, 10, 20, 21, 22, 23, 24, 25, 26, 27, 28, 29, 30, 31, 32, 33, 34, 35, 36, 37, 38, 39, 40, 41, 42, 43, 44, 45, 46, 47, 48, 49, 50, 51, 52, 53, 54, 55, 56, 57, 58, 59, 60, 61, 62, 63, 64, 65, 66, 67], nt := 69, fn := fun x => law16_AccountOfSynchronousRuns_250 K k x.1.1 x.1.2.1 x.1.2.2.2.1 x.2.1 }
theorem k_law16_AccountOfSynchronousRuns_250 (K : Nat) (hB : Base Try.prog tabs (fs_law16_AccountKnowsWhoIsPending K)) : PcOk Try.prog (codeAt b_law16_AccountOfSynchronousRuns 250) (p_law16_AccountOfSynchronousRuns_250 K K) :=
  loop_thm hB (o_law16_AccountOfSynchronousRuns_0 K) 250 (p_law16_AccountOfSynchronousRuns_250 K 0) (l := fun k x => law16_AccountOfSynchronousRuns_250 K k x.1.1 x.1.2.1 x.1.2.2.2.1 x.2.1) (c := codeAt b_law16_AccountOfSynchronousRuns 500) (by kernel_rfl) (by kernel_rfl) (by kernel_rfl) (by kernel_rfl) (fun x => by kernel_rfl) (fun k x => by kernel_rfl) K
noncomputable def c_law16_AccountOfSynchronousRuns_250 (K : Nat) : List (Nat × Piece) := (250, p_law16_AccountOfSynchronousRuns_250 K K) :: c_law16_AccountOfSynchronousRuns_0 K
theorem o_law16_AccountOfSynchronousRuns_250 (K : Nat) (hB : Base Try.prog tabs (fs_law16_AccountKnowsWhoIsPending K)) : PcsOk Try.prog b_law16_AccountOfSynchronousRuns (c_law16_AccountOfSynchronousRuns_250 K) := PcsOk.cons (k_law16_AccountOfSynchronousRuns_250 K hB) (o_law16_AccountOfSynchronousRuns_0 K)
def law16_AccountOfSynchronousRuns (K : Nat) (x0 : Int) (x1 : (List Int)) : Option ((Bool × Unit) × Unit) :=
  if decide (100 < (x1.length : Int)) then
    (law16_awake K).bind fun y2 =>
      some ((y2.1.1, ()), ())
  else
    (ref01_All K 24).bind fun y4 =>
      (account_Begin K (iand .u32 x0 y4.1.1)).bind fun y6 =>
        (law16_AccountOfSynchronousRuns_250 K K x1 (iand .u32 x0 y4.1.1) 0 y6.1.1).bind fun y10 =>
          match y10 with
          | .inl y11 =>
            (law16_awake K).bind fun y13 =>
              some ((y13.1.1, ()), ())
          | .inr y12 =>
            some ((y12.1.1, ()), ())
@[reducible] def p_law16_AccountOfSynchronousRuns (K : Nat) : Piece := { slots := [(0, (.v (.int .u32))), (1, (.v (.slice (.int .u32))))], objs := [], outs := [{ ex := .ret, slots := [(0, (.v .bool))], objs := [] }], asg := [], nt := 69, fn := fun x => law16_AccountOfSynchronousRuns K x.1.1 x.1.2.1 }
theorem s_law16_AccountOfSynchronousRuns (K : Nat) (hB : Base Try.prog tabs (fs_law16_AccountKnowsWhoIsPending K)) : FnSound Try.prog 7 (p_law16_AccountOfSynchronousRuns K) :=
  fun_thm hB (o_law16_AccountOfSynchronousRuns_250 K hB) Try.func7 (body := b_law16_AccountOfSynchronousRuns) rfl (p_law16_AccountOfSynchronousRuns K) (rs := [.tmp 4]) rfl (Nat.le_of_ble_eq_true (by kernel_rfl)) (fun x => by kernel_rfl)
noncomputable def fs_law16_AccountOfSynchronousRuns (K : Nat) : List (Nat × Piece) := (7, p_law16_AccountOfSynchronousRuns K) :: fs_law16_AccountKnowsWhoIsPending K
theorem base_law16_AccountOfSynchronousRuns (K : Nat) : Base Try.prog tabs (fs_law16_AccountOfSynchronousRuns K) := ⟨(base_law16_AccountKnowsWhoIsPending K).mixed, (base_law16_AccountKnowsWhoIsPending K).tabs, FnsOk.cons (s_law16_AccountOfSynchronousRuns K (base_law16_AccountKnowsWhoIsPending K)) (by kernel_rfl) (base_law16_AccountKnowsWhoIsPending K).fns⟩
theorem law_law16_AccountOfSynchronousRuns (K : Nat) : FnSound Try.prog 7 (p_law16_AccountOfSynchronousRuns K) := s_law16_AccountOfSynchronousRuns K (base_law16_AccountKnowsWhoIsPending K)
end Go.Proofs.Ytmndmapbojhnmaa.G
