/- Printed by a program of this work: for each function that is reached, what it computes, and that the code computes it. -/
import Derived.Test.YtafndpkfoajpnaaGa
namespace Go.Proofs.Ytafndpkfoajpnaa.G
open Go Go.Fw Go.Proofs
set_option maxRecDepth 100000
set_option linter.unusedVariables false
/-! "selfstab/selfstabref20.Rounds" -/
noncomputable def b_ref20_Rounds : Code := codeOf Try.f15
noncomputable def c_ref20_Rounds_0 (K : Nat) : List (Nat × Piece) := []
theorem o_ref20_Rounds_0 (K : Nat) : PcsOk Try.prog b_ref20_Rounds (c_ref20_Rounds_0 K) := PcsOk.nil
def ref20_Rounds_65627282 (K : Nat) : (k : Nat) → (x1 : (List Bool)) → (x9 : Bool) → (x10 : Int) → (x11 : Int) → (x12 : Int) → (o0 : ((List Int) × ((List (List (Int × (Int × Unit)))) × Unit))) → (o1 : (List (List (Int × (Int × Unit))))) → Option ((Bool × Unit) × (((List Int) × ((List (List (Int × (Int × Unit)))) × Unit)) × ((List (List (Int × (Int × Unit)))) × Unit)))
  | 0, _, _, _, _, _, _, _ => none
  | k + 1, x1, x9, x10, x11, x12, o0, o1 =>
    if decide (0 ≤ x10 ∧ x10 < (o0.2.1.length : Int)) then
      if decide (x12 < ((o0.2.1.getD x10.toNat []).length : Int)) then
        if decide (0 ≤ x10 ∧ x10 < (o1.length : Int)) then
          if decide (0 ≤ x11 ∧ x11 < ((o1.getD x10.toNat []).length : Int)) then
            if decide (0 ≤ x10 ∧ x10 < (o0.2.1.length : Int)) then
              if decide (0 ≤ x12 ∧ x12 < ((o0.2.1.getD x10.toNat []).length : Int)) then
                (ref20_through K o0 x1 o1 (((o1.getD x10.toNat []).getD x11.toNat (0, (0, ()))).1) ((o0.2.1.getD x10.toNat []).getD x12.toNat (0, (0, ())))).bind fun y4 =>
                  if decide (0 ≤ x10 ∧ x10 < (o1.length : Int)) then
                    if decide (0 ≤ x11 ∧ x11 < ((o1.getD x10.toNat []).length : Int)) then
                      if decide (((((o1.getD x10.toNat []).getD x11.toNat (0, (0, ()))).2).1) < y4.1.1) then
                        if decide (0 ≤ x10 ∧ x10 < (o1.length : Int)) then
                          if decide (0 ≤ x11 ∧ x11 < ((o1.getD x10.toNat []).length : Int)) then
                            ref20_Rounds_65627282 K k x1 true x10 x11 (IntKind.i64.wrap (x12 + 1)) o0 (o1.set x10.toNat ((o1.getD x10.toNat []).set x11.toNat (((o1.getD x10.toNat []).getD x11.toNat (0, (0, ()))).1, (y4.1.1, (((o1.getD x10.toNat []).getD x11.toNat (0, (0, ()))).2).2))))
                          else
                            none
                        else
                          none
                      else
                        ref20_Rounds_65627282 K k x1 x9 x10 x11 (IntKind.i64.wrap (x12 + 1)) o0 o1
                    else
                      none
                  else
                    none
              else
                none
            else
              none
          else
            none
        else
          none
      else
        some ((x9, ()), (o0, (o1, ())))
    else
      none
@[reducible] def p_ref20_Rounds_65627282 (K k : Nat) : Piece := { slots := [(1, (.v (.slice .bool))), (2, (.ref 0 (.pair (.slice (.int .u32)) (.pair (.slice (.slice (.pair (.int .u32) (.pair (.int .i64) .unit)))) .unit)))), (7, (.href 1)), (9, (.v .bool)), (10, (.v (.int .i64))), (11, (.v (.int .i64))), (12, (.v (.int .i64)))], objs := [(.box (.pair (.slice (.int .u32)) (.pair (.slice (.slice (.pair (.int .u32) (.pair (.int .i64) .unit)))) .unit)) (.v (.pair (.slice (.int .u32)) (.pair (.slice (.slice (.pair (.int .u32) (.pair (.int .i64) .unit)))) .unit)))), (.row2 (.pair (.int .u32) (.pair (.int .i64) .unit)))], outs := [{ ex := (.exit 6), slots := [(9, (.v .bool))], objs := [(some 0, (.box (.pair (.slice (.int .u32)) (.pair (.slice (.slice (.pair (.int .u32) (.pair (.int .i64) .unit)))) .unit)) (.v (.pair (.slice (.int .u32)) (.pair (.slice (.slice (.pair (.int .u32) (.pair (.int .i64) .unit)))) .unit))))), (some 1, (.row2 (.pair (.int .u32) (.pair (.int .i64) .unit))))] }], asg := [9, 12, 13, 47, 48, 49, 50, 51, 52, 53, 54, 55, 56, 57, 58, 59, 60, 61, 62, 63, 64, 65, 66, 67, 68, 69, 70, 71, 72, 73, 74, 75, 76, 77, 78, 79, 80, 81, 82, 83, 84, 85, 86, 87, 88, 89, 90, 91, 92, 93, 94], nt := 128, fn := fun x => ref20_Rounds_65627282 K k x.1.1 x.1.2.2.2.1 x.1.2.2.2.2.1 x.1.2.2.2.2.2.1 x.1.2.2.2.2.2.2.1 x.2.1 x.2.2.1 }
theorem k_ref20_Rounds_65627282 (K : Nat) (hB : Base Try.prog tabs (fs_ref20_through K)) : PcOk Try.prog (codeAt b_ref20_Rounds 65627282) (p_ref20_Rounds_65627282 K K) :=
  loop_thm hB (o_ref20_Rounds_0 K) 65627282 (p_ref20_Rounds_65627282 K 0) (l := fun k x => ref20_Rounds_65627282 K k x.1.1 x.1.2.2.2.1 x.1.2.2.2.2.1 x.1.2.2.2.2.2.1 x.1.2.2.2.2.2.2.1 x.2.1 x.2.2.1) (c := codeAt b_ref20_Rounds 131254564) (by kernel_rfl) (by kernel_rfl) (by kernel_rfl) (by kernel_rfl) (fun x => by kernel_rfl) (fun k x => by kernel_rfl) K
noncomputable def c_ref20_Rounds_65627282 (K : Nat) : List (Nat × Piece) := (65627282, p_ref20_Rounds_65627282 K K) :: c_ref20_Rounds_0 K
theorem o_ref20_Rounds_65627282 (K : Nat) (hB : Base Try.prog tabs (fs_ref20_through K)) : PcsOk Try.prog b_ref20_Rounds (c_ref20_Rounds_65627282 K) := PcsOk.cons (k_ref20_Rounds_65627282 K hB) (o_ref20_Rounds_0 K)
def ref20_Rounds_1025426 (K : Nat) : (k : Nat) → (x1 : (List Bool)) → (x9 : Bool) → (x10 : Int) → (x11 : Int) → (o0 : ((List Int) × ((List (List (Int × (Int × Unit)))) × Unit))) → (o1 : (List (List (Int × (Int × Unit))))) → Option ((Bool × Unit) × (((List Int) × ((List (List (Int × (Int × Unit)))) × Unit)) × ((List (List (Int × (Int × Unit)))) × Unit)))
  | 0, _, _, _, _, _, _ => none
  | k + 1, x1, x9, x10, x11, o0, o1 =>
    if decide (0 ≤ x10 ∧ x10 < (o1.length : Int)) then
      if decide (x11 < ((o1.getD x10.toNat []).length : Int)) then
        (ref20_Rounds_65627282 K K x1 x9 x10 x11 0 o0 o1).bind fun y2 =>
          ref20_Rounds_1025426 K k x1 y2.1.1 x10 (IntKind.i64.wrap (x11 + 1)) y2.2.1 y2.2.2.1
      else
        some ((x9, ()), (o0, (o1, ())))
    else
      none
@[reducible] def p_ref20_Rounds_1025426 (K k : Nat) : Piece := { slots := [(1, (.v (.slice .bool))), (2, (.ref 0 (.pair (.slice (.int .u32)) (.pair (.slice (.slice (.pair (.int .u32) (.pair (.int .i64) .unit)))) .unit)))), (7, (.href 1)), (9, (.v .bool)), (10, (.v (.int .i64))), (11, (.v (.int .i64)))], objs := [(.box (.pair (.slice (.int .u32)) (.pair (.slice (.slice (.pair (.int .u32) (.pair (.int .i64) .unit)))) .unit)) (.v (.pair (.slice (.int .u32)) (.pair (.slice (.slice (.pair (.int .u32) (.pair (.int .i64) .unit)))) .unit)))), (.row2 (.pair (.int .u32) (.pair (.int .i64) .unit)))], outs := [{ ex := (.exit 4), slots := [(9, (.v .bool))], objs := [(some 0, (.box (.pair (.slice (.int .u32)) (.pair (.slice (.slice (.pair (.int .u32) (.pair (.int .i64) .unit)))) .unit)) (.v (.pair (.slice (.int .u32)) (.pair (.slice (.slice (.pair (.int .u32) (.pair (.int .i64) .unit)))) .unit))))), (some 1, (.row2 (.pair (.int .u32) (.pair (.int .i64) .unit))))] }], asg := [9, 11, 12, 13, 38, 39, 40, 41, 42, 43, 44, 45, 46, 47, 48, 49, 50, 51, 52, 53, 54, 55, 56, 57, 58, 59, 60, 61, 62, 63, 64, 65, 66, 67, 68, 69, 70, 71, 72, 73, 74, 75, 76, 77, 78, 79, 80, 81, 82, 83, 84, 85, 86, 87, 88, 89, 90, 91, 92, 93, 94], nt := 128, fn := fun x => ref20_Rounds_1025426 K k x.1.1 x.1.2.2.2.1 x.1.2.2.2.2.1 x.1.2.2.2.2.2.1 x.2.1 x.2.2.1 }
theorem k_ref20_Rounds_1025426 (K : Nat) (hB : Base Try.prog tabs (fs_ref20_through K)) : PcOk Try.prog (codeAt b_ref20_Rounds 1025426) (p_ref20_Rounds_1025426 K K) :=
  loop_thm hB (o_ref20_Rounds_65627282 K hB) 1025426 (p_ref20_Rounds_1025426 K 0) (l := fun k x => ref20_Rounds_1025426 K k x.1.1 x.1.2.2.2.1 x.1.2.2.2.2.1 x.1.2.2.2.2.2.1 x.2.1 x.2.2.1) (c := codeAt b_ref20_Rounds 2050852) (by kernel_rfl) (by kernel_rfl) (by kernel_rfl) (by kernel_rfl) (fun x => by kernel_rfl) (fun k x => by kernel_rfl) K
noncomputable def c_ref20_Rounds_1025426 (K : Nat) : List (Nat × Piece) := (1025426, p_ref20_Rounds_1025426 K K) :: c_ref20_Rounds_65627282 K
theorem o_ref20_Rounds_1025426 (K : Nat) (hB : Base Try.prog tabs (fs_ref20_through K)) : PcsOk Try.prog b_ref20_Rounds (c_ref20_Rounds_1025426 K) := PcsOk.cons (k_ref20_Rounds_1025426 K hB) (o_ref20_Rounds_65627282 K hB)
def ref20_Rounds_16022 (K : Nat) : (k : Nat) → (x1 : (List Bool)) → (x9 : Bool) → (x10 : Int) → (o0 : ((List Int) × ((List (List (Int × (Int × Unit)))) × Unit))) → (o1 : (List (List (Int × (Int × Unit))))) → Option ((Bool × Unit) × (((List Int) × ((List (List (Int × (Int × Unit)))) × Unit)) × ((List (List (Int × (Int × Unit)))) × Unit)))
  | 0, _, _, _, _, _ => none
  | k + 1, x1, x9, x10, o0, o1 =>
    if decide (x10 < (o1.length : Int)) then
      (ref20_Rounds_1025426 K K x1 x9 x10 0 o0 o1).bind fun y2 =>
        ref20_Rounds_16022 K k x1 y2.1.1 (IntKind.i64.wrap (x10 + 1)) y2.2.1 y2.2.2.1
    else
      some ((x9, ()), (o0, (o1, ())))
@[reducible] def p_ref20_Rounds_16022 (K k : Nat) : Piece := { slots := [(1, (.v (.slice .bool))), (2, (.ref 0 (.pair (.slice (.int .u32)) (.pair (.slice (.slice (.pair (.int .u32) (.pair (.int .i64) .unit)))) .unit)))), (7, (.href 1)), (9, (.v .bool)), (10, (.v (.int .i64)))], objs := [(.box (.pair (.slice (.int .u32)) (.pair (.slice (.slice (.pair (.int .u32) (.pair (.int .i64) .unit)))) .unit)) (.v (.pair (.slice (.int .u32)) (.pair (.slice (.slice (.pair (.int .u32) (.pair (.int .i64) .unit)))) .unit)))), (.row2 (.pair (.int .u32) (.pair (.int .i64) .unit)))], outs := [{ ex := (.exit 2), slots := [(9, (.v .bool))], objs := [(some 0, (.box (.pair (.slice (.int .u32)) (.pair (.slice (.slice (.pair (.int .u32) (.pair (.int .i64) .unit)))) .unit)) (.v (.pair (.slice (.int .u32)) (.pair (.slice (.slice (.pair (.int .u32) (.pair (.int .i64) .unit)))) .unit))))), (some 1, (.row2 (.pair (.int .u32) (.pair (.int .i64) .unit))))] }], asg := [9, 10, 11, 12, 13, 32, 33, 34, 35, 36, 37, 38, 39, 40, 41, 42, 43, 44, 45, 46, 47, 48, 49, 50, 51, 52, 53, 54, 55, 56, 57, 58, 59, 60, 61, 62, 63, 64, 65, 66, 67, 68, 69, 70, 71, 72, 73, 74, 75, 76, 77, 78, 79, 80, 81, 82, 83, 84, 85, 86, 87, 88, 89, 90, 91, 92, 93, 94], nt := 128, fn := fun x => ref20_Rounds_16022 K k x.1.1 x.1.2.2.2.1 x.1.2.2.2.2.1 x.2.1 x.2.2.1 }
theorem k_ref20_Rounds_16022 (K : Nat) (hB : Base Try.prog tabs (fs_ref20_through K)) : PcOk Try.prog (codeAt b_ref20_Rounds 16022) (p_ref20_Rounds_16022 K K) :=
  loop_thm hB (o_ref20_Rounds_1025426 K hB) 16022 (p_ref20_Rounds_16022 K 0) (l := fun k x => ref20_Rounds_16022 K k x.1.1 x.1.2.2.2.1 x.1.2.2.2.2.1 x.2.1 x.2.2.1) (c := codeAt b_ref20_Rounds 32044) (by kernel_rfl) (by kernel_rfl) (by kernel_rfl) (by kernel_rfl) (fun x => by kernel_rfl) (fun k x => by kernel_rfl) K
noncomputable def c_ref20_Rounds_16022 (K : Nat) : List (Nat × Piece) := (16022, p_ref20_Rounds_16022 K K) :: c_ref20_Rounds_1025426 K
theorem o_ref20_Rounds_16022 (K : Nat) (hB : Base Try.prog tabs (fs_ref20_through K)) : PcsOk Try.prog b_ref20_Rounds (c_ref20_Rounds_16022 K) := PcsOk.cons (k_ref20_Rounds_16022 K hB) (o_ref20_Rounds_1025426 K hB)
def ref20_Rounds_250 (K : Nat) : (k : Nat) → (x1 : (List Bool)) → (x9 : Bool) → (o0 : ((List Int) × ((List (List (Int × (Int × Unit)))) × Unit))) → (o1 : (List (List (Int × (Int × Unit))))) → Option (Unit × (((List Int) × ((List (List (Int × (Int × Unit)))) × Unit)) × ((List (List (Int × (Int × Unit)))) × Unit)))
  | 0, _, _, _, _ => none
  | k + 1, x1, x9, o0, o1 =>
    if x9 then
      (ref20_Rounds_16022 K K x1 false 0 o0 o1).bind fun y1 =>
        ref20_Rounds_250 K k x1 y1.1.1 y1.2.1 y1.2.2.1
    else
      some ((), (o0, (o1, ())))
@[reducible] def p_ref20_Rounds_250 (K k : Nat) : Piece := { slots := [(1, (.v (.slice .bool))), (2, (.ref 0 (.pair (.slice (.int .u32)) (.pair (.slice (.slice (.pair (.int .u32) (.pair (.int .i64) .unit)))) .unit)))), (7, (.href 1)), (9, (.v .bool))], objs := [(.box (.pair (.slice (.int .u32)) (.pair (.slice (.slice (.pair (.int .u32) (.pair (.int .i64) .unit)))) .unit)) (.v (.pair (.slice (.int .u32)) (.pair (.slice (.slice (.pair (.int .u32) (.pair (.int .i64) .unit)))) .unit)))), (.row2 (.pair (.int .u32) (.pair (.int .i64) .unit)))], outs := [{ ex := (.exit 0), slots := [], objs := [(some 0, (.box (.pair (.slice (.int .u32)) (.pair (.slice (.slice (.pair (.int .u32) (.pair (.int .i64) .unit)))) .unit)) (.v (.pair (.slice (.int .u32)) (.pair (.slice (.slice (.pair (.int .u32) (.pair (.int .i64) .unit)))) .unit))))), (some 1, (.row2 (.pair (.int .u32) (.pair (.int .i64) .unit))))] }], asg := [9, 10, 11, 12, 13, 31, 32, 33, 34, 35, 36, 37, 38, 39, 40, 41, 42, 43, 44, 45, 46, 47, 48, 49, 50, 51, 52, 53, 54, 55, 56, 57, 58, 59, 60, 61, 62, 63, 64, 65, 66, 67, 68, 69, 70, 71, 72, 73, 74, 75, 76, 77, 78, 79, 80, 81, 82, 83, 84, 85, 86, 87, 88, 89, 90, 91, 92, 93, 94], nt := 128, fn := fun x => ref20_Rounds_250 K k x.1.1 x.1.2.2.2.1 x.2.1 x.2.2.1 }
theorem k_ref20_Rounds_250 (K : Nat) (hB : Base Try.prog tabs (fs_ref20_through K)) : PcOk Try.prog (codeAt b_ref20_Rounds 250) (p_ref20_Rounds_250 K K) :=
  loop_thm hB (o_ref20_Rounds_16022 K hB) 250 (p_ref20_Rounds_250 K 0) (l := fun k x => ref20_Rounds_250 K k x.1.1 x.1.2.2.2.1 x.2.1 x.2.2.1) (c := codeAt b_ref20_Rounds 500) (by kernel_rfl) (by kernel_rfl) (by kernel_rfl) (by kernel_rfl) (fun x => by kernel_rfl) (fun k x => by kernel_rfl) K
noncomputable def c_ref20_Rounds_250 (K : Nat) : List (Nat × Piece) := (250, p_ref20_Rounds_250 K K) :: c_ref20_Rounds_16022 K
theorem o_ref20_Rounds_250 (K : Nat) (hB : Base Try.prog tabs (fs_ref20_through K)) : PcsOk Try.prog b_ref20_Rounds (c_ref20_Rounds_250 K) := PcsOk.cons (k_ref20_Rounds_250 K hB) (o_ref20_Rounds_16022 K hB)
def ref20_Rounds_1018 (K : Nat) : (k : Nat) → (x1 : (List Bool)) → (x7 : (List (List (Int × (Int × Unit))))) → (x15 : Int) → (o0 : ((List Int) × ((List (List (Int × (Int × Unit)))) × Unit))) → (o1 : (List Int)) → Option ((Unit × Unit) × ((List Int) × Unit))
  | 0, _, _, _, _, _ => none
  | k + 1, x1, x7, x15, o0, o1 =>
    if decide (x15 < (x1.length : Int)) then
      if decide (0 ≤ x15 ∧ x15 < (x1.length : Int)) then
        if !(x1.getD x15.toNat false) then
          if decide (0 ≤ x15 ∧ x15 < (x7.length : Int)) then
            if decide (0 ≤ x15 ∧ x15 < (x7.length : Int)) then
              if decide (0 ≤ x15 ∧ x15 < (o0.1.length : Int)) then
                (ref20_place K (x7.getD x15.toNat []) (o0.1.getD x15.toNat 0)).bind fun y4 =>
                  if decide (0 ≤ y4.1.1 ∧ y4.1.1 < ((x7.getD x15.toNat []).length : Int)) then
                    if decide (o1.length + ([(((x7.getD x15.toNat []).getD y4.1.1.toNat (0, (0, ()))).2).1]).length ≤ 4294967296) then
                      ref20_Rounds_1018 K k x1 x7 (IntKind.i64.wrap (x15 + 1)) o0 (o1 ++ [(((x7.getD x15.toNat []).getD y4.1.1.toNat (0, (0, ()))).2).1])
                    else
                      none
                  else
                    none
              else
                none
            else
              none
          else
            none
        else
          if decide (o1.length + ([0]).length ≤ 4294967296) then
            ref20_Rounds_1018 K k x1 x7 (IntKind.i64.wrap (x15 + 1)) o0 (o1 ++ [0])
          else
            none
      else
        none
    else
      some (((), ()), (o1, ()))
@[reducible] def p_ref20_Rounds_1018 (K k : Nat) : Piece := { slots := [(1, (.v (.slice .bool))), (2, (.ref 0 (.pair (.slice (.int .u32)) (.pair (.slice (.slice (.pair (.int .u32) (.pair (.int .i64) .unit)))) .unit)))), (7, (.v (.slice (.slice (.pair (.int .u32) (.pair (.int .i64) .unit)))))), (14, (.href 1)), (15, (.v (.int .i64)))], objs := [(.box (.pair (.slice (.int .u32)) (.pair (.slice (.slice (.pair (.int .u32) (.pair (.int .i64) .unit)))) .unit)) (.v (.pair (.slice (.int .u32)) (.pair (.slice (.slice (.pair (.int .u32) (.pair (.int .i64) .unit)))) .unit)))), (.row (.int .i64))], outs := [{ ex := (.exit 8), slots := [(14, (.href 0))], objs := [(none, (.row (.int .i64)))] }], asg := [14, 15, 16, 95, 96, 97, 98, 99, 100, 101, 102, 103, 104, 105, 106, 107, 108, 109, 110, 111, 112, 113, 114, 115, 116, 117, 118, 119, 120, 121, 122, 123, 124, 125, 126], nt := 128, fn := fun x => ref20_Rounds_1018 K k x.1.1 x.1.2.2.1 x.1.2.2.2.2.1 x.2.1 x.2.2.1 }
theorem k_ref20_Rounds_1018 (K : Nat) (hB : Base Try.prog tabs (fs_ref20_through K)) : PcOk Try.prog (codeAt b_ref20_Rounds 1018) (p_ref20_Rounds_1018 K K) :=
  loop_thm hB (o_ref20_Rounds_250 K hB) 1018 (p_ref20_Rounds_1018 K 0) (l := fun k x => ref20_Rounds_1018 K k x.1.1 x.1.2.2.1 x.1.2.2.2.2.1 x.2.1 x.2.2.1) (c := codeAt b_ref20_Rounds 2036) (by kernel_rfl) (by kernel_rfl) (by kernel_rfl) (by kernel_rfl) (fun x => by kernel_rfl) (fun k x => by kernel_rfl) K
noncomputable def c_ref20_Rounds_1018 (K : Nat) : List (Nat × Piece) := (1018, p_ref20_Rounds_1018 K K) :: c_ref20_Rounds_250 K
theorem o_ref20_Rounds_1018 (K : Nat) (hB : Base Try.prog tabs (fs_ref20_through K)) : PcsOk Try.prog b_ref20_Rounds (c_ref20_Rounds_1018 K) := PcsOk.cons (k_ref20_Rounds_1018 K hB) (o_ref20_Rounds_250 K hB)
def ref20_Rounds (K : Nat) (x0 : ((List Int) × ((List (List (Int × (Int × Unit)))) × Unit))) (x1 : (List Bool)) : Option (((Unit × (Int × Unit)) × Unit) × ((List Int) × Unit)) :=
  (ref20_begin K x0 x1).bind fun y4 =>
    if !decide (y4.1.1 = 0) then
      some ((((), (y4.1.1, ())), ()), ([], ()))
    else
      (ref20_reach K x0 x1).bind fun y6 =>
        if !y6.1.1.2.1 then
          some ((((), (3, ())), ()), ([], ()))
        else
          (ref20_Rounds_250 K K x1 true x0 y6.2.1).bind fun y8 =>
            (ref20_Rounds_1018 K K x1 y8.2.2.1 0 y8.2.1 []).bind fun y10 =>
              some ((((), (0, ())), ()), (y10.2.1, ()))
@[reducible] def p_ref20_Rounds (K : Nat) : Piece := { slots := [(0, (.v (.pair (.slice (.int .u32)) (.pair (.slice (.slice (.pair (.int .u32) (.pair (.int .i64) .unit)))) .unit)))), (1, (.v (.slice .bool)))], objs := [], outs := [{ ex := .ret, slots := [(0, (.tup (.cons (.href 0) (.cons (.v (.int .i64)) .nil))))], objs := [(none, (.row (.int .i64)))] }], asg := [], nt := 128, fn := fun x => ref20_Rounds K x.1.1 x.1.2.1 }
theorem s_ref20_Rounds (K : Nat) (hB : Base Try.prog tabs (fs_ref20_through K)) : FnSound Try.prog 15 (p_ref20_Rounds K) :=
  fun_thm hB (o_ref20_Rounds_1018 K hB) Try.func15 (body := b_ref20_Rounds) rfl (p_ref20_Rounds K) (rs := [.tmp 4, .tmp 5]) rfl (Nat.le_of_ble_eq_true (by kernel_rfl)) (fun x => by kernel_rfl)
noncomputable def fs_ref20_Rounds (K : Nat) : List (Nat × Piece) := (15, p_ref20_Rounds K) :: fs_ref20_through K
theorem base_ref20_Rounds (K : Nat) : Base Try.prog tabs (fs_ref20_Rounds K) := ⟨(base_ref20_through K).mixed, (base_ref20_through K).tabs, FnsOk.cons (s_ref20_Rounds K (base_ref20_through K)) (by kernel_rfl) (base_ref20_through K).fns⟩
/-! "selfstab/selfstabref01.SameInts" -/
noncomputable def b_ref01_SameInts : Code := codeOf Try.f16
noncomputable def c_ref01_SameInts_0 (K : Nat) : List (Nat × Piece) := []
theorem o_ref01_SameInts_0 (K : Nat) : PcsOk Try.prog b_ref01_SameInts (c_ref01_SameInts_0 K) := PcsOk.nil
def ref01_SameInts_58 (K : Nat) : (k : Nat) → (x0 : (List Int)) → (x1 : (List Int)) → (x5 : Int) → Option ((Unit × Unit) ⊕ ((Bool × Unit) × Unit))
  | 0, _, _, _ => none
  | k + 1, x0, x1, x5 =>
    if decide (x5 < (x0.length : Int)) then
      if decide (0 ≤ x5 ∧ x5 < (x0.length : Int)) then
        if decide (0 ≤ x5 ∧ x5 < (x1.length : Int)) then
          if !decide ((x0.getD x5.toNat 0) = (x1.getD x5.toNat 0)) then
            some (.inr ((false, ()), ()))
          else
            ref01_SameInts_58 K k x0 x1 (IntKind.i64.wrap (x5 + 1))
        else
          none
      else
        none
    else
      some (.inl ((), ()))
@[reducible] def p_ref01_SameInts_58 (K k : Nat) : Piece := { slots := [(0, (.v (.slice (.int .i64)))), (1, (.v (.slice (.int .i64)))), (5, (.v (.int .i64)))], objs := [], outs := [{ ex := (.exit 0), slots := [], objs := [] }, { ex := .ret, slots := [(4, (.v .bool))], objs := [] }], asg := [4, 5, 11, 12, 13, 14, 15, 16, 17, 18, 19, 20, 21, 22, 23, 24, 25], nt := 26, fn := fun x => ref01_SameInts_58 K k x.1.1 x.1.2.1 x.1.2.2.1 }
theorem k_ref01_SameInts_58 (K : Nat) (hB : Base Try.prog tabs (fs_ref20_Rounds K)) : PcOk Try.prog (codeAt b_ref01_SameInts 58) (p_ref01_SameInts_58 K K) :=
  loop_thm hB (o_ref01_SameInts_0 K) 58 (p_ref01_SameInts_58 K 0) (l := fun k x => ref01_SameInts_58 K k x.1.1 x.1.2.1 x.1.2.2.1) (c := codeAt b_ref01_SameInts 116) (by kernel_rfl) (by kernel_rfl) (by kernel_rfl) (by kernel_rfl) (fun x => by kernel_rfl) (fun k x => by kernel_rfl) K
noncomputable def c_ref01_SameInts_58 (K : Nat) : List (Nat × Piece) := (58, p_ref01_SameInts_58 K K) :: c_ref01_SameInts_0 K
theorem o_ref01_SameInts_58 (K : Nat) (hB : Base Try.prog tabs (fs_ref20_Rounds K)) : PcsOk Try.prog b_ref01_SameInts (c_ref01_SameInts_58 K) := PcsOk.cons (k_ref01_SameInts_58 K hB) (o_ref01_SameInts_0 K)
def ref01_SameInts (K : Nat) (x0 : (List Int)) (x1 : (List Int)) : Option ((Bool × Unit) × Unit) :=
  if !decide ((x0.length : Int) = (x1.length : Int)) then
    some ((false, ()), ())
  else
    (ref01_SameInts_58 K K x0 x1 0).bind fun y4 =>
      match y4 with
      | .inl y5 =>
        some ((true, ()), ())
      | .inr y6 =>
        some ((y6.1.1, ()), ())
@[reducible] def p_ref01_SameInts (K : Nat) : Piece := { slots := [(0, (.v (.slice (.int .i64)))), (1, (.v (.slice (.int .i64))))], objs := [], outs := [{ ex := .ret, slots := [(0, (.v .bool))], objs := [] }], asg := [], nt := 26, fn := fun x => ref01_SameInts K x.1.1 x.1.2.1 }
theorem s_ref01_SameInts (K : Nat) (hB : Base Try.prog tabs (fs_ref20_Rounds K)) : FnSound Try.prog 16 (p_ref01_SameInts K) :=
  fun_thm hB (o_ref01_SameInts_58 K hB) Try.func16 (body := b_ref01_SameInts) rfl (p_ref01_SameInts K) (rs := [.tmp 4]) rfl (Nat.le_of_ble_eq_true (by kernel_rfl)) (fun x => by kernel_rfl)
noncomputable def fs_ref01_SameInts (K : Nat) : List (Nat × Piece) := (16, p_ref01_SameInts K) :: fs_ref20_Rounds K
theorem base_ref01_SameInts (K : Nat) : Base Try.prog tabs (fs_ref01_SameInts K) := ⟨(base_ref20_Rounds K).mixed, (base_ref20_Rounds K).tabs, FnsOk.cons (s_ref01_SameInts K (base_ref20_Rounds K)) (by kernel_rfl) (base_ref20_Rounds K).fns⟩
/-! "selfstab/selfstablaw20.WorstCountsRounds" -/
noncomputable def b_law20_WorstCountsRounds : Code := codeOf Try.f3
noncomputable def c_law20_WorstCountsRounds_0 (K : Nat) : List (Nat × Piece) := []
theorem o_law20_WorstCountsRounds_0 (K : Nat) : PcsOk Try.prog b_law20_WorstCountsRounds (c_law20_WorstCountsRounds_0 K) := PcsOk.nil
def law20_WorstCountsRounds (K : Nat) (x0 : ((List Int) × ((List (List (Int × (Int × Unit)))) × Unit))) (x1 : (List Bool)) : Option ((Bool × Unit) × Unit) :=
  (law20_light K x0 x1).bind fun y9 =>
    if !y9.1.1 then
      (law20_awake K).bind fun y10 =>
        some ((y10.1.1, ()), ())
    else
      (law20_few K x0).bind fun y11 =>
        if !y11.1.1 then
          (law20_awake K).bind fun y12 =>
            some ((y12.1.1, ()), ())
        else
          (worst_Rounds K x0 x1).bind fun y14 =>
            (ref20_Rounds K x0 x1).bind fun y16 =>
              (law20_awake K).bind fun y17 =>
                if y17.1.1 then
                  (ref01_SameInts K y14.2.1 y16.2.1).bind fun y18 =>
                    if y18.1.1 then
                      some ((decide (y14.1.1.2.1 = y16.1.1.2.1), ()), ())
                    else
                      some ((false, ()), ())
                else
                  some ((false, ()), ())
@[reducible] def p_law20_WorstCountsRounds (K : Nat) : Piece := { slots := [(0, (.v (.pair (.slice (.int .u32)) (.pair (.slice (.slice (.pair (.int .u32) (.pair (.int .i64) .unit)))) .unit)))), (1, (.v (.slice .bool)))], objs := [], outs := [{ ex := .ret, slots := [(0, (.v .bool))], objs := [] }], asg := [], nt := 42, fn := fun x => law20_WorstCountsRounds K x.1.1 x.1.2.1 }
theorem s_law20_WorstCountsRounds (K : Nat) (hB : Base Try.prog tabs (fs_ref01_SameInts K)) : FnSound Try.prog 3 (p_law20_WorstCountsRounds K) :=
  fun_thm hB (o_law20_WorstCountsRounds_0 K) Try.func3 (body := b_law20_WorstCountsRounds) rfl (p_law20_WorstCountsRounds K) (rs := [.tmp 4]) rfl (Nat.le_of_ble_eq_true (by kernel_rfl)) (fun x => by kernel_rfl)
noncomputable def fs_law20_WorstCountsRounds (K : Nat) : List (Nat × Piece) := (3, p_law20_WorstCountsRounds K) :: fs_ref01_SameInts K
theorem base_law20_WorstCountsRounds (K : Nat) : Base Try.prog tabs (fs_law20_WorstCountsRounds K) := ⟨(base_ref01_SameInts K).mixed, (base_ref01_SameInts K).tabs, FnsOk.cons (s_law20_WorstCountsRounds K (base_ref01_SameInts K)) (by kernel_rfl) (base_ref01_SameInts K).fns⟩
theorem law_law20_WorstCountsRounds (K : Nat) : FnSound Try.prog 3 (p_law20_WorstCountsRounds K) := s_law20_WorstCountsRounds K (base_ref01_SameInts K)
/-! "selfstab/selfstabref20.longest" -/
noncomputable def b_ref20_longest : Code := codeOf Try.f45
noncomputable def c_ref20_longest_0 (K : Nat) : List (Nat × Piece) := []
theorem o_ref20_longest_0 (K : Nat) : PcsOk Try.prog b_ref20_longest (c_ref20_longest_0 K) := PcsOk.nil
def ref20_longest_15295635 (K : Nat) (x8 : Bool) (x9 : Int) (x10 : Int) (x11 : Int) (o0 : ((List Int) × ((List (List (Int × (Int × Unit)))) × Unit))) (o1 : (List Int)) : Option ((Bool × Unit) × (((List Int) × ((List (List (Int × (Int × Unit)))) × Unit)) × ((List Int) × Unit))) :=
  if decide (0 ≤ x9 ∧ x9 < (o0.2.1.length : Int)) then
    if decide (0 ≤ x10 ∧ x10 < ((o0.2.1.getD x9.toNat []).length : Int)) then
      if decide (0 ≤ (((o0.2.1.getD x9.toNat []).getD x10.toNat (0, (0, ()))).2).1 ∧ (((o0.2.1.getD x9.toNat []).getD x10.toNat (0, (0, ()))).2).1 < (o1.length : Int)) then
        if decide (0 ≤ x9 ∧ x9 < (o1.length : Int)) then
          if decide ((o1.getD x9.toNat 0) < (IntKind.i64.wrap (x11 + (o1.getD (((((o0.2.1.getD x9.toNat []).getD x10.toNat (0, (0, ()))).2).1).toNat) 0)))) then
            if decide (0 ≤ x9 ∧ x9 < (o0.2.1.length : Int)) then
              if decide (0 ≤ x10 ∧ x10 < ((o0.2.1.getD x9.toNat []).length : Int)) then
                if decide (0 ≤ (((o0.2.1.getD x9.toNat []).getD x10.toNat (0, (0, ()))).2).1 ∧ (((o0.2.1.getD x9.toNat []).getD x10.toNat (0, (0, ()))).2).1 < (o1.length : Int)) then
                  if decide (0 ≤ x9 ∧ x9 < (o1.length : Int)) then
                    some ((true, ()), (o0, (o1.set x9.toNat (IntKind.i64.wrap (x11 + (o1.getD (((((o0.2.1.getD x9.toNat []).getD x10.toNat (0, (0, ()))).2).1).toNat) 0))), ())))
                  else
                    none
                else
                  none
              else
                none
            else
              none
          else
            some ((x8, ()), (o0, (o1, ())))
        else
          none
      else
        none
    else
      none
  else
    none
@[reducible] def p_ref20_longest_15295635 (K : Nat) : Piece := { slots := [(3, (.ref 0 (.pair (.slice (.int .u32)) (.pair (.slice (.slice (.pair (.int .u32) (.pair (.int .i64) .unit)))) .unit)))), (7, (.href 1)), (8, (.v .bool)), (9, (.v (.int .i64))), (10, (.v (.int .i64))), (11, (.v (.int .i64)))], objs := [(.box (.pair (.slice (.int .u32)) (.pair (.slice (.slice (.pair (.int .u32) (.pair (.int .i64) .unit)))) .unit)) (.v (.pair (.slice (.int .u32)) (.pair (.slice (.slice (.pair (.int .u32) (.pair (.int .i64) .unit)))) .unit)))), (.row (.int .i64))], outs := [{ ex := .normal, slots := [(8, (.v .bool))], objs := [(some 0, (.box (.pair (.slice (.int .u32)) (.pair (.slice (.slice (.pair (.int .u32) (.pair (.int .i64) .unit)))) .unit)) (.v (.pair (.slice (.int .u32)) (.pair (.slice (.slice (.pair (.int .u32) (.pair (.int .i64) .unit)))) .unit))))), (some 1, (.row (.int .i64)))] }], asg := [8, 50, 51, 52, 53, 54, 55, 56, 57, 58, 59, 60, 61, 62, 63, 64, 65, 66, 67, 68, 69, 70, 71, 72, 73, 74, 75, 76, 77, 78, 79, 80, 81, 82, 83, 84, 85], nt := 87, fn := fun x => ref20_longest_15295635 K x.1.2.2.1 x.1.2.2.2.1 x.1.2.2.2.2.1 x.1.2.2.2.2.2.1 x.2.1 x.2.2.1 }
theorem k_ref20_longest_15295635 (K : Nat) (hB : Base Try.prog tabs (fs_law20_WorstCountsRounds K)) : PcOk Try.prog (codeAt b_ref20_longest 15295635) (p_ref20_longest_15295635 K) :=
  seg_thm hB (o_ref20_longest_0 K) 15295635 (p_ref20_longest_15295635 K) (by kernel_rfl) (by kernel_rfl) (by kernel_rfl) (fun x => by kernel_rfl)
noncomputable def c_ref20_longest_15295635 (K : Nat) : List (Nat × Piece) := (15295635, p_ref20_longest_15295635 K) :: c_ref20_longest_0 K
theorem o_ref20_longest_15295635 (K : Nat) (hB : Base Try.prog tabs (fs_law20_WorstCountsRounds K)) : PcsOk Try.prog b_ref20_longest (c_ref20_longest_15295635 K) := PcsOk.cons (k_ref20_longest_15295635 K hB) (o_ref20_longest_0 K)
def ref20_longest_238994 (K : Nat) : (k : Nat) → (x1 : (List Bool)) → (x2 : Bool) → (x8 : Bool) → (x9 : Int) → (x10 : Int) → (o0 : ((List Int) × ((List (List (Int × (Int × Unit)))) × Unit))) → (o1 : (List Int)) → Option ((Bool × Unit) × (((List Int) × ((List (List (Int × (Int × Unit)))) × Unit)) × ((List Int) × Unit)))
  | 0, _, _, _, _, _, _, _ => none
  | k + 1, x1, x2, x8, x9, x10, o0, o1 =>
    if decide (0 ≤ x9 ∧ x9 < (o0.2.1.length : Int)) then
      if decide (x10 < ((o0.2.1.getD x9.toNat []).length : Int)) then
        if decide (0 ≤ x9 ∧ x9 < (x1.length : Int)) then
          if !(x1.getD x9.toNat false) then
            if x2 then
              if decide (0 ≤ x9 ∧ x9 < (o0.2.1.length : Int)) then
                if decide (0 ≤ x10 ∧ x10 < ((o0.2.1.getD x9.toNat []).length : Int)) then
                  (ref15_Count K (((o0.2.1.getD x9.toNat []).getD x10.toNat (0, (0, ()))).1)).bind fun y4 =>
                    (ref20_longest_15295635 K x8 x9 x10 y4.1.1 o0 o1).bind fun y5 =>
                      ref20_longest_238994 K k x1 x2 y5.1.1 x9 (IntKind.i64.wrap (x10 + 1)) y5.2.1 y5.2.2.1
                else
                  none
              else
                none
            else
              (ref20_longest_15295635 K x8 x9 x10 1 o0 o1).bind fun y6 =>
                ref20_longest_238994 K k x1 x2 y6.1.1 x9 (IntKind.i64.wrap (x10 + 1)) y6.2.1 y6.2.2.1
          else
            some ((x8, ()), (o0, (o1, ())))
        else
          none
      else
        some ((x8, ()), (o0, (o1, ())))
    else
      none
@[reducible] def p_ref20_longest_238994 (K k : Nat) : Piece := { slots := [(1, (.v (.slice .bool))), (2, (.v .bool)), (3, (.ref 0 (.pair (.slice (.int .u32)) (.pair (.slice (.slice (.pair (.int .u32) (.pair (.int .i64) .unit)))) .unit)))), (7, (.href 1)), (8, (.v .bool)), (9, (.v (.int .i64))), (10, (.v (.int .i64)))], objs := [(.box (.pair (.slice (.int .u32)) (.pair (.slice (.slice (.pair (.int .u32) (.pair (.int .i64) .unit)))) .unit)) (.v (.pair (.slice (.int .u32)) (.pair (.slice (.slice (.pair (.int .u32) (.pair (.int .i64) .unit)))) .unit)))), (.row (.int .i64))], outs := [{ ex := (.exit 4), slots := [(8, (.v .bool))], objs := [(some 0, (.box (.pair (.slice (.int .u32)) (.pair (.slice (.slice (.pair (.int .u32) (.pair (.int .i64) .unit)))) .unit)) (.v (.pair (.slice (.int .u32)) (.pair (.slice (.slice (.pair (.int .u32) (.pair (.int .i64) .unit)))) .unit))))), (some 1, (.row (.int .i64)))] }], asg := [8, 10, 11, 22, 23, 24, 25, 26, 27, 28, 29, 30, 31, 32, 33, 34, 35, 36, 37, 38, 39, 40, 41, 42, 43, 44, 45, 46, 47, 48, 49, 50, 51, 52, 53, 54, 55, 56, 57, 58, 59, 60, 61, 62, 63, 64, 65, 66, 67, 68, 69, 70, 71, 72, 73, 74, 75, 76, 77, 78, 79, 80, 81, 82, 83, 84, 85], nt := 87, fn := fun x => ref20_longest_238994 K k x.1.1 x.1.2.1 x.1.2.2.2.2.1 x.1.2.2.2.2.2.1 x.1.2.2.2.2.2.2.1 x.2.1 x.2.2.1 }
theorem k_ref20_longest_238994 (K : Nat) (hB : Base Try.prog tabs (fs_law20_WorstCountsRounds K)) : PcOk Try.prog (codeAt b_ref20_longest 238994) (p_ref20_longest_238994 K K) :=
  loop_thm hB (o_ref20_longest_15295635 K hB) 238994 (p_ref20_longest_238994 K 0) (l := fun k x => ref20_longest_238994 K k x.1.1 x.1.2.1 x.1.2.2.2.2.1 x.1.2.2.2.2.2.1 x.1.2.2.2.2.2.2.1 x.2.1 x.2.2.1) (c := codeAt b_ref20_longest 477988) (by kernel_rfl) (by kernel_rfl) (by kernel_rfl) (by kernel_rfl) (fun x => by kernel_rfl) (fun k x => by kernel_rfl) K
noncomputable def c_ref20_longest_238994 (K : Nat) : List (Nat × Piece) := (238994, p_ref20_longest_238994 K K) :: c_ref20_longest_15295635 K
theorem o_ref20_longest_238994 (K : Nat) (hB : Base Try.prog tabs (fs_law20_WorstCountsRounds K)) : PcsOk Try.prog b_ref20_longest (c_ref20_longest_238994 K) := PcsOk.cons (k_ref20_longest_238994 K hB) (o_ref20_longest_15295635 K hB)
def ref20_longest_3734 (K : Nat) : (k : Nat) → (x1 : (List Bool)) → (x2 : Bool) → (x8 : Bool) → (x9 : Int) → (o0 : ((List Int) × ((List (List (Int × (Int × Unit)))) × Unit))) → (o1 : (List Int)) → Option ((Bool × Unit) × (((List Int) × ((List (List (Int × (Int × Unit)))) × Unit)) × ((List Int) × Unit)))
  | 0, _, _, _, _, _, _ => none
  | k + 1, x1, x2, x8, x9, o0, o1 =>
    if decide (x9 < (o1.length : Int)) then
      (ref20_longest_238994 K K x1 x2 x8 x9 0 o0 o1).bind fun y2 =>
        ref20_longest_3734 K k x1 x2 y2.1.1 (IntKind.i64.wrap (x9 + 1)) y2.2.1 y2.2.2.1
    else
      some ((x8, ()), (o0, (o1, ())))
@[reducible] def p_ref20_longest_3734 (K k : Nat) : Piece := { slots := [(1, (.v (.slice .bool))), (2, (.v .bool)), (3, (.ref 0 (.pair (.slice (.int .u32)) (.pair (.slice (.slice (.pair (.int .u32) (.pair (.int .i64) .unit)))) .unit)))), (7, (.href 1)), (8, (.v .bool)), (9, (.v (.int .i64)))], objs := [(.box (.pair (.slice (.int .u32)) (.pair (.slice (.slice (.pair (.int .u32) (.pair (.int .i64) .unit)))) .unit)) (.v (.pair (.slice (.int .u32)) (.pair (.slice (.slice (.pair (.int .u32) (.pair (.int .i64) .unit)))) .unit)))), (.row (.int .i64))], outs := [{ ex := (.exit 2), slots := [(8, (.v .bool))], objs := [(some 0, (.box (.pair (.slice (.int .u32)) (.pair (.slice (.slice (.pair (.int .u32) (.pair (.int .i64) .unit)))) .unit)) (.v (.pair (.slice (.int .u32)) (.pair (.slice (.slice (.pair (.int .u32) (.pair (.int .i64) .unit)))) .unit))))), (some 1, (.row (.int .i64)))] }], asg := [8, 9, 10, 11, 16, 17, 18, 19, 20, 21, 22, 23, 24, 25, 26, 27, 28, 29, 30, 31, 32, 33, 34, 35, 36, 37, 38, 39, 40, 41, 42, 43, 44, 45, 46, 47, 48, 49, 50, 51, 52, 53, 54, 55, 56, 57, 58, 59, 60, 61, 62, 63, 64, 65, 66, 67, 68, 69, 70, 71, 72, 73, 74, 75, 76, 77, 78, 79, 80, 81, 82, 83, 84, 85], nt := 87, fn := fun x => ref20_longest_3734 K k x.1.1 x.1.2.1 x.1.2.2.2.2.1 x.1.2.2.2.2.2.1 x.2.1 x.2.2.1 }
theorem k_ref20_longest_3734 (K : Nat) (hB : Base Try.prog tabs (fs_law20_WorstCountsRounds K)) : PcOk Try.prog (codeAt b_ref20_longest 3734) (p_ref20_longest_3734 K K) :=
  loop_thm hB (o_ref20_longest_238994 K hB) 3734 (p_ref20_longest_3734 K 0) (l := fun k x => ref20_longest_3734 K k x.1.1 x.1.2.1 x.1.2.2.2.2.1 x.1.2.2.2.2.2.1 x.2.1 x.2.2.1) (c := codeAt b_ref20_longest 7468) (by kernel_rfl) (by kernel_rfl) (by kernel_rfl) (by kernel_rfl) (fun x => by kernel_rfl) (fun k x => by kernel_rfl) K
noncomputable def c_ref20_longest_3734 (K : Nat) : List (Nat × Piece) := (3734, p_ref20_longest_3734 K K) :: c_ref20_longest_238994 K
theorem o_ref20_longest_3734 (K : Nat) (hB : Base Try.prog tabs (fs_law20_WorstCountsRounds K)) : PcsOk Try.prog b_ref20_longest (c_ref20_longest_3734 K) := PcsOk.cons (k_ref20_longest_3734 K hB) (o_ref20_longest_238994 K hB)
def ref20_longest_58 (K : Nat) : (k : Nat) → (x1 : (List Bool)) → (x2 : Bool) → (x8 : Bool) → (o0 : ((List Int) × ((List (List (Int × (Int × Unit)))) × Unit))) → (o1 : (List Int)) → Option (Unit × ((List Int) × Unit))
  | 0, _, _, _, _, _ => none
  | k + 1, x1, x2, x8, o0, o1 =>
    if x8 then
      (ref20_longest_3734 K K x1 x2 false 0 o0 o1).bind fun y1 =>
        ref20_longest_58 K k x1 x2 y1.1.1 y1.2.1 y1.2.2.1
    else
      some ((), (o1, ()))
@[reducible] def p_ref20_longest_58 (K k : Nat) : Piece := { slots := [(1, (.v (.slice .bool))), (2, (.v .bool)), (3, (.ref 0 (.pair (.slice (.int .u32)) (.pair (.slice (.slice (.pair (.int .u32) (.pair (.int .i64) .unit)))) .unit)))), (7, (.href 1)), (8, (.v .bool))], objs := [(.box (.pair (.slice (.int .u32)) (.pair (.slice (.slice (.pair (.int .u32) (.pair (.int .i64) .unit)))) .unit)) (.v (.pair (.slice (.int .u32)) (.pair (.slice (.slice (.pair (.int .u32) (.pair (.int .i64) .unit)))) .unit)))), (.row (.int .i64))], outs := [{ ex := (.exit 0), slots := [], objs := [(some 1, (.row (.int .i64)))] }], asg := [8, 9, 10, 11, 15, 16, 17, 18, 19, 20, 21, 22, 23, 24, 25, 26, 27, 28, 29, 30, 31, 32, 33, 34, 35, 36, 37, 38, 39, 40, 41, 42, 43, 44, 45, 46, 47, 48, 49, 50, 51, 52, 53, 54, 55, 56, 57, 58, 59, 60, 61, 62, 63, 64, 65, 66, 67, 68, 69, 70, 71, 72, 73, 74, 75, 76, 77, 78, 79, 80, 81, 82, 83, 84, 85], nt := 87, fn := fun x => ref20_longest_58 K k x.1.1 x.1.2.1 x.1.2.2.2.2.1 x.2.1 x.2.2.1 }
theorem k_ref20_longest_58 (K : Nat) (hB : Base Try.prog tabs (fs_law20_WorstCountsRounds K)) : PcOk Try.prog (codeAt b_ref20_longest 58) (p_ref20_longest_58 K K) :=
  loop_thm hB (o_ref20_longest_3734 K hB) 58 (p_ref20_longest_58 K 0) (l := fun k x => ref20_longest_58 K k x.1.1 x.1.2.1 x.1.2.2.2.2.1 x.2.1 x.2.2.1) (c := codeAt b_ref20_longest 116) (by kernel_rfl) (by kernel_rfl) (by kernel_rfl) (by kernel_rfl) (fun x => by kernel_rfl) (fun k x => by kernel_rfl) K
noncomputable def c_ref20_longest_58 (K : Nat) : List (Nat × Piece) := (58, p_ref20_longest_58 K K) :: c_ref20_longest_3734 K
theorem o_ref20_longest_58 (K : Nat) (hB : Base Try.prog tabs (fs_law20_WorstCountsRounds K)) : PcsOk Try.prog b_ref20_longest (c_ref20_longest_58 K) := PcsOk.cons (k_ref20_longest_58 K hB) (o_ref20_longest_3734 K hB)
def ref20_longest (K : Nat) (x0 : ((List Int) × ((List (List (Int × (Int × Unit)))) × Unit))) (x1 : (List Bool)) (x2 : Bool) : Option ((Unit × Unit) × ((List Int) × Unit)) :=
  if decide (0 ≤ (x1.length : Int) ∧ (x1.length : Int) ≤ (x1.length : Int) ∧ (x1.length : Int) ≤ 4294967296) then
    (ref20_longest_58 K K x1 x2 true x0 (List.replicate (x1.length : Int).toNat (0 : Int))).bind fun y2 =>
      some (((), ()), (y2.2.1, ()))
  else
    none
@[reducible] def p_ref20_longest (K : Nat) : Piece := { slots := [(0, (.v (.pair (.slice (.int .u32)) (.pair (.slice (.slice (.pair (.int .u32) (.pair (.int .i64) .unit)))) .unit)))), (1, (.v (.slice .bool))), (2, (.v .bool))], objs := [], outs := [{ ex := .ret, slots := [(0, (.href 0))], objs := [(none, (.row (.int .i64)))] }], asg := [], nt := 87, fn := fun x => ref20_longest K x.1.1 x.1.2.1 x.1.2.2.1 }
theorem s_ref20_longest (K : Nat) (hB : Base Try.prog tabs (fs_law20_WorstCountsRounds K)) : FnSound Try.prog 45 (p_ref20_longest K) :=
  fun_thm hB (o_ref20_longest_58 K hB) Try.func45 (body := b_ref20_longest) rfl (p_ref20_longest K) (rs := [.tmp 6]) rfl (Nat.le_of_ble_eq_true (by kernel_rfl)) (fun x => by kernel_rfl)
noncomputable def fs_ref20_longest (K : Nat) : List (Nat × Piece) := (45, p_ref20_longest K) :: fs_law20_WorstCountsRounds K
theorem base_ref20_longest (K : Nat) : Base Try.prog tabs (fs_ref20_longest K) := ⟨(base_law20_WorstCountsRounds K).mixed, (base_law20_WorstCountsRounds K).tabs, FnsOk.cons (s_ref20_longest K (base_law20_WorstCountsRounds K)) (by kernel_rfl) (base_law20_WorstCountsRounds K).fns⟩
/-! "selfstab/selfstabref20.Moves" -/
noncomputable def b_ref20_Moves : Code := codeOf Try.f23
noncomputable def c_ref20_Moves_0 (K : Nat) : List (Nat × Piece) := []
theorem o_ref20_Moves_0 (K : Nat) : PcsOk Try.prog b_ref20_Moves (c_ref20_Moves_0 K) := PcsOk.nil
def ref20_Moves (K : Nat) (x0 : ((List Int) × ((List (List (Int × (Int × Unit)))) × Unit))) (x1 : (List Bool)) : Option (((Unit × (Int × Unit)) × Unit) × ((List Int) × Unit)) :=
  (ref20_begin K x0 x1).bind fun y4 =>
    if !decide (y4.1.1 = 0) then
      some ((((), (y4.1.1, ())), ()), ([], ()))
    else
      (ref20_longest K x0 x1 true).bind fun y5 =>
        some ((((), (0, ())), ()), (y5.2.1, ()))
@[reducible] def p_ref20_Moves (K : Nat) : Piece := { slots := [(0, (.v (.pair (.slice (.int .u32)) (.pair (.slice (.slice (.pair (.int .u32) (.pair (.int .i64) .unit)))) .unit)))), (1, (.v (.slice .bool)))], objs := [], outs := [{ ex := .ret, slots := [(0, (.tup (.cons (.href 0) (.cons (.v (.int .i64)) .nil))))], objs := [(none, (.row (.int .i64)))] }], asg := [], nt := 16, fn := fun x => ref20_Moves K x.1.1 x.1.2.1 }
theorem s_ref20_Moves (K : Nat) (hB : Base Try.prog tabs (fs_ref20_longest K)) : FnSound Try.prog 23 (p_ref20_Moves K) :=
  fun_thm hB (o_ref20_Moves_0 K) Try.func23 (body := b_ref20_Moves) rfl (p_ref20_Moves K) (rs := [.tmp 4, .tmp 5]) rfl (Nat.le_of_ble_eq_true (by kernel_rfl)) (fun x => by kernel_rfl)
noncomputable def fs_ref20_Moves (K : Nat) : List (Nat × Piece) := (23, p_ref20_Moves K) :: fs_ref20_longest K
theorem base_ref20_Moves (K : Nat) : Base Try.prog tabs (fs_ref20_Moves K) := ⟨(base_ref20_longest K).mixed, (base_ref20_longest K).tabs, FnsOk.cons (s_ref20_Moves K (base_ref20_longest K)) (by kernel_rfl) (base_ref20_longest K).fns⟩
/-! "selfstab/selfstabref20.Schedule" -/
noncomputable def b_ref20_Schedule : Code := codeOf Try.f18
noncomputable def c_ref20_Schedule_0 (K : Nat) : List (Nat × Piece) := []
theorem o_ref20_Schedule_0 (K : Nat) : PcsOk Try.prog b_ref20_Schedule (c_ref20_Schedule_0 K) := PcsOk.nil
def ref20_Schedule_32404 (K : Nat) : (k : Nat) → (x8 : (List Int)) → (x11 : Int) → (x12 : Int) → (o0 : ((List Int) × ((List (List (Int × (Int × Unit)))) × Unit))) → Option ((Int × Unit) × (((List Int) × ((List (List (Int × (Int × Unit)))) × Unit)) × Unit))
  | 0, _, _, _, _ => none
  | k + 1, x8, x11, x12, o0 =>
    if decide (0 ≤ x11 ∧ x11 < (x8.length : Int)) then
      if decide (0 ≤ x11 ∧ x11 < (o0.2.1.length : Int)) then
        if decide (0 ≤ x12 ∧ x12 < ((o0.2.1.getD x11.toNat []).length : Int)) then
          (ref15_Count K (((o0.2.1.getD x11.toNat []).getD x12.toNat (0, (0, ()))).1)).bind fun y4 =>
            if decide (0 ≤ x11 ∧ x11 < (o0.2.1.length : Int)) then
              if decide (0 ≤ x12 ∧ x12 < ((o0.2.1.getD x11.toNat []).length : Int)) then
                if decide (0 ≤ (((o0.2.1.getD x11.toNat []).getD x12.toNat (0, (0, ()))).2).1 ∧ (((o0.2.1.getD x11.toNat []).getD x12.toNat (0, (0, ()))).2).1 < (x8.length : Int)) then
                  if !decide ((x8.getD x11.toNat 0) = (IntKind.i64.wrap (y4.1.1 + (x8.getD (((((o0.2.1.getD x11.toNat []).getD x12.toNat (0, (0, ()))).2).1).toNat) 0)))) then
                    ref20_Schedule_32404 K k x8 x11 (IntKind.i64.wrap (x12 + 1)) o0
                  else
                    some ((x12, ()), (o0, ()))
                else
                  none
              else
                none
            else
              none
        else
          none
      else
        none
    else
      none
@[reducible] def p_ref20_Schedule_32404 (K k : Nat) : Piece := { slots := [(3, (.ref 0 (.pair (.slice (.int .u32)) (.pair (.slice (.slice (.pair (.int .u32) (.pair (.int .i64) .unit)))) .unit)))), (8, (.v (.slice (.int .i64)))), (11, (.v (.int .i64))), (12, (.v (.int .i64)))], objs := [(.box (.pair (.slice (.int .u32)) (.pair (.slice (.slice (.pair (.int .u32) (.pair (.int .i64) .unit)))) .unit)) (.v (.pair (.slice (.int .u32)) (.pair (.slice (.slice (.pair (.int .u32) (.pair (.int .i64) .unit)))) .unit))))], outs := [{ ex := (.exit 2), slots := [(12, (.v (.int .i64)))], objs := [(some 0, (.box (.pair (.slice (.int .u32)) (.pair (.slice (.slice (.pair (.int .u32) (.pair (.int .i64) .unit)))) .unit)) (.v (.pair (.slice (.int .u32)) (.pair (.slice (.slice (.pair (.int .u32) (.pair (.int .i64) .unit)))) .unit)))))] }], asg := [12, 34, 35, 36, 37, 38, 39, 40, 41, 42, 43, 44, 45, 46, 47, 48, 49, 50, 51, 52, 53, 54, 55, 56, 57, 58, 59, 60, 61, 62, 63], nt := 86, fn := fun x => ref20_Schedule_32404 K k x.1.2.1 x.1.2.2.1 x.1.2.2.2.1 x.2.1 }
theorem k_ref20_Schedule_32404 (K : Nat) (hB : Base Try.prog tabs (fs_ref20_Moves K)) : PcOk Try.prog (codeAt b_ref20_Schedule 32404) (p_ref20_Schedule_32404 K K) :=
  loop_thm hB (o_ref20_Schedule_0 K) 32404 (p_ref20_Schedule_32404 K 0) (l := fun k x => ref20_Schedule_32404 K k x.1.2.1 x.1.2.2.1 x.1.2.2.2.1 x.2.1) (c := codeAt b_ref20_Schedule 64808) (by kernel_rfl) (by kernel_rfl) (by kernel_rfl) (by kernel_rfl) (fun x => by kernel_rfl) (fun k x => by kernel_rfl) K
noncomputable def c_ref20_Schedule_32404 (K : Nat) : List (Nat × Piece) := (32404, p_ref20_Schedule_32404 K K) :: c_ref20_Schedule_0 K
theorem o_ref20_Schedule_32404 (K : Nat) (hB : Base Try.prog tabs (fs_ref20_Moves K)) : PcsOk Try.prog b_ref20_Schedule (c_ref20_Schedule_32404 K) := PcsOk.cons (k_ref20_Schedule_32404 K hB) (o_ref20_Schedule_0 K)
def ref20_Schedule_506 (K : Nat) : (k : Nat) → (x1 : (List Bool)) → (x8 : (List Int)) → (x11 : Int) → (o0 : ((List Int) × ((List (List (Int × (Int × Unit)))) × Unit))) → (o1 : (List Int)) → Option ((Unit × Unit) × ((List Int) × Unit))
  | 0, _, _, _, _, _ => none
  | k + 1, x1, x8, x11, o0, o1 =>
    if decide (0 ≤ x11 ∧ x11 < (x1.length : Int)) then
      if !(x1.getD x11.toNat false) then
        (ref20_Schedule_32404 K K x8 x11 0 o0).bind fun y2 =>
          if decide (0 ≤ x11 ∧ x11 < (y2.2.1.2.1.length : Int)) then
            if decide (0 ≤ y2.1.1 ∧ y2.1.1 < ((y2.2.1.2.1.getD x11.toNat []).length : Int)) then
              if decide (o1.length + ([((y2.2.1.2.1.getD x11.toNat []).getD y2.1.1.toNat (0, (0, ()))).1]).length ≤ 4294967296) then
                if decide (0 ≤ x11 ∧ x11 < (y2.2.1.2.1.length : Int)) then
                  if decide (0 ≤ y2.1.1 ∧ y2.1.1 < ((y2.2.1.2.1.getD x11.toNat []).length : Int)) then
                    ref20_Schedule_506 K k x1 x8 ((((y2.2.1.2.1.getD x11.toNat []).getD y2.1.1.toNat (0, (0, ()))).2).1) y2.2.1 (o1 ++ [((y2.2.1.2.1.getD x11.toNat []).getD y2.1.1.toNat (0, (0, ()))).1])
                  else
                    none
                else
                  none
              else
                none
            else
              none
          else
            none
      else
        some (((), ()), (o1, ()))
    else
      none
@[reducible] def p_ref20_Schedule_506 (K k : Nat) : Piece := { slots := [(1, (.v (.slice .bool))), (3, (.ref 0 (.pair (.slice (.int .u32)) (.pair (.slice (.slice (.pair (.int .u32) (.pair (.int .i64) .unit)))) .unit)))), (8, (.v (.slice (.int .i64)))), (10, (.href 1)), (11, (.v (.int .i64)))], objs := [(.box (.pair (.slice (.int .u32)) (.pair (.slice (.slice (.pair (.int .u32) (.pair (.int .i64) .unit)))) .unit)) (.v (.pair (.slice (.int .u32)) (.pair (.slice (.slice (.pair (.int .u32) (.pair (.int .i64) .unit)))) .unit)))), (.row (.int .u32))], outs := [{ ex := (.exit 0), slots := [(10, (.href 0))], objs := [(none, (.row (.int .u32)))] }], asg := [10, 11, 12, 29, 30, 31, 32, 33, 34, 35, 36, 37, 38, 39, 40, 41, 42, 43, 44, 45, 46, 47, 48, 49, 50, 51, 52, 53, 54, 55, 56, 57, 58, 59, 60, 61, 62, 63, 64, 65, 66, 67, 68, 69, 70, 71, 72, 73, 74, 75, 76, 77, 78, 79, 80, 81, 82, 83, 84], nt := 86, fn := fun x => ref20_Schedule_506 K k x.1.1 x.1.2.2.1 x.1.2.2.2.2.1 x.2.1 x.2.2.1 }
theorem k_ref20_Schedule_506 (K : Nat) (hB : Base Try.prog tabs (fs_ref20_Moves K)) : PcOk Try.prog (codeAt b_ref20_Schedule 506) (p_ref20_Schedule_506 K K) :=
  loop_thm hB (o_ref20_Schedule_32404 K hB) 506 (p_ref20_Schedule_506 K 0) (l := fun k x => ref20_Schedule_506 K k x.1.1 x.1.2.2.1 x.1.2.2.2.2.1 x.2.1 x.2.2.1) (c := codeAt b_ref20_Schedule 1012) (by kernel_rfl) (by kernel_rfl) (by kernel_rfl) (by kernel_rfl) (fun x => by kernel_rfl) (fun k x => by kernel_rfl) K
noncomputable def c_ref20_Schedule_506 (K : Nat) : List (Nat × Piece) := (506, p_ref20_Schedule_506 K K) :: c_ref20_Schedule_32404 K
theorem o_ref20_Schedule_506 (K : Nat) (hB : Base Try.prog tabs (fs_ref20_Moves K)) : PcsOk Try.prog b_ref20_Schedule (c_ref20_Schedule_506 K) := PcsOk.cons (k_ref20_Schedule_506 K hB) (o_ref20_Schedule_32404 K hB)
def ref20_Schedule (K : Nat) (x0 : ((List Int) × ((List (List (Int × (Int × Unit)))) × Unit))) (x1 : (List Bool)) (x2 : Int) : Option (((Unit × (Int × Unit)) × Unit) × ((List Int) × Unit)) :=
  (ref20_Moves K x0 x1).bind fun y2 =>
    if !decide (y2.1.1.2.1 = 0) then
      some ((((), (y2.1.1.2.1, ())), ()), ([], ()))
    else
      (ref01_In K x2 0 (IntKind.i64.wrap ((y2.2.1.length : Int) - 1))).bind fun y6 =>
        if !y6.1.1 then
          some ((((), (2, ())), ()), ([], ()))
        else
          (ref20_Schedule_506 K K x1 y2.2.1 x2 x0 []).bind fun y8 =>
            some ((((), (0, ())), ()), (y8.2.1, ()))
@[reducible] def p_ref20_Schedule (K : Nat) : Piece := { slots := [(0, (.v (.pair (.slice (.int .u32)) (.pair (.slice (.slice (.pair (.int .u32) (.pair (.int .i64) .unit)))) .unit)))), (1, (.v (.slice .bool))), (2, (.v (.int .i64)))], objs := [], outs := [{ ex := .ret, slots := [(0, (.tup (.cons (.href 0) (.cons (.v (.int .i64)) .nil))))], objs := [(none, (.row (.int .u32)))] }], asg := [], nt := 86, fn := fun x => ref20_Schedule K x.1.1 x.1.2.1 x.1.2.2.1 }
theorem s_ref20_Schedule (K : Nat) (hB : Base Try.prog tabs (fs_ref20_Moves K)) : FnSound Try.prog 18 (p_ref20_Schedule K) :=
  fun_thm hB (o_ref20_Schedule_506 K hB) Try.func18 (body := b_ref20_Schedule) rfl (p_ref20_Schedule K) (rs := [.tmp 6, .tmp 7]) rfl (Nat.le_of_ble_eq_true (by kernel_rfl)) (fun x => by kernel_rfl)
noncomputable def fs_ref20_Schedule (K : Nat) : List (Nat × Piece) := (18, p_ref20_Schedule K) :: fs_ref20_Moves K
theorem base_ref20_Schedule (K : Nat) : Base Try.prog tabs (fs_ref20_Schedule K) := ⟨(base_ref20_Moves K).mixed, (base_ref20_Moves K).tabs, FnsOk.cons (s_ref20_Schedule K (base_ref20_Moves K)) (by kernel_rfl) (base_ref20_Moves K).fns⟩
/-! "selfstab/selfstablaw20.WorstSchedules" -/
noncomputable def b_law20_WorstSchedules : Code := codeOf Try.f4
noncomputable def c_law20_WorstSchedules_0 (K : Nat) : List (Nat × Piece) := []
theorem o_law20_WorstSchedules_0 (K : Nat) : PcsOk Try.prog b_law20_WorstSchedules (c_law20_WorstSchedules_0 K) := PcsOk.nil
def law20_WorstSchedules (K : Nat) (x0 : ((List Int) × ((List (List (Int × (Int × Unit)))) × Unit))) (x1 : (List Bool)) (x2 : Int) : Option ((Bool × Unit) × Unit) :=
  (law20_light K x0 x1).bind fun y5 =>
    if !y5.1.1 then
      (law20_awake K).bind fun y6 =>
        some ((y6.1.1, ()), ())
    else
      (worst_Schedule K x0 x1 x2).bind fun y8 =>
        (ref20_Schedule K x0 x1 x2).bind fun y10 =>
          (law20_awake K).bind fun y11 =>
            if y11.1.1 then
              (ref15_Same K y8.2.1 y10.2.1).bind fun y12 =>
                if y12.1.1 then
                  some ((decide (y8.1.1.2.1 = y10.1.1.2.1), ()), ())
                else
                  some ((false, ()), ())
            else
              some ((false, ()), ())
@[reducible] def p_law20_WorstSchedules (K : Nat) : Piece := { slots := [(0, (.v (.pair (.slice (.int .u32)) (.pair (.slice (.slice (.pair (.int .u32) (.pair (.int .i64) .unit)))) .unit)))), (1, (.v (.slice .bool))), (2, (.v (.int .i64)))], objs := [], outs := [{ ex := .ret, slots := [(0, (.v .bool))], objs := [] }], asg := [], nt := 41, fn := fun x => law20_WorstSchedules K x.1.1 x.1.2.1 x.1.2.2.1 }
theorem s_law20_WorstSchedules (K : Nat) (hB : Base Try.prog tabs (fs_ref20_Schedule K)) : FnSound Try.prog 4 (p_law20_WorstSchedules K) :=
  fun_thm hB (o_law20_WorstSchedules_0 K) Try.func4 (body := b_law20_WorstSchedules) rfl (p_law20_WorstSchedules K) (rs := [.tmp 6]) rfl (Nat.le_of_ble_eq_true (by kernel_rfl)) (fun x => by kernel_rfl)
noncomputable def fs_law20_WorstSchedules (K : Nat) : List (Nat × Piece) := (4, p_law20_WorstSchedules K) :: fs_ref20_Schedule K
theorem base_law20_WorstSchedules (K : Nat) : Base Try.prog tabs (fs_law20_WorstSchedules K) := ⟨(base_ref20_Schedule K).mixed, (base_ref20_Schedule K).tabs, FnsOk.cons (s_law20_WorstSchedules K (base_ref20_Schedule K)) (by kernel_rfl) (base_ref20_Schedule K).fns⟩
theorem law_law20_WorstSchedules (K : Nat) : FnSound Try.prog 4 (p_law20_WorstSchedules K) := s_law20_WorstSchedules K (base_ref20_Schedule K)
/-! "selfstab/selfstabref20.Steps" -/
noncomputable def b_ref20_Steps : Code := codeOf Try.f21
noncomputable def c_ref20_Steps_0 (K : Nat) : List (Nat × Piece) := []
theorem o_ref20_Steps_0 (K : Nat) : PcsOk Try.prog b_ref20_Steps (c_ref20_Steps_0 K) := PcsOk.nil
def ref20_Steps (K : Nat) (x0 : ((List Int) × ((List (List (Int × (Int × Unit)))) × Unit))) (x1 : (List Bool)) : Option (((Unit × (Int × Unit)) × Unit) × ((List Int) × Unit)) :=
  (ref20_begin K x0 x1).bind fun y4 =>
    if !decide (y4.1.1 = 0) then
      some ((((), (y4.1.1, ())), ()), ([], ()))
    else
      (ref20_longest K x0 x1 false).bind fun y5 =>
        some ((((), (0, ())), ()), (y5.2.1, ()))
@[reducible] def p_ref20_Steps (K : Nat) : Piece := { slots := [(0, (.v (.pair (.slice (.int .u32)) (.pair (.slice (.slice (.pair (.int .u32) (.pair (.int .i64) .unit)))) .unit)))), (1, (.v (.slice .bool)))], objs := [], outs := [{ ex := .ret, slots := [(0, (.tup (.cons (.href 0) (.cons (.v (.int .i64)) .nil))))], objs := [(none, (.row (.int .i64)))] }], asg := [], nt := 16, fn := fun x => ref20_Steps K x.1.1 x.1.2.1 }
theorem s_ref20_Steps (K : Nat) (hB : Base Try.prog tabs (fs_law20_WorstSchedules K)) : FnSound Try.prog 21 (p_ref20_Steps K) :=
  fun_thm hB (o_ref20_Steps_0 K) Try.func21 (body := b_ref20_Steps) rfl (p_ref20_Steps K) (rs := [.tmp 4, .tmp 5]) rfl (Nat.le_of_ble_eq_true (by kernel_rfl)) (fun x => by kernel_rfl)
noncomputable def fs_ref20_Steps (K : Nat) : List (Nat × Piece) := (21, p_ref20_Steps K) :: fs_law20_WorstSchedules K
theorem base_ref20_Steps (K : Nat) : Base Try.prog tabs (fs_ref20_Steps K) := ⟨(base_law20_WorstSchedules K).mixed, (base_law20_WorstSchedules K).tabs, FnsOk.cons (s_ref20_Steps K (base_law20_WorstSchedules K)) (by kernel_rfl) (base_law20_WorstSchedules K).fns⟩
/-! "selfstab/worst.Moves" -/
noncomputable def b_worst_Moves : Code := codeOf Try.f22
noncomputable def c_worst_Moves_0 (K : Nat) : List (Nat × Piece) := []
theorem o_worst_Moves_0 (K : Nat) : PcsOk Try.prog b_worst_Moves (c_worst_Moves_0 K) := PcsOk.nil
def worst_Moves (K : Nat) (x0 : ((List Int) × ((List (List (Int × (Int × Unit)))) × Unit))) (x1 : (List Bool)) : Option (((Unit × (Int × Unit)) × Unit) × ((List Int) × Unit)) :=
  (worst_check K x0 x1).bind fun y4 =>
    if !decide (y4.1.1 = 0) then
      some ((((), (y4.1.1, ())), ()), ([], ()))
    else
      (worst_longest_v2 K x0 x1).bind fun y5 =>
        some ((((), (0, ())), ()), (y5.2.1, ()))
@[reducible] def p_worst_Moves (K : Nat) : Piece := { slots := [(0, (.v (.pair (.slice (.int .u32)) (.pair (.slice (.slice (.pair (.int .u32) (.pair (.int .i64) .unit)))) .unit)))), (1, (.v (.slice .bool)))], objs := [], outs := [{ ex := .ret, slots := [(0, (.tup (.cons (.href 0) (.cons (.v (.int .i64)) .nil))))], objs := [(none, (.row (.int .i64)))] }], asg := [], nt := 16, fn := fun x => worst_Moves K x.1.1 x.1.2.1 }
theorem s_worst_Moves (K : Nat) (hB : Base Try.prog tabs (fs_ref20_Steps K)) : FnSound Try.prog 22 (p_worst_Moves K) :=
  fun_thm hB (o_worst_Moves_0 K) Try.func22 (body := b_worst_Moves) rfl (p_worst_Moves K) (rs := [.tmp 4, .tmp 5]) rfl (Nat.le_of_ble_eq_true (by kernel_rfl)) (fun x => by kernel_rfl)
noncomputable def fs_worst_Moves (K : Nat) : List (Nat × Piece) := (22, p_worst_Moves K) :: fs_ref20_Steps K
theorem base_worst_Moves (K : Nat) : Base Try.prog tabs (fs_worst_Moves K) := ⟨(base_ref20_Steps K).mixed, (base_ref20_Steps K).tabs, FnsOk.cons (s_worst_Moves K (base_ref20_Steps K)) (by kernel_rfl) (base_ref20_Steps K).fns⟩
/-! "selfstab/selfstablaw20.WorstMeasures" -/
noncomputable def b_law20_WorstMeasures : Code := codeOf Try.f5
noncomputable def c_law20_WorstMeasures_0 (K : Nat) : List (Nat × Piece) := []
theorem o_law20_WorstMeasures_0 (K : Nat) : PcsOk Try.prog b_law20_WorstMeasures (c_law20_WorstMeasures_0 K) := PcsOk.nil
def law20_WorstMeasures (K : Nat) (x0 : ((List Int) × ((List (List (Int × (Int × Unit)))) × Unit))) (x1 : (List Bool)) : Option ((Bool × Unit) × Unit) :=
  (law20_light K x0 x1).bind fun y5 =>
    if !y5.1.1 then
      (law20_awake K).bind fun y6 =>
        some ((y6.1.1, ()), ())
    else
      (worst_Steps K x0 x1).bind fun y8 =>
        (ref20_Steps K x0 x1).bind fun y10 =>
          (worst_Moves K x0 x1).bind fun y12 =>
            (ref20_Moves K x0 x1).bind fun y14 =>
              (law20_awake K).bind fun y15 =>
                if y15.1.1 then
                  (ref01_SameInts K y8.2.1 y10.2.1).bind fun y16 =>
                    if y16.1.1 then
                      if decide (y8.1.1.2.1 = y10.1.1.2.1) then
                        (ref01_SameInts K y12.2.1 y14.2.1).bind fun y17 =>
                          if y17.1.1 then
                            some ((decide (y12.1.1.2.1 = y14.1.1.2.1), ()), ())
                          else
                            some ((false, ()), ())
                      else
                        some ((false, ()), ())
                    else
                      some ((false, ()), ())
                else
                  some ((false, ()), ())
@[reducible] def p_law20_WorstMeasures (K : Nat) : Piece := { slots := [(0, (.v (.pair (.slice (.int .u32)) (.pair (.slice (.slice (.pair (.int .u32) (.pair (.int .i64) .unit)))) .unit)))), (1, (.v (.slice .bool)))], objs := [], outs := [{ ex := .ret, slots := [(0, (.v .bool))], objs := [] }], asg := [], nt := 63, fn := fun x => law20_WorstMeasures K x.1.1 x.1.2.1 }
theorem s_law20_WorstMeasures (K : Nat) (hB : Base Try.prog tabs (fs_worst_Moves K)) : FnSound Try.prog 5 (p_law20_WorstMeasures K) :=
  fun_thm hB (o_law20_WorstMeasures_0 K) Try.func5 (body := b_law20_WorstMeasures) rfl (p_law20_WorstMeasures K) (rs := [.tmp 4]) rfl (Nat.le_of_ble_eq_true (by kernel_rfl)) (fun x => by kernel_rfl)
noncomputable def fs_law20_WorstMeasures (K : Nat) : List (Nat × Piece) := (5, p_law20_WorstMeasures K) :: fs_worst_Moves K
theorem base_law20_WorstMeasures (K : Nat) : Base Try.prog tabs (fs_law20_WorstMeasures K) := ⟨(base_worst_Moves K).mixed, (base_worst_Moves K).tabs, FnsOk.cons (s_law20_WorstMeasures K (base_worst_Moves K)) (by kernel_rfl) (base_worst_Moves K).fns⟩
theorem law_law20_WorstMeasures (K : Nat) : FnSound Try.prog 5 (p_law20_WorstMeasures K) := s_law20_WorstMeasures K (base_worst_Moves K)
/-! "selfstab/selfstablaw20.fair" -/
noncomputable def b_law20_fair : Code := codeOf Try.f24
noncomputable def c_law20_fair_0 (K : Nat) : List (Nat × Piece) := []
theorem o_law20_fair_0 (K : Nat) : PcsOk Try.prog b_law20_fair (c_law20_fair_0 K) := PcsOk.nil
def law20_fair (K : Nat) (x0 : ((List Int) × ((List (List (Int × (Int × Unit)))) × Unit))) (x1 : (List Bool)) : Option ((Bool × Unit) × Unit) :=
  (law20_light K x0 x1).bind fun y7 =>
    if !y7.1.1 then
      some ((false, ()), ())
    else
      (ref18_Valid K x0).bind fun y8 =>
        if !y8.1.1 then
          some ((false, ()), ())
        else
          if !decide ((x1.length : Int) = (x0.1.length : Int)) then
            some ((false, ()), ())
          else
            (ref19_Core K x0 x1).bind fun y10 =>
              (ref19_Any K y10.2.1).bind fun y11 =>
                some ((!y11.1.1, ()), ())
@[reducible] def p_law20_fair (K : Nat) : Piece := { slots := [(0, (.v (.pair (.slice (.int .u32)) (.pair (.slice (.slice (.pair (.int .u32) (.pair (.int .i64) .unit)))) .unit)))), (1, (.v (.slice .bool)))], objs := [], outs := [{ ex := .ret, slots := [(0, (.v .bool))], objs := [] }], asg := [], nt := 33, fn := fun x => law20_fair K x.1.1 x.1.2.1 }
theorem s_law20_fair (K : Nat) (hB : Base Try.prog tabs (fs_law20_WorstMeasures K)) : FnSound Try.prog 24 (p_law20_fair K) :=
  fun_thm hB (o_law20_fair_0 K) Try.func24 (body := b_law20_fair) rfl (p_law20_fair K) (rs := [.tmp 4]) rfl (Nat.le_of_ble_eq_true (by kernel_rfl)) (fun x => by kernel_rfl)
noncomputable def fs_law20_fair (K : Nat) : List (Nat × Piece) := (24, p_law20_fair K) :: fs_law20_WorstMeasures K
theorem base_law20_fair (K : Nat) : Base Try.prog tabs (fs_law20_fair K) := ⟨(base_law20_WorstMeasures K).mixed, (base_law20_WorstMeasures K).tabs, FnsOk.cons (s_law20_fair K (base_law20_WorstMeasures K)) (by kernel_rfl) (base_law20_WorstMeasures K).fns⟩
/-! "selfstab/selfstablaw20.WorstIsRecursive" -/
noncomputable def b_law20_WorstIsRecursive : Code := codeOf Try.f6
noncomputable def c_law20_WorstIsRecursive_0 (K : Nat) : List (Nat × Piece) := []
theorem o_law20_WorstIsRecursive_0 (K : Nat) : PcsOk Try.prog b_law20_WorstIsRecursive (c_law20_WorstIsRecursive_0 K) := PcsOk.nil
def law20_WorstIsRecursive_129610 (K : Nat) : (k : Nat) → (x1 : (List Bool)) → (x5 : (List Int)) → (x7 : (List Int)) → (x9 : Int) → (x10 : Int) → (x11 : Int) → (x12 : Int) → (o0 : ((List Int) × ((List (List (Int × (Int × Unit)))) × Unit))) → Option ((Int × (Int × Unit)) × (((List Int) × ((List (List (Int × (Int × Unit)))) × Unit)) × Unit))
  | 0, _, _, _, _, _, _, _, _ => none
  | k + 1, x1, x5, x7, x9, x10, x11, x12, o0 =>
    if decide (0 ≤ x9 ∧ x9 < (o0.2.1.length : Int)) then
      if decide (x12 < ((o0.2.1.getD x9.toNat []).length : Int)) then
        if decide (0 ≤ x9 ∧ x9 < (x1.length : Int)) then
          if !(x1.getD x9.toNat false) then
            if decide (0 ≤ x9 ∧ x9 < (o0.2.1.length : Int)) then
              if decide (0 ≤ x12 ∧ x12 < ((o0.2.1.getD x9.toNat []).length : Int)) then
                if decide (0 ≤ (((o0.2.1.getD x9.toNat []).getD x12.toNat (0, (0, ()))).2).1 ∧ (((o0.2.1.getD x9.toNat []).getD x12.toNat (0, (0, ()))).2).1 < (x5.length : Int)) then
                  (ref15_Count K (((o0.2.1.getD x9.toNat []).getD x12.toNat (0, (0, ()))).1)).bind fun y2 =>
                    if decide (0 ≤ (((o0.2.1.getD x9.toNat []).getD x12.toNat (0, (0, ()))).2).1 ∧ (((o0.2.1.getD x9.toNat []).getD x12.toNat (0, (0, ()))).2).1 < (x7.length : Int)) then
                      law20_WorstIsRecursive_129610 K k x1 x5 x7 x9 (if IntKind.i64.wrap (1 + (x5.getD (((((o0.2.1.getD x9.toNat []).getD x12.toNat (0, (0, ()))).2).1).toNat) 0)) > x10 then IntKind.i64.wrap (1 + (x5.getD (((((o0.2.1.getD x9.toNat []).getD x12.toNat (0, (0, ()))).2).1).toNat) 0)) else x10) (if IntKind.i64.wrap (y2.1.1 + (x7.getD (((((o0.2.1.getD x9.toNat []).getD x12.toNat (0, (0, ()))).2).1).toNat) 0)) > x11 then IntKind.i64.wrap (y2.1.1 + (x7.getD (((((o0.2.1.getD x9.toNat []).getD x12.toNat (0, (0, ()))).2).1).toNat) 0)) else x11) (IntKind.i64.wrap (x12 + 1)) o0
                    else
                      none
                else
                  none
              else
                none
            else
              none
          else
            some ((x10, (x11, ())), (o0, ()))
        else
          none
      else
        some ((x10, (x11, ())), (o0, ()))
    else
      none
@[reducible] def p_law20_WorstIsRecursive_129610 (K k : Nat) : Piece := { slots := [(1, (.v (.slice .bool))), (2, (.ref 0 (.pair (.slice (.int .u32)) (.pair (.slice (.slice (.pair (.int .u32) (.pair (.int .i64) .unit)))) .unit)))), (5, (.v (.slice (.int .i64)))), (7, (.v (.slice (.int .i64)))), (9, (.v (.int .i64))), (10, (.v (.int .i64))), (11, (.v (.int .i64))), (12, (.v (.int .i64)))], objs := [(.box (.pair (.slice (.int .u32)) (.pair (.slice (.slice (.pair (.int .u32) (.pair (.int .i64) .unit)))) .unit)) (.v (.pair (.slice (.int .u32)) (.pair (.slice (.slice (.pair (.int .u32) (.pair (.int .i64) .unit)))) .unit))))], outs := [{ ex := (.exit 2), slots := [(10, (.v (.int .i64))), (11, (.v (.int .i64)))], objs := [(some 0, (.box (.pair (.slice (.int .u32)) (.pair (.slice (.slice (.pair (.int .u32) (.pair (.int .i64) .unit)))) .unit)) (.v (.pair (.slice (.int .u32)) (.pair (.slice (.slice (.pair (.int .u32) (.pair (.int .i64) .unit)))) .unit)))))] }], asg := [10, 11, 12, 13, 57, 58, 59, 60, 61, 62, 63, 64, 65, 66, 67, 68, 69, 70, 71, 72, 73, 74, 75, 76, 77, 78, 79, 80, 81, 82, 83, 84, 85, 86, 87, 88, 89, 90, 91, 92, 93, 94, 95, 96, 97, 98, 99, 100], nt := 116, fn := fun x => law20_WorstIsRecursive_129610 K k x.1.1 x.1.2.2.1 x.1.2.2.2.1 x.1.2.2.2.2.1 x.1.2.2.2.2.2.1 x.1.2.2.2.2.2.2.1 x.1.2.2.2.2.2.2.2.1 x.2.1 }
theorem k_law20_WorstIsRecursive_129610 (K : Nat) (hB : Base Try.prog tabs (fs_law20_fair K)) : PcOk Try.prog (codeAt b_law20_WorstIsRecursive 129610) (p_law20_WorstIsRecursive_129610 K K) :=
  loop_thm hB (o_law20_WorstIsRecursive_0 K) 129610 (p_law20_WorstIsRecursive_129610 K 0) (l := fun k x => law20_WorstIsRecursive_129610 K k x.1.1 x.1.2.2.1 x.1.2.2.2.1 x.1.2.2.2.2.1 x.1.2.2.2.2.2.1 x.1.2.2.2.2.2.2.1 x.1.2.2.2.2.2.2.2.1 x.2.1) (c := codeAt b_law20_WorstIsRecursive 259220) (by kernel_rfl) (by kernel_rfl) (by kernel_rfl) (by kernel_rfl) (fun x => by kernel_rfl) (fun k x => by kernel_rfl) K
noncomputable def c_law20_WorstIsRecursive_129610 (K : Nat) : List (Nat × Piece) := (129610, p_law20_WorstIsRecursive_129610 K K) :: c_law20_WorstIsRecursive_0 K
theorem o_law20_WorstIsRecursive_129610 (K : Nat) (hB : Base Try.prog tabs (fs_law20_fair K)) : PcsOk Try.prog b_law20_WorstIsRecursive (c_law20_WorstIsRecursive_129610 K) := PcsOk.cons (k_law20_WorstIsRecursive_129610 K hB) (o_law20_WorstIsRecursive_0 K)
def law20_WorstIsRecursive_506 (K : Nat) : (k : Nat) → (x1 : (List Bool)) → (x5 : (List Int)) → (x7 : (List Int)) → (x9 : Int) → (o0 : ((List Int) × ((List (List (Int × (Int × Unit)))) × Unit))) → Option ((Unit × Unit) ⊕ ((Bool × Unit) × Unit))
  | 0, _, _, _, _, _ => none
  | k + 1, x1, x5, x7, x9, o0 =>
    if decide (x9 < (x1.length : Int)) then
      (law20_WorstIsRecursive_129610 K K x1 x5 x7 x9 0 0 0 o0).bind fun y4 =>
        if decide (0 ≤ x9 ∧ x9 < (x5.length : Int)) then
          if !decide ((x5.getD x9.toNat 0) = y4.1.1) then
            some (.inr ((false, ()), ()))
          else
            if decide (0 ≤ x9 ∧ x9 < (x7.length : Int)) then
              if !decide ((x7.getD x9.toNat 0) = y4.1.2.1) then
                some (.inr ((false, ()), ()))
              else
                law20_WorstIsRecursive_506 K k x1 x5 x7 (IntKind.i64.wrap (x9 + 1)) y4.2.1
            else
              none
        else
          none
    else
      some (.inl ((), ()))
@[reducible] def p_law20_WorstIsRecursive_506 (K k : Nat) : Piece := { slots := [(1, (.v (.slice .bool))), (2, (.ref 0 (.pair (.slice (.int .u32)) (.pair (.slice (.slice (.pair (.int .u32) (.pair (.int .i64) .unit)))) .unit)))), (5, (.v (.slice (.int .i64)))), (7, (.v (.slice (.int .i64)))), (9, (.v (.int .i64)))], objs := [(.box (.pair (.slice (.int .u32)) (.pair (.slice (.slice (.pair (.int .u32) (.pair (.int .i64) .unit)))) .unit)) (.v (.pair (.slice (.int .u32)) (.pair (.slice (.slice (.pair (.int .u32) (.pair (.int .i64) .unit)))) .unit))))], outs := [{ ex := (.exit 0), slots := [], objs := [] }, { ex := .ret, slots := [(4, (.v .bool))], objs := [] }], asg := [4, 9, 10, 11, 12, 13, 51, 52, 53, 54, 55, 56, 57, 58, 59, 60, 61, 62, 63, 64, 65, 66, 67, 68, 69, 70, 71, 72, 73, 74, 75, 76, 77, 78, 79, 80, 81, 82, 83, 84, 85, 86, 87, 88, 89, 90, 91, 92, 93, 94, 95, 96, 97, 98, 99, 100, 101, 102, 103, 104, 105, 106, 107, 108, 109, 110, 111, 112, 113, 114], nt := 116, fn := fun x => law20_WorstIsRecursive_506 K k x.1.1 x.1.2.2.1 x.1.2.2.2.1 x.1.2.2.2.2.1 x.2.1 }
theorem k_law20_WorstIsRecursive_506 (K : Nat) (hB : Base Try.prog tabs (fs_law20_fair K)) : PcOk Try.prog (codeAt b_law20_WorstIsRecursive 506) (p_law20_WorstIsRecursive_506 K K) :=
  loop_thm hB (o_law20_WorstIsRecursive_129610 K hB) 506 (p_law20_WorstIsRecursive_506 K 0) (l := fun k x => law20_WorstIsRecursive_506 K k x.1.1 x.1.2.2.1 x.1.2.2.2.1 x.1.2.2.2.2.1 x.2.1) (c := codeAt b_law20_WorstIsRecursive 1012) (by kernel_rfl) (by kernel_rfl) (by kernel_rfl) (by kernel_rfl) (fun x => by kernel_rfl) (fun k x => by kernel_rfl) K
noncomputable def c_law20_WorstIsRecursive_506 (K : Nat) : List (Nat × Piece) := (506, p_law20_WorstIsRecursive_506 K K) :: c_law20_WorstIsRecursive_129610 K
theorem o_law20_WorstIsRecursive_506 (K : Nat) (hB : Base Try.prog tabs (fs_law20_fair K)) : PcsOk Try.prog b_law20_WorstIsRecursive (c_law20_WorstIsRecursive_506 K) := PcsOk.cons (k_law20_WorstIsRecursive_506 K hB) (o_law20_WorstIsRecursive_129610 K hB)
def law20_WorstIsRecursive (K : Nat) (x0 : ((List Int) × ((List (List (Int × (Int × Unit)))) × Unit))) (x1 : (List Bool)) : Option ((Bool × Unit) × Unit) :=
  (law20_fair K x0 x1).bind fun y5 =>
    if !y5.1.1 then
      (law20_awake K).bind fun y6 =>
        some ((y6.1.1, ()), ())
    else
      (worst_Steps K x0 x1).bind fun y8 =>
        (worst_Moves K x0 x1).bind fun y10 =>
          if !decide (y8.1.1.2.1 = 0) then
            some ((false, ()), ())
          else
            if !decide (y10.1.1.2.1 = 0) then
              some ((false, ()), ())
            else
              if !decide ((y8.2.1.length : Int) = (x1.length : Int)) then
                some ((false, ()), ())
              else
                if !decide ((y10.2.1.length : Int) = (x1.length : Int)) then
                  some ((false, ()), ())
                else
                  (law20_WorstIsRecursive_506 K K x1 y8.2.1 y10.2.1 0 x0).bind fun y14 =>
                    match y14 with
                    | .inl y15 =>
                      (law20_awake K).bind fun y17 =>
                        some ((y17.1.1, ()), ())
                    | .inr y16 =>
                      some ((y16.1.1, ()), ())
@[reducible] def p_law20_WorstIsRecursive (K : Nat) : Piece := { slots := [(0, (.v (.pair (.slice (.int .u32)) (.pair (.slice (.slice (.pair (.int .u32) (.pair (.int .i64) .unit)))) .unit)))), (1, (.v (.slice .bool)))], objs := [], outs := [{ ex := .ret, slots := [(0, (.v .bool))], objs := [] }], asg := [], nt := 116, fn := fun x => law20_WorstIsRecursive K x.1.1 x.1.2.1 }
theorem s_law20_WorstIsRecursive (K : Nat) (hB : Base Try.prog tabs (fs_law20_fair K)) : FnSound Try.prog 6 (p_law20_WorstIsRecursive K) :=
  fun_thm hB (o_law20_WorstIsRecursive_506 K hB) Try.func6 (body := b_law20_WorstIsRecursive) rfl (p_law20_WorstIsRecursive K) (rs := [.tmp 4]) rfl (Nat.le_of_ble_eq_true (by kernel_rfl)) (fun x => by kernel_rfl)
noncomputable def fs_law20_WorstIsRecursive (K : Nat) : List (Nat × Piece) := (6, p_law20_WorstIsRecursive K) :: fs_law20_fair K
theorem base_law20_WorstIsRecursive (K : Nat) : Base Try.prog tabs (fs_law20_WorstIsRecursive K) := ⟨(base_law20_fair K).mixed, (base_law20_fair K).tabs, FnsOk.cons (s_law20_WorstIsRecursive K (base_law20_fair K)) (by kernel_rfl) (base_law20_fair K).fns⟩
theorem law_law20_WorstIsRecursive (K : Nat) : FnSound Try.prog 6 (p_law20_WorstIsRecursive K) := s_law20_WorstIsRecursive K (base_law20_fair K)
/-! "selfstab/selfstablaw20.WorstNumbersAreOrdered" -/
noncomputable def b_law20_WorstNumbersAreOrdered : Code := codeOf Try.f7
noncomputable def c_law20_WorstNumbersAreOrdered_0 (K : Nat) : List (Nat × Piece) := []
theorem o_law20_WorstNumbersAreOrdered_0 (K : Nat) : PcsOk Try.prog b_law20_WorstNumbersAreOrdered (c_law20_WorstNumbersAreOrdered_0 K) := PcsOk.nil
def law20_WorstNumbersAreOrdered_253 (K : Nat) (x70 : Bool) : Option ((Unit × Unit) ⊕ ((Bool × Unit) × Unit)) :=
  if x70 then
    some (.inr ((false, ()), ()))
  else
    some (.inl ((), ()))
@[reducible] def p_law20_WorstNumbersAreOrdered_253 (K : Nat) : Piece := { slots := [(70, (.v .bool))], objs := [], outs := [{ ex := .normal, slots := [], objs := [] }, { ex := .ret, slots := [(4, (.v .bool))], objs := [] }], asg := [4], nt := 122, fn := fun x => law20_WorstNumbersAreOrdered_253 K x.1.1 }
theorem k_law20_WorstNumbersAreOrdered_253 (K : Nat) (hB : Base Try.prog tabs (fs_law20_WorstIsRecursive K)) : PcOk Try.prog (codeAt b_law20_WorstNumbersAreOrdered 253) (p_law20_WorstNumbersAreOrdered_253 K) :=
  seg_thm hB (o_law20_WorstNumbersAreOrdered_0 K) 253 (p_law20_WorstNumbersAreOrdered_253 K) (by kernel_rfl) (by kernel_rfl) (by kernel_rfl) (fun x => by kernel_rfl)
noncomputable def c_law20_WorstNumbersAreOrdered_253 (K : Nat) : List (Nat × Piece) := (253, p_law20_WorstNumbersAreOrdered_253 K) :: c_law20_WorstNumbersAreOrdered_0 K
theorem o_law20_WorstNumbersAreOrdered_253 (K : Nat) (hB : Base Try.prog tabs (fs_law20_WorstIsRecursive K)) : PcsOk Try.prog b_law20_WorstNumbersAreOrdered (c_law20_WorstNumbersAreOrdered_253 K) := PcsOk.cons (k_law20_WorstNumbersAreOrdered_253 K hB) (o_law20_WorstNumbersAreOrdered_0 K)
def law20_WorstNumbersAreOrdered_1018 (K : Nat) : (k : Nat) → (x1 : (List Bool)) → (x5 : (List Int)) → (x7 : (List Int)) → (x9 : (List Int)) → (x11 : Int) → Option ((Unit × Unit) ⊕ ((Bool × Unit) × Unit))
  | 0, _, _, _, _, _ => none
  | k + 1, x1, x5, x7, x9, x11 =>
    if decide (x11 < (x1.length : Int)) then
      if decide (0 ≤ x11 ∧ x11 < (x9.length : Int)) then
        if decide (0 ≤ x11 ∧ x11 < (x5.length : Int)) then
          if decide ((x5.getD x11.toNat 0) < (x9.getD x11.toNat 0)) then
            some (.inr ((false, ()), ()))
          else
            if decide (0 ≤ x11 ∧ x11 < (x5.length : Int)) then
              if decide (0 ≤ x11 ∧ x11 < (x7.length : Int)) then
                if decide ((x7.getD x11.toNat 0) < (x5.getD x11.toNat 0)) then
                  some (.inr ((false, ()), ()))
                else
                  if decide (0 ≤ x11 ∧ x11 < (x9.length : Int)) then
                    if decide (0 ≤ x11 ∧ x11 < (x1.length : Int)) then
                      if GTy.beq .bool (decide (0 < (x9.getD x11.toNat 0))) (x1.getD x11.toNat false) then
                        some (.inr ((false, ()), ()))
                      else
                        if decide (0 ≤ x11 ∧ x11 < (x7.length : Int)) then
                          if decide (0 ≤ x11 ∧ x11 < (x1.length : Int)) then
                            if GTy.beq .bool (decide (0 < (x7.getD x11.toNat 0))) (x1.getD x11.toNat false) then
                              some (.inr ((false, ()), ()))
                            else
                              law20_WorstNumbersAreOrdered_1018 K k x1 x5 x7 x9 (IntKind.i64.wrap (x11 + 1))
                          else
                            none
                        else
                          none
                    else
                      none
                  else
                    none
              else
                none
            else
              none
        else
          none
      else
        none
    else
      some (.inl ((), ()))
@[reducible] def p_law20_WorstNumbersAreOrdered_1018 (K k : Nat) : Piece := { slots := [(1, (.v (.slice .bool))), (5, (.v (.slice (.int .i64)))), (7, (.v (.slice (.int .i64)))), (9, (.v (.slice (.int .i64)))), (11, (.v (.int .i64)))], objs := [], outs := [{ ex := (.exit 0), slots := [], objs := [] }, { ex := .ret, slots := [(4, (.v .bool))], objs := [] }], asg := [4, 11, 71, 72, 73, 74, 75, 76, 77, 78, 79, 80, 81, 82, 83, 84, 85, 86, 87, 88, 89, 90, 91, 92, 93, 94, 95, 96, 97, 98, 99, 100, 101, 102, 103, 104, 105, 106, 107, 108, 109, 110, 111, 112, 113, 114, 115, 116, 117, 118, 119, 120], nt := 122, fn := fun x => law20_WorstNumbersAreOrdered_1018 K k x.1.1 x.1.2.1 x.1.2.2.1 x.1.2.2.2.1 x.1.2.2.2.2.1 }
theorem k_law20_WorstNumbersAreOrdered_1018 (K : Nat) (hB : Base Try.prog tabs (fs_law20_WorstIsRecursive K)) : PcOk Try.prog (codeAt b_law20_WorstNumbersAreOrdered 1018) (p_law20_WorstNumbersAreOrdered_1018 K K) :=
  loop_thm hB (o_law20_WorstNumbersAreOrdered_253 K hB) 1018 (p_law20_WorstNumbersAreOrdered_1018 K 0) (l := fun k x => law20_WorstNumbersAreOrdered_1018 K k x.1.1 x.1.2.1 x.1.2.2.1 x.1.2.2.2.1 x.1.2.2.2.2.1) (c := codeAt b_law20_WorstNumbersAreOrdered 2036) (by kernel_rfl) (by kernel_rfl) (by kernel_rfl) (by kernel_rfl) (fun x => by kernel_rfl) (fun k x => by kernel_rfl) K
noncomputable def c_law20_WorstNumbersAreOrdered_1018 (K : Nat) : List (Nat × Piece) := (1018, p_law20_WorstNumbersAreOrdered_1018 K K) :: c_law20_WorstNumbersAreOrdered_253 K
theorem o_law20_WorstNumbersAreOrdered_1018 (K : Nat) (hB : Base Try.prog tabs (fs_law20_WorstIsRecursive K)) : PcsOk Try.prog b_law20_WorstNumbersAreOrdered (c_law20_WorstNumbersAreOrdered_1018 K) := PcsOk.cons (k_law20_WorstNumbersAreOrdered_1018 K hB) (o_law20_WorstNumbersAreOrdered_253 K hB)
def law20_WorstNumbersAreOrdered_127 (K : Nat) (x1 : (List Bool)) (x5 : (List Int)) (x7 : (List Int)) (x9 : (List Int)) : Option ((Bool × Unit) × Unit) :=
  (law20_WorstNumbersAreOrdered_1018 K K x1 x5 x7 x9 0).bind fun y4 =>
    match y4 with
    | .inl y5 =>
      (law20_awake K).bind fun y7 =>
        some ((y7.1.1, ()), ())
    | .inr y6 =>
      some ((y6.1.1, ()), ())
@[reducible] def p_law20_WorstNumbersAreOrdered_127 (K : Nat) : Piece := { slots := [(1, (.v (.slice .bool))), (5, (.v (.slice (.int .i64)))), (7, (.v (.slice (.int .i64)))), (9, (.v (.slice (.int .i64))))], objs := [], outs := [{ ex := .ret, slots := [(4, (.v .bool))], objs := [] }], asg := [4, 11, 71, 72, 73, 74, 75, 76, 77, 78, 79, 80, 81, 82, 83, 84, 85, 86, 87, 88, 89, 90, 91, 92, 93, 94, 95, 96, 97, 98, 99, 100, 101, 102, 103, 104, 105, 106, 107, 108, 109, 110, 111, 112, 113, 114, 115, 116, 117, 118, 119, 120, 121], nt := 122, fn := fun x => law20_WorstNumbersAreOrdered_127 K x.1.1 x.1.2.1 x.1.2.2.1 x.1.2.2.2.1 }
theorem k_law20_WorstNumbersAreOrdered_127 (K : Nat) (hB : Base Try.prog tabs (fs_law20_WorstIsRecursive K)) : PcOk Try.prog (codeAt b_law20_WorstNumbersAreOrdered 127) (p_law20_WorstNumbersAreOrdered_127 K) :=
  seg_thm hB (o_law20_WorstNumbersAreOrdered_1018 K hB) 127 (p_law20_WorstNumbersAreOrdered_127 K) (by kernel_rfl) (by kernel_rfl) (by kernel_rfl) (fun x => by kernel_rfl)
noncomputable def c_law20_WorstNumbersAreOrdered_127 (K : Nat) : List (Nat × Piece) := (127, p_law20_WorstNumbersAreOrdered_127 K) :: c_law20_WorstNumbersAreOrdered_1018 K
theorem o_law20_WorstNumbersAreOrdered_127 (K : Nat) (hB : Base Try.prog tabs (fs_law20_WorstIsRecursive K)) : PcsOk Try.prog b_law20_WorstNumbersAreOrdered (c_law20_WorstNumbersAreOrdered_127 K) := PcsOk.cons (k_law20_WorstNumbersAreOrdered_127 K hB) (o_law20_WorstNumbersAreOrdered_1018 K hB)
def law20_WorstNumbersAreOrdered (K : Nat) (x0 : ((List Int) × ((List (List (Int × (Int × Unit)))) × Unit))) (x1 : (List Bool)) : Option ((Bool × Unit) × Unit) :=
  (law20_fair K x0 x1).bind fun y9 =>
    if !y9.1.1 then
      (law20_awake K).bind fun y10 =>
        some ((y10.1.1, ()), ())
    else
      (law20_few K x0).bind fun y11 =>
        if !y11.1.1 then
          (law20_awake K).bind fun y12 =>
            some ((y12.1.1, ()), ())
        else
          (worst_Steps K x0 x1).bind fun y14 =>
            (worst_Moves K x0 x1).bind fun y16 =>
              (worst_Rounds K x0 x1).bind fun y18 =>
                if !decide (y14.1.1.2.1 = 0) then
                  (law20_WorstNumbersAreOrdered_253 K true).bind fun y19 =>
                    match y19 with
                    | .inl y20 =>
                      (law20_WorstNumbersAreOrdered_127 K x1 y14.2.1 y16.2.1 y18.2.1).bind fun y22 =>
                        some ((y22.1.1, ()), ())
                    | .inr y21 =>
                      some ((y21.1.1, ()), ())
                else
                  if !decide (y16.1.1.2.1 = 0) then
                    (law20_WorstNumbersAreOrdered_253 K true).bind fun y23 =>
                      match y23 with
                      | .inl y24 =>
                        (law20_WorstNumbersAreOrdered_127 K x1 y14.2.1 y16.2.1 y18.2.1).bind fun y26 =>
                          some ((y26.1.1, ()), ())
                      | .inr y25 =>
                        some ((y25.1.1, ()), ())
                  else
                    if !decide (y18.1.1.2.1 = 0) then
                      (law20_WorstNumbersAreOrdered_253 K true).bind fun y27 =>
                        match y27 with
                        | .inl y28 =>
                          (law20_WorstNumbersAreOrdered_127 K x1 y14.2.1 y16.2.1 y18.2.1).bind fun y30 =>
                            some ((y30.1.1, ()), ())
                        | .inr y29 =>
                          some ((y29.1.1, ()), ())
                    else
                      if !decide ((y14.2.1.length : Int) = (x1.length : Int)) then
                        (law20_WorstNumbersAreOrdered_253 K true).bind fun y31 =>
                          match y31 with
                          | .inl y32 =>
                            (law20_WorstNumbersAreOrdered_127 K x1 y14.2.1 y16.2.1 y18.2.1).bind fun y34 =>
                              some ((y34.1.1, ()), ())
                          | .inr y33 =>
                            some ((y33.1.1, ()), ())
                      else
                        if !decide ((y16.2.1.length : Int) = (x1.length : Int)) then
                          (law20_WorstNumbersAreOrdered_253 K true).bind fun y35 =>
                            match y35 with
                            | .inl y36 =>
                              (law20_WorstNumbersAreOrdered_127 K x1 y14.2.1 y16.2.1 y18.2.1).bind fun y38 =>
                                some ((y38.1.1, ()), ())
                            | .inr y37 =>
                              some ((y37.1.1, ()), ())
                        else
                          (law20_WorstNumbersAreOrdered_253 K (!decide ((y18.2.1.length : Int) = (x1.length : Int)))).bind fun y39 =>
                            match y39 with
                            | .inl y40 =>
                              (law20_WorstNumbersAreOrdered_127 K x1 y14.2.1 y16.2.1 y18.2.1).bind fun y42 =>
                                some ((y42.1.1, ()), ())
                            | .inr y41 =>
                              some ((y41.1.1, ()), ())
@[reducible] def p_law20_WorstNumbersAreOrdered (K : Nat) : Piece := { slots := [(0, (.v (.pair (.slice (.int .u32)) (.pair (.slice (.slice (.pair (.int .u32) (.pair (.int .i64) .unit)))) .unit)))), (1, (.v (.slice .bool)))], objs := [], outs := [{ ex := .ret, slots := [(0, (.v .bool))], objs := [] }], asg := [], nt := 122, fn := fun x => law20_WorstNumbersAreOrdered K x.1.1 x.1.2.1 }
theorem s_law20_WorstNumbersAreOrdered (K : Nat) (hB : Base Try.prog tabs (fs_law20_WorstIsRecursive K)) : FnSound Try.prog 7 (p_law20_WorstNumbersAreOrdered K) :=
  fun_thm hB (o_law20_WorstNumbersAreOrdered_127 K hB) Try.func7 (body := b_law20_WorstNumbersAreOrdered) rfl (p_law20_WorstNumbersAreOrdered K) (rs := [.tmp 4]) rfl (Nat.le_of_ble_eq_true (by kernel_rfl)) (fun x => by kernel_rfl)
noncomputable def fs_law20_WorstNumbersAreOrdered (K : Nat) : List (Nat × Piece) := (7, p_law20_WorstNumbersAreOrdered K) :: fs_law20_WorstIsRecursive K
theorem base_law20_WorstNumbersAreOrdered (K : Nat) : Base Try.prog tabs (fs_law20_WorstNumbersAreOrdered K) := ⟨(base_law20_WorstIsRecursive K).mixed, (base_law20_WorstIsRecursive K).tabs, FnsOk.cons (s_law20_WorstNumbersAreOrdered K (base_law20_WorstIsRecursive K)) (by kernel_rfl) (base_law20_WorstIsRecursive K).fns⟩
theorem law_law20_WorstNumbersAreOrdered (K : Nat) : FnSound Try.prog 7 (p_law20_WorstNumbersAreOrdered K) := s_law20_WorstNumbersAreOrdered K (base_law20_WorstIsRecursive K)
/-! "selfstab/selfstabmade.Mod" -/
noncomputable def b_made_Mod : Code := codeOf Try.f26
noncomputable def c_made_Mod_0 (K : Nat) : List (Nat × Piece) := []
theorem o_made_Mod_0 (K : Nat) : PcsOk Try.prog b_made_Mod (c_made_Mod_0 K) := PcsOk.nil
def made_Mod (K : Nat) (x0 : Int) (x1 : Int) : Option ((Int × Unit) × Unit) :=
  if decide (x1 = 0) then
    none
  else
    if decide ((Int.tmod x0 x1) < 0) then
      some ((IntKind.i64.wrap ((Int.tmod x0 x1) + x1), ()), ())
    else
      some ((Int.tmod x0 x1, ()), ())
@[reducible] def p_made_Mod (K : Nat) : Piece := { slots := [(0, (.v (.int .i64))), (1, (.v (.int .i64)))], objs := [], outs := [{ ex := .ret, slots := [(0, (.v (.int .i64)))], objs := [] }], asg := [], nt := 15, fn := fun x => made_Mod K x.1.1 x.1.2.1 }
theorem s_made_Mod (K : Nat) (hB : Base Try.prog tabs (fs_law20_WorstNumbersAreOrdered K)) : FnSound Try.prog 26 (p_made_Mod K) :=
  fun_thm hB (o_made_Mod_0 K) Try.func26 (body := b_made_Mod) rfl (p_made_Mod K) (rs := [.tmp 4]) rfl (Nat.le_of_ble_eq_true (by kernel_rfl)) (fun x => by kernel_rfl)
noncomputable def fs_made_Mod (K : Nat) : List (Nat × Piece) := (26, p_made_Mod K) :: fs_law20_WorstNumbersAreOrdered K
theorem base_made_Mod (K : Nat) : Base Try.prog tabs (fs_made_Mod K) := ⟨(base_law20_WorstNumbersAreOrdered K).mixed, (base_law20_WorstNumbersAreOrdered K).tabs, FnsOk.cons (s_made_Mod K (base_law20_WorstNumbersAreOrdered K)) (by kernel_rfl) (base_law20_WorstNumbersAreOrdered K).fns⟩
/-! "selfstab/selfstablaw20.WorstIsAttained" -/
noncomputable def b_law20_WorstIsAttained : Code := codeOf Try.f8
noncomputable def c_law20_WorstIsAttained_0 (K : Nat) : List (Nat × Piece) := []
theorem o_law20_WorstIsAttained_0 (K : Nat) : PcsOk Try.prog b_law20_WorstIsAttained (c_law20_WorstIsAttained_0 K) := PcsOk.nil
def law20_WorstIsAttained_522826 (K : Nat) : (k : Nat) → (x7 : Int) → (x8 : (List Int)) → (x14 : Int) → (x15 : Int) → (x16 : Int) → (o0 : ((List Int) × ((List (List (Int × (Int × Unit)))) × Unit))) → Option ((Int × Unit) × (((List Int) × ((List (List (Int × (Int × Unit)))) × Unit)) × Unit))
  | 0, _, _, _, _, _, _ => none
  | k + 1, x7, x8, x14, x15, x16, o0 =>
    if decide (0 ≤ x7 ∧ x7 < (o0.2.1.length : Int)) then
      if decide (x16 < ((o0.2.1.getD x7.toNat []).length : Int)) then
        if decide (0 ≤ x7 ∧ x7 < (o0.2.1.length : Int)) then
          if decide (0 ≤ x16 ∧ x16 < ((o0.2.1.getD x7.toNat []).length : Int)) then
            if decide (0 ≤ x14 ∧ x14 < (x8.length : Int)) then
              if decide ((((o0.2.1.getD x7.toNat []).getD x16.toNat (0, (0, ()))).1) = (x8.getD x14.toNat 0)) then
                if decide (0 ≤ x7 ∧ x7 < (o0.2.1.length : Int)) then
                  if decide (0 ≤ x16 ∧ x16 < ((o0.2.1.getD x7.toNat []).length : Int)) then
                    law20_WorstIsAttained_522826 K k x7 x8 x14 ((((o0.2.1.getD x7.toNat []).getD x16.toNat (0, (0, ()))).2).1) (IntKind.i64.wrap (x16 + 1)) o0
                  else
                    none
                else
                  none
              else
                law20_WorstIsAttained_522826 K k x7 x8 x14 x15 (IntKind.i64.wrap (x16 + 1)) o0
            else
              none
          else
            none
        else
          none
      else
        some ((x15, ()), (o0, ()))
    else
      none
@[reducible] def p_law20_WorstIsAttained_522826 (K k : Nat) : Piece := { slots := [(3, (.ref 0 (.pair (.slice (.int .u32)) (.pair (.slice (.slice (.pair (.int .u32) (.pair (.int .i64) .unit)))) .unit)))), (7, (.v (.int .i64))), (8, (.v (.slice (.int .u32)))), (14, (.v (.int .i64))), (15, (.v (.int .i64))), (16, (.v (.int .i64)))], objs := [(.box (.pair (.slice (.int .u32)) (.pair (.slice (.slice (.pair (.int .u32) (.pair (.int .i64) .unit)))) .unit)) (.v (.pair (.slice (.int .u32)) (.pair (.slice (.slice (.pair (.int .u32) (.pair (.int .i64) .unit)))) .unit))))], outs := [{ ex := (.exit 2), slots := [(15, (.v (.int .i64)))], objs := [(some 0, (.box (.pair (.slice (.int .u32)) (.pair (.slice (.slice (.pair (.int .u32) (.pair (.int .i64) .unit)))) .unit)) (.v (.pair (.slice (.int .u32)) (.pair (.slice (.slice (.pair (.int .u32) (.pair (.int .i64) .unit)))) .unit)))))] }], asg := [15, 16, 62, 63, 64, 65, 66, 67, 68, 69, 70, 71, 72, 73, 74, 75, 76, 77, 78, 79, 80, 81, 82, 83, 84, 85, 86, 87, 88, 89, 90, 91, 92, 93, 94], nt := 123, fn := fun x => law20_WorstIsAttained_522826 K k x.1.2.1 x.1.2.2.1 x.1.2.2.2.1 x.1.2.2.2.2.1 x.1.2.2.2.2.2.1 x.2.1 }
theorem k_law20_WorstIsAttained_522826 (K : Nat) (hB : Base Try.prog tabs (fs_made_Mod K)) : PcOk Try.prog (codeAt b_law20_WorstIsAttained 522826) (p_law20_WorstIsAttained_522826 K K) :=
  loop_thm hB (o_law20_WorstIsAttained_0 K) 522826 (p_law20_WorstIsAttained_522826 K 0) (l := fun k x => law20_WorstIsAttained_522826 K k x.1.2.1 x.1.2.2.1 x.1.2.2.2.1 x.1.2.2.2.2.1 x.1.2.2.2.2.2.1 x.2.1) (c := codeAt b_law20_WorstIsAttained 1045652) (by kernel_rfl) (by kernel_rfl) (by kernel_rfl) (by kernel_rfl) (fun x => by kernel_rfl) (fun k x => by kernel_rfl) K
noncomputable def c_law20_WorstIsAttained_522826 (K : Nat) : List (Nat × Piece) := (522826, p_law20_WorstIsAttained_522826 K K) :: c_law20_WorstIsAttained_0 K
theorem o_law20_WorstIsAttained_522826 (K : Nat) (hB : Base Try.prog tabs (fs_made_Mod K)) : PcsOk Try.prog b_law20_WorstIsAttained (c_law20_WorstIsAttained_522826 K) := PcsOk.cons (k_law20_WorstIsAttained_522826 K hB) (o_law20_WorstIsAttained_0 K)
def law20_WorstIsAttained_2042 (K : Nat) : (k : Nat) → (x1 : (List Bool)) → (x7 : Int) → (x8 : (List Int)) → (x12 : Int) → (x14 : Int) → (o0 : ((List Int) × ((List (List (Int × (Int × Unit)))) × Unit))) → Option (((Int × (Int × Unit)) × Unit) ⊕ ((Bool × Unit) × Unit))
  | 0, _, _, _, _, _, _ => none
  | k + 1, x1, x7, x8, x12, x14, o0 =>
    if decide (x14 < (x8.length : Int)) then
      (law20_WorstIsAttained_522826 K K x7 x8 x14 (-1) 0 o0).bind fun y6 =>
        if decide (y6.1.1 < 0) then
          some (.inr ((false, ()), ()))
        else
          if decide (0 ≤ x7 ∧ x7 < (x1.length : Int)) then
            if x1.getD x7.toNat false then
              some (.inr ((false, ()), ()))
            else
              if decide (0 ≤ x14 ∧ x14 < (x8.length : Int)) then
                (ref15_Count K (x8.getD x14.toNat 0)).bind fun y8 =>
                  law20_WorstIsAttained_2042 K k x1 y6.1.1 x8 (IntKind.i64.wrap (x12 + y8.1.1)) (IntKind.i64.wrap (x14 + 1)) y6.2.1
              else
                none
          else
            none
    else
      some (.inl ((x7, (x12, ())), ()))
@[reducible] def p_law20_WorstIsAttained_2042 (K k : Nat) : Piece := { slots := [(1, (.v (.slice .bool))), (3, (.ref 0 (.pair (.slice (.int .u32)) (.pair (.slice (.slice (.pair (.int .u32) (.pair (.int .i64) .unit)))) .unit)))), (7, (.v (.int .i64))), (8, (.v (.slice (.int .u32)))), (12, (.v (.int .i64))), (14, (.v (.int .i64)))], objs := [(.box (.pair (.slice (.int .u32)) (.pair (.slice (.slice (.pair (.int .u32) (.pair (.int .i64) .unit)))) .unit)) (.v (.pair (.slice (.int .u32)) (.pair (.slice (.slice (.pair (.int .u32) (.pair (.int .i64) .unit)))) .unit))))], outs := [{ ex := (.exit 0), slots := [(7, (.v (.int .i64))), (12, (.v (.int .i64)))], objs := [] }, { ex := .ret, slots := [(6, (.v .bool))], objs := [] }], asg := [6, 7, 12, 14, 15, 16, 56, 57, 58, 59, 60, 61, 62, 63, 64, 65, 66, 67, 68, 69, 70, 71, 72, 73, 74, 75, 76, 77, 78, 79, 80, 81, 82, 83, 84, 85, 86, 87, 88, 89, 90, 91, 92, 93, 94, 95, 96, 97, 98, 99, 100, 101, 102, 103, 104, 105, 106, 107, 108, 109, 110], nt := 123, fn := fun x => law20_WorstIsAttained_2042 K k x.1.1 x.1.2.2.1 x.1.2.2.2.1 x.1.2.2.2.2.1 x.1.2.2.2.2.2.1 x.2.1 }
theorem k_law20_WorstIsAttained_2042 (K : Nat) (hB : Base Try.prog tabs (fs_made_Mod K)) : PcOk Try.prog (codeAt b_law20_WorstIsAttained 2042) (p_law20_WorstIsAttained_2042 K K) :=
  loop_thm hB (o_law20_WorstIsAttained_522826 K hB) 2042 (p_law20_WorstIsAttained_2042 K 0) (l := fun k x => law20_WorstIsAttained_2042 K k x.1.1 x.1.2.2.1 x.1.2.2.2.1 x.1.2.2.2.2.1 x.1.2.2.2.2.2.1 x.2.1) (c := codeAt b_law20_WorstIsAttained 4084) (by kernel_rfl) (by kernel_rfl) (by kernel_rfl) (by kernel_rfl) (fun x => by kernel_rfl) (fun k x => by kernel_rfl) K
noncomputable def c_law20_WorstIsAttained_2042 (K : Nat) : List (Nat × Piece) := (2042, p_law20_WorstIsAttained_2042 K K) :: c_law20_WorstIsAttained_522826 K
theorem o_law20_WorstIsAttained_2042 (K : Nat) (hB : Base Try.prog tabs (fs_made_Mod K)) : PcsOk Try.prog b_law20_WorstIsAttained (c_law20_WorstIsAttained_2042 K) := PcsOk.cons (k_law20_WorstIsAttained_2042 K hB) (o_law20_WorstIsAttained_522826 K hB)
def law20_WorstIsAttained (K : Nat) (x0 : ((List Int) × ((List (List (Int × (Int × Unit)))) × Unit))) (x1 : (List Bool)) (x2 : Int) : Option ((Bool × Unit) × Unit) :=
  (law20_fair K x0 x1).bind fun y5 =>
    if !y5.1.1 then
      (law20_awake K).bind fun y6 =>
        some ((y6.1.1, ()), ())
    else
      (made_Mod K x2 (x1.length : Int)).bind fun y8 =>
        (worst_Schedule K x0 x1 y8.1.1).bind fun y10 =>
          (worst_Moves K x0 x1).bind fun y12 =>
            if !decide (y10.1.1.2.1 = 0) then
              some ((false, ()), ())
            else
              if !decide (y12.1.1.2.1 = 0) then
                some ((false, ()), ())
              else
                if !decide ((y12.2.1.length : Int) = (x1.length : Int)) then
                  some ((false, ()), ())
                else
                  if decide (0 ≤ y8.1.1 ∧ y8.1.1 < (y12.2.1.length : Int)) then
                    (law20_WorstIsAttained_2042 K K x1 y8.1.1 y10.2.1 0 0 x0).bind fun y16 =>
                      match y16 with
                      | .inl y17 =>
                        (law20_awake K).bind fun y19 =>
                          if y19.1.1 then
                            if decide (0 ≤ y17.1.1 ∧ y17.1.1 < (x1.length : Int)) then
                              if x1.getD y17.1.1.toNat false then
                                some ((decide (y17.1.2.1 = (y12.2.1.getD y8.1.1.toNat 0)), ()), ())
                              else
                                some ((false, ()), ())
                            else
                              none
                          else
                            some ((false, ()), ())
                      | .inr y18 =>
                        some ((y18.1.1, ()), ())
                  else
                    none
@[reducible] def p_law20_WorstIsAttained (K : Nat) : Piece := { slots := [(0, (.v (.pair (.slice (.int .u32)) (.pair (.slice (.slice (.pair (.int .u32) (.pair (.int .i64) .unit)))) .unit)))), (1, (.v (.slice .bool))), (2, (.v (.int .i64)))], objs := [], outs := [{ ex := .ret, slots := [(0, (.v .bool))], objs := [] }], asg := [], nt := 123, fn := fun x => law20_WorstIsAttained K x.1.1 x.1.2.1 x.1.2.2.1 }
theorem s_law20_WorstIsAttained (K : Nat) (hB : Base Try.prog tabs (fs_made_Mod K)) : FnSound Try.prog 8 (p_law20_WorstIsAttained K) :=
  fun_thm hB (o_law20_WorstIsAttained_2042 K hB) Try.func8 (body := b_law20_WorstIsAttained) rfl (p_law20_WorstIsAttained K) (rs := [.tmp 6]) rfl (Nat.le_of_ble_eq_true (by kernel_rfl)) (fun x => by kernel_rfl)
noncomputable def fs_law20_WorstIsAttained (K : Nat) : List (Nat × Piece) := (8, p_law20_WorstIsAttained K) :: fs_made_Mod K
theorem base_law20_WorstIsAttained (K : Nat) : Base Try.prog tabs (fs_law20_WorstIsAttained K) := ⟨(base_made_Mod K).mixed, (base_made_Mod K).tabs, FnsOk.cons (s_law20_WorstIsAttained K (base_made_Mod K)) (by kernel_rfl) (base_made_Mod K).fns⟩
theorem law_law20_WorstIsAttained (K : Nat) : FnSound Try.prog 8 (p_law20_WorstIsAttained K) := s_law20_WorstIsAttained K (base_made_Mod K)
/-! "selfstab/selfstablaw20.WorstNeedsConvergence" -/
noncomputable def b_law20_WorstNeedsConvergence : Code := codeOf Try.f9
noncomputable def c_law20_WorstNeedsConvergence_0 (K : Nat) : List (Nat × Piece) := []
theorem o_law20_WorstNeedsConvergence_0 (K : Nat) : PcsOk Try.prog b_law20_WorstNeedsConvergence (c_law20_WorstNeedsConvergence_0 K) := PcsOk.nil
def law20_WorstNeedsConvergence_13 (K : Nat) (x39 : Bool) : Option ((Unit × Unit) ⊕ ((Bool × Unit) × Unit)) :=
  if x39 then
    (law20_awake K).bind fun y1 =>
      some (.inr ((y1.1.1, ()), ()))
  else
    some (.inl ((), ()))
@[reducible] def p_law20_WorstNeedsConvergence_13 (K : Nat) : Piece := { slots := [(39, (.v .bool))], objs := [], outs := [{ ex := .normal, slots := [], objs := [] }, { ex := .ret, slots := [(6, (.v .bool))], objs := [] }], asg := [6, 40], nt := 98, fn := fun x => law20_WorstNeedsConvergence_13 K x.1.1 }
theorem k_law20_WorstNeedsConvergence_13 (K : Nat) (hB : Base Try.prog tabs (fs_law20_WorstIsAttained K)) : PcOk Try.prog (codeAt b_law20_WorstNeedsConvergence 13) (p_law20_WorstNeedsConvergence_13 K) :=
  seg_thm hB (o_law20_WorstNeedsConvergence_0 K) 13 (p_law20_WorstNeedsConvergence_13 K) (by kernel_rfl) (by kernel_rfl) (by kernel_rfl) (fun x => by kernel_rfl)
noncomputable def c_law20_WorstNeedsConvergence_13 (K : Nat) : List (Nat × Piece) := (13, p_law20_WorstNeedsConvergence_13 K) :: c_law20_WorstNeedsConvergence_0 K
theorem o_law20_WorstNeedsConvergence_13 (K : Nat) (hB : Base Try.prog tabs (fs_law20_WorstIsAttained K)) : PcsOk Try.prog b_law20_WorstNeedsConvergence (c_law20_WorstNeedsConvergence_13 K) := PcsOk.cons (k_law20_WorstNeedsConvergence_13 K hB) (o_law20_WorstNeedsConvergence_0 K)
def law20_WorstNeedsConvergence_63 (K : Nat) (x1 : (List Bool)) (x2 : Int) (x9 : Int) (o0 : ((List Int) × ((List (List (Int × (Int × Unit)))) × Unit))) : Option ((Bool × Unit) × Unit) :=
  (worst_Steps K o0 x1).bind fun y2 =>
    (worst_Moves K o0 x1).bind fun y4 =>
      (worst_Rounds K o0 x1).bind fun y6 =>
        (made_Mod K x2 (x1.length : Int)).bind fun y9 =>
          (worst_Schedule K o0 x1 y9.1.1).bind fun y10 =>
            (law20_awake K).bind fun y11 =>
              if y11.1.1 then
                if decide (y2.1.1.2.1 = x9) then
                  if decide (y4.1.1.2.1 = x9) then
                    if decide (y6.1.1.2.1 = x9) then
                      some ((decide (y10.1.1.2.1 = x9), ()), ())
                    else
                      some ((false, ()), ())
                  else
                    some ((false, ()), ())
                else
                  some ((false, ()), ())
              else
                some ((false, ()), ())
@[reducible] def p_law20_WorstNeedsConvergence_63 (K : Nat) : Piece := { slots := [(1, (.v (.slice .bool))), (2, (.v (.int .i64))), (3, (.ref 0 (.pair (.slice (.int .u32)) (.pair (.slice (.slice (.pair (.int .u32) (.pair (.int .i64) .unit)))) .unit)))), (9, (.v (.int .i64)))], objs := [(.box (.pair (.slice (.int .u32)) (.pair (.slice (.slice (.pair (.int .u32) (.pair (.int .i64) .unit)))) .unit)) (.v (.pair (.slice (.int .u32)) (.pair (.slice (.slice (.pair (.int .u32) (.pair (.int .i64) .unit)))) .unit))))], outs := [{ ex := .ret, slots := [(6, (.v .bool))], objs := [] }], asg := [6, 10, 11, 12, 13, 14, 15, 16, 17, 49, 50, 51, 52, 53, 54, 55, 56, 57, 58, 59, 60, 61, 62, 63, 64, 65, 66, 67, 68, 69, 70, 71, 72, 73, 74, 75, 76, 77, 78, 79, 80, 81, 82, 83, 84, 85, 86, 87, 88, 89, 90, 91, 92, 93, 94, 95, 96, 97], nt := 98, fn := fun x => law20_WorstNeedsConvergence_63 K x.1.1 x.1.2.1 x.1.2.2.2.1 x.2.1 }
theorem k_law20_WorstNeedsConvergence_63 (K : Nat) (hB : Base Try.prog tabs (fs_law20_WorstIsAttained K)) : PcOk Try.prog (codeAt b_law20_WorstNeedsConvergence 63) (p_law20_WorstNeedsConvergence_63 K) :=
  seg_thm hB (o_law20_WorstNeedsConvergence_13 K hB) 63 (p_law20_WorstNeedsConvergence_63 K) (by kernel_rfl) (by kernel_rfl) (by kernel_rfl) (fun x => by kernel_rfl)
noncomputable def c_law20_WorstNeedsConvergence_63 (K : Nat) : List (Nat × Piece) := (63, p_law20_WorstNeedsConvergence_63 K) :: c_law20_WorstNeedsConvergence_13 K
theorem o_law20_WorstNeedsConvergence_63 (K : Nat) (hB : Base Try.prog tabs (fs_law20_WorstIsAttained K)) : PcsOk Try.prog b_law20_WorstNeedsConvergence (c_law20_WorstNeedsConvergence_63 K) := PcsOk.cons (k_law20_WorstNeedsConvergence_63 K hB) (o_law20_WorstNeedsConvergence_13 K hB)
def law20_WorstNeedsConvergence_7 (K : Nat) (x1 : (List Bool)) (x2 : Int) (o0 : ((List Int) × ((List (List (Int × (Int × Unit)))) × Unit))) : Option ((Bool × Unit) × Unit) :=
  (ref19_Core K o0 x1).bind fun y2 =>
    (ref19_Any K y2.2.1).bind fun y4 =>
      if y4.1.1 then
        (law20_WorstNeedsConvergence_63 K x1 x2 14 o0).bind fun y5 =>
          some ((y5.1.1, ()), ())
      else
        (law20_WorstNeedsConvergence_63 K x1 x2 0 o0).bind fun y6 =>
          some ((y6.1.1, ()), ())
@[reducible] def p_law20_WorstNeedsConvergence_7 (K : Nat) : Piece := { slots := [(1, (.v (.slice .bool))), (2, (.v (.int .i64))), (3, (.ref 0 (.pair (.slice (.int .u32)) (.pair (.slice (.slice (.pair (.int .u32) (.pair (.int .i64) .unit)))) .unit))))], objs := [(.box (.pair (.slice (.int .u32)) (.pair (.slice (.slice (.pair (.int .u32) (.pair (.int .i64) .unit)))) .unit)) (.v (.pair (.slice (.int .u32)) (.pair (.slice (.slice (.pair (.int .u32) (.pair (.int .i64) .unit)))) .unit))))], outs := [{ ex := .ret, slots := [(6, (.v .bool))], objs := [] }], asg := [6, 7, 8, 9, 10, 11, 12, 13, 14, 15, 16, 17, 41, 42, 43, 44, 45, 46, 47, 48, 49, 50, 51, 52, 53, 54, 55, 56, 57, 58, 59, 60, 61, 62, 63, 64, 65, 66, 67, 68, 69, 70, 71, 72, 73, 74, 75, 76, 77, 78, 79, 80, 81, 82, 83, 84, 85, 86, 87, 88, 89, 90, 91, 92, 93, 94, 95, 96, 97], nt := 98, fn := fun x => law20_WorstNeedsConvergence_7 K x.1.1 x.1.2.1 x.2.1 }
theorem k_law20_WorstNeedsConvergence_7 (K : Nat) (hB : Base Try.prog tabs (fs_law20_WorstIsAttained K)) : PcOk Try.prog (codeAt b_law20_WorstNeedsConvergence 7) (p_law20_WorstNeedsConvergence_7 K) :=
  seg_thm hB (o_law20_WorstNeedsConvergence_63 K hB) 7 (p_law20_WorstNeedsConvergence_7 K) (by kernel_rfl) (by kernel_rfl) (by kernel_rfl) (fun x => by kernel_rfl)
noncomputable def c_law20_WorstNeedsConvergence_7 (K : Nat) : List (Nat × Piece) := (7, p_law20_WorstNeedsConvergence_7 K) :: c_law20_WorstNeedsConvergence_63 K
theorem o_law20_WorstNeedsConvergence_7 (K : Nat) (hB : Base Try.prog tabs (fs_law20_WorstIsAttained K)) : PcsOk Try.prog b_law20_WorstNeedsConvergence (c_law20_WorstNeedsConvergence_7 K) := PcsOk.cons (k_law20_WorstNeedsConvergence_7 K hB) (o_law20_WorstNeedsConvergence_63 K hB)
def law20_WorstNeedsConvergence (K : Nat) (x0 : ((List Int) × ((List (List (Int × (Int × Unit)))) × Unit))) (x1 : (List Bool)) (x2 : Int) : Option ((Bool × Unit) × Unit) :=
  (law20_light K x0 x1).bind fun y1 =>
    if !y1.1.1 then
      (law20_WorstNeedsConvergence_13 K true).bind fun y2 =>
        match y2 with
        | .inl y3 =>
          (law20_WorstNeedsConvergence_7 K x1 x2 x0).bind fun y5 =>
            some ((y5.1.1, ()), ())
        | .inr y4 =>
          some ((y4.1.1, ()), ())
    else
      (law20_few K x0).bind fun y6 =>
        if !y6.1.1 then
          (law20_WorstNeedsConvergence_13 K true).bind fun y7 =>
            match y7 with
            | .inl y8 =>
              (law20_WorstNeedsConvergence_7 K x1 x2 x0).bind fun y10 =>
                some ((y10.1.1, ()), ())
            | .inr y9 =>
              some ((y9.1.1, ()), ())
        else
          (ref18_Valid K x0).bind fun y11 =>
            if !y11.1.1 then
              (law20_WorstNeedsConvergence_13 K true).bind fun y12 =>
                match y12 with
                | .inl y13 =>
                  (law20_WorstNeedsConvergence_7 K x1 x2 x0).bind fun y15 =>
                    some ((y15.1.1, ()), ())
                | .inr y14 =>
                  some ((y14.1.1, ()), ())
            else
              (law20_WorstNeedsConvergence_13 K (!decide ((x1.length : Int) = (x0.1.length : Int)))).bind fun y16 =>
                match y16 with
                | .inl y17 =>
                  (law20_WorstNeedsConvergence_7 K x1 x2 x0).bind fun y19 =>
                    some ((y19.1.1, ()), ())
                | .inr y18 =>
                  some ((y18.1.1, ()), ())
@[reducible] def p_law20_WorstNeedsConvergence (K : Nat) : Piece := { slots := [(0, (.v (.pair (.slice (.int .u32)) (.pair (.slice (.slice (.pair (.int .u32) (.pair (.int .i64) .unit)))) .unit)))), (1, (.v (.slice .bool))), (2, (.v (.int .i64)))], objs := [], outs := [{ ex := .ret, slots := [(0, (.v .bool))], objs := [] }], asg := [], nt := 98, fn := fun x => law20_WorstNeedsConvergence K x.1.1 x.1.2.1 x.1.2.2.1 }
theorem s_law20_WorstNeedsConvergence (K : Nat) (hB : Base Try.prog tabs (fs_law20_WorstIsAttained K)) : FnSound Try.prog 9 (p_law20_WorstNeedsConvergence K) :=
  fun_thm hB (o_law20_WorstNeedsConvergence_7 K hB) Try.func9 (body := b_law20_WorstNeedsConvergence) rfl (p_law20_WorstNeedsConvergence K) (rs := [.tmp 6]) rfl (Nat.le_of_ble_eq_true (by kernel_rfl)) (fun x => by kernel_rfl)
noncomputable def fs_law20_WorstNeedsConvergence (K : Nat) : List (Nat × Piece) := (9, p_law20_WorstNeedsConvergence K) :: fs_law20_WorstIsAttained K
theorem base_law20_WorstNeedsConvergence (K : Nat) : Base Try.prog tabs (fs_law20_WorstNeedsConvergence K) := ⟨(base_law20_WorstIsAttained K).mixed, (base_law20_WorstIsAttained K).tabs, FnsOk.cons (s_law20_WorstNeedsConvergence K (base_law20_WorstIsAttained K)) (by kernel_rfl) (base_law20_WorstIsAttained K).fns⟩
theorem law_law20_WorstNeedsConvergence (K : Nat) : FnSound Try.prog 9 (p_law20_WorstNeedsConvergence K) := s_law20_WorstNeedsConvergence K (base_law20_WorstIsAttained K)
/-! "selfstab/account.Begin" -/
noncomputable def b_account_Begin : Code := codeOf Try.f30
noncomputable def c_account_Begin_0 (K : Nat) : List (Nat × Piece) := []
theorem o_account_Begin_0 (K : Nat) : PcsOk Try.prog b_account_Begin (c_account_Begin_0 K) := PcsOk.nil
def account_Begin (K : Nat) (x0 : Int) : Option (((Int × (Int × (Int × (Int × (Int × Unit))))) × Unit) × Unit) :=
  some (((0, (0, (0, (0, (iand .u32 x0 16777215, ()))))), ()), ())
@[reducible] def p_account_Begin (K : Nat) : Piece := { slots := [(0, (.v (.int .u32)))], objs := [], outs := [{ ex := .ret, slots := [(0, (.v (.pair (.int .i64) (.pair (.int .i64) (.pair (.int .i64) (.pair (.int .i64) (.pair (.int .u32) .unit)))))))], objs := [] }], asg := [], nt := 6, fn := fun x => account_Begin K x.1.1 }
theorem s_account_Begin (K : Nat) (hB : Base Try.prog tabs (fs_law20_WorstNeedsConvergence K)) : FnSound Try.prog 30 (p_account_Begin K) :=
  fun_thm hB (o_account_Begin_0 K) Try.func30 (body := b_account_Begin) rfl (p_account_Begin K) (rs := [.cell 2 50]) rfl (Nat.le_of_ble_eq_true (by kernel_rfl)) (fun x => by kernel_rfl)
noncomputable def fs_account_Begin (K : Nat) : List (Nat × Piece) := (30, p_account_Begin K) :: fs_law20_WorstNeedsConvergence K
theorem base_account_Begin (K : Nat) : Base Try.prog tabs (fs_account_Begin K) := ⟨(base_law20_WorstNeedsConvergence K).mixed, (base_law20_WorstNeedsConvergence K).tabs, FnsOk.cons (s_account_Begin K (base_law20_WorstNeedsConvergence K)) (by kernel_rfl) (base_law20_WorstNeedsConvergence K).fns⟩
/-! "selfstab/account.inside" -/
noncomputable def b_account_inside : Code := codeOf Try.f52
noncomputable def c_account_inside_0 (K : Nat) : List (Nat × Piece) := []
theorem o_account_inside_0 (K : Nat) : PcsOk Try.prog b_account_inside (c_account_inside_0 K) := PcsOk.nil
def account_inside_26 (K : Nat) : (k : Nat) → (x5 : (List Int)) → (x6 : Int) → (x7 : Int) → Option ((Unit × Unit) ⊕ ((Bool × Unit) × Unit))
  | 0, _, _, _ => none
  | k + 1, x5, x6, x7 =>
    if decide (x7 < x6) then
      if decide (0 ≤ x7 ∧ x7 < (x5.length : Int)) then
        if !decide ((ishr .u32 (x5.getD x7.toNat 0) 24) = 0) then
          some (.inr ((false, ()), ()))
        else
          account_inside_26 K k x5 x6 (IntKind.i64.wrap (x7 + 1))
      else
        none
    else
      some (.inl ((), ()))
@[reducible] def p_account_inside_26 (K k : Nat) : Piece := { slots := [(5, (.v (.slice (.int .u32)))), (6, (.v (.int .i64))), (7, (.v (.int .i64)))], objs := [], outs := [{ ex := (.exit 0), slots := [], objs := [] }, { ex := .ret, slots := [(2, (.v .bool))], objs := [] }], asg := [2, 4, 7, 8, 9, 10, 11, 12, 13, 14], nt := 15, fn := fun x => account_inside_26 K k x.1.1 x.1.2.1 x.1.2.2.1 }
theorem k_account_inside_26 (K : Nat) (hB : Base Try.prog tabs (fs_account_Begin K)) : PcOk Try.prog (codeAt b_account_inside 26) (p_account_inside_26 K K) :=
  loop_thm hB (o_account_inside_0 K) 26 (p_account_inside_26 K 0) (l := fun k x => account_inside_26 K k x.1.1 x.1.2.1 x.1.2.2.1) (c := codeAt b_account_inside 52) (by kernel_rfl) (by kernel_rfl) (by kernel_rfl) (by kernel_rfl) (fun x => by kernel_rfl) (fun k x => by kernel_rfl) K
noncomputable def c_account_inside_26 (K : Nat) : List (Nat × Piece) := (26, p_account_inside_26 K K) :: c_account_inside_0 K
theorem o_account_inside_26 (K : Nat) (hB : Base Try.prog tabs (fs_account_Begin K)) : PcsOk Try.prog b_account_inside (c_account_inside_26 K) := PcsOk.cons (k_account_inside_26 K hB) (o_account_inside_0 K)
def account_inside (K : Nat) (x0 : (List Int)) : Option ((Bool × Unit) × Unit) :=
  (account_inside_26 K K x0 (x0.length : Int) 0).bind fun y4 =>
    match y4 with
    | .inl y5 =>
      some ((true, ()), ())
    | .inr y6 =>
      some ((y6.1.1, ()), ())
@[reducible] def p_account_inside (K : Nat) : Piece := { slots := [(0, (.v (.slice (.int .u32))))], objs := [], outs := [{ ex := .ret, slots := [(0, (.v .bool))], objs := [] }], asg := [], nt := 15, fn := fun x => account_inside K x.1.1 }
theorem s_account_inside (K : Nat) (hB : Base Try.prog tabs (fs_account_Begin K)) : FnSound Try.prog 52 (p_account_inside K) :=
  fun_thm hB (o_account_inside_26 K hB) Try.func52 (body := b_account_inside) rfl (p_account_inside K) (rs := [.tmp 2]) rfl (Nat.le_of_ble_eq_true (by kernel_rfl)) (fun x => by kernel_rfl)
noncomputable def fs_account_inside (K : Nat) : List (Nat × Piece) := (52, p_account_inside K) :: fs_account_Begin K
theorem base_account_inside (K : Nat) : Base Try.prog tabs (fs_account_inside K) := ⟨(base_account_Begin K).mixed, (base_account_Begin K).tabs, FnsOk.cons (s_account_inside K (base_account_Begin K)) (by kernel_rfl) (base_account_Begin K).fns⟩
/-! "selfstab/account.Valid" -/
noncomputable def b_account_Valid : Code := codeOf Try.f51
noncomputable def c_account_Valid_0 (K : Nat) : List (Nat × Piece) := []
theorem o_account_Valid_0 (K : Nat) : PcsOk Try.prog b_account_Valid (c_account_Valid_0 K) := PcsOk.nil
def account_Valid (K : Nat) (x0 : (Int × (Int × (Int × (Int × (Int × Unit)))))) : Option ((Bool × Unit) × Unit) :=
  if decide (0 ≤ x0.2.2.1) then
    if decide (x0.2.2.1 ≤ x0.2.2.2.1) then
      if decide ((IntKind.i64.wrap (x0.2.2.2.1 - x0.2.2.1)) ≤ 1) then
        if decide (x0.2.2.2.1 ≤ x0.1) then
          if decide (x0.1 ≤ 4096) then
            if decide (x0.1 ≤ x0.2.1) then
              if decide (x0.2.1 ≤ (IntKind.i64.wrap (24 * x0.1))) then
                (account_inside K ([x0.2.2.2.2.1])).bind fun y1 =>
                  some ((y1.1.1, ()), ())
              else
                some ((false, ()), ())
            else
              some ((false, ()), ())
          else
            some ((false, ()), ())
        else
          some ((false, ()), ())
      else
        some ((false, ()), ())
    else
      some ((false, ()), ())
  else
    some ((false, ()), ())
@[reducible] def p_account_Valid (K : Nat) : Piece := { slots := [(0, (.v (.pair (.int .i64) (.pair (.int .i64) (.pair (.int .i64) (.pair (.int .i64) (.pair (.int .u32) .unit)))))))], objs := [], outs := [{ ex := .ret, slots := [(0, (.v .bool))], objs := [] }], asg := [], nt := 54, fn := fun x => account_Valid K x.1.1 }
theorem s_account_Valid (K : Nat) (hB : Base Try.prog tabs (fs_account_inside K)) : FnSound Try.prog 51 (p_account_Valid K) :=
  fun_thm hB (o_account_Valid_0 K) Try.func51 (body := b_account_Valid) rfl (p_account_Valid K) (rs := [.tmp 2]) rfl (Nat.le_of_ble_eq_true (by kernel_rfl)) (fun x => by kernel_rfl)
noncomputable def fs_account_Valid (K : Nat) : List (Nat × Piece) := (51, p_account_Valid K) :: fs_account_inside K
theorem base_account_Valid (K : Nat) : Base Try.prog tabs (fs_account_Valid K) := ⟨(base_account_inside K).mixed, (base_account_inside K).tabs, FnsOk.cons (s_account_Valid K (base_account_inside K)) (by kernel_rfl) (base_account_inside K).fns⟩
/-! "selfstab/account.Add" -/
noncomputable def b_account_Add : Code := codeOf Try.f31
noncomputable def c_account_Add_0 (K : Nat) : List (Nat × Piece) := []
theorem o_account_Add_0 (K : Nat) : PcsOk Try.prog b_account_Add (c_account_Add_0 K) := PcsOk.nil
def account_Add_103 (K : Nat) (x13 : Bool) (o0 : (Int × (Int × (Int × (Int × (Int × Unit)))))) (o1 : (Int × (Int × (Int × (Int × (Int × Unit)))))) : Option ((Unit × ((Int × (Int × (Int × (Int × (Int × Unit))))) × ((Int × (Int × (Int × (Int × (Int × Unit))))) × Unit))) ⊕ ((Int × Unit) × ((Int × (Int × (Int × (Int × (Int × Unit))))) × Unit))) :=
  if x13 then
    some (.inr ((11, ()), ((0, (0, (0, (0, (0, ()))))), ())))
  else
    if decide (o0.1 = 4096) then
      some (.inr ((3, ()), ((0, (0, (0, (0, (0, ()))))), ())))
    else
      some (.inl ((), (o0, (o1, ()))))
@[reducible] def p_account_Add_103 (K : Nat) : Piece := { slots := [(3, (.ref 0 (.pair (.int .i64) (.pair (.int .i64) (.pair (.int .i64) (.pair (.int .i64) (.pair (.int .u32) .unit))))))), (6, (.ref 1 (.pair (.int .i64) (.pair (.int .i64) (.pair (.int .i64) (.pair (.int .i64) (.pair (.int .u32) .unit))))))), (13, (.v .bool))], objs := [(.box (.pair (.int .i64) (.pair (.int .i64) (.pair (.int .i64) (.pair (.int .i64) (.pair (.int .u32) .unit))))) (.v (.pair (.int .i64) (.pair (.int .i64) (.pair (.int .i64) (.pair (.int .i64) (.pair (.int .u32) .unit))))))), (.box (.pair (.int .i64) (.pair (.int .i64) (.pair (.int .i64) (.pair (.int .i64) (.pair (.int .u32) .unit))))) (.v (.pair (.int .i64) (.pair (.int .i64) (.pair (.int .i64) (.pair (.int .i64) (.pair (.int .u32) .unit)))))))], outs := [{ ex := .normal, slots := [], objs := [(some 0, (.box (.pair (.int .i64) (.pair (.int .i64) (.pair (.int .i64) (.pair (.int .i64) (.pair (.int .u32) .unit))))) (.v (.pair (.int .i64) (.pair (.int .i64) (.pair (.int .i64) (.pair (.int .i64) (.pair (.int .u32) .unit)))))))), (some 1, (.box (.pair (.int .i64) (.pair (.int .i64) (.pair (.int .i64) (.pair (.int .i64) (.pair (.int .u32) .unit))))) (.v (.pair (.int .i64) (.pair (.int .i64) (.pair (.int .i64) (.pair (.int .i64) (.pair (.int .u32) .unit))))))))] }, { ex := .ret, slots := [(7, (.v (.int .i64)))], objs := [(some 1, (.box (.pair (.int .i64) (.pair (.int .i64) (.pair (.int .i64) (.pair (.int .i64) (.pair (.int .u32) .unit))))) (.v (.pair (.int .i64) (.pair (.int .i64) (.pair (.int .i64) (.pair (.int .i64) (.pair (.int .u32) .unit))))))))] }], asg := [7, 23, 24, 25, 26, 27, 28], nt := 59, fn := fun x => account_Add_103 K x.1.2.2.1 x.2.1 x.2.2.1 }
theorem k_account_Add_103 (K : Nat) (hB : Base Try.prog tabs (fs_account_Valid K)) : PcOk Try.prog (codeAt b_account_Add 103) (p_account_Add_103 K) :=
  seg_thm hB (o_account_Add_0 K) 103 (p_account_Add_103 K) (by kernel_rfl) (by kernel_rfl) (by kernel_rfl) (fun x => by kernel_rfl)
noncomputable def c_account_Add_103 (K : Nat) : List (Nat × Piece) := (103, p_account_Add_103 K) :: c_account_Add_0 K
theorem o_account_Add_103 (K : Nat) (hB : Base Try.prog tabs (fs_account_Valid K)) : PcsOk Try.prog b_account_Add (c_account_Add_103 K) := PcsOk.cons (k_account_Add_103 K hB) (o_account_Add_0 K)
def account_Add_7 (K : Nat) (x1 : Int) (x2 : Int) (o0 : (Int × (Int × (Int × (Int × (Int × Unit)))))) (o1 : (Int × (Int × (Int × (Int × (Int × Unit)))))) : Option ((Int × Unit) × ((Int × (Int × (Int × (Int × (Int × Unit))))) × Unit)) :=
  (bits_OnesCount32 K x1).bind fun y2 =>
    if decide ((iand .u32 (iandNot .u32 o0.2.2.2.2.1 x1) x2) = 0) then
      some ((0, ()), ((IntKind.i64.wrap (o0.1 + 1), (IntKind.i64.wrap (o0.2.1 + y2.1.1), (IntKind.i64.wrap (o0.2.2.1 + 1), (IntKind.i64.wrap (o0.2.2.1 + 1), (x2, o0.2.2.2.2.2))))), ()))
    else
      some ((0, ()), ((IntKind.i64.wrap (o0.1 + 1), (IntKind.i64.wrap (o0.2.1 + y2.1.1), (o0.2.2.1, (IntKind.i64.wrap (o0.2.2.1 + 1), (iand .u32 (iandNot .u32 o0.2.2.2.2.1 x1) x2, o0.2.2.2.2.2))))), ()))
@[reducible] def p_account_Add_7 (K : Nat) : Piece := { slots := [(1, (.v (.int .u32))), (2, (.v (.int .u32))), (3, (.ref 0 (.pair (.int .i64) (.pair (.int .i64) (.pair (.int .i64) (.pair (.int .i64) (.pair (.int .u32) .unit))))))), (6, (.ref 1 (.pair (.int .i64) (.pair (.int .i64) (.pair (.int .i64) (.pair (.int .i64) (.pair (.int .u32) .unit)))))))], objs := [(.box (.pair (.int .i64) (.pair (.int .i64) (.pair (.int .i64) (.pair (.int .i64) (.pair (.int .u32) .unit))))) (.v (.pair (.int .i64) (.pair (.int .i64) (.pair (.int .i64) (.pair (.int .i64) (.pair (.int .u32) .unit))))))), (.box (.pair (.int .i64) (.pair (.int .i64) (.pair (.int .i64) (.pair (.int .i64) (.pair (.int .u32) .unit))))) (.v (.pair (.int .i64) (.pair (.int .i64) (.pair (.int .i64) (.pair (.int .i64) (.pair (.int .u32) .unit)))))))], outs := [{ ex := .ret, slots := [(7, (.v (.int .i64)))], objs := [(some 1, (.box (.pair (.int .i64) (.pair (.int .i64) (.pair (.int .i64) (.pair (.int .i64) (.pair (.int .u32) .unit))))) (.v (.pair (.int .i64) (.pair (.int .i64) (.pair (.int .i64) (.pair (.int .i64) (.pair (.int .u32) .unit))))))))] }], asg := [7, 29, 30, 31, 32, 33, 34, 35, 36, 37, 38, 39, 40, 41, 42, 43, 44, 45, 46, 47, 48, 49, 50, 51, 52, 53, 54, 55, 56, 57, 58], nt := 59, fn := fun x => account_Add_7 K x.1.1 x.1.2.1 x.2.1 x.2.2.1 }
theorem k_account_Add_7 (K : Nat) (hB : Base Try.prog tabs (fs_account_Valid K)) : PcOk Try.prog (codeAt b_account_Add 7) (p_account_Add_7 K) :=
  seg_thm hB (o_account_Add_103 K hB) 7 (p_account_Add_7 K) (by kernel_rfl) (by kernel_rfl) (by kernel_rfl) (fun x => by kernel_rfl)
noncomputable def c_account_Add_7 (K : Nat) : List (Nat × Piece) := (7, p_account_Add_7 K) :: c_account_Add_103 K
theorem o_account_Add_7 (K : Nat) (hB : Base Try.prog tabs (fs_account_Valid K)) : PcsOk Try.prog b_account_Add (c_account_Add_7 K) := PcsOk.cons (k_account_Add_7 K hB) (o_account_Add_103 K hB)
def account_Add (K : Nat) (x0 : (Int × (Int × (Int × (Int × (Int × Unit)))))) (x1 : Int) (x2 : Int) : Option ((((Int × (Int × (Int × (Int × (Int × Unit))))) × (Int × Unit)) × Unit) × Unit) :=
  (account_Valid K x0).bind fun y2 =>
    if !y2.1.1 then
      some ((((0, (0, (0, (0, (0, ()))))), (7, ())), ()), ())
    else
      if decide (x1 = 0) then
        (account_Add_103 K true x0 (0, (0, (0, (0, (0, ())))))).bind fun y3 =>
          match y3 with
          | .inl y4 =>
            (account_Add_7 K x1 x2 y4.2.1 y4.2.2.1).bind fun y6 =>
              some (((y6.2.1, (y6.1.1, ())), ()), ())
          | .inr y5 =>
            some (((y5.2.1, (y5.1.1, ())), ()), ())
      else
        (account_inside K ([x1, x2])).bind fun y7 =>
          (account_Add_103 K (!y7.1.1) x0 (0, (0, (0, (0, (0, ())))))).bind fun y8 =>
            match y8 with
            | .inl y9 =>
              (account_Add_7 K x1 x2 y9.2.1 y9.2.2.1).bind fun y11 =>
                some (((y11.2.1, (y11.1.1, ())), ()), ())
            | .inr y10 =>
              some (((y10.2.1, (y10.1.1, ())), ()), ())
@[reducible] def p_account_Add (K : Nat) : Piece := { slots := [(0, (.v (.pair (.int .i64) (.pair (.int .i64) (.pair (.int .i64) (.pair (.int .i64) (.pair (.int .u32) .unit))))))), (1, (.v (.int .u32))), (2, (.v (.int .u32)))], objs := [], outs := [{ ex := .ret, slots := [(0, (.tup (.cons (.v (.pair (.int .i64) (.pair (.int .i64) (.pair (.int .i64) (.pair (.int .i64) (.pair (.int .u32) .unit)))))) (.cons (.v (.int .i64)) .nil))))], objs := [] }], asg := [], nt := 59, fn := fun x => account_Add K x.1.1 x.1.2.1 x.1.2.2.1 }
theorem s_account_Add (K : Nat) (hB : Base Try.prog tabs (fs_account_Valid K)) : FnSound Try.prog 31 (p_account_Add K) :=
  fun_thm hB (o_account_Add_7 K hB) Try.func31 (body := b_account_Add) rfl (p_account_Add K) (rs := [.cell 6 50, .tmp 7]) rfl (Nat.le_of_ble_eq_true (by kernel_rfl)) (fun x => by kernel_rfl)
noncomputable def fs_account_Add (K : Nat) : List (Nat × Piece) := (31, p_account_Add K) :: fs_account_Valid K
theorem base_account_Add (K : Nat) : Base Try.prog tabs (fs_account_Add K) := ⟨(base_account_Valid K).mixed, (base_account_Valid K).tabs, FnsOk.cons (s_account_Add K (base_account_Valid K)) (by kernel_rfl) (base_account_Valid K).fns⟩
/-! "selfstab/selfstablaw20.WorstBoundsEveryWalk" -/
noncomputable def b_law20_WorstBoundsEveryWalk : Code := codeOf Try.f10
noncomputable def c_law20_WorstBoundsEveryWalk_0 (K : Nat) : List (Nat × Piece) := []
theorem o_law20_WorstBoundsEveryWalk_0 (K : Nat) : PcsOk Try.prog b_law20_WorstBoundsEveryWalk (c_law20_WorstBoundsEveryWalk_0 K) := PcsOk.nil
def law20_WorstBoundsEveryWalk_509 (K : Nat) (x89 : Bool) : Option ((Unit × Unit) ⊕ ((Bool × Unit) × Unit)) :=
  if x89 then
    some (.inr ((false, ()), ()))
  else
    some (.inl ((), ()))
@[reducible] def p_law20_WorstBoundsEveryWalk_509 (K : Nat) : Piece := { slots := [(89, (.v .bool))], objs := [], outs := [{ ex := .normal, slots := [], objs := [] }, { ex := .ret, slots := [(8, (.v .bool))], objs := [] }], asg := [8], nt := 175, fn := fun x => law20_WorstBoundsEveryWalk_509 K x.1.1 }
theorem k_law20_WorstBoundsEveryWalk_509 (K : Nat) (hB : Base Try.prog tabs (fs_account_Add K)) : PcOk Try.prog (codeAt b_law20_WorstBoundsEveryWalk 509) (p_law20_WorstBoundsEveryWalk_509 K) :=
  seg_thm hB (o_law20_WorstBoundsEveryWalk_0 K) 509 (p_law20_WorstBoundsEveryWalk_509 K) (by kernel_rfl) (by kernel_rfl) (by kernel_rfl) (fun x => by kernel_rfl)
noncomputable def c_law20_WorstBoundsEveryWalk_509 (K : Nat) : List (Nat × Piece) := (509, p_law20_WorstBoundsEveryWalk_509 K) :: c_law20_WorstBoundsEveryWalk_0 K
theorem o_law20_WorstBoundsEveryWalk_509 (K : Nat) (hB : Base Try.prog tabs (fs_account_Add K)) : PcsOk Try.prog b_law20_WorstBoundsEveryWalk (c_law20_WorstBoundsEveryWalk_509 K) := PcsOk.cons (k_law20_WorstBoundsEveryWalk_509 K hB) (o_law20_WorstBoundsEveryWalk_0 K)
def law20_WorstBoundsEveryWalk_8186 (K : Nat) : (k : Nat) → (x1 : (List Bool)) → (x3 : (List Int)) → (x16 : Int) → (x18 : Int) → (o0 : ((List Int) × ((List (List (Int × (Int × Unit)))) × Unit))) → (o1 : (Int × (Int × (Int × (Int × (Int × Unit)))))) → Option ((Unit × ((Int × (Int × (Int × (Int × (Int × Unit))))) × Unit)) ⊕ ((Bool × Unit) × Unit))
  | 0, _, _, _, _, _, _ => none
  | k + 1, x1, x3, x16, x18, o0, o1 =>
    if decide (x18 < (x3.length : Int)) then
      if decide (0 ≤ x16 ∧ x16 < (x1.length : Int)) then
        if !(x1.getD x16.toNat false) then
          if decide (0 ≤ x16 ∧ x16 < (o0.2.1.length : Int)) then
            if decide (0 ≤ x18 ∧ x18 < (x3.length : Int)) then
              if decide (0 ≤ x16 ∧ x16 < (o0.2.1.length : Int)) then
                if decide (((o0.2.1.getD x16.toNat []).length : Int) = 0) then
                  none
                else
                  if decide (0 ≤ Int.tmod (IntKind.i64.wrap (x3.getD x18.toNat 0)) ((o0.2.1.getD x16.toNat []).length : Int) ∧ Int.tmod (IntKind.i64.wrap (x3.getD x18.toNat 0)) ((o0.2.1.getD x16.toNat []).length : Int) < ((o0.2.1.getD x16.toNat []).length : Int)) then
                    if decide (0 ≤ (((o0.2.1.getD x16.toNat []).getD ((Int.tmod (IntKind.i64.wrap (x3.getD x18.toNat 0)) ((o0.2.1.getD x16.toNat []).length : Int)).toNat) (0, (0, ()))).2).1 ∧ (((o0.2.1.getD x16.toNat []).getD ((Int.tmod (IntKind.i64.wrap (x3.getD x18.toNat 0)) ((o0.2.1.getD x16.toNat []).length : Int)).toNat) (0, (0, ()))).2).1 < (o0.1.length : Int)) then
                      (account_Add K o1 (((o0.2.1.getD x16.toNat []).getD ((Int.tmod (IntKind.i64.wrap (x3.getD x18.toNat 0)) ((o0.2.1.getD x16.toNat []).length : Int)).toNat) (0, (0, ()))).1) (o0.1.getD (((((o0.2.1.getD x16.toNat []).getD ((Int.tmod (IntKind.i64.wrap (x3.getD x18.toNat 0)) ((o0.2.1.getD x16.toNat []).length : Int)).toNat) (0, (0, ()))).2).1).toNat) 0)).bind fun y4 =>
                        if !decide (y4.1.1.2.1 = 0) then
                          some (.inr ((false, ()), ()))
                        else
                          law20_WorstBoundsEveryWalk_8186 K k x1 x3 ((((o0.2.1.getD x16.toNat []).getD ((Int.tmod (IntKind.i64.wrap (x3.getD x18.toNat 0)) ((o0.2.1.getD x16.toNat []).length : Int)).toNat) (0, (0, ()))).2).1) (IntKind.i64.wrap (x18 + 1)) o0 y4.1.1.1
                    else
                      none
                  else
                    none
              else
                none
            else
              none
          else
            none
        else
          some (.inl ((), (o1, ())))
      else
        none
    else
      some (.inl ((), (o1, ())))
@[reducible] def p_law20_WorstBoundsEveryWalk_8186 (K k : Nat) : Piece := { slots := [(1, (.v (.slice .bool))), (3, (.v (.slice (.int .u8)))), (4, (.ref 0 (.pair (.slice (.int .u32)) (.pair (.slice (.slice (.pair (.int .u32) (.pair (.int .i64) .unit)))) .unit)))), (16, (.v (.int .i64))), (17, (.ref 1 (.pair (.int .i64) (.pair (.int .i64) (.pair (.int .i64) (.pair (.int .i64) (.pair (.int .u32) .unit))))))), (18, (.v (.int .i64)))], objs := [(.box (.pair (.slice (.int .u32)) (.pair (.slice (.slice (.pair (.int .u32) (.pair (.int .i64) .unit)))) .unit)) (.v (.pair (.slice (.int .u32)) (.pair (.slice (.slice (.pair (.int .u32) (.pair (.int .i64) .unit)))) .unit)))), (.box (.pair (.int .i64) (.pair (.int .i64) (.pair (.int .i64) (.pair (.int .i64) (.pair (.int .u32) .unit))))) (.v (.pair (.int .i64) (.pair (.int .i64) (.pair (.int .i64) (.pair (.int .i64) (.pair (.int .u32) .unit)))))))], outs := [{ ex := (.exit 0), slots := [], objs := [(some 1, (.box (.pair (.int .i64) (.pair (.int .i64) (.pair (.int .i64) (.pair (.int .i64) (.pair (.int .u32) .unit))))) (.v (.pair (.int .i64) (.pair (.int .i64) (.pair (.int .i64) (.pair (.int .i64) (.pair (.int .u32) .unit))))))))] }, { ex := .ret, slots := [(8, (.v .bool))], objs := [] }], asg := [8, 16, 18, 19, 20, 21, 97, 98, 99, 100, 101, 102, 103, 104, 105, 106, 107, 108, 109, 110, 111, 112, 113, 114, 115, 116, 117, 118, 119, 120, 121, 122, 123, 124, 125, 126, 127, 128, 129, 130, 131, 132, 133, 134, 135, 136, 137, 138, 139, 140, 141, 142, 143, 144, 145, 146], nt := 175, fn := fun x => law20_WorstBoundsEveryWalk_8186 K k x.1.1 x.1.2.1 x.1.2.2.2.1 x.1.2.2.2.2.2.1 x.2.1 x.2.2.1 }
theorem k_law20_WorstBoundsEveryWalk_8186 (K : Nat) (hB : Base Try.prog tabs (fs_account_Add K)) : PcOk Try.prog (codeAt b_law20_WorstBoundsEveryWalk 8186) (p_law20_WorstBoundsEveryWalk_8186 K K) :=
  loop_thm hB (o_law20_WorstBoundsEveryWalk_509 K hB) 8186 (p_law20_WorstBoundsEveryWalk_8186 K 0) (l := fun k x => law20_WorstBoundsEveryWalk_8186 K k x.1.1 x.1.2.1 x.1.2.2.2.1 x.1.2.2.2.2.2.1 x.2.1 x.2.2.1) (c := codeAt b_law20_WorstBoundsEveryWalk 16372) (by kernel_rfl) (by kernel_rfl) (by kernel_rfl) (by kernel_rfl) (fun x => by kernel_rfl) (fun k x => by kernel_rfl) K
noncomputable def c_law20_WorstBoundsEveryWalk_8186 (K : Nat) : List (Nat × Piece) := (8186, p_law20_WorstBoundsEveryWalk_8186 K K) :: c_law20_WorstBoundsEveryWalk_509 K
theorem o_law20_WorstBoundsEveryWalk_8186 (K : Nat) (hB : Base Try.prog tabs (fs_account_Add K)) : PcsOk Try.prog b_law20_WorstBoundsEveryWalk (c_law20_WorstBoundsEveryWalk_8186 K) := PcsOk.cons (k_law20_WorstBoundsEveryWalk_8186 K hB) (o_law20_WorstBoundsEveryWalk_509 K hB)
def law20_WorstBoundsEveryWalk_255 (K : Nat) (x1 : (List Bool)) (x3 : (List Int)) (x9 : Int) (x10 : (List Int)) (x12 : (List Int)) (x14 : (List Int)) (o0 : ((List Int) × ((List (List (Int × (Int × Unit)))) × Unit))) : Option ((Bool × Unit) × Unit) :=
  if decide (0 ≤ x9 ∧ x9 < (o0.1.length : Int)) then
    (account_Begin K (o0.1.getD x9.toNat 0)).bind fun y2 =>
      (law20_WorstBoundsEveryWalk_8186 K K x1 x3 x9 0 o0 y2.1.1).bind fun y6 =>
        match y6 with
        | .inl y7 =>
          (law20_awake K).bind fun y9 =>
            if y9.1.1 then
              if decide (0 ≤ x9 ∧ x9 < (x10.length : Int)) then
                if decide (y7.2.1.1 ≤ (x10.getD x9.toNat 0)) then
                  if decide (0 ≤ x9 ∧ x9 < (x12.length : Int)) then
                    if decide (y7.2.1.2.1 ≤ (x12.getD x9.toNat 0)) then
                      if decide (0 ≤ x9 ∧ x9 < (x14.length : Int)) then
                        some ((decide (y7.2.1.2.2.2.1 ≤ (x14.getD x9.toNat 0)), ()), ())
                      else
                        none
                    else
                      some ((false, ()), ())
                  else
                    none
                else
                  some ((false, ()), ())
              else
                none
            else
              some ((false, ()), ())
        | .inr y8 =>
          some ((y8.1.1, ()), ())
  else
    none
@[reducible] def p_law20_WorstBoundsEveryWalk_255 (K : Nat) : Piece := { slots := [(1, (.v (.slice .bool))), (3, (.v (.slice (.int .u8)))), (4, (.ref 0 (.pair (.slice (.int .u32)) (.pair (.slice (.slice (.pair (.int .u32) (.pair (.int .i64) .unit)))) .unit)))), (9, (.v (.int .i64))), (10, (.v (.slice (.int .i64)))), (12, (.v (.slice (.int .i64)))), (14, (.v (.slice (.int .i64))))], objs := [(.box (.pair (.slice (.int .u32)) (.pair (.slice (.slice (.pair (.int .u32) (.pair (.int .i64) .unit)))) .unit)) (.v (.pair (.slice (.int .u32)) (.pair (.slice (.slice (.pair (.int .u32) (.pair (.int .i64) .unit)))) .unit))))], outs := [{ ex := .ret, slots := [(8, (.v .bool))], objs := [] }], asg := [8, 16, 17, 18, 19, 20, 21, 90, 91, 92, 93, 94, 95, 96, 97, 98, 99, 100, 101, 102, 103, 104, 105, 106, 107, 108, 109, 110, 111, 112, 113, 114, 115, 116, 117, 118, 119, 120, 121, 122, 123, 124, 125, 126, 127, 128, 129, 130, 131, 132, 133, 134, 135, 136, 137, 138, 139, 140, 141, 142, 143, 144, 145, 146, 147, 148, 149, 150, 151, 152, 153, 154, 155, 156, 157, 158, 159, 160, 161, 162, 163, 164, 165, 166, 167, 168, 169, 170, 171, 172, 173, 174], nt := 175, fn := fun x => law20_WorstBoundsEveryWalk_255 K x.1.1 x.1.2.1 x.1.2.2.2.1 x.1.2.2.2.2.1 x.1.2.2.2.2.2.1 x.1.2.2.2.2.2.2.1 x.2.1 }
theorem k_law20_WorstBoundsEveryWalk_255 (K : Nat) (hB : Base Try.prog tabs (fs_account_Add K)) : PcOk Try.prog (codeAt b_law20_WorstBoundsEveryWalk 255) (p_law20_WorstBoundsEveryWalk_255 K) :=
  seg_thm hB (o_law20_WorstBoundsEveryWalk_8186 K hB) 255 (p_law20_WorstBoundsEveryWalk_255 K) (by kernel_rfl) (by kernel_rfl) (by kernel_rfl) (fun x => by kernel_rfl)
noncomputable def c_law20_WorstBoundsEveryWalk_255 (K : Nat) : List (Nat × Piece) := (255, p_law20_WorstBoundsEveryWalk_255 K) :: c_law20_WorstBoundsEveryWalk_8186 K
theorem o_law20_WorstBoundsEveryWalk_255 (K : Nat) (hB : Base Try.prog tabs (fs_account_Add K)) : PcsOk Try.prog b_law20_WorstBoundsEveryWalk (c_law20_WorstBoundsEveryWalk_255 K) := PcsOk.cons (k_law20_WorstBoundsEveryWalk_255 K hB) (o_law20_WorstBoundsEveryWalk_8186 K hB)
def law20_WorstBoundsEveryWalk (K : Nat) (x0 : ((List Int) × ((List (List (Int × (Int × Unit)))) × Unit))) (x1 : (List Bool)) (x2 : Int) (x3 : (List Int)) : Option ((Bool × Unit) × Unit) :=
  (law20_fair K x0 x1).bind fun y10 =>
    if !y10.1.1 then
      (law20_awake K).bind fun y11 =>
        some ((y11.1.1, ()), ())
    else
      (law20_few K x0).bind fun y12 =>
        if !y12.1.1 then
          (law20_awake K).bind fun y13 =>
            some ((y13.1.1, ()), ())
        else
          if decide (200 < (x3.length : Int)) then
            (law20_awake K).bind fun y14 =>
              some ((y14.1.1, ()), ())
          else
            (made_Mod K x2 (x1.length : Int)).bind fun y16 =>
              (worst_Steps K x0 x1).bind fun y18 =>
                (worst_Moves K x0 x1).bind fun y20 =>
                  (worst_Rounds K x0 x1).bind fun y22 =>
                    if !decide (y18.1.1.2.1 = 0) then
                      (law20_WorstBoundsEveryWalk_509 K true).bind fun y23 =>
                        match y23 with
                        | .inl y24 =>
                          (law20_WorstBoundsEveryWalk_255 K x1 x3 y16.1.1 y18.2.1 y20.2.1 y22.2.1 x0).bind fun y26 =>
                            some ((y26.1.1, ()), ())
                        | .inr y25 =>
                          some ((y25.1.1, ()), ())
                    else
                      if !decide (y20.1.1.2.1 = 0) then
                        (law20_WorstBoundsEveryWalk_509 K true).bind fun y27 =>
                          match y27 with
                          | .inl y28 =>
                            (law20_WorstBoundsEveryWalk_255 K x1 x3 y16.1.1 y18.2.1 y20.2.1 y22.2.1 x0).bind fun y30 =>
                              some ((y30.1.1, ()), ())
                          | .inr y29 =>
                            some ((y29.1.1, ()), ())
                      else
                        if !decide (y22.1.1.2.1 = 0) then
                          (law20_WorstBoundsEveryWalk_509 K true).bind fun y31 =>
                            match y31 with
                            | .inl y32 =>
                              (law20_WorstBoundsEveryWalk_255 K x1 x3 y16.1.1 y18.2.1 y20.2.1 y22.2.1 x0).bind fun y34 =>
                                some ((y34.1.1, ()), ())
                            | .inr y33 =>
                              some ((y33.1.1, ()), ())
                        else
                          if !decide ((y18.2.1.length : Int) = (x1.length : Int)) then
                            (law20_WorstBoundsEveryWalk_509 K true).bind fun y35 =>
                              match y35 with
                              | .inl y36 =>
                                (law20_WorstBoundsEveryWalk_255 K x1 x3 y16.1.1 y18.2.1 y20.2.1 y22.2.1 x0).bind fun y38 =>
                                  some ((y38.1.1, ()), ())
                              | .inr y37 =>
                                some ((y37.1.1, ()), ())
                          else
                            if !decide ((y20.2.1.length : Int) = (x1.length : Int)) then
                              (law20_WorstBoundsEveryWalk_509 K true).bind fun y39 =>
                                match y39 with
                                | .inl y40 =>
                                  (law20_WorstBoundsEveryWalk_255 K x1 x3 y16.1.1 y18.2.1 y20.2.1 y22.2.1 x0).bind fun y42 =>
                                    some ((y42.1.1, ()), ())
                                | .inr y41 =>
                                  some ((y41.1.1, ()), ())
                            else
                              (law20_WorstBoundsEveryWalk_509 K (!decide ((y22.2.1.length : Int) = (x1.length : Int)))).bind fun y43 =>
                                match y43 with
                                | .inl y44 =>
                                  (law20_WorstBoundsEveryWalk_255 K x1 x3 y16.1.1 y18.2.1 y20.2.1 y22.2.1 x0).bind fun y46 =>
                                    some ((y46.1.1, ()), ())
                                | .inr y45 =>
                                  some ((y45.1.1, ()), ())
@[reducible] def p_law20_WorstBoundsEveryWalk (K : Nat) : Piece := { slots := [(0, (.v (.pair (.slice (.int .u32)) (.pair (.slice (.slice (.pair (.int .u32) (.pair (.int .i64) .unit)))) .unit)))), (1, (.v (.slice .bool))), (2, (.v (.int .i64))), (3, (.v (.slice (.int .u8))))], objs := [], outs := [{ ex := .ret, slots := [(0, (.v .bool))], objs := [] }], asg := [], nt := 175, fn := fun x => law20_WorstBoundsEveryWalk K x.1.1 x.1.2.1 x.1.2.2.1 x.1.2.2.2.1 }
theorem s_law20_WorstBoundsEveryWalk (K : Nat) (hB : Base Try.prog tabs (fs_account_Add K)) : FnSound Try.prog 10 (p_law20_WorstBoundsEveryWalk K) :=
  fun_thm hB (o_law20_WorstBoundsEveryWalk_255 K hB) Try.func10 (body := b_law20_WorstBoundsEveryWalk) rfl (p_law20_WorstBoundsEveryWalk K) (rs := [.tmp 8]) rfl (Nat.le_of_ble_eq_true (by kernel_rfl)) (fun x => by kernel_rfl)
noncomputable def fs_law20_WorstBoundsEveryWalk (K : Nat) : List (Nat × Piece) := (10, p_law20_WorstBoundsEveryWalk K) :: fs_account_Add K
theorem base_law20_WorstBoundsEveryWalk (K : Nat) : Base Try.prog tabs (fs_law20_WorstBoundsEveryWalk K) := ⟨(base_account_Add K).mixed, (base_account_Add K).tabs, FnsOk.cons (s_law20_WorstBoundsEveryWalk K (base_account_Add K)) (by kernel_rfl) (base_account_Add K).fns⟩
theorem law_law20_WorstBoundsEveryWalk (K : Nat) : FnSound Try.prog 10 (p_law20_WorstBoundsEveryWalk K) := s_law20_WorstBoundsEveryWalk K (base_account_Add K)
end Go.Proofs.Ytafndpkfoajpnaa.G
