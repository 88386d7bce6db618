/-
  PRINTED BY PROGRAM: what the bodies of some functions compute, loop by loop; each equation is checked by the kernel.
-/
import Derived.Test.YthgbejjenlfdnaaM7
import Derived.KernelRfl
set_option linter.unusedVariables false
set_option maxRecDepth 100000
namespace Go.Refl.S3
open Go Go.Refl Go.Proofs

noncomputable def cx7 : Cx := { types := T, sigs := [(10, ⟨[], [.bool], h10⟩), (22, ⟨[(.pair .bool (.pair (.sl (.int .u32)) .unit)), (.int .u64)], [(.int .u64)], h22⟩), (25, ⟨[(.int .u32), (.int .i64)], [(.sl (.int .u64))], h25⟩), (26, ⟨[(.sl (.int .u64)), (.sl (.int .u64))], [(.pair .bool (.pair (.sl (.int .u32)) .unit)), (.pair .bool (.pair (.sl (.int .u32)) .unit)), (.int .i64)], h26⟩), (27, ⟨[(.int .i64)], [(.pair .bool (.pair (.sl (.int .u32)) .unit))], h27⟩), (28, ⟨[(.pair .bool (.pair (.sl (.int .u32)) .unit)), (.pair .bool (.pair (.sl (.int .u32)) .unit))], [(.pair .bool (.pair (.sl (.int .u32)) .unit))], h28⟩), (29, ⟨[(.pair .bool (.pair (.sl (.int .u32)) .unit))], [.bool], h29⟩), (30, ⟨[(.pair .bool (.pair (.sl (.int .u32)) .unit)), (.pair .bool (.pair (.sl (.int .u32)) .unit))], [.bool], h30⟩), (31, ⟨[(.pair .bool (.pair (.sl (.int .u32)) .unit))], [(.int .i64)], h31⟩), (32, ⟨[(.pair .bool (.pair (.sl (.int .u32)) .unit)), (.pair .bool (.pair (.sl (.int .u32)) .unit))], [(.int .i64)], h32⟩)], muts := [(26, ⟨.int .u64, 23, [.sl (.int .u64)], [tInt, tInt, .int .i64], h26m⟩)], pref := [7170], apfz := [23554] }
def an7 : List (Nat × Ann) := [(11, { keep := 262016 }), (19, { keep := 2101120 })]
noncomputable def g7 : DL [(.arr 4 (.int .u64)), (.int .u32), (.int .u8)] → Option (DL [.bool]) := Fn cx7 an7 Try.f7 [(.arr 4 (.int .u64)), (.int .u32), (.int .u8)] [.bool]
noncomputable def g7_L11 (t7 : Bool) (t8 : Int) (t9 : (List Int)) (t13 : Int) (t17 : Int) (r6144 : List Int) (v7175 : Bool) (v7175_1 : (List Int)) (v7176 : Bool) (v7176_1 : (List Int)) (v8193 : Bool) (v8193_1 : (List Int)) (r9216 : List Int) (r9217 : List Int) : Option (DL [.bool]) := Lp cx7 an7 Try.f7 [.bool] [true, true, true, true, true, true, true, true, true, false, true, false] ⟨[.undef, .undef, .undef, .undef, .undef, .undef, .undef, .val .bool t7, .val (.int .i64) t8, .val (.sl (.int .u64)) t9, .own 6144 0, .ptr 7175 [], .ptr 7176 [], .val (.int .i64) t13, .ptr 8193 [], .own 9216 0, .own 9217 0, .val (.int .i64) t17, .undef, .undef, .undef, .undef, .undef, .undef, .undef, .undef, .undef, .undef, .undef, .undef, .undef, .undef, .undef, .undef, .undef, .undef, .undef, .undef, .undef, .undef, .undef, .undef, .undef, .undef, .undef, .undef, .undef, .undef, .undef, .undef, .undef, .undef, .undef, .undef, .undef, .undef, .undef, .undef, .undef, .undef, .undef, .undef, .undef, .undef, .undef, .undef, .undef, .undef, .undef, .undef, .undef, .undef, .undef, .undef, .undef, .undef, .undef, .undef, .undef, .undef, .undef, .undef, .undef, .undef, .undef, .undef, .undef, .undef, .undef, .undef, .undef, .undef, .undef, .undef, .undef, .undef, .undef, .undef, .undef, .undef, .undef, .undef, .undef, .undef, .undef, .undef, .undef, .undef, .undef, .undef, .undef, .undef, .undef, .undef, .undef, .undef, .undef, .undef, .undef, .undef, .undef, .undef, .undef, .undef, .undef, .undef, .undef, .undef, .undef, .undef, .undef, .undef, .undef, .undef, .undef, .undef, .undef, .undef, .undef, .undef, .undef, .undef, .undef, .undef, .undef, .undef, .undef, .undef, .undef, .undef, .undef, .undef, .undef, .undef, .undef, .undef, .undef, .undef, .undef, .undef, .undef, .undef, .undef, .undef, .undef, .undef, .undef, .undef, .undef, .undef, .undef, .undef, .undef, .undef, .undef, .undef, .undef, .undef, .undef, .undef, .undef, .undef, .undef, .undef, .undef, .undef, .undef, .undef, .undef, .undef, .undef, .undef, .undef, .undef], ofL [(6144, (.row 23 (.int .u64) r6144 0, false)), (7175, (.var (.pair .bool (.pair (.sl (.int .u32)) .unit)) (.pr (.val .bool v7175) (.pr (.val (.sl (.int .u32)) v7175_1) (.un))), false)), (7176, (.var (.pair .bool (.pair (.sl (.int .u32)) .unit)) (.pr (.val .bool v7176) (.pr (.val (.sl (.int .u32)) v7176_1) (.un))), false)), (8193, (.var (.pair .bool (.pair (.sl (.int .u32)) .unit)) (.pr (.val .bool v8193) (.pr (.val (.sl (.int .u32)) v8193_1) (.un))), false)), (9216, (.row 23 (.int .u64) r9216 0, false)), (9217, (.row 23 (.int .u64) r9217 0, false))], [6144, 7175, 7176, 8193, 9216, 9217], []⟩
noncomputable def g7_L19 (t7 : Bool) (t8 : Int) (t9 : (List Int)) (t21 : Int) (r6144 : List Int) (v7175 : Bool) (v7175_1 : (List Int)) : Option (DL [.bool]) := Lp cx7 an7 Try.f7 [.bool] [true, true, true, true, true, true, true, true, true, true, true, true, false, true, false] ⟨[.undef, .undef, .undef, .undef, .undef, .undef, .undef, .val .bool t7, .val (.int .i64) t8, .val (.sl (.int .u64)) t9, .own 6144 0, .ptr 7175 [], .undef, .undef, .undef, .undef, .undef, .undef, .undef, .undef, .undef, .val (.int .i64) t21, .undef, .undef, .undef, .undef, .undef, .undef, .undef, .undef, .undef, .undef, .undef, .undef, .undef, .undef, .undef, .undef, .undef, .undef, .undef, .undef, .undef, .undef, .undef, .undef, .undef, .undef, .undef, .undef, .undef, .undef, .undef, .undef, .undef, .undef, .undef, .undef, .undef, .undef, .undef, .undef, .undef, .undef, .undef, .undef, .undef, .undef, .undef, .undef, .undef, .undef, .undef, .undef, .undef, .undef, .undef, .undef, .undef, .undef, .undef, .undef, .undef, .undef, .undef, .undef, .undef, .undef, .undef, .undef, .undef, .undef, .undef, .undef, .undef, .undef, .undef, .undef, .undef, .undef, .undef, .undef, .undef, .undef, .undef, .undef, .undef, .undef, .undef, .undef, .undef, .undef, .undef, .undef, .undef, .undef, .undef, .undef, .undef, .undef, .undef, .undef, .undef, .undef, .undef, .undef, .undef, .undef, .undef, .undef, .undef, .undef, .undef, .undef, .undef, .undef, .undef, .undef, .undef, .undef, .undef, .undef, .undef, .undef, .undef, .undef, .undef, .undef, .undef, .undef, .undef, .undef, .undef, .undef, .undef, .undef, .undef, .undef, .undef, .undef, .undef, .undef, .undef, .undef, .undef, .undef, .undef, .undef, .undef, .undef, .undef, .undef, .undef, .undef, .undef, .undef, .undef, .undef, .undef, .undef, .undef, .undef, .undef, .undef, .undef, .undef, .undef, .undef, .undef, .undef, .undef, .undef, .undef, .undef], ofL [(6144, (.row 23 (.int .u64) r6144 0, false)), (7175, (.var (.pair .bool (.pair (.sl (.int .u32)) .unit)) (.pr (.val .bool v7175) (.pr (.val (.sl (.int .u32)) v7175_1) (.un))), false))], [6144, 7175], []⟩
theorem g7_L11_eq (t7 : Bool) (t8 : Int) (t9 : (List Int)) (t13 : Int) (t17 : Int) (r6144 : List Int) (v7175 : Bool) (v7175_1 : (List Int)) (v7176 : Bool) (v7176_1 : (List Int)) (v8193 : Bool) (v8193_1 : (List Int)) (r9216 : List Int) (r9217 : List Int) : g7_L11 t7 t8 t9 t13 t17 r6144 v7175 v7175_1 v7176 v7176_1 v8193 v8193_1 r9216 r9217 =
  if (decide (t17 ≥ 0)) = true then
    if ((decide (0 ≤ t17)) && (decide (t17 < ((List.length t9) : Int)))) = true then
      Option.bind (h27 ((IntKind.wrap .i64 (List.getD t9 (Int.toNat t17) 0)), ())) fun (y4 : ((Bool × ((List Int) × Unit)) × Unit)) =>
      Option.bind (h28 ((v8193, (v8193_1, ())), (y4.1, ()))) fun (y5 : ((Bool × ((List Int) × Unit)) × Unit)) =>
      if ((decide (0 ≤ t17)) && (decide (t17 < ((List.length r6144) : Int)))) = true then
        if (decide ((((List.length r9216) + (List.length (List.set (List.replicate 1 (0 : Int)) 0 (List.getD r6144 (Int.toNat t17) 0)))) * 8) ≤ 140737488355328)) = true then
          if ((decide (0 ≤ t17)) && (decide (t17 < ((List.length t9) : Int)))) = true then
            if (decide ((((List.length r9217) + (List.length (List.set (List.replicate 1 (0 : Int)) 0 (List.getD t9 (Int.toNat t17) 0)))) * 8) ≤ 140737488355328)) = true then
              (g7_L11 t7 t8 t9 t13 (IntKind.wrap .i64 (t17 - 1)) r6144 v7175 v7175_1 v7176 v7176_1 y5.1.1 y5.1.2.1 (r9216 ++ (List.set (List.replicate 1 (0 : Int)) 0 (List.getD r6144 (Int.toNat t17) 0))) (r9217 ++ (List.set (List.replicate 1 (0 : Int)) 0 (List.getD t9 (Int.toNat t17) 0))))
            else none
          else none
        else none
      else none
    else none
  else Option.bind (h26 (r9216, (r9217, ()))) fun (y6 : ((Bool × ((List Int) × Unit)) × ((Bool × ((List Int) × Unit)) × (Int × Unit)))) =>
  if (t13 != 0) = true then
    some (false, ())
  else if (y6.2.2.1 != 0) = true then
    some (false, ())
  else Option.bind (h29 ((v7175, (v7175_1, ())), ())) fun (y7 : (Bool × Unit)) =>
  if (!y7.1) = true then
    some (false, ())
  else Option.bind (h30 ((v7176, (v7176_1, ())), ((v8193, (v8193_1, ())), ()))) fun (y8 : (Bool × Unit)) =>
  if (!y8.1) = true then
    some (false, ())
  else Option.bind (h30 ((v7175, (v7175_1, ())), ((y6.1.1, (y6.1.2.1, ())), ()))) fun (y9 : (Bool × Unit)) =>
  if (!y9.1) = true then
    some (false, ())
  else Option.bind (h30 ((y6.2.1.1, (y6.2.1.2.1, ())), ((v7176, (v7176_1, ())), ()))) fun (y10 : (Bool × Unit)) =>
  if (!y10.1) = true then
    some (false, ())
  else Option.bind (h31 ((v7175, (v7175_1, ())), ())) fun (y11 : (Int × Unit)) =>
  if (decide (y11.1 < 0)) = true then
    some (false, ())
  else Option.bind (h32 ((v7175, (v7175_1, ())), ((v7176, (v7176_1, ())), ()))) fun (y12 : (Int × Unit)) =>
  if (decide (y12.1 ≥ 0)) = true then
    some (false, ())
  else (g7_L19 t7 t8 t9 0 r6144 v7175 v7175_1) := (Lp_eq cx7 an7 Try.f7 [.bool] [true, true, true, true, true, true, true, true, true, false, true, false] _).trans (by kernel_rfl)
theorem g7_L19_eq (t7 : Bool) (t8 : Int) (t9 : (List Int)) (t21 : Int) (r6144 : List Int) (v7175 : Bool) (v7175_1 : (List Int)) : g7_L19 t7 t8 t9 t21 r6144 v7175 v7175_1 =
  if (decide (t21 < t8)) = true then
    if ((decide (0 ≤ t21)) && (decide (t21 < ((List.length t9) : Int)))) = true then
      Option.bind (h22 ((v7175, (v7175_1, ())), ((List.getD t9 (Int.toNat t21) 0), ()))) fun (y13 : (Int × Unit)) =>
      if ((decide (0 ≤ t21)) && (decide (t21 < ((List.length r6144) : Int)))) = true then
        if ((decide (0 ≤ t21)) && (decide (t21 < ((List.length t9) : Int)))) = true then
          if ((List.getD t9 (Int.toNat t21) 0) == 0) = true then
            none
          else if (y13.1 != (Int.tmod (List.getD r6144 (Int.toNat t21) 0) (List.getD t9 (Int.toNat t21) 0))) = true then
            some (false, ())
          else (g7_L19 t7 t8 t9 (IntKind.wrap .i64 (t21 + 1)) r6144 v7175 v7175_1)
        else none
      else none
    else none
  else if (decide ((((List.length r6144) + 1) * 8) ≤ 140737488355328)) = true then
    Option.bind (h26 ((r6144 ++ (List.set (List.replicate 1 (0 : Int)) 0 1)), (t9, ()))) fun (y14 : ((Bool × ((List Int) × Unit)) × ((Bool × ((List Int) × Unit)) × (Int × Unit)))) =>
    if (decide (((0 + (List.length r6144)) * 8) ≤ 140737488355328)) = true then
      if (decide ((((List.length ((List.replicate 0 (0 : Int)) ++ r6144)) + 2) * 8) ≤ 140737488355328)) = true then
        if (decide (((0 + (List.length t9)) * 8) ≤ 140737488355328)) = true then
          if (decide ((((List.length ((List.replicate 0 (0 : Int)) ++ t9)) + 2) * 8) ≤ 140737488355328)) = true then
            Option.bind (h26 ((((List.replicate 0 (0 : Int)) ++ r6144) ++ (List.set (List.set (List.replicate 2 (0 : Int)) 0 1) 1 2)), ((((List.replicate 0 (0 : Int)) ++ t9) ++ (List.set (List.set (List.replicate 2 (0 : Int)) 0 2) 1 2)), ()))) fun (y15 : ((Bool × ((List Int) × Unit)) × ((Bool × ((List Int) × Unit)) × (Int × Unit)))) =>
            Option.bind (h26 ((List.set (List.replicate 1 (0 : Int)) 0 1), ((List.set (List.replicate 1 (0 : Int)) 0 4), ()))) fun (y16 : ((Bool × ((List Int) × Unit)) × ((Bool × ((List Int) × Unit)) × (Int × Unit)))) =>
            if (y14.2.2.1 == 1) = true then
              if (y15.2.2.1 == 1) = true then
                if (y16.2.2.1 == 1) = true then
                  some (t7, ())
                else some (false, ())
              else some (false, ())
            else some (false, ())
          else none
        else none
      else none
    else none
  else none := (Lp_eq cx7 an7 Try.f7 [.bool] [true, true, true, true, true, true, true, true, true, true, true, true, false, true, false] _).trans (by kernel_rfl)
theorem g7_eq (a : (List Int)) (b : Int) (c : Int) : g7 (a, b, c, ()) =
  Option.bind (h10 ()) fun (y0 : (Bool × Unit)) =>
  if (!y0.1) = true then
    some (false, ())
  else Option.bind (h25 (b, ((IntKind.wrap .i64 (Int.tmod c 5)), ()))) fun (y1 : ((List Int) × Unit)) =>
  if ((decide (0 ≤ (IntKind.wrap .i64 (Int.tmod c 5)))) && (decide ((IntKind.wrap .i64 (Int.tmod c 5)) ≤ 4))) = true then
    if (decide (((0 + (List.length (List.take (Int.toNat (IntKind.wrap .i64 (Int.tmod c 5))) a))) * 8) ≤ 140737488355328)) = true then
      Option.bind (h26m ((List.replicate 0 (0 : Int)) ++ (List.take (Int.toNat (IntKind.wrap .i64 (Int.tmod c 5))) a)) 0 (List.length ((List.replicate 0 (0 : Int)) ++ (List.take (Int.toNat (IntKind.wrap .i64 (Int.tmod c 5))) a))) (y1.1, ())) fun (y2 : (((Bool × ((List Int) × Unit)) × ((Bool × ((List Int) × Unit)) × (Int × Unit))) × (List Int))) =>
      Option.bind (h27 (1, ())) fun (y3 : ((Bool × ((List Int) × Unit)) × Unit)) =>
      (g7_L11 y0.1 (IntKind.wrap .i64 (Int.tmod c 5)) y1.1 y2.1.2.2.1 (IntKind.wrap .i64 ((IntKind.wrap .i64 (Int.tmod c 5)) - 1)) y2.2 y2.1.1.1 y2.1.1.2.1 y2.1.2.1.1 y2.1.2.1.2.1 y3.1.1 y3.1.2.1 (List.replicate 0 (0 : Int)) (List.replicate 0 (0 : Int)))
    else none
  else none := (Fn_eq rfl).trans (by kernel_rfl)


theorem so7 : SigsOk Try.prog cx7 := ⟨(lookAll_cons s10 (lookAll_cons s22 (lookAll_cons s25 (lookAll_cons s26 (lookAll_cons s27 (lookAll_cons s28 (lookAll_cons s29 (lookAll_cons s30 (lookAll_cons s31 (lookAll_cons s32 lookAll_nil)))))))))), (lookAll_cons s26m lookAll_nil), lookAll_nil⟩
theorem in7 : ∀ f p, look cx7.inl f = some p → Try.prog.funcs[f]? = some p.1 ∧ (p.1.name == "runtime.NumGoroutine") = false := lookAll_nil
theorem ok7 {h : DL [(.arr 4 (.int .u64)), (.int .u32), (.int .u8)] → Option (DL [.bool])} (hw : ∀ x r, h x = some r → g7 x = some r) : SigOk Try.prog 7 ⟨[(.arr 4 (.int .u64)), (.int .u32), (.int .u8)], [.bool], h⟩ := (Fn_ok (anns := an7) mixed T_ok so7 in7 (f := 7) (fn := Try.f7) rfl rfl rfl [(.arr 4 (.int .u64)), (.int .u32), (.int .u8)] [.bool]).weaken hw

end Go.Refl.S3
