/-
  PRINTED BY PROGRAM: what the bodies of some functions compute, loop by loop; each equation is checked by the kernel.
-/
import Derived.Test.YthgbejjenlfdnaaM3
import Derived.KernelRfl
set_option linter.unusedVariables false
set_option maxRecDepth 100000
namespace Go.Refl.S3
open Go Go.Refl Go.Proofs

noncomputable def cx9 : Cx := { types := T, sigs := [(10, ⟨[], [.bool], h10⟩), (27, ⟨[(.int .i64)], [(.pair .bool (.pair (.sl (.int .u32)) .unit))], h27⟩), (30, ⟨[(.pair .bool (.pair (.sl (.int .u32)) .unit)), (.pair .bool (.pair (.sl (.int .u32)) .unit))], [.bool], h30⟩), (33, ⟨[(.pair .bool (.pair (.sl (.int .u32)) .unit)), (.pair .bool (.pair (.sl (.int .u32)) .unit))], [(.pair (.pair .bool (.pair (.sl (.int .u32)) .unit)) (.pair (.pair .bool (.pair (.sl (.int .u32)) .unit)) .unit)), .bool], h33⟩), (37, ⟨[(.int .i64), (.int .i64)], [(.int .i64)], h37⟩)], muts := [] }
def an9 : List (Nat × Ann) := [(8, { keep := 2017 }), (11, { keep := 4065 })]
noncomputable def g9 : DL [(.int .i16), (.int .u8)] → Option (DL [.bool]) := Fn cx9 an9 Try.f9 [(.int .i16), (.int .u8)] [.bool]
noncomputable def g9_L8 (t0 : Int) (t5 : Bool) (t6 : Int) (t8 : Bool) (t9 : Int) (t10 : Int) (v5129 : Bool) (v5129_1 : (List Int)) (v5129_1_2 : Bool) (v5129_1_2_3 : (List Int)) : Option (DL [.bool]) := Lp cx9 an9 Try.f9 [.bool] [true, true, true, true, true, true, false, true, false] ⟨[.val (.int .i16) t0, .undef, .undef, .undef, .undef, .val .bool t5, .val (.int .i64) t6, .ptr 5129 [], .val .bool t8, .val (.int .i64) t9, .val (.int .i64) t10, .undef, .undef, .undef, .undef, .undef, .undef, .undef, .undef, .undef, .undef, .undef, .undef, .undef, .undef, .undef, .undef, .undef, .undef, .undef, .undef, .undef, .undef, .undef, .undef, .undef, .undef, .undef, .undef, .undef, .undef, .undef, .undef, .undef, .undef, .undef, .undef, .undef, .undef, .undef, .undef, .undef, .undef, .undef, .undef, .undef, .undef, .undef, .undef, .undef, .undef, .undef, .undef, .undef, .undef, .undef, .undef, .undef, .undef, .undef, .undef, .undef, .undef, .undef, .undef, .undef, .undef, .undef, .undef, .undef, .undef, .undef, .undef, .undef, .undef, .undef, .undef, .undef, .undef, .undef, .undef, .undef, .undef, .undef, .undef, .undef, .undef, .undef, .undef, .undef, .undef, .undef, .undef, .undef, .undef, .undef, .undef, .undef, .undef, .undef, .undef, .undef, .undef, .undef, .undef, .undef, .undef, .undef, .undef, .undef, .undef, .undef, .undef, .undef, .undef, .undef, .undef, .undef, .undef, .undef], ofL [(5129, (.var (.pair (.pair .bool (.pair (.sl (.int .u32)) .unit)) (.pair (.pair .bool (.pair (.sl (.int .u32)) .unit)) .unit)) (.pr (.pr (.val .bool v5129) (.pr (.val (.sl (.int .u32)) v5129_1) (.un))) (.pr (.pr (.val .bool v5129_1_2) (.pr (.val (.sl (.int .u32)) v5129_1_2_3) (.un))) (.un))), false))], [5129], []⟩
noncomputable def g9_L11 (t0 : Int) (t5 : Bool) (t6 : Int) (t8 : Bool) (t9 : Int) (t10 : Int) (t11 : Int) (v5129 : Bool) (v5129_1 : (List Int)) (v5129_1_2 : Bool) (v5129_1_2_3 : (List Int)) : Option (DL [.bool]) := Lp cx9 an9 Try.f9 [.bool] [true, true, true, true, true, true, false, true, false, false, true, false, false, true, false] ⟨[.val (.int .i16) t0, .undef, .undef, .undef, .undef, .val .bool t5, .val (.int .i64) t6, .ptr 5129 [], .val .bool t8, .val (.int .i64) t9, .val (.int .i64) t10, .val (.int .i64) t11, .undef, .undef, .undef, .undef, .undef, .undef, .undef, .undef, .undef, .undef, .undef, .undef, .undef, .undef, .undef, .undef, .undef, .undef, .undef, .undef, .undef, .undef, .undef, .undef, .undef, .undef, .undef, .undef, .undef, .undef, .undef, .undef, .undef, .undef, .undef, .undef, .undef, .undef, .undef, .undef, .undef, .undef, .undef, .undef, .undef, .undef, .undef, .undef, .undef, .undef, .undef, .undef, .undef, .undef, .undef, .undef, .undef, .undef, .undef, .undef, .undef, .undef, .undef, .undef, .undef, .undef, .undef, .undef, .undef, .undef, .undef, .undef, .undef, .undef, .undef, .undef, .undef, .undef, .undef, .undef, .undef, .undef, .undef, .undef, .undef, .undef, .undef, .undef, .undef, .undef, .undef, .undef, .undef, .undef, .undef, .undef, .undef, .undef, .undef, .undef, .undef, .undef, .undef, .undef, .undef, .undef, .undef, .undef, .undef, .undef, .undef, .undef, .undef, .undef, .undef, .undef, .undef, .undef], ofL [(5129, (.var (.pair (.pair .bool (.pair (.sl (.int .u32)) .unit)) (.pair (.pair .bool (.pair (.sl (.int .u32)) .unit)) .unit)) (.pr (.pr (.val .bool v5129) (.pr (.val (.sl (.int .u32)) v5129_1) (.un))) (.pr (.pr (.val .bool v5129_1_2) (.pr (.val (.sl (.int .u32)) v5129_1_2_3) (.un))) (.un))), false))], [5129], []⟩
theorem g9_L8_eq (t0 : Int) (t5 : Bool) (t6 : Int) (t8 : Bool) (t9 : Int) (t10 : Int) (v5129 : Bool) (v5129_1 : (List Int)) (v5129_1_2 : Bool) (v5129_1_2_3 : (List Int)) : g9_L8 t0 t5 t6 t8 t9 t10 v5129 v5129_1 v5129_1_2 v5129_1_2_3 =
  if (decide ((IntKind.wrap .i64 ((IntKind.wrap .i64 (2 * t10)) * t10)) ≤ (IntKind.wrap .i64 (t6 - 1)))) = true then
    (g9_L11 t0 t5 t6 t8 t9 t10 (-15) v5129 v5129_1 v5129_1_2 v5129_1_2_3)
  else if (t8 == (t9 == 1)) = true then
    if (decide (t9 ≤ 1)) = true then
      if t8 = true then
        some (t5, ())
      else if ((IntKind.wrap .i64 (((List.length v5129_1) : Int) + ((List.length v5129_1_2_3) : Int))) == 0) = true then
        some (t5, ())
      else some (false, ())
    else some (false, ())
  else some (false, ()) := (Lp_eq cx9 an9 Try.f9 [.bool] [true, true, true, true, true, true, false, true, false] _).trans (by kernel_rfl)
theorem g9_L11_eq (t0 : Int) (t5 : Bool) (t6 : Int) (t8 : Bool) (t9 : Int) (t10 : Int) (t11 : Int) (v5129 : Bool) (v5129_1 : (List Int)) (v5129_1_2 : Bool) (v5129_1_2_3 : (List Int)) : g9_L11 t0 t5 t6 t8 t9 t10 t11 v5129 v5129_1 v5129_1_2 v5129_1_2_3 =
  if (decide (t11 ≤ 15)) = true then
    if (decide ((IntKind.wrap .i64 ((IntKind.wrap .i64 (2 * t11)) * t11)) > (IntKind.wrap .i64 (t6 - 1)))) = true then
      (g9_L11 t0 t5 t6 t8 t9 t10 (IntKind.wrap .i64 (t11 + 1)) v5129 v5129_1 v5129_1_2 v5129_1_2_3)
    else Option.bind (h37 (t10, (t6, ()))) fun (y4 : (Int × Unit)) =>
    if (y4.1 != 1) = true then
      (g9_L11 t0 t5 t6 t8 t9 t10 (IntKind.wrap .i64 (t11 + 1)) v5129 v5129_1 v5129_1_2 v5129_1_2_3)
    else if (t11 != 0) = true then
      Option.bind (h37 (t10, ((if (true = true) then (if ((IntKind.wrap .i64 (0 - t11)) > t11) then (IntKind.wrap .i64 (0 - t11)) else t11) else (if ((IntKind.wrap .i64 (0 - t11)) < t11) then (IntKind.wrap .i64 (0 - t11)) else t11)), ()))) fun (y5 : (Int × Unit)) =>
      if (y5.1 != 1) = true then
        (g9_L11 t0 t5 t6 t8 t9 t10 (IntKind.wrap .i64 (t11 + 1)) v5129 v5129_1 v5129_1_2 v5129_1_2_3)
      else if (t11 == 0) = true then
        if (t10 != 1) = true then
          (g9_L11 t0 t5 t6 t8 t9 t10 (IntKind.wrap .i64 (t11 + 1)) v5129 v5129_1 v5129_1_2 v5129_1_2_3)
        else if (t6 == 0) = true then
          none
        else if ((Int.tmod (IntKind.wrap .i64 (t11 - (IntKind.wrap .i64 ((IntKind.wrap .i64 t0) * t10)))) t6) != 0) = true then
          (g9_L11 t0 t5 t6 t8 t9 t10 (IntKind.wrap .i64 (t11 + 1)) v5129 v5129_1 v5129_1_2 v5129_1_2_3)
        else if (!t8) = true then
          some (false, ())
        else Option.bind (h27 (t11, ())) fun (y6 : ((Bool × ((List Int) × Unit)) × Unit)) =>
        Option.bind (h30 ((v5129, (v5129_1, ())), (y6.1, ()))) fun (y7 : (Bool × Unit)) =>
        if (!y7.1) = true then
          some (false, ())
        else Option.bind (h27 (t10, ())) fun (y8 : ((Bool × ((List Int) × Unit)) × Unit)) =>
        Option.bind (h30 ((v5129_1_2, (v5129_1_2_3, ())), (y8.1, ()))) fun (y9 : (Bool × Unit)) =>
        if (!y9.1) = true then
          some (false, ())
        else (g9_L11 t0 t5 t6 t8 (IntKind.wrap .i64 (t9 + 1)) t10 (IntKind.wrap .i64 (t11 + 1)) v5129 v5129_1 v5129_1_2 v5129_1_2_3)
      else if (t6 == 0) = true then
        none
      else if ((Int.tmod (IntKind.wrap .i64 (t11 - (IntKind.wrap .i64 ((IntKind.wrap .i64 t0) * t10)))) t6) != 0) = true then
        (g9_L11 t0 t5 t6 t8 t9 t10 (IntKind.wrap .i64 (t11 + 1)) v5129 v5129_1 v5129_1_2 v5129_1_2_3)
      else if (!t8) = true then
        some (false, ())
      else Option.bind (h27 (t11, ())) fun (y10 : ((Bool × ((List Int) × Unit)) × Unit)) =>
      Option.bind (h30 ((v5129, (v5129_1, ())), (y10.1, ()))) fun (y11 : (Bool × Unit)) =>
      if (!y11.1) = true then
        some (false, ())
      else Option.bind (h27 (t10, ())) fun (y12 : ((Bool × ((List Int) × Unit)) × Unit)) =>
      Option.bind (h30 ((v5129_1_2, (v5129_1_2_3, ())), (y12.1, ()))) fun (y13 : (Bool × Unit)) =>
      if (!y13.1) = true then
        some (false, ())
      else (g9_L11 t0 t5 t6 t8 (IntKind.wrap .i64 (t9 + 1)) t10 (IntKind.wrap .i64 (t11 + 1)) v5129 v5129_1 v5129_1_2 v5129_1_2_3)
    else if (t11 == 0) = true then
      if (t10 != 1) = true then
        (g9_L11 t0 t5 t6 t8 t9 t10 (IntKind.wrap .i64 (t11 + 1)) v5129 v5129_1 v5129_1_2 v5129_1_2_3)
      else if (t6 == 0) = true then
        none
      else if ((Int.tmod (IntKind.wrap .i64 (t11 - (IntKind.wrap .i64 ((IntKind.wrap .i64 t0) * t10)))) t6) != 0) = true then
        (g9_L11 t0 t5 t6 t8 t9 t10 (IntKind.wrap .i64 (t11 + 1)) v5129 v5129_1 v5129_1_2 v5129_1_2_3)
      else if (!t8) = true then
        some (false, ())
      else Option.bind (h27 (t11, ())) fun (y14 : ((Bool × ((List Int) × Unit)) × Unit)) =>
      Option.bind (h30 ((v5129, (v5129_1, ())), (y14.1, ()))) fun (y15 : (Bool × Unit)) =>
      if (!y15.1) = true then
        some (false, ())
      else Option.bind (h27 (t10, ())) fun (y16 : ((Bool × ((List Int) × Unit)) × Unit)) =>
      Option.bind (h30 ((v5129_1_2, (v5129_1_2_3, ())), (y16.1, ()))) fun (y17 : (Bool × Unit)) =>
      if (!y17.1) = true then
        some (false, ())
      else (g9_L11 t0 t5 t6 t8 (IntKind.wrap .i64 (t9 + 1)) t10 (IntKind.wrap .i64 (t11 + 1)) v5129 v5129_1 v5129_1_2 v5129_1_2_3)
    else if (t6 == 0) = true then
      none
    else if ((Int.tmod (IntKind.wrap .i64 (t11 - (IntKind.wrap .i64 ((IntKind.wrap .i64 t0) * t10)))) t6) != 0) = true then
      (g9_L11 t0 t5 t6 t8 t9 t10 (IntKind.wrap .i64 (t11 + 1)) v5129 v5129_1 v5129_1_2 v5129_1_2_3)
    else if (!t8) = true then
      some (false, ())
    else Option.bind (h27 (t11, ())) fun (y18 : ((Bool × ((List Int) × Unit)) × Unit)) =>
    Option.bind (h30 ((v5129, (v5129_1, ())), (y18.1, ()))) fun (y19 : (Bool × Unit)) =>
    if (!y19.1) = true then
      some (false, ())
    else Option.bind (h27 (t10, ())) fun (y20 : ((Bool × ((List Int) × Unit)) × Unit)) =>
    Option.bind (h30 ((v5129_1_2, (v5129_1_2_3, ())), (y20.1, ()))) fun (y21 : (Bool × Unit)) =>
    if (!y21.1) = true then
      some (false, ())
    else (g9_L11 t0 t5 t6 t8 (IntKind.wrap .i64 (t9 + 1)) t10 (IntKind.wrap .i64 (t11 + 1)) v5129 v5129_1 v5129_1_2 v5129_1_2_3)
  else (g9_L8 t0 t5 t6 t8 t9 (IntKind.wrap .i64 (t10 + 1)) v5129 v5129_1 v5129_1_2 v5129_1_2_3) := (Lp_eq cx9 an9 Try.f9 [.bool] [true, true, true, true, true, true, false, true, false, false, true, false, false, true, false] _).trans (by kernel_rfl)
theorem g9_eq (a : Int) (b : Int) : g9 (a, b, ()) =
  Option.bind (h10 ()) fun (y0 : (Bool × Unit)) =>
  if (!y0.1) = true then
    some (false, ())
  else Option.bind (h27 ((IntKind.wrap .i64 a), ())) fun (y1 : ((Bool × ((List Int) × Unit)) × Unit)) =>
  Option.bind (h27 ((IntKind.wrap .i64 b), ())) fun (y2 : ((Bool × ((List Int) × Unit)) × Unit)) =>
  Option.bind (h33 (y1.1, (y2.1, ()))) fun (y3 : (((Bool × ((List Int) × Unit)) × ((Bool × ((List Int) × Unit)) × Unit)) × (Bool × Unit))) =>
  (g9_L8 a y0.1 (IntKind.wrap .i64 b) y3.2.1 0 1 y3.1.1.1 y3.1.1.2.1 y3.1.2.1.1 y3.1.2.1.2.1) := (Fn_eq rfl).trans (by kernel_rfl)


theorem so9 : SigsOk Try.prog cx9 := ⟨(lookAll_cons s10 (lookAll_cons s27 (lookAll_cons s30 (lookAll_cons s33 (lookAll_cons s37 lookAll_nil))))), lookAll_nil, lookAll_nil⟩
theorem in9 : ∀ f p, look cx9.inl f = some p → Try.prog.funcs[f]? = some p.1 ∧ (p.1.name == "runtime.NumGoroutine") = false := lookAll_nil
theorem ok9 {h : DL [(.int .i16), (.int .u8)] → Option (DL [.bool])} (hw : ∀ x r, h x = some r → g9 x = some r) : SigOk Try.prog 9 ⟨[(.int .i16), (.int .u8)], [.bool], h⟩ := (Fn_ok (anns := an9) mixed T_ok so9 in9 (f := 9) (fn := Try.f9) rfl rfl rfl [(.int .i16), (.int .u8)] [.bool]).weaken hw

end Go.Refl.S3
