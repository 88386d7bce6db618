/-
  PRINTED BY PROGRAM: what the bodies of some functions compute, loop by loop; each equation is checked by the kernel.
-/
import Derived.Test.YthgbejjenlfdnaaM3
import Derived.KernelRfl
set_option linter.unusedVariables false
set_option maxRecDepth 100000
namespace Go.Refl.S3
open Go Go.Refl Go.Proofs

noncomputable def cx6 : Cx := { types := T, sigs := [(10, ⟨[], [.bool], h10⟩), (12, ⟨[(.int .u64)], [(.int .u64), (.int .i64)], h12⟩), (15, ⟨[(.pair (.int .i8) (.pair (.int .i8) (.pair (.int .u8) .unit)))], [(.pair (.pair .bool (.pair (.sl (.int .u32)) .unit)) (.pair (.pair .bool (.pair (.sl (.int .u32)) .unit)) .unit))], h15⟩), (18, ⟨[(.pair (.pair .bool (.pair (.sl (.int .u32)) .unit)) (.pair (.pair .bool (.pair (.sl (.int .u32)) .unit)) .unit)), (.int .u64)], [(.int .u64), (.int .i64)], h18⟩), (22, ⟨[(.pair .bool (.pair (.sl (.int .u32)) .unit)), (.int .u64)], [(.int .u64)], h22⟩), (23, ⟨[(.pair (.pair .bool (.pair (.sl (.int .u32)) .unit)) (.pair (.pair .bool (.pair (.sl (.int .u32)) .unit)) .unit)), (.pair (.pair .bool (.pair (.sl (.int .u32)) .unit)) (.pair (.pair .bool (.pair (.sl (.int .u32)) .unit)) .unit))], [(.pair (.pair .bool (.pair (.sl (.int .u32)) .unit)) (.pair (.pair .bool (.pair (.sl (.int .u32)) .unit)) .unit))], h23⟩), (24, ⟨[(.pair (.pair .bool (.pair (.sl (.int .u32)) .unit)) (.pair (.pair .bool (.pair (.sl (.int .u32)) .unit)) .unit)), (.pair (.pair .bool (.pair (.sl (.int .u32)) .unit)) (.pair (.pair .bool (.pair (.sl (.int .u32)) .unit)) .unit))], [(.pair (.pair .bool (.pair (.sl (.int .u32)) .unit)) (.pair (.pair .bool (.pair (.sl (.int .u32)) .unit)) .unit))], h24⟩)], muts := [] }
def an6 : List (Nat × Ann) := []
noncomputable def g6 : DL [(.int .u32), (.pair (.int .i8) (.pair (.int .i8) (.pair (.int .u8) .unit))), (.pair (.int .i8) (.pair (.int .i8) (.pair (.int .u8) .unit)))] → Option (DL [.bool]) := Fn cx6 an6 Try.f6 [(.int .u32), (.pair (.int .i8) (.pair (.int .i8) (.pair (.int .u8) .unit))), (.pair (.int .i8) (.pair (.int .i8) (.pair (.int .u8) .unit)))] [.bool]
theorem g6_eq (a : Int) (b : (Int × (Int × (Int × Unit)))) (c : (Int × (Int × (Int × Unit)))) : g6 (a, b, c, ()) =
  Option.bind (h10 ()) fun (y0 : (Bool × Unit)) =>
  if (!y0.1) = true then
    some (false, ())
  else Option.bind (h12 ((IntKind.wrap .u64 (Int.tmod a 2147483647)), ())) fun (y1 : (Int × (Int × Unit))) =>
  Option.bind (h15 ((b.1, (b.2.1, (b.2.2.1, ()))), ())) fun (y2 : (((Bool × ((List Int) × Unit)) × ((Bool × ((List Int) × Unit)) × Unit)) × Unit)) =>
  Option.bind (h15 ((c.1, (c.2.1, (c.2.2.1, ()))), ())) fun (y3 : (((Bool × ((List Int) × Unit)) × ((Bool × ((List Int) × Unit)) × Unit)) × Unit)) =>
  Option.bind (h18 (((y2.1.1.1, (y2.1.1.2.1, ())), ((y2.1.2.1.1, (y2.1.2.1.2.1, ())), ())), (y1.1, ()))) fun (y4 : (Int × (Int × Unit))) =>
  Option.bind (h18 (((y3.1.1.1, (y3.1.1.2.1, ())), ((y3.1.2.1.1, (y3.1.2.1.2.1, ())), ())), (y1.1, ()))) fun (y5 : (Int × (Int × Unit))) =>
  Option.bind (h22 ((y2.1.2.1.1, (y2.1.2.1.2.1, ())), (y1.1, ()))) fun (y6 : (Int × Unit)) =>
  if (!((y4.2.1 == 30) == (y6.1 == 0))) = true then
    some (false, ())
  else if (y4.2.1 != 0) = true then
    if (y4.2.1 != 30) = true then
      some (false, ())
    else if (y4.1 != 0) = true then
      some (false, ())
    else if (y4.2.1 != 0) = true then
      some (y0.1, ())
    else if (y5.2.1 != 0) = true then
      some (y0.1, ())
    else Option.bind (h23 (((y2.1.1.1, (y2.1.1.2.1, ())), ((y2.1.2.1.1, (y2.1.2.1.2.1, ())), ())), (((y3.1.1.1, (y3.1.1.2.1, ())), ((y3.1.2.1.1, (y3.1.2.1.2.1, ())), ())), ()))) fun (y7 : (((Bool × ((List Int) × Unit)) × ((Bool × ((List Int) × Unit)) × Unit)) × Unit)) =>
    Option.bind (h18 (y7.1, (y1.1, ()))) fun (y8 : (Int × (Int × Unit))) =>
    Option.bind (h24 (((y2.1.1.1, (y2.1.1.2.1, ())), ((y2.1.2.1.1, (y2.1.2.1.2.1, ())), ())), (((y3.1.1.1, (y3.1.1.2.1, ())), ((y3.1.2.1.1, (y3.1.2.1.2.1, ())), ())), ()))) fun (y9 : (((Bool × ((List Int) × Unit)) × ((Bool × ((List Int) × Unit)) × Unit)) × Unit)) =>
    Option.bind (h18 (y9.1, (y1.1, ()))) fun (y10 : (Int × (Int × Unit))) =>
    Option.bind (h22 ((y2.1.2.1.1, (y2.1.2.1.2.1, ())), (y1.1, ()))) fun (y11 : (Int × Unit)) =>
    if (y1.1 == 0) = true then
      none
    else if (decide (y4.1 < y1.1)) = true then
      if (y8.2.1 == 0) = true then
        if (y10.2.1 == 0) = true then
          if (y1.1 == 0) = true then
            none
          else if (y8.1 == (Int.tmod (IntKind.wrap .u64 (y4.1 + y5.1)) y1.1)) = true then
            if (y1.1 == 0) = true then
              none
            else if (y10.1 == (Int.tmod (IntKind.wrap .u64 (y4.1 * y5.1)) y1.1)) = true then
              Option.bind (h22 ((y2.1.1.1, (y2.1.1.2.1, ())), (y1.1, ()))) fun (y12 : (Int × Unit)) =>
              if ((Int.tmod (IntKind.wrap .u64 (y11.1 * y4.1)) y1.1) == y12.1) = true then
                some (y0.1, ())
              else some (false, ())
            else some (false, ())
          else some (false, ())
        else some (false, ())
      else some (false, ())
    else some (false, ())
  else if (y4.2.1 != 0) = true then
    some (y0.1, ())
  else if (y5.2.1 != 0) = true then
    some (y0.1, ())
  else Option.bind (h23 (((y2.1.1.1, (y2.1.1.2.1, ())), ((y2.1.2.1.1, (y2.1.2.1.2.1, ())), ())), (((y3.1.1.1, (y3.1.1.2.1, ())), ((y3.1.2.1.1, (y3.1.2.1.2.1, ())), ())), ()))) fun (y13 : (((Bool × ((List Int) × Unit)) × ((Bool × ((List Int) × Unit)) × Unit)) × Unit)) =>
  Option.bind (h18 (y13.1, (y1.1, ()))) fun (y14 : (Int × (Int × Unit))) =>
  Option.bind (h24 (((y2.1.1.1, (y2.1.1.2.1, ())), ((y2.1.2.1.1, (y2.1.2.1.2.1, ())), ())), (((y3.1.1.1, (y3.1.1.2.1, ())), ((y3.1.2.1.1, (y3.1.2.1.2.1, ())), ())), ()))) fun (y15 : (((Bool × ((List Int) × Unit)) × ((Bool × ((List Int) × Unit)) × Unit)) × Unit)) =>
  Option.bind (h18 (y15.1, (y1.1, ()))) fun (y16 : (Int × (Int × Unit))) =>
  Option.bind (h22 ((y2.1.2.1.1, (y2.1.2.1.2.1, ())), (y1.1, ()))) fun (y17 : (Int × Unit)) =>
  if (y1.1 == 0) = true then
    none
  else if (decide (y4.1 < y1.1)) = true then
    if (y14.2.1 == 0) = true then
      if (y16.2.1 == 0) = true then
        if (y1.1 == 0) = true then
          none
        else if (y14.1 == (Int.tmod (IntKind.wrap .u64 (y4.1 + y5.1)) y1.1)) = true then
          if (y1.1 == 0) = true then
            none
          else if (y16.1 == (Int.tmod (IntKind.wrap .u64 (y4.1 * y5.1)) y1.1)) = true then
            Option.bind (h22 ((y2.1.1.1, (y2.1.1.2.1, ())), (y1.1, ()))) fun (y18 : (Int × Unit)) =>
            if ((Int.tmod (IntKind.wrap .u64 (y17.1 * y4.1)) y1.1) == y18.1) = true then
              some (y0.1, ())
            else some (false, ())
          else some (false, ())
        else some (false, ())
      else some (false, ())
    else some (false, ())
  else some (false, ()) := (Fn_eq rfl).trans (by kernel_rfl)


theorem so6 : SigsOk Try.prog cx6 := ⟨(lookAll_cons s10 (lookAll_cons s12 (lookAll_cons s15 (lookAll_cons s18 (lookAll_cons s22 (lookAll_cons s23 (lookAll_cons s24 lookAll_nil))))))), lookAll_nil, lookAll_nil⟩
theorem in6 : ∀ f p, look cx6.inl f = some p → Try.prog.funcs[f]? = some p.1 ∧ (p.1.name == "runtime.NumGoroutine") = false := lookAll_nil
theorem ok6 {h : DL [(.int .u32), (.pair (.int .i8) (.pair (.int .i8) (.pair (.int .u8) .unit))), (.pair (.int .i8) (.pair (.int .i8) (.pair (.int .u8) .unit)))] → Option (DL [.bool])} (hw : ∀ x r, h x = some r → g6 x = some r) : SigOk Try.prog 6 ⟨[(.int .u32), (.pair (.int .i8) (.pair (.int .i8) (.pair (.int .u8) .unit))), (.pair (.int .i8) (.pair (.int .i8) (.pair (.int .u8) .unit)))], [.bool], h⟩ := (Fn_ok (anns := an6) mixed T_ok so6 in6 (f := 6) (fn := Try.f6) rfl rfl rfl [(.int .u32), (.pair (.int .i8) (.pair (.int .i8) (.pair (.int .u8) .unit))), (.pair (.int .i8) (.pair (.int .i8) (.pair (.int .u8) .unit)))] [.bool]).weaken hw

end Go.Refl.S3
