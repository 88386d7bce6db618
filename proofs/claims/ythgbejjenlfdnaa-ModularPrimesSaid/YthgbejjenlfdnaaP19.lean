/-
  PRINTED BY PROGRAM: what the bodies of some functions compute, loop by loop; each equation is checked by the kernel.
-/
import Derived.Test.YthgbejjenlfdnaaK4
import Derived.KernelRfl
set_option linter.unusedVariables false
set_option maxRecDepth 100000
namespace Go.Refl.S3
open Go Go.Refl Go.Proofs

noncomputable def cx3 : Cx := { types := T, sigs := [(10, ⟨[], [.bool], h10⟩), (11, ⟨[(.int .u64)], [(.int .u64), (.int .i64)], h11⟩), (12, ⟨[(.int .u64)], [(.int .u64), (.int .i64)], h12⟩), (13, ⟨[(.int .u64)], [.bool], h13⟩), (14, ⟨[(.int .u64)], [.bool], h14⟩), (15, ⟨[(.pair (.int .i8) (.pair (.int .i8) (.pair (.int .u8) .unit)))], [(.pair (.pair .bool (.pair (.sl (.int .u32)) .unit)) (.pair (.pair .bool (.pair (.sl (.int .u32)) .unit)) .unit))], h15⟩), (16, ⟨[(.int .u64), (.int .u64)], [(.int .u64), (.int .i64)], h16⟩), (17, ⟨[(.int .u64), (.int .u64)], [(.int .u64), (.int .i64)], h17⟩), (18, ⟨[(.pair (.pair .bool (.pair (.sl (.int .u32)) .unit)) (.pair (.pair .bool (.pair (.sl (.int .u32)) .unit)) .unit)), (.int .u64)], [(.int .u64), (.int .i64)], h18⟩), (19, ⟨[(.pair (.pair .bool (.pair (.sl (.int .u32)) .unit)) (.pair (.pair .bool (.pair (.sl (.int .u32)) .unit)) .unit)), (.int .u64)], [(.int .u64), (.int .i64)], h19⟩), (20, ⟨[(.int .u64), (.int .u64), (.int .u64)], [(.int .u64)], h20⟩), (21, ⟨[(.int .u64), (.int .u64), (.int .u64)], [(.int .u64)], h21⟩)], muts := [] }
def an3 : List (Nat × Ann) := []
noncomputable def cx4 : Cx := { types := T, sigs := [(10, ⟨[], [.bool], h10⟩), (11, ⟨[(.int .u64)], [(.int .u64), (.int .i64)], h11⟩), (13, ⟨[(.int .u64)], [.bool], h13⟩), (20, ⟨[(.int .u64), (.int .u64), (.int .u64)], [(.int .u64)], h20⟩)], muts := [] }
def an4 : List (Nat × Ann) := [(9, { keep := 674 }), (14, { keep := 1186 })]
noncomputable def g3 : DL [(.int .u32), (.int .u64), (.pair (.int .i8) (.pair (.int .i8) (.pair (.int .u8) .unit)))] → Option (DL [.bool]) := Fn cx3 an3 Try.f3 [(.int .u32), (.int .u64), (.pair (.int .i8) (.pair (.int .i8) (.pair (.int .u8) .unit)))] [.bool]
theorem g3_eq (a : Int) (b : Int) (c : (Int × (Int × (Int × Unit)))) : g3 (a, b, c, ()) =
  Option.bind (h10 ()) fun (y0 : (Bool × Unit)) =>
  if (!y0.1) = true then
    some (false, ())
  else Option.bind (h11 ((IntKind.wrap .u64 a), ())) fun (y1 : (Int × (Int × Unit))) =>
  Option.bind (h12 ((IntKind.wrap .u64 a), ())) fun (y2 : (Int × (Int × Unit))) =>
  Option.bind (h11 ((IntKind.wrap .u64 ((BitVec.toNat ((BitVec.ofInt 64 b) ||| (BitVec.ofInt 64 2147483648))) : Int)), ())) fun (y3 : (Int × (Int × Unit))) =>
  Option.bind (h13 ((IntKind.wrap .u64 a), ())) fun (y4 : (Bool × Unit)) =>
  Option.bind (h14 ((IntKind.wrap .u64 a), ())) fun (y5 : (Bool × Unit)) =>
  if (!(y4.1 == y5.1)) = true then
    some (false, ())
  else Option.bind (h13 ((IntKind.wrap .u64 ((BitVec.toNat ((BitVec.ofInt 64 b) ||| (BitVec.ofInt 64 2147483648))) : Int)), ())) fun (y6 : (Bool × Unit)) =>
  if y6.1 = true then
    some (false, ())
  else if (y3.2.1 != 1) = true then
    some (false, ())
  else if (y1.1 != y2.1) = true then
    some (false, ())
  else if (y1.2.1 != y2.2.1) = true then
    some (false, ())
  else if (y2.2.1 != 0) = true then
    some (y0.1, ())
  else Option.bind (h15 ((c.1, (c.2.1, (c.2.2.1, ()))), ())) fun (y7 : (((Bool × ((List Int) × Unit)) × ((Bool × ((List Int) × Unit)) × Unit)) × Unit)) =>
  Option.bind (h16 (b, (y2.1, ()))) fun (y8 : (Int × (Int × Unit))) =>
  Option.bind (h17 (b, (y2.1, ()))) fun (y9 : (Int × (Int × Unit))) =>
  Option.bind (h18 (((y7.1.1.1, (y7.1.1.2.1, ())), ((y7.1.2.1.1, (y7.1.2.1.2.1, ())), ())), (y2.1, ()))) fun (y10 : (Int × (Int × Unit))) =>
  Option.bind (h19 (((y7.1.1.1, (y7.1.1.2.1, ())), ((y7.1.2.1.1, (y7.1.2.1.2.1, ())), ())), (y2.1, ()))) fun (y11 : (Int × (Int × Unit))) =>
  Option.bind (h20 (b, ((IntKind.wrap .u64 a), (y2.1, ())))) fun (y12 : (Int × Unit)) =>
  Option.bind (h21 (b, ((IntKind.wrap .u64 a), (y2.1, ())))) fun (y13 : (Int × Unit)) =>
  if (y12.1 == y13.1) = true then
    if (y8.1 == y9.1) = true then
      if (y8.2.1 == y9.2.1) = true then
        if (y10.1 == y11.1) = true then
          if (y10.2.1 == y11.2.1) = true then
            some (y0.1, ())
          else some (false, ())
        else some (false, ())
      else some (false, ())
    else some (false, ())
  else some (false, ()) := (Fn_eq rfl).trans (by kernel_rfl)

noncomputable def g4 : DL [(.int .u32), (.int .u64)] → Option (DL [.bool]) := Fn cx4 an4 Try.f4 [(.int .u32), (.int .u64)] [.bool]
noncomputable def g4_L9 (t1 : Int) (t5 : Bool) (t7 : Int) (t9 : Int) : Option (DL [.bool]) := Lp cx4 an4 Try.f4 [.bool] [true, true, true, true, true, true, false, true, false] ⟨[.undef, .val (.int .u64) t1, .undef, .undef, .undef, .val .bool t5, .undef, .val (.int .u64) t7, .undef, .val (.int .u64) t9, .undef, .undef, .undef, .undef, .undef, .undef, .undef, .undef, .undef, .undef, .undef, .undef, .undef, .undef, .undef, .undef, .undef, .undef, .undef, .undef, .undef, .undef, .undef, .undef, .undef, .undef, .undef, .undef, .undef, .undef, .undef, .undef, .undef, .undef, .undef, .undef, .undef, .undef, .undef, .undef, .undef, .undef, .undef, .undef, .undef, .undef, .undef, .undef, .undef, .undef, .undef, .undef, .undef, .undef, .undef, .undef, .undef, .undef, .undef, .undef, .undef, .undef, .undef, .undef, .undef, .undef, .undef, .undef, .undef, .undef, .undef, .undef, .undef, .undef, .undef, .undef, .undef], ofL [], [], []⟩
noncomputable def g4_L14 (t1 : Int) (t5 : Bool) (t7 : Int) (t10 : Int) : Option (DL [.bool]) := Lp cx4 an4 Try.f4 [.bool] [true, true, true, true, true, true, true, false, true, false] ⟨[.undef, .val (.int .u64) t1, .undef, .undef, .undef, .val .bool t5, .undef, .val (.int .u64) t7, .undef, .undef, .val (.int .u64) t10, .undef, .undef, .undef, .undef, .undef, .undef, .undef, .undef, .undef, .undef, .undef, .undef, .undef, .undef, .undef, .undef, .undef, .undef, .undef, .undef, .undef, .undef, .undef, .undef, .undef, .undef, .undef, .undef, .undef, .undef, .undef, .undef, .undef, .undef, .undef, .undef, .undef, .undef, .undef, .undef, .undef, .undef, .undef, .undef, .undef, .undef, .undef, .undef, .undef, .undef, .undef, .undef, .undef, .undef, .undef, .undef, .undef, .undef, .undef, .undef, .undef, .undef, .undef, .undef, .undef, .undef, .undef, .undef, .undef, .undef, .undef, .undef, .undef, .undef, .undef, .undef], ofL [], [], []⟩
theorem g4_L9_eq (t1 : Int) (t5 : Bool) (t7 : Int) (t9 : Int) : g4_L9 t1 t5 t7 t9 =
  if (decide (t9 < t7)) = true then
    Option.bind (h13 (t9, ())) fun (y3 : (Bool × Unit)) =>
    if y3.1 = true then
      some (false, ())
    else (g4_L9 t1 t5 t7 (IntKind.wrap .u64 (t9 + 1)))
  else (g4_L14 t1 t5 t7 2) := (Lp_eq cx4 an4 Try.f4 [.bool] [true, true, true, true, true, true, false, true, false] _).trans (by kernel_rfl)
theorem g4_L14_eq (t1 : Int) (t5 : Bool) (t7 : Int) (t10 : Int) : g4_L14 t1 t5 t7 t10 =
  if (decide ((IntKind.wrap .u64 (t10 * t10)) ≤ t7)) = true then
    if (t10 == 0) = true then
      none
    else if ((Int.tmod t7 t10) == 0) = true then
      some (false, ())
    else (g4_L14 t1 t5 t7 (IntKind.wrap .u64 (t10 + 1)))
  else Option.bind (h20 (t1, ((IntKind.wrap .u64 (t7 - 1)), (t7, ())))) fun (y4 : (Int × Unit)) =>
  if (t7 == 0) = true then
    none
  else if ((Int.tmod t1 t7) == 0) = true then
    if (t7 == 0) = true then
      none
    else if ((Int.tmod t1 t7) != 0) = true then
      some (t5, ())
    else if (y4.1 == 0) = true then
      some (t5, ())
    else some (false, ())
  else if (y4.1 == 1) = true then
    if (t7 == 0) = true then
      none
    else if ((Int.tmod t1 t7) != 0) = true then
      some (t5, ())
    else if (y4.1 == 0) = true then
      some (t5, ())
    else some (false, ())
  else some (false, ()) := (Lp_eq cx4 an4 Try.f4 [.bool] [true, true, true, true, true, true, true, false, true, false] _).trans (by kernel_rfl)
theorem g4_eq (a : Int) (b : Int) : g4 (a, b, ()) =
  Option.bind (h10 ()) fun (y0 : (Bool × Unit)) =>
  if (!y0.1) = true then
    some (false, ())
  else Option.bind (h11 ((IntKind.wrap .u64 (Int.tmod a 2147483647)), ())) fun (y1 : (Int × (Int × Unit))) =>
  if (y1.2.1 != 0) = true then
    some (false, ())
  else if (decide (y1.1 ≤ (IntKind.wrap .u64 (Int.tmod a 2147483647)))) = true then
    some (false, ())
  else Option.bind (h13 (y1.1, ())) fun (y2 : (Bool × Unit)) =>
  if (!y2.1) = true then
    some (false, ())
  else if (decide ((IntKind.wrap .u64 (y1.1 - (IntKind.wrap .u64 (Int.tmod a 2147483647)))) > 1000)) = true then
    some (false, ())
  else (g4_L9 b y0.1 y1.1 (IntKind.wrap .u64 ((IntKind.wrap .u64 (Int.tmod a 2147483647)) + 1))) := (Fn_eq rfl).trans (by kernel_rfl)


theorem so3 : SigsOk Try.prog cx3 := ⟨(lookAll_cons s10 (lookAll_cons s11 (lookAll_cons s12 (lookAll_cons s13 (lookAll_cons s14 (lookAll_cons s15 (lookAll_cons s16 (lookAll_cons s17 (lookAll_cons s18 (lookAll_cons s19 (lookAll_cons s20 (lookAll_cons s21 lookAll_nil)))))))))))), lookAll_nil, lookAll_nil⟩
theorem in3 : ∀ f p, look cx3.inl f = some p → Try.prog.funcs[f]? = some p.1 ∧ (p.1.name == "runtime.NumGoroutine") = false := lookAll_nil
theorem ok3 {h : DL [(.int .u32), (.int .u64), (.pair (.int .i8) (.pair (.int .i8) (.pair (.int .u8) .unit)))] → Option (DL [.bool])} (hw : ∀ x r, h x = some r → g3 x = some r) : SigOk Try.prog 3 ⟨[(.int .u32), (.int .u64), (.pair (.int .i8) (.pair (.int .i8) (.pair (.int .u8) .unit)))], [.bool], h⟩ := (Fn_ok (anns := an3) mixed T_ok so3 in3 (f := 3) (fn := Try.f3) rfl rfl rfl [(.int .u32), (.int .u64), (.pair (.int .i8) (.pair (.int .i8) (.pair (.int .u8) .unit)))] [.bool]).weaken hw

theorem so4 : SigsOk Try.prog cx4 := ⟨(lookAll_cons s10 (lookAll_cons s11 (lookAll_cons s13 (lookAll_cons s20 lookAll_nil)))), lookAll_nil, lookAll_nil⟩
theorem in4 : ∀ f p, look cx4.inl f = some p → Try.prog.funcs[f]? = some p.1 ∧ (p.1.name == "runtime.NumGoroutine") = false := lookAll_nil
theorem ok4 {h : DL [(.int .u32), (.int .u64)] → Option (DL [.bool])} (hw : ∀ x r, h x = some r → g4 x = some r) : SigOk Try.prog 4 ⟨[(.int .u32), (.int .u64)], [.bool], h⟩ := (Fn_ok (anns := an4) mixed T_ok so4 in4 (f := 4) (fn := Try.f4) rfl rfl rfl [(.int .u32), (.int .u64)] [.bool]).weaken hw

end Go.Refl.S3
