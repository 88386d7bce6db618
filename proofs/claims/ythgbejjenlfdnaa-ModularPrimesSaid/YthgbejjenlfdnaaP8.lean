/-
  PRINTED BY PROGRAM: what the bodies of some functions compute, loop by loop; each equation is checked by the kernel.
-/
import Derived.Test.YthgbejjenlfdnaaQ11
import Derived.KernelRfl
set_option linter.unusedVariables false
set_option maxRecDepth 100000
namespace Go.Refl.S3
open Go Go.Refl Go.Proofs

noncomputable def cx19 : Cx := { types := T, sigs := [(17, ⟨[(.int .u64), (.int .u64)], [(.int .u64), (.int .i64)], h17⟩), (22, ⟨[(.pair .bool (.pair (.sl (.int .u32)) .unit)), (.int .u64)], [(.int .u64)], h22⟩)], muts := [] }
def an19 : List (Nat × Ann) := []
noncomputable def cx54 : Cx := { types := T, sigs := [(51, ⟨[(.pair .bool (.pair (.sl (.int .u32)) .unit))], [(.int .i64)], h51⟩), (68, ⟨[(.int .u64)], [(.sl (.int .u32))], h68⟩), (69, ⟨[(.sl (.int .u32)), .bool], [(.pair .bool (.pair (.sl (.int .u32)) .unit))], h69⟩), (70, ⟨[(.sl (.int .u32)), (.sl (.int .u32))], [(.sl (.int .u32))], h70⟩), (71, ⟨[(.sl (.int .u32)), (.sl (.int .u32))], [(.int .i64)], h71⟩), (73, ⟨[(.sl (.int .u32)), (.sl (.int .u32))], [(.sl (.int .u32))], h73⟩), (75, ⟨[(.sl (.int .u32)), (.sl (.int .u32))], [(.sl (.int .u32)), (.sl (.int .u32))], h75⟩), (76, ⟨[(.pair .bool (.pair (.sl (.int .u32)) .unit))], [(.int .i64)], h76⟩), (77, ⟨[(.sl (.int .u32)), (.int .i64)], [(.sl (.int .u32))], h77⟩)], muts := [] }
def an54 : List (Nat × Ann) := [(7, { keep := 210 })]
noncomputable def g19 : DL [(.pair (.pair .bool (.pair (.sl (.int .u32)) .unit)) (.pair (.pair .bool (.pair (.sl (.int .u32)) .unit)) .unit)), (.int .u64)] → Option (DL [(.int .u64), (.int .i64)]) := Fn cx19 an19 Try.f19 [(.pair (.pair .bool (.pair (.sl (.int .u32)) .unit)) (.pair (.pair .bool (.pair (.sl (.int .u32)) .unit)) .unit)), (.int .u64)] [(.int .u64), (.int .i64)]
theorem g19_eq (a : ((Bool × ((List Int) × Unit)) × ((Bool × ((List Int) × Unit)) × Unit))) (b : Int) : g19 (a, b, ()) =
  Option.bind (h22 ((a.2.1.1, (a.2.1.2.1, ())), (b, ()))) fun (y0 : (Int × Unit)) =>
  if (y0.1 == 0) = true then
    some (0, (30, ()))
  else Option.bind (h17 (y0.1, (b, ()))) fun (y1 : (Int × (Int × Unit))) =>
  Option.bind (h22 ((a.1.1, (a.1.2.1, ())), (b, ()))) fun (y2 : (Int × Unit)) =>
  if (b == 0) = true then
    none
  else some ((Int.tmod (IntKind.wrap .u64 (y2.1 * y1.1)) b), (0, ())) := (Fn_eq rfl).trans (by kernel_rfl)

noncomputable def g54 : DL [(.pair .bool (.pair (.sl (.int .u32)) .unit)), (.int .i64)] → Option (DL [(.pair .bool (.pair (.sl (.int .u32)) .unit)), (.int .i64)]) := Fn cx54 an54 Try.f54 [(.pair .bool (.pair (.sl (.int .u32)) .unit)), (.int .i64)] [(.pair .bool (.pair (.sl (.int .u32)) .unit)), (.int .i64)]
noncomputable def g54_L7 (t1 : Int) (t6 : (List Int)) (t7 : (List Int)) (v1 : Bool) (v1_1 : (List Int)) : Option (DL [(.pair .bool (.pair (.sl (.int .u32)) .unit)), (.int .i64)]) := Lp cx54 an54 Try.f54 [(.pair .bool (.pair (.sl (.int .u32)) .unit)), (.int .i64)] [true, true, true, true, true, false] ⟨[.undef, .val (.int .i64) t1, .undef, .undef, .ptr 1 [], .undef, .val (.sl (.int .u32)) t6, .val (.sl (.int .u32)) t7, .undef, .undef, .undef, .undef, .undef, .undef, .undef, .undef, .undef, .undef, .undef, .undef, .undef, .undef, .undef, .undef, .undef, .undef, .undef, .undef, .undef, .undef, .undef, .undef, .undef, .undef, .undef, .undef, .undef, .undef, .undef, .undef, .undef, .undef, .undef, .undef, .undef, .undef, .undef, .undef, .undef, .undef, .undef, .undef, .undef, .undef, .undef, .undef, .undef, .undef, .undef, .undef, .undef, .undef, .undef, .undef, .undef, .undef, .undef, .undef, .undef, .undef], ofL [(1, (.var (.pair .bool (.pair (.sl (.int .u32)) .unit)) (.pr (.val .bool v1) (.pr (.val (.sl (.int .u32)) v1_1) (.un))), false))], [1], []⟩
theorem g54_L7_eq (t1 : Int) (t6 : (List Int)) (t7 : (List Int)) (v1 : Bool) (v1_1 : (List Int)) : g54_L7 t1 t6 t7 v1 v1_1 =
  Option.bind (h77 (t7, ((IntKind.wrap .i64 (t1 - 1)), ()))) fun (y7 : ((List Int) × Unit)) =>
  Option.bind (h75 (t6, (y7.1, ()))) fun (y8 : ((List Int) × ((List Int) × Unit))) =>
  Option.bind (h68 ((IntKind.wrap .u64 (IntKind.wrap .i64 (t1 - 1))), ())) fun (y9 : ((List Int) × Unit)) =>
  Option.bind (h73 (t7, (y9.1, ()))) fun (y10 : ((List Int) × Unit)) =>
  Option.bind (h70 (y10.1, (y8.1, ()))) fun (y11 : ((List Int) × Unit)) =>
  Option.bind (h68 ((IntKind.wrap .u64 t1), ())) fun (y12 : ((List Int) × Unit)) =>
  Option.bind (h75 (y11.1, (y12.1, ()))) fun (y13 : ((List Int) × ((List Int) × Unit))) =>
  Option.bind (h71 (y13.1, (t7, ()))) fun (y14 : (Int × Unit)) =>
  if (decide (y14.1 ≥ 0)) = true then
    Option.bind (h69 (t7, (false, ()))) fun (y15 : ((Bool × ((List Int) × Unit)) × Unit)) =>
    some ((y15.1.1, (y15.1.2.1, ())), (0, ()))
  else (g54_L7 t1 t6 y13.1 v1 v1_1) := (Lp_eq cx54 an54 Try.f54 [(.pair .bool (.pair (.sl (.int .u32)) .unit)), (.int .i64)] [true, true, true, true, true, false] _).trans (by kernel_rfl)
theorem g54_eq (a : (Bool × ((List Int) × Unit))) (b : Int) : g54 (a, b, ()) =
  if a.1 = true then
    some ((false, ([], ())), (1, ()))
  else if (decide (b < 1)) = true then
    some ((false, ([], ())), (1, ()))
  else Option.bind (h76 ((a.1, (a.2.1, ())), ())) fun (y0 : (Int × Unit)) =>
  if (decide (b ≥ y0.1)) = true then
    Option.bind (h51 ((a.1, (a.2.1, ())), ())) fun (y1 : (Int × Unit)) =>
    Option.bind (h68 ((IntKind.wrap .u64 y1.1), ())) fun (y2 : ((List Int) × Unit)) =>
    Option.bind (h69 (y2.1, (false, ()))) fun (y3 : ((Bool × ((List Int) × Unit)) × Unit)) =>
    some ((y3.1.1, (y3.1.2.1, ())), (0, ()))
  else Option.bind (h68 (2, ())) fun (y4 : ((List Int) × Unit)) =>
  Option.bind (h76 ((a.1, (a.2.1, ())), ())) fun (y5 : (Int × Unit)) =>
  if (b == 0) = true then
    none
  else Option.bind (h77 (y4.1, ((IntKind.wrap .i64 (Int.tdiv (IntKind.wrap .i64 ((IntKind.wrap .i64 (y5.1 + b)) - 1)) b)), ()))) fun (y6 : ((List Int) × Unit)) =>
  (g54_L7 b a.2.1 y6.1 false []) := (Fn_eq rfl).trans (by kernel_rfl)


theorem so19 : SigsOk Try.prog cx19 := ⟨(lookAll_cons s17 (lookAll_cons s22 lookAll_nil)), lookAll_nil, lookAll_nil⟩
theorem in19 : ∀ f p, look cx19.inl f = some p → Try.prog.funcs[f]? = some p.1 ∧ (p.1.name == "runtime.NumGoroutine") = false := lookAll_nil
theorem ok19 {h : DL [(.pair (.pair .bool (.pair (.sl (.int .u32)) .unit)) (.pair (.pair .bool (.pair (.sl (.int .u32)) .unit)) .unit)), (.int .u64)] → Option (DL [(.int .u64), (.int .i64)])} (hw : ∀ x r, h x = some r → g19 x = some r) : SigOk Try.prog 19 ⟨[(.pair (.pair .bool (.pair (.sl (.int .u32)) .unit)) (.pair (.pair .bool (.pair (.sl (.int .u32)) .unit)) .unit)), (.int .u64)], [(.int .u64), (.int .i64)], h⟩ := (Fn_ok (anns := an19) mixed T_ok so19 in19 (f := 19) (fn := Try.f19) rfl rfl rfl [(.pair (.pair .bool (.pair (.sl (.int .u32)) .unit)) (.pair (.pair .bool (.pair (.sl (.int .u32)) .unit)) .unit)), (.int .u64)] [(.int .u64), (.int .i64)]).weaken hw

theorem so54 : SigsOk Try.prog cx54 := ⟨(lookAll_cons s51 (lookAll_cons s68 (lookAll_cons s69 (lookAll_cons s70 (lookAll_cons s71 (lookAll_cons s73 (lookAll_cons s75 (lookAll_cons s76 (lookAll_cons s77 lookAll_nil))))))))), lookAll_nil, lookAll_nil⟩
theorem in54 : ∀ f p, look cx54.inl f = some p → Try.prog.funcs[f]? = some p.1 ∧ (p.1.name == "runtime.NumGoroutine") = false := lookAll_nil
theorem ok54 {h : DL [(.pair .bool (.pair (.sl (.int .u32)) .unit)), (.int .i64)] → Option (DL [(.pair .bool (.pair (.sl (.int .u32)) .unit)), (.int .i64)])} (hw : ∀ x r, h x = some r → g54 x = some r) : SigOk Try.prog 54 ⟨[(.pair .bool (.pair (.sl (.int .u32)) .unit)), (.int .i64)], [(.pair .bool (.pair (.sl (.int .u32)) .unit)), (.int .i64)], h⟩ := (Fn_ok (anns := an54) mixed T_ok so54 in54 (f := 54) (fn := Try.f54) rfl rfl rfl [(.pair .bool (.pair (.sl (.int .u32)) .unit)), (.int .i64)] [(.pair .bool (.pair (.sl (.int .u32)) .unit)), (.int .i64)]).weaken hw

end Go.Refl.S3
