/-
  PRINTED BY PROGRAM: what the bodies of some functions compute, loop by loop; each equation is checked by the kernel.
-/
import Derived.Test.YthgbejjenlfdnaaQ12
import Derived.KernelRfl
set_option linter.unusedVariables false
set_option maxRecDepth 100000
namespace Go.Refl.S3
open Go Go.Refl Go.Proofs

noncomputable def cx33 : Cx := { types := T, sigs := [(44, ⟨[(.int .i64)], [(.pair .bool (.pair (.sl (.int .u32)) .unit))], h44⟩), (46, ⟨[(.pair .bool (.pair (.sl (.int .u32)) .unit)), (.pair .bool (.pair (.sl (.int .u32)) .unit))], [(.pair .bool (.pair (.sl (.int .u32)) .unit))], h46⟩), (51, ⟨[(.pair .bool (.pair (.sl (.int .u32)) .unit))], [(.int .i64)], h51⟩), (52, ⟨[(.pair .bool (.pair (.sl (.int .u32)) .unit)), (.pair .bool (.pair (.sl (.int .u32)) .unit))], [(.pair .bool (.pair (.sl (.int .u32)) .unit)), (.pair .bool (.pair (.sl (.int .u32)) .unit)), (.int .i64)], h52⟩), (53, ⟨[(.pair .bool (.pair (.sl (.int .u32)) .unit)), (.pair .bool (.pair (.sl (.int .u32)) .unit))], [(.pair .bool (.pair (.sl (.int .u32)) .unit))], h53⟩), (54, ⟨[(.pair .bool (.pair (.sl (.int .u32)) .unit)), (.int .i64)], [(.pair .bool (.pair (.sl (.int .u32)) .unit)), (.int .i64)], h54⟩), (56, ⟨[(.pair .bool (.pair (.sl (.int .u32)) .unit)), (.pair .bool (.pair (.sl (.int .u32)) .unit))], [(.int .i64)], h56⟩), (57, ⟨[(.pair .bool (.pair (.sl (.int .u32)) .unit))], [(.pair .bool (.pair (.sl (.int .u32)) .unit))], h57⟩), (58, ⟨[(.pair .bool (.pair (.sl (.int .u32)) .unit)), (.pair .bool (.pair (.sl (.int .u32)) .unit))], [(.pair .bool (.pair (.sl (.int .u32)) .unit))], h58⟩)], muts := [], inl := [(55, (Try.f55, []))] }
def an33 : List (Nat × Ann) := [(8, { keep := 98840 })]
noncomputable def g33 : DL [(.pair .bool (.pair (.sl (.int .u32)) .unit)), (.pair .bool (.pair (.sl (.int .u32)) .unit))] → Option (DL [(.pair (.pair .bool (.pair (.sl (.int .u32)) .unit)) (.pair (.pair .bool (.pair (.sl (.int .u32)) .unit)) .unit)), .bool]) := Fn cx33 an33 Try.f33 [(.pair .bool (.pair (.sl (.int .u32)) .unit)), (.pair .bool (.pair (.sl (.int .u32)) .unit))] [(.pair (.pair .bool (.pair (.sl (.int .u32)) .unit)) (.pair (.pair .bool (.pair (.sl (.int .u32)) .unit)) .unit)), .bool]
noncomputable def g33_L8 (v1 : Bool) (v1_1 : (List Int)) (v2 : Bool) (v2_1 : (List Int)) (v2_1_2 : Bool) (v2_1_2_3 : (List Int)) (v4101 : Bool) (v4101_1 : (List Int)) (v6150 : Bool) (v6150_1 : (List Int)) (v6150_1_2 : Bool) (v6150_1_2_3 : (List Int)) (v6151 : Bool) (v6151_1 : (List Int)) (v6151_1_2 : Bool) (v6151_1_2_3 : (List Int)) : Option (DL [(.pair (.pair .bool (.pair (.sl (.int .u32)) .unit)) (.pair (.pair .bool (.pair (.sl (.int .u32)) .unit)) .unit)), .bool]) := Lp cx33 an33 Try.f33 [(.pair (.pair .bool (.pair (.sl (.int .u32)) .unit)) (.pair (.pair .bool (.pair (.sl (.int .u32)) .unit)) .unit)), .bool] [true, true, true, true, true, true, true, false, false] ⟨[.undef, .undef, .undef, .ptr 1 [], .ptr 2 [], .undef, .undef, .undef, .undef, .ptr 4101 [], .undef, .undef, .undef, .undef, .undef, .ptr 6151 [], .fn 55 (.un) (.pr (.ptr 6150 []) (.pr (.ptr 6151 []) (.un))), .undef, .undef, .undef, .undef, .undef, .undef, .undef, .undef, .undef, .undef, .undef, .undef, .undef, .undef, .undef, .undef, .undef, .undef, .undef, .undef, .undef, .undef, .undef, .undef, .undef, .undef, .undef, .undef, .undef, .undef, .undef, .undef, .undef, .undef, .undef, .undef, .undef, .undef, .undef, .undef, .undef, .undef, .undef, .undef, .undef, .undef, .undef, .undef, .undef, .undef, .undef, .undef, .undef, .undef, .undef, .undef, .undef, .undef, .undef, .undef, .undef, .undef, .undef, .undef, .undef, .undef, .undef, .undef, .undef, .undef, .undef, .undef, .undef, .undef, .undef, .undef, .undef, .undef, .undef], ofL [(1, (.var (.pair .bool (.pair (.sl (.int .u32)) .unit)) (.pr (.val .bool v1) (.pr (.val (.sl (.int .u32)) v1_1) (.un))), false)), (2, (.var (.pair (.pair .bool (.pair (.sl (.int .u32)) .unit)) (.pair (.pair .bool (.pair (.sl (.int .u32)) .unit)) .unit)) (.pr (.pr (.val .bool v2) (.pr (.val (.sl (.int .u32)) v2_1) (.un))) (.pr (.pr (.val .bool v2_1_2) (.pr (.val (.sl (.int .u32)) v2_1_2_3) (.un))) (.un))), false)), (4101, (.var (.pair .bool (.pair (.sl (.int .u32)) .unit)) (.pr (.val .bool v4101) (.pr (.val (.sl (.int .u32)) v4101_1) (.un))), false)), (6150, (.var (.pair (.pair .bool (.pair (.sl (.int .u32)) .unit)) (.pair (.pair .bool (.pair (.sl (.int .u32)) .unit)) .unit)) (.pr (.pr (.val .bool v6150) (.pr (.val (.sl (.int .u32)) v6150_1) (.un))) (.pr (.pr (.val .bool v6150_1_2) (.pr (.val (.sl (.int .u32)) v6150_1_2_3) (.un))) (.un))), false)), (6151, (.var (.pair (.pair .bool (.pair (.sl (.int .u32)) .unit)) (.pair (.pair .bool (.pair (.sl (.int .u32)) .unit)) .unit)) (.pr (.pr (.val .bool v6151) (.pr (.val (.sl (.int .u32)) v6151_1) (.un))) (.pr (.pr (.val .bool v6151_1_2) (.pr (.val (.sl (.int .u32)) v6151_1_2_3) (.un))) (.un))), false))], [1, 2, 4101, 6150, 6151], []⟩
theorem g33_L8_eq (v1 : Bool) (v1_1 : (List Int)) (v2 : Bool) (v2_1 : (List Int)) (v2_1_2 : Bool) (v2_1_2_3 : (List Int)) (v4101 : Bool) (v4101_1 : (List Int)) (v6150 : Bool) (v6150_1 : (List Int)) (v6150_1_2 : Bool) (v6150_1_2_3 : (List Int)) (v6151 : Bool) (v6151_1 : (List Int)) (v6151_1_2 : Bool) (v6151_1_2_3 : (List Int)) : g33_L8 v1 v1_1 v2 v2_1 v2_1_2 v2_1_2_3 v4101 v4101_1 v6150 v6150_1 v6150_1_2 v6150_1_2_3 v6151 v6151_1 v6151_1_2 v6151_1_2_3 =
  Option.bind (h56 ((v6151, (v6151_1, ())), ((v4101, (v4101_1, ())), ()))) fun (y9 : (Int × Unit)) =>
  if (decide (y9.1 > 0)) = true then
    Option.bind (h52 ((v6150, (v6150_1, ())), ((v6151, (v6151_1, ())), ()))) fun (y10 : ((Bool × ((List Int) × Unit)) × ((Bool × ((List Int) × Unit)) × (Int × Unit)))) =>
    Option.bind (h46 ((y10.1.1, (y10.1.2.1, ())), ((v6151_1_2, (v6151_1_2_3, ())), ()))) fun (y11 : ((Bool × ((List Int) × Unit)) × Unit)) =>
    Option.bind (h53 ((v6150_1_2, (v6150_1_2_3, ())), (y11.1, ()))) fun (y12 : ((Bool × ((List Int) × Unit)) × Unit)) =>
    (g33_L8 v1 v1_1 v2 v2_1 v2_1_2 v2_1_2_3 v4101 v4101_1 v6151 v6151_1 v6151_1_2 v6151_1_2_3 y10.2.1.1 y10.2.1.2.1 y12.1.1 y12.1.2.1)
  else Option.bind (h51 ((v6151_1_2, (v6151_1_2_3, ())), ())) fun (y13 : (Int × Unit)) =>
  if (decide (y13.1 < 0)) = true then
    Option.bind (h57 ((v6151, (v6151_1, ())), ())) fun (y14 : ((Bool × ((List Int) × Unit)) × Unit)) =>
    Option.bind (h57 ((v6151_1_2, (v6151_1_2_3, ())), ())) fun (y15 : ((Bool × ((List Int) × Unit)) × Unit)) =>
    Option.bind (h44 (1, ())) fun (y16 : ((Bool × ((List Int) × Unit)) × Unit)) =>
    Option.bind (h56 ((y15.1.1, (y15.1.2.1, ())), ((y16.1.1, (y16.1.2.1, ())), ()))) fun (y17 : (Int × Unit)) =>
    if (decide (y17.1 < 0)) = true then
      some (((false, ([], ())), ((false, ([], ())), ())), (false, ()))
    else Option.bind (h56 ((y15.1.1, (y15.1.2.1, ())), ((v4101, (v4101_1, ())), ()))) fun (y18 : (Int × Unit)) =>
    if (decide (y18.1 > 0)) = true then
      some (((false, ([], ())), ((false, ([], ())), ())), (false, ()))
    else Option.bind (h58 ((y15.1.1, (y15.1.2.1, ())), ((v1, (v1_1, ())), ()))) fun (y19 : ((Bool × ((List Int) × Unit)) × Unit)) =>
    Option.bind (h56 (y19.1, ((y16.1.1, (y16.1.2.1, ())), ()))) fun (y20 : (Int × Unit)) =>
    if (y20.1 != 0) = true then
      some (((false, ([], ())), ((false, ([], ())), ())), (false, ()))
    else some (((y14.1.1, (y14.1.2.1, ())), ((y15.1.1, (y15.1.2.1, ())), ())), (true, ()))
  else Option.bind (h44 (1, ())) fun (y21 : ((Bool × ((List Int) × Unit)) × Unit)) =>
  Option.bind (h56 ((v6151_1_2, (v6151_1_2_3, ())), ((y21.1.1, (y21.1.2.1, ())), ()))) fun (y22 : (Int × Unit)) =>
  if (decide (y22.1 < 0)) = true then
    some (((false, ([], ())), ((false, ([], ())), ())), (false, ()))
  else Option.bind (h56 ((v6151_1_2, (v6151_1_2_3, ())), ((v4101, (v4101_1, ())), ()))) fun (y23 : (Int × Unit)) =>
  if (decide (y23.1 > 0)) = true then
    some (((false, ([], ())), ((false, ([], ())), ())), (false, ()))
  else Option.bind (h58 ((v6151_1_2, (v6151_1_2_3, ())), ((v1, (v1_1, ())), ()))) fun (y24 : ((Bool × ((List Int) × Unit)) × Unit)) =>
  Option.bind (h56 (y24.1, ((y21.1.1, (y21.1.2.1, ())), ()))) fun (y25 : (Int × Unit)) =>
  if (y25.1 != 0) = true then
    some (((false, ([], ())), ((false, ([], ())), ())), (false, ()))
  else some (((v6151, (v6151_1, ())), ((v6151_1_2, (v6151_1_2_3, ())), ())), (true, ())) := (Lp_eq cx33 an33 Try.f33 [(.pair (.pair .bool (.pair (.sl (.int .u32)) .unit)) (.pair (.pair .bool (.pair (.sl (.int .u32)) .unit)) .unit)), .bool] [true, true, true, true, true, true, true, false, false] _).trans (by kernel_rfl)
theorem g33_eq (a : (Bool × ((List Int) × Unit))) (b : (Bool × ((List Int) × Unit))) : g33 (a, b, ()) =
  Option.bind (h51 ((b.1, (b.2.1, ())), ())) fun (y0 : (Int × Unit)) =>
  if (decide (y0.1 ≤ 0)) = true then
    some (((false, ([], ())), ((false, ([], ())), ())), (false, ()))
  else Option.bind (h44 (1, ())) fun (y1 : ((Bool × ((List Int) × Unit)) × Unit)) =>
  Option.bind (h53 ((b.1, (b.2.1, ())), (y1.1, ()))) fun (y2 : ((Bool × ((List Int) × Unit)) × Unit)) =>
  Option.bind (h44 (2, ())) fun (y3 : ((Bool × ((List Int) × Unit)) × Unit)) =>
  Option.bind (h52 (y2.1, (y3.1, ()))) fun (y4 : ((Bool × ((List Int) × Unit)) × ((Bool × ((List Int) × Unit)) × (Int × Unit)))) =>
  Option.bind (h54 ((y4.1.1, (y4.1.2.1, ())), (2, ()))) fun (y5 : ((Bool × ((List Int) × Unit)) × (Int × Unit))) =>
  Option.bind (h52 ((a.1, (a.2.1, ())), ((b.1, (b.2.1, ())), ()))) fun (y6 : ((Bool × ((List Int) × Unit)) × ((Bool × ((List Int) × Unit)) × (Int × Unit)))) =>
  Option.bind (h44 (0, ())) fun (y7 : ((Bool × ((List Int) × Unit)) × Unit)) =>
  Option.bind (h44 (1, ())) fun (y8 : ((Bool × ((List Int) × Unit)) × Unit)) =>
  (g33_L8 b.1 b.2.1 false [] false [] y5.1.1 y5.1.2.1 b.1 b.2.1 y7.1.1 y7.1.2.1 y6.2.1.1 y6.2.1.2.1 y8.1.1 y8.1.2.1) := (Fn_eq rfl).trans (by kernel_rfl)


theorem so33 : SigsOk Try.prog cx33 := ⟨(lookAll_cons s44 (lookAll_cons s46 (lookAll_cons s51 (lookAll_cons s52 (lookAll_cons s53 (lookAll_cons s54 (lookAll_cons s56 (lookAll_cons s57 (lookAll_cons s58 lookAll_nil))))))))), lookAll_nil, lookAll_nil⟩
theorem in33 : ∀ f p, look cx33.inl f = some p → Try.prog.funcs[f]? = some p.1 ∧ (p.1.name == "runtime.NumGoroutine") = false := lookAll_cons (Q := fun (f : Nat) (p : Func × List (Nat × Ann)) => Try.prog.funcs[f]? = some p.1 ∧ (p.1.name == "runtime.NumGoroutine") = false) ⟨rfl, rfl⟩ lookAll_nil
theorem ok33 {h : DL [(.pair .bool (.pair (.sl (.int .u32)) .unit)), (.pair .bool (.pair (.sl (.int .u32)) .unit))] → Option (DL [(.pair (.pair .bool (.pair (.sl (.int .u32)) .unit)) (.pair (.pair .bool (.pair (.sl (.int .u32)) .unit)) .unit)), .bool])} (hw : ∀ x r, h x = some r → g33 x = some r) : SigOk Try.prog 33 ⟨[(.pair .bool (.pair (.sl (.int .u32)) .unit)), (.pair .bool (.pair (.sl (.int .u32)) .unit))], [(.pair (.pair .bool (.pair (.sl (.int .u32)) .unit)) (.pair (.pair .bool (.pair (.sl (.int .u32)) .unit)) .unit)), .bool], h⟩ := (Fn_ok (anns := an33) mixed T_ok so33 in33 (f := 33) (fn := Try.f33) rfl rfl rfl [(.pair .bool (.pair (.sl (.int .u32)) .unit)), (.pair .bool (.pair (.sl (.int .u32)) .unit))] [(.pair (.pair .bool (.pair (.sl (.int .u32)) .unit)) (.pair (.pair .bool (.pair (.sl (.int .u32)) .unit)) .unit)), .bool]).weaken hw

end Go.Refl.S3
