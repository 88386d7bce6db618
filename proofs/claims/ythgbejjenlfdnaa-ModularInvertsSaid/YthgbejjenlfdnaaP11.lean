/-
  PRINTED BY PROGRAM: what the bodies of some functions compute, loop by loop; each equation is checked by the kernel.
-/
import Derived.Test.YthgbejjenlfdnaaQ14
import Derived.KernelRfl
set_option linter.unusedVariables false
set_option maxRecDepth 100000
namespace Go.Refl.S3
open Go Go.Refl Go.Proofs

noncomputable def cx5 : Cx := { types := T, sigs := [(10, ⟨[], [.bool], h10⟩), (12, ⟨[(.int .u64)], [(.int .u64), (.int .i64)], h12⟩), (16, ⟨[(.int .u64), (.int .u64)], [(.int .u64), (.int .i64)], h16⟩), (20, ⟨[(.int .u64), (.int .u64), (.int .u64)], [(.int .u64)], h20⟩)], muts := [] }
def an5 : List (Nat × Ann) := []
noncomputable def g5 : DL [(.int .u32), (.int .u64), (.int .u64)] → Option (DL [.bool]) := Fn cx5 an5 Try.f5 [(.int .u32), (.int .u64), (.int .u64)] [.bool]
theorem g5_eq (a : Int) (b : Int) (c : Int) : g5 (a, b, c, ()) =
  Option.bind (h10 ()) fun (y0 : (Bool × Unit)) =>
  if (!y0.1) = true then
    some (false, ())
  else Option.bind (h12 ((IntKind.wrap .u64 (Int.tmod a 2147483647)), ())) fun (y1 : (Int × (Int × Unit))) =>
  Option.bind (h16 (b, (y1.1, ()))) fun (y2 : (Int × (Int × Unit))) =>
  if (y1.1 == 0) = true then
    none
  else if ((Int.tmod b y1.1) == 0) = true then
    if (y2.2.1 == 10) = true then
      if (y2.1 == 0) = true then
        some (y0.1, ())
      else some (false, ())
    else some (false, ())
  else Option.bind (h16 (y2.1, (y1.1, ()))) fun (y3 : (Int × (Int × Unit))) =>
  if (y2.2.1 != 0) = true then
    some (false, ())
  else if (y3.2.1 != 0) = true then
    some (false, ())
  else if (decide (y2.1 < 1)) = true then
    some (false, ())
  else if (decide (y2.1 ≥ y1.1)) = true then
    some (false, ())
  else if (y1.1 == 0) = true then
    none
  else if (y1.1 == 0) = true then
    none
  else if ((Int.tmod (IntKind.wrap .u64 (y2.1 * (Int.tmod b y1.1))) y1.1) != 1) = true then
    some (false, ())
  else if (y1.1 == 0) = true then
    none
  else if (y3.1 != (Int.tmod b y1.1)) = true then
    some (false, ())
  else if (y1.1 == 0) = true then
    none
  else if (y1.1 == 0) = true then
    none
  else Option.bind (h20 ((IntKind.wrap .u64 ((Int.tmod b y1.1) * (Int.tmod c y1.1))), (5, (y1.1, ())))) fun (y4 : (Int × Unit)) =>
  Option.bind (h20 (b, (5, (y1.1, ())))) fun (y5 : (Int × Unit)) =>
  Option.bind (h20 (c, (5, (y1.1, ())))) fun (y6 : (Int × Unit)) =>
  if (y1.1 == 0) = true then
    none
  else if (y4.1 == (Int.tmod (IntKind.wrap .u64 (y5.1 * y6.1)) y1.1)) = true then
    Option.bind (h20 (b, (12, (y1.1, ())))) fun (y7 : (Int × Unit)) =>
    Option.bind (h20 (b, ((Int.tmod c 100), (y1.1, ())))) fun (y8 : (Int × Unit)) =>
    if (y1.1 == 0) = true then
      none
    else Option.bind (h20 (b, ((IntKind.wrap .u64 (12 + (Int.tmod c 100))), (y1.1, ())))) fun (y9 : (Int × Unit)) =>
    if ((Int.tmod (IntKind.wrap .u64 (y7.1 * y8.1)) y1.1) == y9.1) = true then
      some (y0.1, ())
    else some (false, ())
  else some (false, ()) := (Fn_eq rfl).trans (by kernel_rfl)


theorem so5 : SigsOk Try.prog cx5 := ⟨(lookAll_cons s10 (lookAll_cons s12 (lookAll_cons s16 (lookAll_cons s20 lookAll_nil)))), lookAll_nil, lookAll_nil⟩
theorem in5 : ∀ f p, look cx5.inl f = some p → Try.prog.funcs[f]? = some p.1 ∧ (p.1.name == "runtime.NumGoroutine") = false := lookAll_nil
theorem ok5 {h : DL [(.int .u32), (.int .u64), (.int .u64)] → Option (DL [.bool])} (hw : ∀ x r, h x = some r → g5 x = some r) : SigOk Try.prog 5 ⟨[(.int .u32), (.int .u64), (.int .u64)], [.bool], h⟩ := (Fn_ok (anns := an5) mixed T_ok so5 in5 (f := 5) (fn := Try.f5) rfl rfl rfl [(.int .u32), (.int .u64), (.int .u64)] [.bool]).weaken hw

end Go.Refl.S3
