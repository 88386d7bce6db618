/-
  PRINTED BY PROGRAM: what the bodies of some functions compute, loop by loop; each equation is checked by the kernel.
-/
import Derived.Test.YthgbejjenlfdnaaQ5
import Derived.KernelRfl
set_option linter.unusedVariables false
set_option maxRecDepth 100000
namespace Go.Refl.S3
open Go Go.Refl Go.Proofs

noncomputable def cx75 : Cx := { types := T, sigs := [(71, ⟨[(.sl (.int .u32)), (.sl (.int .u32))], [(.int .i64)], h71⟩), (88, ⟨[(.sl (.int .u32))], [(.sl (.int .u32))], h88⟩), (93, ⟨[(.sl (.int .u32)), (.int .u32)], [(.sl (.int .u32)), (.int .u32)], h93⟩), (94, ⟨[(.int .u32)], [(.int .i64)], h94⟩), (97, ⟨[(.sl (.int .u32)), (.int .i64)], [(.sl (.int .u32))], h97⟩)], muts := [(96, ⟨(.int .u32), 22, [(.sl (.int .u32))], [(.int .u32)], h96⟩)], news := [(95, ⟨(.int .u32), 22, [(.sl (.int .u32)), (.int .i64)], h95⟩)] }
def an75 : List (Nat × Ann) := [(10, { keep := 108086391056895744 })]
noncomputable def g75 : DL [(.sl (.int .u32)), (.sl (.int .u32))] → Option (DL [(.sl (.int .u32)), (.sl (.int .u32))]) := Fn cx75 an75 Try.f75 [(.sl (.int .u32)), (.sl (.int .u32))] [(.sl (.int .u32)), (.sl (.int .u32))]
noncomputable def g75_L10 (t8 : Int) (t10 : (List Int)) (t55 : Int) (t56 : Int) (r7170 : List Int) (r8197 : List Int) : Option (DL [(.sl (.int .u32)), (.sl (.int .u32))]) := Lp cx75 an75 Try.f75 [(.sl (.int .u32)), (.sl (.int .u32))] [true, true, true, true, true, true, false, true, false] ⟨[.undef, .undef, .undef, .undef, .undef, .undef, .undef, .undef, .val (.int .i64) t8, .own 7170 0, .val (.sl (.int .u32)) t10, .own 8197 0, .undef, .undef, .undef, .undef, .undef, .undef, .undef, .undef, .undef, .undef, .undef, .undef, .undef, .undef, .undef, .undef, .undef, .undef, .undef, .undef, .undef, .undef, .undef, .undef, .undef, .undef, .undef, .undef, .undef, .undef, .undef, .undef, .undef, .undef, .undef, .undef, .undef, .undef, .undef, .undef, .undef, .undef, .undef, .val (.int .i64) t55, .val (.int .i64) t56, .undef, .undef, .undef, .undef, .undef, .undef, .undef, .undef, .undef, .undef, .undef, .undef, .undef, .undef, .undef, .undef, .undef, .undef, .undef, .undef, .undef, .undef, .undef, .undef, .undef, .undef, .undef], ofL [(7170, (.row 22 (.int .u32) r7170 0, false)), (8197, (.row 22 (.int .u32) r8197 0, false))], [7170, 8197], []⟩
theorem g75_L10_eq (t8 : Int) (t10 : (List Int)) (t55 : Int) (t56 : Int) (r7170 : List Int) (r8197 : List Int) : g75_L10 t8 t10 t55 t56 r7170 r8197 =
  if (decide (t56 < t55)) = true then
    if ((decide (0 ≤ (IntKind.wrap .i64 ((IntKind.wrap .i64 ((IntKind.wrap .i64 ((IntKind.wrap .i64 (((List.length r8197) : Int) - 1)) - t56)) + ((List.length t10) : Int))) + 1)))) && (decide ((IntKind.wrap .i64 ((IntKind.wrap .i64 ((IntKind.wrap .i64 ((IntKind.wrap .i64 (((List.length r8197) : Int) - 1)) - t56)) + ((List.length t10) : Int))) + 1)) ≤ ((List.length r7170) : Int)))) = true then
      if ((decide (0 ≤ (IntKind.wrap .i64 ((IntKind.wrap .i64 (((List.length r8197) : Int) - 1)) - t56)))) && (decide ((IntKind.wrap .i64 ((IntKind.wrap .i64 (((List.length r8197) : Int) - 1)) - t56)) ≤ ((Int.toNat (IntKind.wrap .i64 ((IntKind.wrap .i64 ((IntKind.wrap .i64 ((IntKind.wrap .i64 (((List.length r8197) : Int) - 1)) - t56)) + ((List.length t10) : Int))) + 1))) : Int)))) = true then
        Option.bind (h96 r7170 (Int.toNat (IntKind.wrap .i64 ((IntKind.wrap .i64 (((List.length r8197) : Int) - 1)) - t56))) ((Int.toNat (IntKind.wrap .i64 ((IntKind.wrap .i64 ((IntKind.wrap .i64 ((IntKind.wrap .i64 (((List.length r8197) : Int) - 1)) - t56)) + ((List.length t10) : Int))) + 1))) - (Int.toNat (IntKind.wrap .i64 ((IntKind.wrap .i64 (((List.length r8197) : Int) - 1)) - t56)))) (t10, ())) fun (y7 : ((Int × Unit) × (List Int))) =>
        if ((decide (0 ≤ (IntKind.wrap .i64 ((IntKind.wrap .i64 (((List.length r8197) : Int) - 1)) - t56)))) && (decide ((IntKind.wrap .i64 ((IntKind.wrap .i64 (((List.length r8197) : Int) - 1)) - t56)) < ((List.length r8197) : Int)))) = true then
          (g75_L10 t8 t10 t55 (IntKind.wrap .i64 (t56 + 1)) y7.2 (List.set r8197 (Int.toNat (IntKind.wrap .i64 ((IntKind.wrap .i64 (((List.length r8197) : Int) - 1)) - t56))) y7.1.1))
        else none
      else none
    else none
  else Option.bind (h88 (r8197, ())) fun (y8 : ((List Int) × Unit)) =>
  Option.bind (h88 (r7170, ())) fun (y9 : ((List Int) × Unit)) =>
  Option.bind (h97 (y9.1, (t8, ()))) fun (y10 : ((List Int) × Unit)) =>
  some (y8.1, (y10.1, ())) := (Lp_eq cx75 an75 Try.f75 [(.sl (.int .u32)), (.sl (.int .u32))] [true, true, true, true, true, true, false, true, false] _).trans (by kernel_rfl)
theorem g75_eq (a : (List Int)) (b : (List Int)) : g75 (a, b, ()) =
  Option.bind (h71 (a, (b, ()))) fun (y0 : (Int × Unit)) =>
  if (decide (y0.1 < 0)) = true then
    some ([], (a, ()))
  else if (((List.length b) : Int) == 1) = true then
    if ((decide (0 ≤ 0)) && (decide (0 < ((List.length b) : Int)))) = true then
      Option.bind (h93 (a, ((List.getD b 0 0), ()))) fun (y1 : ((List Int) × (Int × Unit))) =>
      Option.bind (h88 ((List.set (List.replicate 1 (0 : Int)) 0 y1.2.1), ())) fun (y2 : ((List Int) × Unit)) =>
      some (y1.1, (y2.1, ()))
    else none
  else if ((decide (0 ≤ (IntKind.wrap .i64 (((List.length b) : Int) - 1)))) && (decide ((IntKind.wrap .i64 (((List.length b) : Int) - 1)) < ((List.length b) : Int)))) = true then
    Option.bind (h94 ((List.getD b (Int.toNat (IntKind.wrap .i64 (((List.length b) : Int) - 1))) 0), ())) fun (y3 : (Int × Unit)) =>
    Option.bind (h95 (a, (y3.1, ()))) fun (y4 : (List Int)) =>
    Option.bind (h95 (b, (y3.1, ()))) fun (y5 : (List Int)) =>
    Option.bind (h88 (y5, ())) fun (y6 : ((List Int) × Unit)) =>
    if (((decide (0 ≤ (IntKind.wrap .i64 (((List.length y4) : Int) - ((List.length y6.1) : Int))))) && (decide ((IntKind.wrap .i64 (((List.length y4) : Int) - ((List.length y6.1) : Int))) ≤ (IntKind.wrap .i64 (((List.length y4) : Int) - ((List.length y6.1) : Int)))))) && (decide (((IntKind.wrap .i64 (((List.length y4) : Int) - ((List.length y6.1) : Int))) * 4) ≤ 140737488355328))) = true then
      (g75_L10 y3.1 y6.1 ((List.length (List.replicate (Int.toNat (IntKind.wrap .i64 (((List.length y4) : Int) - ((List.length y6.1) : Int)))) (0 : Int))) : Int) 0 y4 (List.replicate (Int.toNat (IntKind.wrap .i64 (((List.length y4) : Int) - ((List.length y6.1) : Int)))) (0 : Int)))
    else none
  else none := (Fn_eq rfl).trans (by kernel_rfl)


theorem so75 : SigsOk Try.prog cx75 := ⟨(lookAll_cons s71 (lookAll_cons s88 (lookAll_cons s93 (lookAll_cons s94 (lookAll_cons s97 lookAll_nil))))), (lookAll_cons s96 lookAll_nil), (lookAll_cons s95 lookAll_nil)⟩
theorem in75 : ∀ f p, look cx75.inl f = some p → Try.prog.funcs[f]? = some p.1 ∧ (p.1.name == "runtime.NumGoroutine") = false := lookAll_nil
theorem ok75 {h : DL [(.sl (.int .u32)), (.sl (.int .u32))] → Option (DL [(.sl (.int .u32)), (.sl (.int .u32))])} (hw : ∀ x r, h x = some r → g75 x = some r) : SigOk Try.prog 75 ⟨[(.sl (.int .u32)), (.sl (.int .u32))], [(.sl (.int .u32)), (.sl (.int .u32))], h⟩ := (Fn_ok (anns := an75) mixed T_ok so75 in75 (f := 75) (fn := Try.f75) rfl rfl rfl [(.sl (.int .u32)), (.sl (.int .u32))] [(.sl (.int .u32)), (.sl (.int .u32))]).weaken hw

end Go.Refl.S3
