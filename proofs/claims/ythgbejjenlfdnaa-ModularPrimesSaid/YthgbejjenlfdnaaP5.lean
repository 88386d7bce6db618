/-
  PRINTED BY PROGRAM: what the bodies of some functions compute, loop by loop; each equation is checked by the kernel.
-/
import Derived.Test.YthgbejjenlfdnaaQ7
import Derived.KernelRfl
set_option linter.unusedVariables false
set_option maxRecDepth 100000
namespace Go.Refl.S3
open Go Go.Refl Go.Proofs

noncomputable def cx66 : Cx := { types := T, sigs := [(48, ⟨[(.int .u64)], [(.sl (.int .u32))], h48⟩), (49, ⟨[(.sl (.int .u32)), (.sl (.int .u32))], [(.sl (.int .u32))], h49⟩), (50, ⟨[(.sl (.int .u32)), (.sl (.int .u32))], [(.int .i64)], h50⟩), (74, ⟨[(.sl (.int .u32))], [(.sl (.int .u32))], h74⟩), (84, ⟨[(.sl (.int .u32)), (.int .u64)], [(.sl (.int .u32)), (.int .u64)], h84⟩), (85, ⟨[(.sl (.int .u32)), (.sl (.int .u32))], [(.int .u64)], h85⟩)], muts := [(86, ⟨(.int .u32), 22, [(.sl (.int .u32)), (.int .u64)], [.bool], h86⟩), (87, ⟨(.int .u32), 22, [(.sl (.int .u32))], [], h87⟩)] }
def an66 : List (Nat × Ann) := [(13, { keep := 16128 })]
noncomputable def cx52 : Cx := { types := T, sigs := [(68, ⟨[(.int .u64)], [(.sl (.int .u32))], h68⟩), (69, ⟨[(.sl (.int .u32)), .bool], [(.pair .bool (.pair (.sl (.int .u32)) .unit))], h69⟩), (70, ⟨[(.sl (.int .u32)), (.sl (.int .u32))], [(.sl (.int .u32))], h70⟩), (72, ⟨[(.sl (.int .u32)), (.sl (.int .u32))], [(.sl (.int .u32))], h72⟩), (75, ⟨[(.sl (.int .u32)), (.sl (.int .u32))], [(.sl (.int .u32)), (.sl (.int .u32))], h75⟩)], muts := [] }
def an52 : List (Nat × Ann) := []
noncomputable def cx53 : Cx := { types := T, sigs := [(45, ⟨[(.pair .bool (.pair (.sl (.int .u32)) .unit)), (.pair .bool (.pair (.sl (.int .u32)) .unit))], [(.pair .bool (.pair (.sl (.int .u32)) .unit))], h45⟩), (57, ⟨[(.pair .bool (.pair (.sl (.int .u32)) .unit))], [(.pair .bool (.pair (.sl (.int .u32)) .unit))], h57⟩)], muts := [] }
def an53 : List (Nat × Ann) := []
noncomputable def cx58 : Cx := { types := T, sigs := [(69, ⟨[(.sl (.int .u32)), .bool], [(.pair .bool (.pair (.sl (.int .u32)) .unit))], h69⟩), (75, ⟨[(.sl (.int .u32)), (.sl (.int .u32))], [(.sl (.int .u32)), (.sl (.int .u32))], h75⟩)], muts := [] }
def an58 : List (Nat × Ann) := [(2, { keep := 112 })]
noncomputable def g66 : DL [(.sl (.int .u32)), (.sl (.int .u32))] → Option (DL [(.sl (.int .u32)), (.sl (.int .u32))]) := Fn cx66 an66 Try.f66 [(.sl (.int .u32)), (.sl (.int .u32))] [(.sl (.int .u32)), (.sl (.int .u32))]
noncomputable def g66_L13 (t8 : Int) (t9 : Int) (t10 : (List Int)) (t13 : Int) (r9219 : List Int) (r11269 : List Int) : Option (DL [(.sl (.int .u32)), (.sl (.int .u32))]) := Lp cx66 an66 Try.f66 [(.sl (.int .u32)), (.sl (.int .u32))] [true, true, true, true, true, true, true, true, true, false, true, false] ⟨[.undef, .undef, .undef, .undef, .undef, .undef, .undef, .undef, .val (.int .i64) t8, .val (.int .u64) t9, .val (.sl (.int .u32)) t10, .own 9219 0, .own 11269 0, .val (.int .i64) t13, .undef, .undef, .undef, .undef, .undef, .undef, .undef, .undef, .undef, .undef, .undef, .undef, .undef, .undef, .undef, .undef, .undef, .undef, .undef, .undef, .undef, .undef, .undef, .undef, .undef, .undef, .undef, .undef, .undef, .undef, .undef, .undef, .undef, .undef, .undef, .undef, .undef, .undef, .undef, .undef, .undef, .undef, .undef, .undef, .undef, .undef, .undef, .undef, .undef, .undef, .undef, .undef, .undef, .undef, .undef, .undef, .undef, .undef, .undef, .undef, .undef, .undef, .undef, .undef, .undef, .undef, .undef, .undef, .undef, .undef, .undef, .undef, .undef, .undef, .undef, .undef, .undef, .undef, .undef, .undef, .undef, .undef, .undef, .undef, .undef, .undef, .undef, .undef, .undef, .undef, .undef, .undef, .undef, .undef, .undef, .undef], ofL [(9219, (.row 22 (.int .u32) r9219 0, false)), (11269, (.row 22 (.int .u32) r11269 0, false))], [9219, 11269], []⟩
theorem g66_L13_eq (t8 : Int) (t9 : Int) (t10 : (List Int)) (t13 : Int) (r9219 : List Int) (r11269 : List Int) : g66_L13 t8 t9 t10 t13 r9219 r11269 =
  if (decide (t13 ≥ 0)) = true then
    if ((decide (0 ≤ (IntKind.wrap .i64 ((IntKind.wrap .i64 (t13 + t8)) + 1)))) && (decide ((IntKind.wrap .i64 ((IntKind.wrap .i64 (t13 + t8)) + 1)) ≤ ((List.length r9219) : Int)))) = true then
      if ((decide (0 ≤ t13)) && (decide (t13 ≤ ((Int.toNat (IntKind.wrap .i64 ((IntKind.wrap .i64 (t13 + t8)) + 1))) : Int)))) = true then
        Option.bind (h85 ((List.take ((Int.toNat (IntKind.wrap .i64 ((IntKind.wrap .i64 (t13 + t8)) + 1))) - (Int.toNat t13)) (List.drop (Int.toNat t13) r9219)), (t10, ()))) fun (y7 : (Int × Unit)) =>
        Option.bind (h86 r9219 (Int.toNat t13) ((Int.toNat (IntKind.wrap .i64 ((IntKind.wrap .i64 (t13 + t8)) + 1))) - (Int.toNat t13)) (t10, (y7.1, ()))) fun (y8 : ((Bool × Unit) × (List Int))) =>
        if y8.1.1 = true then
          Option.bind (h87 y8.2 (Int.toNat t13) ((Int.toNat (IntKind.wrap .i64 ((IntKind.wrap .i64 (t13 + t8)) + 1))) - (Int.toNat t13)) (t10, ())) fun (y9 : (Unit × (List Int))) =>
          if ((decide (0 ≤ t13)) && (decide (t13 < ((List.length r11269) : Int)))) = true then
            (g66_L13 t8 t9 t10 (IntKind.wrap .i64 (t13 - 1)) y9.2 (List.set r11269 (Int.toNat t13) (IntKind.wrap .u32 (IntKind.wrap .u64 (y7.1 - 1)))))
          else none
        else if ((decide (0 ≤ t13)) && (decide (t13 < ((List.length r11269) : Int)))) = true then
          (g66_L13 t8 t9 t10 (IntKind.wrap .i64 (t13 - 1)) y8.2 (List.set r11269 (Int.toNat t13) (IntKind.wrap .u32 y7.1)))
        else none
      else none
    else none
  else Option.bind (h74 (r9219, ())) fun (y10 : ((List Int) × Unit)) =>
  Option.bind (h84 (y10.1, (t9, ()))) fun (y11 : ((List Int) × (Int × Unit))) =>
  Option.bind (h74 (r11269, ())) fun (y12 : ((List Int) × Unit)) =>
  some (y12.1, (y11.1, ())) := (Lp_eq cx66 an66 Try.f66 [(.sl (.int .u32)), (.sl (.int .u32))] [true, true, true, true, true, true, true, true, true, false, true, false] _).trans (by kernel_rfl)
theorem g66_eq (a : (List Int)) (b : (List Int)) : g66 (a, b, ()) =
  Option.bind (h50 (a, (b, ()))) fun (y0 : (Int × Unit)) =>
  if (decide (y0.1 < 0)) = true then
    some ([], (a, ()))
  else if (((List.length b) : Int) == 1) = true then
    if ((decide (0 ≤ 0)) && (decide (0 < ((List.length b) : Int)))) = true then
      Option.bind (h84 (a, ((IntKind.wrap .u64 (List.getD b 0 0)), ()))) fun (y1 : ((List Int) × (Int × Unit))) =>
      Option.bind (h48 (y1.2.1, ())) fun (y2 : ((List Int) × Unit)) =>
      some (y1.1, (y2.1, ()))
    else none
  else if ((decide (0 ≤ (IntKind.wrap .i64 (((List.length b) : Int) - 1)))) && (decide ((IntKind.wrap .i64 (((List.length b) : Int) - 1)) < ((List.length b) : Int)))) = true then
    if ((IntKind.wrap .u64 ((IntKind.wrap .u64 (List.getD b (Int.toNat (IntKind.wrap .i64 (((List.length b) : Int) - 1))) 0)) + 1)) == 0) = true then
      none
    else Option.bind (h48 ((IntKind.wrap .u64 (Int.tdiv 4294967296 (IntKind.wrap .u64 ((IntKind.wrap .u64 (List.getD b (Int.toNat (IntKind.wrap .i64 (((List.length b) : Int) - 1))) 0)) + 1)))), ())) fun (y3 : ((List Int) × Unit)) =>
    Option.bind (h49 (b, (y3.1, ()))) fun (y4 : ((List Int) × Unit)) =>
    if (((decide (0 ≤ (IntKind.wrap .i64 (((List.length a) : Int) + 1)))) && (decide ((IntKind.wrap .i64 (((List.length a) : Int) + 1)) ≤ (IntKind.wrap .i64 (((List.length a) : Int) + 1))))) && (decide (((IntKind.wrap .i64 (((List.length a) : Int) + 1)) * 4) ≤ 140737488355328))) = true then
      Option.bind (h48 ((IntKind.wrap .u64 (Int.tdiv 4294967296 (IntKind.wrap .u64 ((IntKind.wrap .u64 (List.getD b (Int.toNat (IntKind.wrap .i64 (((List.length b) : Int) - 1))) 0)) + 1)))), ())) fun (y5 : ((List Int) × Unit)) =>
      Option.bind (h49 (a, (y5.1, ()))) fun (y6 : ((List Int) × Unit)) =>
      if (((decide (0 ≤ (IntKind.wrap .i64 ((IntKind.wrap .i64 (((List.length a) : Int) - ((List.length b) : Int))) + 1)))) && (decide ((IntKind.wrap .i64 ((IntKind.wrap .i64 (((List.length a) : Int) - ((List.length b) : Int))) + 1)) ≤ (IntKind.wrap .i64 ((IntKind.wrap .i64 (((List.length a) : Int) - ((List.length b) : Int))) + 1))))) && (decide (((IntKind.wrap .i64 ((IntKind.wrap .i64 (((List.length a) : Int) - ((List.length b) : Int))) + 1)) * 4) ≤ 140737488355328))) = true then
        (g66_L13 ((List.length b) : Int) (IntKind.wrap .u64 (Int.tdiv 4294967296 (IntKind.wrap .u64 ((IntKind.wrap .u64 (List.getD b (Int.toNat (IntKind.wrap .i64 (((List.length b) : Int) - 1))) 0)) + 1)))) y4.1 (IntKind.wrap .i64 (((List.length a) : Int) - ((List.length b) : Int))) ((List.take (List.length (List.replicate (Int.toNat (IntKind.wrap .i64 (((List.length a) : Int) + 1))) (0 : Int))) y6.1) ++ (List.drop (List.length y6.1) (List.replicate (Int.toNat (IntKind.wrap .i64 (((List.length a) : Int) + 1))) (0 : Int)))) (List.replicate (Int.toNat (IntKind.wrap .i64 ((IntKind.wrap .i64 (((List.length a) : Int) - ((List.length b) : Int))) + 1))) (0 : Int)))
      else none
    else none
  else none := (Fn_eq rfl).trans (by kernel_rfl)

noncomputable def g52 : DL [(.pair .bool (.pair (.sl (.int .u32)) .unit)), (.pair .bool (.pair (.sl (.int .u32)) .unit))] → Option (DL [(.pair .bool (.pair (.sl (.int .u32)) .unit)), (.pair .bool (.pair (.sl (.int .u32)) .unit)), (.int .i64)]) := Fn cx52 an52 Try.f52 [(.pair .bool (.pair (.sl (.int .u32)) .unit)), (.pair .bool (.pair (.sl (.int .u32)) .unit))] [(.pair .bool (.pair (.sl (.int .u32)) .unit)), (.pair .bool (.pair (.sl (.int .u32)) .unit)), (.int .i64)]
theorem g52_eq (a : (Bool × ((List Int) × Unit))) (b : (Bool × ((List Int) × Unit))) : g52 (a, b, ()) =
  if (((List.length b.2.1) : Int) == 0) = true then
    some ((false, ([], ())), ((false, ([], ())), (10, ())))
  else Option.bind (h75 (a.2.1, (b.2.1, ()))) fun (y0 : ((List Int) × ((List Int) × Unit))) =>
  if a.1 = true then
    if (decide (((List.length y0.2.1) : Int) > 0)) = true then
      Option.bind (h68 (1, ())) fun (y1 : ((List Int) × Unit)) =>
      Option.bind (h70 (y0.1, (y1.1, ()))) fun (y2 : ((List Int) × Unit)) =>
      Option.bind (h72 (b.2.1, (y0.2.1, ()))) fun (y3 : ((List Int) × Unit)) =>
      Option.bind (h69 (y2.1, ((!(a.1 == b.1)), ()))) fun (y4 : ((Bool × ((List Int) × Unit)) × Unit)) =>
      Option.bind (h69 (y3.1, (false, ()))) fun (y5 : ((Bool × ((List Int) × Unit)) × Unit)) =>
      some ((y4.1.1, (y4.1.2.1, ())), ((y5.1.1, (y5.1.2.1, ())), (0, ())))
    else Option.bind (h69 (y0.1, ((!(a.1 == b.1)), ()))) fun (y6 : ((Bool × ((List Int) × Unit)) × Unit)) =>
    Option.bind (h69 (y0.2.1, (false, ()))) fun (y7 : ((Bool × ((List Int) × Unit)) × Unit)) =>
    some ((y6.1.1, (y6.1.2.1, ())), ((y7.1.1, (y7.1.2.1, ())), (0, ())))
  else Option.bind (h69 (y0.1, ((!(a.1 == b.1)), ()))) fun (y8 : ((Bool × ((List Int) × Unit)) × Unit)) =>
  Option.bind (h69 (y0.2.1, (false, ()))) fun (y9 : ((Bool × ((List Int) × Unit)) × Unit)) =>
  some ((y8.1.1, (y8.1.2.1, ())), ((y9.1.1, (y9.1.2.1, ())), (0, ()))) := (Fn_eq rfl).trans (by kernel_rfl)

noncomputable def g53 : DL [(.pair .bool (.pair (.sl (.int .u32)) .unit)), (.pair .bool (.pair (.sl (.int .u32)) .unit))] → Option (DL [(.pair .bool (.pair (.sl (.int .u32)) .unit))]) := Fn cx53 an53 Try.f53 [(.pair .bool (.pair (.sl (.int .u32)) .unit)), (.pair .bool (.pair (.sl (.int .u32)) .unit))] [(.pair .bool (.pair (.sl (.int .u32)) .unit))]
theorem g53_eq (a : (Bool × ((List Int) × Unit))) (b : (Bool × ((List Int) × Unit))) : g53 (a, b, ()) =
  Option.bind (h57 ((b.1, (b.2.1, ())), ())) fun (y0 : ((Bool × ((List Int) × Unit)) × Unit)) =>
  Option.bind (h45 ((a.1, (a.2.1, ())), (y0.1, ()))) fun (y1 : ((Bool × ((List Int) × Unit)) × Unit)) =>
  some ((y1.1.1, (y1.1.2.1, ())), ()) := (Fn_eq rfl).trans (by kernel_rfl)

noncomputable def g58 : DL [(.pair .bool (.pair (.sl (.int .u32)) .unit)), (.pair .bool (.pair (.sl (.int .u32)) .unit))] → Option (DL [(.pair .bool (.pair (.sl (.int .u32)) .unit))]) := Fn cx58 an58 Try.f58 [(.pair .bool (.pair (.sl (.int .u32)) .unit)), (.pair .bool (.pair (.sl (.int .u32)) .unit))] [(.pair .bool (.pair (.sl (.int .u32)) .unit))]
noncomputable def g58_L2 (t5 : (List Int)) (t6 : (List Int)) (v2 : Bool) (v2_1 : (List Int)) : Option (DL [(.pair .bool (.pair (.sl (.int .u32)) .unit))]) := Lp cx58 an58 Try.f58 [(.pair .bool (.pair (.sl (.int .u32)) .unit))] [true, true, false, false] ⟨[.undef, .undef, .undef, .undef, .ptr 2 [], .val (.sl (.int .u32)) t5, .val (.sl (.int .u32)) t6, .undef, .undef, .undef, .undef, .undef, .undef, .undef, .undef, .undef, .undef, .undef, .undef, .undef, .undef, .undef, .undef, .undef, .undef, .undef], ofL [(2, (.var (.pair .bool (.pair (.sl (.int .u32)) .unit)) (.pr (.val .bool v2) (.pr (.val (.sl (.int .u32)) v2_1) (.un))), false))], [2], []⟩
theorem g58_L2_eq (t5 : (List Int)) (t6 : (List Int)) (v2 : Bool) (v2_1 : (List Int)) : g58_L2 t5 t6 v2 v2_1 =
  if (decide (((List.length t6) : Int) > 0)) = true then
    Option.bind (h75 (t5, (t6, ()))) fun (y0 : ((List Int) × ((List Int) × Unit))) =>
    (g58_L2 t6 y0.2.1 v2 v2_1)
  else Option.bind (h69 (t5, (false, ()))) fun (y1 : ((Bool × ((List Int) × Unit)) × Unit)) =>
  some ((y1.1.1, (y1.1.2.1, ())), ()) := (Lp_eq cx58 an58 Try.f58 [(.pair .bool (.pair (.sl (.int .u32)) .unit))] [true, true, false, false] _).trans (by kernel_rfl)
theorem g58_eq (a : (Bool × ((List Int) × Unit))) (b : (Bool × ((List Int) × Unit))) : g58 (a, b, ()) =
  (g58_L2 a.2.1 b.2.1 false []) := (Fn_eq rfl).trans (by kernel_rfl)


theorem so66 : SigsOk Try.prog cx66 := ⟨(lookAll_cons s48 (lookAll_cons s49 (lookAll_cons s50 (lookAll_cons s74 (lookAll_cons s84 (lookAll_cons s85 lookAll_nil)))))), (lookAll_cons s86 (lookAll_cons s87 lookAll_nil)), lookAll_nil⟩
theorem in66 : ∀ f p, look cx66.inl f = some p → Try.prog.funcs[f]? = some p.1 ∧ (p.1.name == "runtime.NumGoroutine") = false := lookAll_nil
theorem ok66 {h : DL [(.sl (.int .u32)), (.sl (.int .u32))] → Option (DL [(.sl (.int .u32)), (.sl (.int .u32))])} (hw : ∀ x r, h x = some r → g66 x = some r) : SigOk Try.prog 66 ⟨[(.sl (.int .u32)), (.sl (.int .u32))], [(.sl (.int .u32)), (.sl (.int .u32))], h⟩ := (Fn_ok (anns := an66) mixed T_ok so66 in66 (f := 66) (fn := Try.f66) rfl rfl rfl [(.sl (.int .u32)), (.sl (.int .u32))] [(.sl (.int .u32)), (.sl (.int .u32))]).weaken hw

theorem so52 : SigsOk Try.prog cx52 := ⟨(lookAll_cons s68 (lookAll_cons s69 (lookAll_cons s70 (lookAll_cons s72 (lookAll_cons s75 lookAll_nil))))), lookAll_nil, lookAll_nil⟩
theorem in52 : ∀ f p, look cx52.inl f = some p → Try.prog.funcs[f]? = some p.1 ∧ (p.1.name == "runtime.NumGoroutine") = false := lookAll_nil
theorem ok52 {h : DL [(.pair .bool (.pair (.sl (.int .u32)) .unit)), (.pair .bool (.pair (.sl (.int .u32)) .unit))] → Option (DL [(.pair .bool (.pair (.sl (.int .u32)) .unit)), (.pair .bool (.pair (.sl (.int .u32)) .unit)), (.int .i64)])} (hw : ∀ x r, h x = some r → g52 x = some r) : SigOk Try.prog 52 ⟨[(.pair .bool (.pair (.sl (.int .u32)) .unit)), (.pair .bool (.pair (.sl (.int .u32)) .unit))], [(.pair .bool (.pair (.sl (.int .u32)) .unit)), (.pair .bool (.pair (.sl (.int .u32)) .unit)), (.int .i64)], h⟩ := (Fn_ok (anns := an52) mixed T_ok so52 in52 (f := 52) (fn := Try.f52) rfl rfl rfl [(.pair .bool (.pair (.sl (.int .u32)) .unit)), (.pair .bool (.pair (.sl (.int .u32)) .unit))] [(.pair .bool (.pair (.sl (.int .u32)) .unit)), (.pair .bool (.pair (.sl (.int .u32)) .unit)), (.int .i64)]).weaken hw

theorem so53 : SigsOk Try.prog cx53 := ⟨(lookAll_cons s45 (lookAll_cons s57 lookAll_nil)), lookAll_nil, lookAll_nil⟩
theorem in53 : ∀ f p, look cx53.inl f = some p → Try.prog.funcs[f]? = some p.1 ∧ (p.1.name == "runtime.NumGoroutine") = false := lookAll_nil
theorem ok53 {h : DL [(.pair .bool (.pair (.sl (.int .u32)) .unit)), (.pair .bool (.pair (.sl (.int .u32)) .unit))] → Option (DL [(.pair .bool (.pair (.sl (.int .u32)) .unit))])} (hw : ∀ x r, h x = some r → g53 x = some r) : SigOk Try.prog 53 ⟨[(.pair .bool (.pair (.sl (.int .u32)) .unit)), (.pair .bool (.pair (.sl (.int .u32)) .unit))], [(.pair .bool (.pair (.sl (.int .u32)) .unit))], h⟩ := (Fn_ok (anns := an53) mixed T_ok so53 in53 (f := 53) (fn := Try.f53) rfl rfl rfl [(.pair .bool (.pair (.sl (.int .u32)) .unit)), (.pair .bool (.pair (.sl (.int .u32)) .unit))] [(.pair .bool (.pair (.sl (.int .u32)) .unit))]).weaken hw

theorem so58 : SigsOk Try.prog cx58 := ⟨(lookAll_cons s69 (lookAll_cons s75 lookAll_nil)), lookAll_nil, lookAll_nil⟩
theorem in58 : ∀ f p, look cx58.inl f = some p → Try.prog.funcs[f]? = some p.1 ∧ (p.1.name == "runtime.NumGoroutine") = false := lookAll_nil
theorem ok58 {h : DL [(.pair .bool (.pair (.sl (.int .u32)) .unit)), (.pair .bool (.pair (.sl (.int .u32)) .unit))] → Option (DL [(.pair .bool (.pair (.sl (.int .u32)) .unit))])} (hw : ∀ x r, h x = some r → g58 x = some r) : SigOk Try.prog 58 ⟨[(.pair .bool (.pair (.sl (.int .u32)) .unit)), (.pair .bool (.pair (.sl (.int .u32)) .unit))], [(.pair .bool (.pair (.sl (.int .u32)) .unit))], h⟩ := (Fn_ok (anns := an58) mixed T_ok so58 in58 (f := 58) (fn := Try.f58) rfl rfl rfl [(.pair .bool (.pair (.sl (.int .u32)) .unit)), (.pair .bool (.pair (.sl (.int .u32)) .unit))] [(.pair .bool (.pair (.sl (.int .u32)) .unit))]).weaken hw

end Go.Refl.S3
