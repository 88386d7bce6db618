/-
  PRINTED BY PROGRAM: what the bodies of some functions compute, loop by loop; each equation is checked by the kernel.
-/
import Derived.Test.YthgbejjenlfdnaaQ2
import Derived.KernelRfl
set_option linter.unusedVariables false
set_option maxRecDepth 100000
namespace Go.Refl.S3
open Go Go.Refl Go.Proofs

noncomputable def cx27 : Cx := { types := T, sigs := [(47, ⟨[.bool, (.sl (.int .u32))], [(.pair .bool (.pair (.sl (.int .u32)) .unit))], h47⟩), (48, ⟨[(.int .u64)], [(.sl (.int .u32))], h48⟩)], muts := [] }
def an27 : List (Nat × Ann) := []
noncomputable def cx28 : Cx := { types := T, sigs := [(47, ⟨[.bool, (.sl (.int .u32))], [(.pair .bool (.pair (.sl (.int .u32)) .unit))], h47⟩), (49, ⟨[(.sl (.int .u32)), (.sl (.int .u32))], [(.sl (.int .u32))], h49⟩)], muts := [] }
def an28 : List (Nat × Ann) := []
noncomputable def cx35 : Cx := { types := T, sigs := [(47, ⟨[.bool, (.sl (.int .u32))], [(.pair .bool (.pair (.sl (.int .u32)) .unit))], h47⟩)], muts := [] }
def an35 : List (Nat × Ann) := []
noncomputable def cx39 : Cx := { types := T, sigs := [(47, ⟨[.bool, (.sl (.int .u32))], [(.pair .bool (.pair (.sl (.int .u32)) .unit))], h47⟩), (50, ⟨[(.sl (.int .u32)), (.sl (.int .u32))], [(.int .i64)], h50⟩), (62, ⟨[(.sl (.int .u32)), (.sl (.int .u32))], [(.sl (.int .u32))], h62⟩), (63, ⟨[(.sl (.int .u32)), (.sl (.int .u32))], [(.sl (.int .u32))], h63⟩)], muts := [] }
def an39 : List (Nat × Ann) := []
noncomputable def cx43 : Cx := { types := T, sigs := [(67, ⟨[(.sl (.int .u32))], [(.int .u64)], h67⟩)], muts := [] }
def an43 : List (Nat × Ann) := []
noncomputable def cx44 : Cx := { types := T, sigs := [(68, ⟨[(.int .u64)], [(.sl (.int .u32))], h68⟩), (69, ⟨[(.sl (.int .u32)), .bool], [(.pair .bool (.pair (.sl (.int .u32)) .unit))], h69⟩)], muts := [] }
def an44 : List (Nat × Ann) := []
noncomputable def cx46 : Cx := { types := T, sigs := [(69, ⟨[(.sl (.int .u32)), .bool], [(.pair .bool (.pair (.sl (.int .u32)) .unit))], h69⟩), (73, ⟨[(.sl (.int .u32)), (.sl (.int .u32))], [(.sl (.int .u32))], h73⟩)], muts := [] }
def an46 : List (Nat × Ann) := []
noncomputable def cx57 : Cx := { types := T, sigs := [(69, ⟨[(.sl (.int .u32)), .bool], [(.pair .bool (.pair (.sl (.int .u32)) .unit))], h69⟩)], muts := [] }
def an57 : List (Nat × Ann) := []
noncomputable def cx71 : Cx := { types := T, sigs := [(78, ⟨[(.int .i64), (.int .i64)], [(.int .i64)], h78⟩), (91, ⟨[(.int .u32), (.int .u32)], [(.int .i64)], h91⟩)], muts := [] }
def an71 : List (Nat × Ann) := [(4, { keep := 786435 })]
noncomputable def g27 : DL [(.int .i64)] → Option (DL [(.pair .bool (.pair (.sl (.int .u32)) .unit))]) := Fn cx27 an27 Try.f27 [(.int .i64)] [(.pair .bool (.pair (.sl (.int .u32)) .unit))]
theorem g27_eq (a : Int) : g27 (a, ()) =
  if (decide (a < 0)) = true then
    Option.bind (h48 ((IntKind.wrap .u64 ((IntKind.wrap .u64 (IntKind.wrap .i64 (0 - (IntKind.wrap .i64 (a + 1))))) + 1)), ())) fun (y0 : ((List Int) × Unit)) =>
    Option.bind (h47 (true, (y0.1, ()))) fun (y1 : ((Bool × ((List Int) × Unit)) × Unit)) =>
    some ((y1.1.1, (y1.1.2.1, ())), ())
  else Option.bind (h48 ((IntKind.wrap .u64 a), ())) fun (y2 : ((List Int) × Unit)) =>
  Option.bind (h47 (false, (y2.1, ()))) fun (y3 : ((Bool × ((List Int) × Unit)) × Unit)) =>
  some ((y3.1.1, (y3.1.2.1, ())), ()) := (Fn_eq rfl).trans (by kernel_rfl)

noncomputable def g28 : DL [(.pair .bool (.pair (.sl (.int .u32)) .unit)), (.pair .bool (.pair (.sl (.int .u32)) .unit))] → Option (DL [(.pair .bool (.pair (.sl (.int .u32)) .unit))]) := Fn cx28 an28 Try.f28 [(.pair .bool (.pair (.sl (.int .u32)) .unit)), (.pair .bool (.pair (.sl (.int .u32)) .unit))] [(.pair .bool (.pair (.sl (.int .u32)) .unit))]
theorem g28_eq (a : (Bool × ((List Int) × Unit))) (b : (Bool × ((List Int) × Unit))) : g28 (a, b, ()) =
  Option.bind (h49 (a.2.1, (b.2.1, ()))) fun (y0 : ((List Int) × Unit)) =>
  Option.bind (h47 ((!(a.1 == b.1)), (y0.1, ()))) fun (y1 : ((Bool × ((List Int) × Unit)) × Unit)) =>
  some ((y1.1.1, (y1.1.2.1, ())), ()) := (Fn_eq rfl).trans (by kernel_rfl)

noncomputable def g35 : DL [(.pair .bool (.pair (.sl (.int .u32)) .unit))] → Option (DL [(.pair .bool (.pair (.sl (.int .u32)) .unit))]) := Fn cx35 an35 Try.f35 [(.pair .bool (.pair (.sl (.int .u32)) .unit))] [(.pair .bool (.pair (.sl (.int .u32)) .unit))]
theorem g35_eq (a : (Bool × ((List Int) × Unit))) : g35 (a, ()) =
  Option.bind (h47 ((!a.1), (a.2.1, ()))) fun (y0 : ((Bool × ((List Int) × Unit)) × Unit)) =>
  some ((y0.1.1, (y0.1.2.1, ())), ()) := (Fn_eq rfl).trans (by kernel_rfl)

noncomputable def g39 : DL [(.pair .bool (.pair (.sl (.int .u32)) .unit)), (.pair .bool (.pair (.sl (.int .u32)) .unit))] → Option (DL [(.pair .bool (.pair (.sl (.int .u32)) .unit))]) := Fn cx39 an39 Try.f39 [(.pair .bool (.pair (.sl (.int .u32)) .unit)), (.pair .bool (.pair (.sl (.int .u32)) .unit))] [(.pair .bool (.pair (.sl (.int .u32)) .unit))]
theorem g39_eq (a : (Bool × ((List Int) × Unit))) (b : (Bool × ((List Int) × Unit))) : g39 (a, b, ()) =
  if (a.1 == b.1) = true then
    Option.bind (h62 (a.2.1, (b.2.1, ()))) fun (y0 : ((List Int) × Unit)) =>
    Option.bind (h47 (a.1, (y0.1, ()))) fun (y1 : ((Bool × ((List Int) × Unit)) × Unit)) =>
    some ((y1.1.1, (y1.1.2.1, ())), ())
  else Option.bind (h50 (a.2.1, (b.2.1, ()))) fun (y2 : (Int × Unit)) =>
  if (decide (y2.1 < 0)) = true then
    Option.bind (h63 (b.2.1, (a.2.1, ()))) fun (y3 : ((List Int) × Unit)) =>
    Option.bind (h47 (b.1, (y3.1, ()))) fun (y4 : ((Bool × ((List Int) × Unit)) × Unit)) =>
    some ((y4.1.1, (y4.1.2.1, ())), ())
  else Option.bind (h63 (a.2.1, (b.2.1, ()))) fun (y5 : ((List Int) × Unit)) =>
  Option.bind (h47 (a.1, (y5.1, ()))) fun (y6 : ((Bool × ((List Int) × Unit)) × Unit)) =>
  some ((y6.1.1, (y6.1.2.1, ())), ()) := (Fn_eq rfl).trans (by kernel_rfl)

noncomputable def g43 : DL [(.pair .bool (.pair (.sl (.int .u32)) .unit))] → Option (DL [(.int .i64), .bool]) := Fn cx43 an43 Try.f43 [(.pair .bool (.pair (.sl (.int .u32)) .unit))] [(.int .i64), .bool]
theorem g43_eq (a : (Bool × ((List Int) × Unit))) : g43 (a, ()) =
  if (decide (((List.length a.2.1) : Int) > 2)) = true then
    some (0, (false, ()))
  else Option.bind (h67 (a.2.1, ())) fun (y0 : (Int × Unit)) =>
  if (!a.1) = true then
    if (decide (y0.1 < 9223372036854775808)) = true then
      some ((IntKind.wrap .i64 y0.1), (true, ()))
    else if a.1 = true then
      if (decide (y0.1 ≤ 9223372036854775808)) = true then
        some ((IntKind.wrap .i64 ((IntKind.wrap .i64 (0 - (IntKind.wrap .i64 (IntKind.wrap .u64 (y0.1 - 1))))) - 1)), (true, ()))
      else some (0, (false, ()))
    else some (0, (false, ()))
  else if a.1 = true then
    if (decide (y0.1 ≤ 9223372036854775808)) = true then
      some ((IntKind.wrap .i64 ((IntKind.wrap .i64 (0 - (IntKind.wrap .i64 (IntKind.wrap .u64 (y0.1 - 1))))) - 1)), (true, ()))
    else some (0, (false, ()))
  else some (0, (false, ())) := (Fn_eq rfl).trans (by kernel_rfl)

noncomputable def g44 : DL [(.int .i64)] → Option (DL [(.pair .bool (.pair (.sl (.int .u32)) .unit))]) := Fn cx44 an44 Try.f44 [(.int .i64)] [(.pair .bool (.pair (.sl (.int .u32)) .unit))]
theorem g44_eq (a : Int) : g44 (a, ()) =
  if (decide (a < 0)) = true then
    Option.bind (h68 ((IntKind.wrap .u64 (0 - (IntKind.wrap .u64 a))), ())) fun (y0 : ((List Int) × Unit)) =>
    Option.bind (h69 (y0.1, (true, ()))) fun (y1 : ((Bool × ((List Int) × Unit)) × Unit)) =>
    some ((y1.1.1, (y1.1.2.1, ())), ())
  else Option.bind (h68 ((IntKind.wrap .u64 a), ())) fun (y2 : ((List Int) × Unit)) =>
  Option.bind (h69 (y2.1, (false, ()))) fun (y3 : ((Bool × ((List Int) × Unit)) × Unit)) =>
  some ((y3.1.1, (y3.1.2.1, ())), ()) := (Fn_eq rfl).trans (by kernel_rfl)

noncomputable def g46 : DL [(.pair .bool (.pair (.sl (.int .u32)) .unit)), (.pair .bool (.pair (.sl (.int .u32)) .unit))] → Option (DL [(.pair .bool (.pair (.sl (.int .u32)) .unit))]) := Fn cx46 an46 Try.f46 [(.pair .bool (.pair (.sl (.int .u32)) .unit)), (.pair .bool (.pair (.sl (.int .u32)) .unit))] [(.pair .bool (.pair (.sl (.int .u32)) .unit))]
theorem g46_eq (a : (Bool × ((List Int) × Unit))) (b : (Bool × ((List Int) × Unit))) : g46 (a, b, ()) =
  Option.bind (h73 (a.2.1, (b.2.1, ()))) fun (y0 : ((List Int) × Unit)) =>
  Option.bind (h69 (y0.1, ((!(a.1 == b.1)), ()))) fun (y1 : ((Bool × ((List Int) × Unit)) × Unit)) =>
  some ((y1.1.1, (y1.1.2.1, ())), ()) := (Fn_eq rfl).trans (by kernel_rfl)

noncomputable def g57 : DL [(.pair .bool (.pair (.sl (.int .u32)) .unit))] → Option (DL [(.pair .bool (.pair (.sl (.int .u32)) .unit))]) := Fn cx57 an57 Try.f57 [(.pair .bool (.pair (.sl (.int .u32)) .unit))] [(.pair .bool (.pair (.sl (.int .u32)) .unit))]
theorem g57_eq (a : (Bool × ((List Int) × Unit))) : g57 (a, ()) =
  Option.bind (h69 (a.2.1, ((!a.1), ()))) fun (y0 : ((Bool × ((List Int) × Unit)) × Unit)) =>
  some ((y0.1.1, (y0.1.2.1, ())), ()) := (Fn_eq rfl).trans (by kernel_rfl)

noncomputable def g71 : DL [(.sl (.int .u32)), (.sl (.int .u32))] → Option (DL [(.int .i64)]) := Fn cx71 an71 Try.f71 [(.sl (.int .u32)), (.sl (.int .u32))] [(.int .i64)]
noncomputable def g71_L4 (t0 : (List Int)) (t1 : (List Int)) (t18 : Int) (t19 : Int) : Option (DL [(.int .i64)]) := Lp cx71 an71 Try.f71 [(.int .i64)] [true, true, false, true, false] ⟨[.val (.sl (.int .u32)) t0, .val (.sl (.int .u32)) t1, .undef, .undef, .undef, .undef, .undef, .undef, .undef, .undef, .undef, .undef, .undef, .undef, .undef, .undef, .undef, .undef, .val (.int .i64) t18, .val (.int .i64) t19, .undef, .undef, .undef, .undef, .undef, .undef, .undef, .undef, .undef, .undef, .undef, .undef, .undef, .undef, .undef, .undef, .undef, .undef, .undef, .undef, .undef, .undef, .undef, .undef, .undef, .undef], ofL [], [], []⟩
theorem g71_L4_eq (t0 : (List Int)) (t1 : (List Int)) (t18 : Int) (t19 : Int) : g71_L4 t0 t1 t18 t19 =
  if (decide (t19 < t18)) = true then
    if ((decide (0 ≤ (IntKind.wrap .i64 ((IntKind.wrap .i64 (((List.length t0) : Int) - 1)) - t19)))) && (decide ((IntKind.wrap .i64 ((IntKind.wrap .i64 (((List.length t0) : Int) - 1)) - t19)) < ((List.length t0) : Int)))) = true then
      if ((decide (0 ≤ (IntKind.wrap .i64 ((IntKind.wrap .i64 (((List.length t0) : Int) - 1)) - t19)))) && (decide ((IntKind.wrap .i64 ((IntKind.wrap .i64 (((List.length t0) : Int) - 1)) - t19)) < ((List.length t1) : Int)))) = true then
        if ((List.getD t0 (Int.toNat (IntKind.wrap .i64 ((IntKind.wrap .i64 (((List.length t0) : Int) - 1)) - t19))) 0) != (List.getD t1 (Int.toNat (IntKind.wrap .i64 ((IntKind.wrap .i64 (((List.length t0) : Int) - 1)) - t19))) 0)) = true then
          if ((decide (0 ≤ (IntKind.wrap .i64 ((IntKind.wrap .i64 (((List.length t0) : Int) - 1)) - t19)))) && (decide ((IntKind.wrap .i64 ((IntKind.wrap .i64 (((List.length t0) : Int) - 1)) - t19)) < ((List.length t0) : Int)))) = true then
            if ((decide (0 ≤ (IntKind.wrap .i64 ((IntKind.wrap .i64 (((List.length t0) : Int) - 1)) - t19)))) && (decide ((IntKind.wrap .i64 ((IntKind.wrap .i64 (((List.length t0) : Int) - 1)) - t19)) < ((List.length t1) : Int)))) = true then
              Option.bind (h91 ((List.getD t0 (Int.toNat (IntKind.wrap .i64 ((IntKind.wrap .i64 (((List.length t0) : Int) - 1)) - t19))) 0), ((List.getD t1 (Int.toNat (IntKind.wrap .i64 ((IntKind.wrap .i64 (((List.length t0) : Int) - 1)) - t19))) 0), ()))) fun (y1 : (Int × Unit)) =>
              some (y1.1, ())
            else none
          else none
        else (g71_L4 t0 t1 t18 (IntKind.wrap .i64 (t19 + 1)))
      else none
    else none
  else some (0, ()) := (Lp_eq cx71 an71 Try.f71 [(.int .i64)] [true, true, false, true, false] _).trans (by kernel_rfl)
theorem g71_eq (a : (List Int)) (b : (List Int)) : g71 (a, b, ()) =
  if (((List.length a) : Int) != ((List.length b) : Int)) = true then
    Option.bind (h78 (((List.length a) : Int), (((List.length b) : Int), ()))) fun (y0 : (Int × Unit)) =>
    some (y0.1, ())
  else (g71_L4 a b ((List.length a) : Int) 0) := (Fn_eq rfl).trans (by kernel_rfl)


theorem so27 : SigsOk Try.prog cx27 := ⟨(lookAll_cons s47 (lookAll_cons s48 lookAll_nil)), lookAll_nil, lookAll_nil⟩
theorem in27 : ∀ f p, look cx27.inl f = some p → Try.prog.funcs[f]? = some p.1 ∧ (p.1.name == "runtime.NumGoroutine") = false := lookAll_nil
theorem ok27 {h : DL [(.int .i64)] → Option (DL [(.pair .bool (.pair (.sl (.int .u32)) .unit))])} (hw : ∀ x r, h x = some r → g27 x = some r) : SigOk Try.prog 27 ⟨[(.int .i64)], [(.pair .bool (.pair (.sl (.int .u32)) .unit))], h⟩ := (Fn_ok (anns := an27) mixed T_ok so27 in27 (f := 27) (fn := Try.f27) rfl rfl rfl [(.int .i64)] [(.pair .bool (.pair (.sl (.int .u32)) .unit))]).weaken hw

theorem so28 : SigsOk Try.prog cx28 := ⟨(lookAll_cons s47 (lookAll_cons s49 lookAll_nil)), lookAll_nil, lookAll_nil⟩
theorem in28 : ∀ f p, look cx28.inl f = some p → Try.prog.funcs[f]? = some p.1 ∧ (p.1.name == "runtime.NumGoroutine") = false := lookAll_nil
theorem ok28 {h : DL [(.pair .bool (.pair (.sl (.int .u32)) .unit)), (.pair .bool (.pair (.sl (.int .u32)) .unit))] → Option (DL [(.pair .bool (.pair (.sl (.int .u32)) .unit))])} (hw : ∀ x r, h x = some r → g28 x = some r) : SigOk Try.prog 28 ⟨[(.pair .bool (.pair (.sl (.int .u32)) .unit)), (.pair .bool (.pair (.sl (.int .u32)) .unit))], [(.pair .bool (.pair (.sl (.int .u32)) .unit))], h⟩ := (Fn_ok (anns := an28) mixed T_ok so28 in28 (f := 28) (fn := Try.f28) rfl rfl rfl [(.pair .bool (.pair (.sl (.int .u32)) .unit)), (.pair .bool (.pair (.sl (.int .u32)) .unit))] [(.pair .bool (.pair (.sl (.int .u32)) .unit))]).weaken hw

theorem so35 : SigsOk Try.prog cx35 := ⟨(lookAll_cons s47 lookAll_nil), lookAll_nil, lookAll_nil⟩
theorem in35 : ∀ f p, look cx35.inl f = some p → Try.prog.funcs[f]? = some p.1 ∧ (p.1.name == "runtime.NumGoroutine") = false := lookAll_nil
theorem ok35 {h : DL [(.pair .bool (.pair (.sl (.int .u32)) .unit))] → Option (DL [(.pair .bool (.pair (.sl (.int .u32)) .unit))])} (hw : ∀ x r, h x = some r → g35 x = some r) : SigOk Try.prog 35 ⟨[(.pair .bool (.pair (.sl (.int .u32)) .unit))], [(.pair .bool (.pair (.sl (.int .u32)) .unit))], h⟩ := (Fn_ok (anns := an35) mixed T_ok so35 in35 (f := 35) (fn := Try.f35) rfl rfl rfl [(.pair .bool (.pair (.sl (.int .u32)) .unit))] [(.pair .bool (.pair (.sl (.int .u32)) .unit))]).weaken hw

theorem so39 : SigsOk Try.prog cx39 := ⟨(lookAll_cons s47 (lookAll_cons s50 (lookAll_cons s62 (lookAll_cons s63 lookAll_nil)))), lookAll_nil, lookAll_nil⟩
theorem in39 : ∀ f p, look cx39.inl f = some p → Try.prog.funcs[f]? = some p.1 ∧ (p.1.name == "runtime.NumGoroutine") = false := lookAll_nil
theorem ok39 {h : DL [(.pair .bool (.pair (.sl (.int .u32)) .unit)), (.pair .bool (.pair (.sl (.int .u32)) .unit))] → Option (DL [(.pair .bool (.pair (.sl (.int .u32)) .unit))])} (hw : ∀ x r, h x = some r → g39 x = some r) : SigOk Try.prog 39 ⟨[(.pair .bool (.pair (.sl (.int .u32)) .unit)), (.pair .bool (.pair (.sl (.int .u32)) .unit))], [(.pair .bool (.pair (.sl (.int .u32)) .unit))], h⟩ := (Fn_ok (anns := an39) mixed T_ok so39 in39 (f := 39) (fn := Try.f39) rfl rfl rfl [(.pair .bool (.pair (.sl (.int .u32)) .unit)), (.pair .bool (.pair (.sl (.int .u32)) .unit))] [(.pair .bool (.pair (.sl (.int .u32)) .unit))]).weaken hw

theorem so43 : SigsOk Try.prog cx43 := ⟨(lookAll_cons s67 lookAll_nil), lookAll_nil, lookAll_nil⟩
theorem in43 : ∀ f p, look cx43.inl f = some p → Try.prog.funcs[f]? = some p.1 ∧ (p.1.name == "runtime.NumGoroutine") = false := lookAll_nil
theorem ok43 {h : DL [(.pair .bool (.pair (.sl (.int .u32)) .unit))] → Option (DL [(.int .i64), .bool])} (hw : ∀ x r, h x = some r → g43 x = some r) : SigOk Try.prog 43 ⟨[(.pair .bool (.pair (.sl (.int .u32)) .unit))], [(.int .i64), .bool], h⟩ := (Fn_ok (anns := an43) mixed T_ok so43 in43 (f := 43) (fn := Try.f43) rfl rfl rfl [(.pair .bool (.pair (.sl (.int .u32)) .unit))] [(.int .i64), .bool]).weaken hw

theorem so44 : SigsOk Try.prog cx44 := ⟨(lookAll_cons s68 (lookAll_cons s69 lookAll_nil)), lookAll_nil, lookAll_nil⟩
theorem in44 : ∀ f p, look cx44.inl f = some p → Try.prog.funcs[f]? = some p.1 ∧ (p.1.name == "runtime.NumGoroutine") = false := lookAll_nil
theorem ok44 {h : DL [(.int .i64)] → Option (DL [(.pair .bool (.pair (.sl (.int .u32)) .unit))])} (hw : ∀ x r, h x = some r → g44 x = some r) : SigOk Try.prog 44 ⟨[(.int .i64)], [(.pair .bool (.pair (.sl (.int .u32)) .unit))], h⟩ := (Fn_ok (anns := an44) mixed T_ok so44 in44 (f := 44) (fn := Try.f44) rfl rfl rfl [(.int .i64)] [(.pair .bool (.pair (.sl (.int .u32)) .unit))]).weaken hw

theorem so46 : SigsOk Try.prog cx46 := ⟨(lookAll_cons s69 (lookAll_cons s73 lookAll_nil)), lookAll_nil, lookAll_nil⟩
theorem in46 : ∀ f p, look cx46.inl f = some p → Try.prog.funcs[f]? = some p.1 ∧ (p.1.name == "runtime.NumGoroutine") = false := lookAll_nil
theorem ok46 {h : DL [(.pair .bool (.pair (.sl (.int .u32)) .unit)), (.pair .bool (.pair (.sl (.int .u32)) .unit))] → Option (DL [(.pair .bool (.pair (.sl (.int .u32)) .unit))])} (hw : ∀ x r, h x = some r → g46 x = some r) : SigOk Try.prog 46 ⟨[(.pair .bool (.pair (.sl (.int .u32)) .unit)), (.pair .bool (.pair (.sl (.int .u32)) .unit))], [(.pair .bool (.pair (.sl (.int .u32)) .unit))], h⟩ := (Fn_ok (anns := an46) mixed T_ok so46 in46 (f := 46) (fn := Try.f46) rfl rfl rfl [(.pair .bool (.pair (.sl (.int .u32)) .unit)), (.pair .bool (.pair (.sl (.int .u32)) .unit))] [(.pair .bool (.pair (.sl (.int .u32)) .unit))]).weaken hw

theorem so57 : SigsOk Try.prog cx57 := ⟨(lookAll_cons s69 lookAll_nil), lookAll_nil, lookAll_nil⟩
theorem in57 : ∀ f p, look cx57.inl f = some p → Try.prog.funcs[f]? = some p.1 ∧ (p.1.name == "runtime.NumGoroutine") = false := lookAll_nil
theorem ok57 {h : DL [(.pair .bool (.pair (.sl (.int .u32)) .unit))] → Option (DL [(.pair .bool (.pair (.sl (.int .u32)) .unit))])} (hw : ∀ x r, h x = some r → g57 x = some r) : SigOk Try.prog 57 ⟨[(.pair .bool (.pair (.sl (.int .u32)) .unit))], [(.pair .bool (.pair (.sl (.int .u32)) .unit))], h⟩ := (Fn_ok (anns := an57) mixed T_ok so57 in57 (f := 57) (fn := Try.f57) rfl rfl rfl [(.pair .bool (.pair (.sl (.int .u32)) .unit))] [(.pair .bool (.pair (.sl (.int .u32)) .unit))]).weaken hw

theorem so71 : SigsOk Try.prog cx71 := ⟨(lookAll_cons s78 (lookAll_cons s91 lookAll_nil)), lookAll_nil, lookAll_nil⟩
theorem in71 : ∀ f p, look cx71.inl f = some p → Try.prog.funcs[f]? = some p.1 ∧ (p.1.name == "runtime.NumGoroutine") = false := lookAll_nil
theorem ok71 {h : DL [(.sl (.int .u32)), (.sl (.int .u32))] → Option (DL [(.int .i64)])} (hw : ∀ x r, h x = some r → g71 x = some r) : SigOk Try.prog 71 ⟨[(.sl (.int .u32)), (.sl (.int .u32))], [(.int .i64)], h⟩ := (Fn_ok (anns := an71) mixed T_ok so71 in71 (f := 71) (fn := Try.f71) rfl rfl rfl [(.sl (.int .u32)), (.sl (.int .u32))] [(.int .i64)]).weaken hw

end Go.Refl.S3
