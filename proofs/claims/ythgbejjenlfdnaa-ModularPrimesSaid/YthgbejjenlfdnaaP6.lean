/-
  PRINTED BY PROGRAM: what the bodies of some functions compute, loop by loop; each equation is checked by the kernel.
-/
import Derived.Test.YthgbejjenlfdnaaQ9
import Derived.KernelRfl
set_option linter.unusedVariables false
set_option maxRecDepth 100000
namespace Go.Refl.S3
open Go Go.Refl Go.Proofs

noncomputable def cx42 : Cx := { types := T, sigs := [(47, ⟨[.bool, (.sl (.int .u32))], [(.pair .bool (.pair (.sl (.int .u32)) .unit))], h47⟩), (62, ⟨[(.sl (.int .u32)), (.sl (.int .u32))], [(.sl (.int .u32))], h62⟩), (63, ⟨[(.sl (.int .u32)), (.sl (.int .u32))], [(.sl (.int .u32))], h63⟩), (66, ⟨[(.sl (.int .u32)), (.sl (.int .u32))], [(.sl (.int .u32)), (.sl (.int .u32))], h66⟩)], muts := [] }
def an42 : List (Nat × Ann) := []
noncomputable def cx41 : Cx := { types := T, sigs := [(44, ⟨[(.int .i64)], [(.pair .bool (.pair (.sl (.int .u32)) .unit))], h44⟩), (52, ⟨[(.pair .bool (.pair (.sl (.int .u32)) .unit)), (.pair .bool (.pair (.sl (.int .u32)) .unit))], [(.pair .bool (.pair (.sl (.int .u32)) .unit)), (.pair .bool (.pair (.sl (.int .u32)) .unit)), (.int .i64)], h52⟩), (65, ⟨[(.pair .bool (.pair (.sl (.int .u32)) .unit))], [(.int .i64), .bool], h65⟩)], muts := [] }
def an41 : List (Nat × Ann) := []
noncomputable def cx11 : Cx := { types := T, sigs := [(13, ⟨[(.int .u64)], [.bool], h13⟩)], muts := [] }
def an11 : List (Nat × Ann) := [(4, { keep := 1 })]
noncomputable def cx81 : Cx := { types := T, sigs := [(48, ⟨[(.int .u64)], [(.sl (.int .u32))], h48⟩), (66, ⟨[(.sl (.int .u32)), (.sl (.int .u32))], [(.sl (.int .u32)), (.sl (.int .u32))], h66⟩), (67, ⟨[(.sl (.int .u32))], [(.int .u64)], h67⟩), (101, ⟨[(.int .u64), (.int .u64)], [(.int .u64)], h101⟩)], muts := [] }
def an81 : List (Nat × Ann) := [(1, { keep := 3 })]
noncomputable def cx25 : Cx := { types := T, sigs := [(12, ⟨[(.int .u64)], [(.int .u64), (.int .i64)], h12⟩)], muts := [] }
def an25 : List (Nat × Ann) := [(4, { keep := 226 })]
noncomputable def g42 : DL [(.pair .bool (.pair (.sl (.int .u32)) .unit)), (.pair .bool (.pair (.sl (.int .u32)) .unit))] → Option (DL [(.pair .bool (.pair (.sl (.int .u32)) .unit)), (.pair .bool (.pair (.sl (.int .u32)) .unit)), (.int .i64)]) := Fn cx42 an42 Try.f42 [(.pair .bool (.pair (.sl (.int .u32)) .unit)), (.pair .bool (.pair (.sl (.int .u32)) .unit))] [(.pair .bool (.pair (.sl (.int .u32)) .unit)), (.pair .bool (.pair (.sl (.int .u32)) .unit)), (.int .i64)]
theorem g42_eq (a : (Bool × ((List Int) × Unit))) (b : (Bool × ((List Int) × Unit))) : g42 (a, b, ()) =
  if (((List.length b.2.1) : Int) == 0) = true then
    some ((false, ([], ())), ((false, ([], ())), (10, ())))
  else Option.bind (h66 (a.2.1, (b.2.1, ()))) fun (y0 : ((List Int) × ((List Int) × Unit))) =>
  if a.1 = true then
    if (decide (((List.length y0.2.1) : Int) > 0)) = true then
      Option.bind (h62 (y0.1, ((List.set (List.replicate 1 (0 : Int)) 0 1), ()))) fun (y1 : ((List Int) × Unit)) =>
      Option.bind (h63 (b.2.1, (y0.2.1, ()))) fun (y2 : ((List Int) × Unit)) =>
      Option.bind (h47 ((!(a.1 == b.1)), (y1.1, ()))) fun (y3 : ((Bool × ((List Int) × Unit)) × Unit)) =>
      Option.bind (h47 (false, (y2.1, ()))) fun (y4 : ((Bool × ((List Int) × Unit)) × Unit)) =>
      some ((y3.1.1, (y3.1.2.1, ())), ((y4.1.1, (y4.1.2.1, ())), (0, ())))
    else Option.bind (h47 ((!(a.1 == b.1)), (y0.1, ()))) fun (y5 : ((Bool × ((List Int) × Unit)) × Unit)) =>
    Option.bind (h47 (false, (y0.2.1, ()))) fun (y6 : ((Bool × ((List Int) × Unit)) × Unit)) =>
    some ((y5.1.1, (y5.1.2.1, ())), ((y6.1.1, (y6.1.2.1, ())), (0, ())))
  else Option.bind (h47 ((!(a.1 == b.1)), (y0.1, ()))) fun (y7 : ((Bool × ((List Int) × Unit)) × Unit)) =>
  Option.bind (h47 (false, (y0.2.1, ()))) fun (y8 : ((Bool × ((List Int) × Unit)) × Unit)) =>
  some ((y7.1.1, (y7.1.2.1, ())), ((y8.1.1, (y8.1.2.1, ())), (0, ()))) := (Fn_eq rfl).trans (by kernel_rfl)

noncomputable def g41 : DL [(.pair .bool (.pair (.sl (.int .u32)) .unit)), (.int .u64)] → Option (DL [(.int .u64)]) := Fn cx41 an41 Try.f41 [(.pair .bool (.pair (.sl (.int .u32)) .unit)), (.int .u64)] [(.int .u64)]
theorem g41_eq (a : (Bool × ((List Int) × Unit))) (b : Int) : g41 (a, b, ()) =
  Option.bind (h44 ((IntKind.wrap .i64 b), ())) fun (y0 : ((Bool × ((List Int) × Unit)) × Unit)) =>
  Option.bind (h52 ((a.1, (a.2.1, ())), (y0.1, ()))) fun (y1 : ((Bool × ((List Int) × Unit)) × ((Bool × ((List Int) × Unit)) × (Int × Unit)))) =>
  Option.bind (h65 ((y1.2.1.1, (y1.2.1.2.1, ())), ())) fun (y2 : (Int × (Bool × Unit))) =>
  some ((IntKind.wrap .u64 y2.1), ()) := (Fn_eq rfl).trans (by kernel_rfl)

noncomputable def g11 : DL [(.int .u64)] → Option (DL [(.int .u64), (.int .i64)]) := Fn cx11 an11 Try.f11 [(.int .u64)] [(.int .u64), (.int .i64)]
noncomputable def g11_L4 (t0 : Int) : Option (DL [(.int .u64), (.int .i64)]) := Lp cx11 an11 Try.f11 [(.int .u64), (.int .i64)] [true, true, false, true, false] ⟨[.val (.int .u64) t0, .undef, .undef, .undef, .undef, .undef, .undef, .undef, .undef, .undef, .undef, .undef, .undef, .undef], ofL [], [], []⟩
theorem g11_L4_eq (t0 : Int) : g11_L4 t0 =
  Option.bind (h13 (t0, ())) fun (y0 : (Bool × Unit)) =>
  if (!y0.1) = true then
    (g11_L4 (IntKind.wrap .u64 (t0 + 1)))
  else some (t0, (0, ())) := (Lp_eq cx11 an11 Try.f11 [(.int .u64), (.int .i64)] [true, true, false, true, false] _).trans (by kernel_rfl)
theorem g11_eq (a : Int) : g11 (a, ()) =
  if (decide (a ≥ 2147483647)) = true then
    some (0, (1, ()))
  else (g11_L4 (IntKind.wrap .u64 (a + 1))) := (Fn_eq rfl).trans (by kernel_rfl)

noncomputable def g81 : DL [(.sl (.int .u32)), (.sl (.int .u32))] → Option (DL [(.sl (.int .u32))]) := Fn cx81 an81 Try.f81 [(.sl (.int .u32)), (.sl (.int .u32))] [(.sl (.int .u32))]
noncomputable def g81_L1 (t0 : (List Int)) (t1 : (List Int)) : Option (DL [(.sl (.int .u32))]) := Lp cx81 an81 Try.f81 [(.sl (.int .u32))] [true, false, false] ⟨[.val (.sl (.int .u32)) t0, .val (.sl (.int .u32)) t1, .undef, .undef, .undef, .undef, .undef, .undef, .undef, .undef, .undef, .undef, .undef, .undef, .undef, .undef, .undef, .undef, .undef, .undef, .undef, .undef, .undef, .undef, .undef, .undef, .undef, .undef, .undef, .undef, .undef, .undef, .undef], ofL [], [], []⟩
theorem g81_L1_eq (t0 : (List Int)) (t1 : (List Int)) : g81_L1 t0 t1 =
  if (decide (((List.length t1) : Int) > 0)) = true then
    if (decide (((List.length t0) : Int) ≤ 2)) = true then
      if (decide (((List.length t1) : Int) ≤ 2)) = true then
        Option.bind (h67 (t0, ())) fun (y0 : (Int × Unit)) =>
        Option.bind (h67 (t1, ())) fun (y1 : (Int × Unit)) =>
        Option.bind (h101 (y0.1, (y1.1, ()))) fun (y2 : (Int × Unit)) =>
        Option.bind (h48 (y2.1, ())) fun (y3 : ((List Int) × Unit)) =>
        some (y3.1, ())
      else Option.bind (h66 (t0, (t1, ()))) fun (y4 : ((List Int) × ((List Int) × Unit))) =>
      (g81_L1 t1 y4.2.1)
    else Option.bind (h66 (t0, (t1, ()))) fun (y5 : ((List Int) × ((List Int) × Unit))) =>
    (g81_L1 t1 y5.2.1)
  else some (t0, ()) := (Lp_eq cx81 an81 Try.f81 [(.sl (.int .u32))] [true, false, false] _).trans (by kernel_rfl)
theorem g81_eq (a : (List Int)) (b : (List Int)) : g81 (a, b, ()) =
  (g81_L1 a b) := (Fn_eq rfl).trans (by kernel_rfl)

noncomputable def g25 : DL [(.int .u32), (.int .i64)] → Option (DL [(.sl (.int .u64))]) := Fn cx25 an25 Try.f25 [(.int .u32), (.int .i64)] [(.sl (.int .u64))]
noncomputable def g25_L4 (t1 : Int) (t5 : Int) (t7 : Int) (r2048 : List Int) : Option (DL [(.sl (.int .u64))]) := Lp cx25 an25 Try.f25 [(.sl (.int .u64))] [true, true, true, false, true, false] ⟨[.undef, .val (.int .i64) t1, .undef, .undef, .undef, .val (.int .u64) t5, .own 2048 0, .val (.int .i64) t7, .undef, .undef, .undef, .undef, .undef, .undef, .undef, .undef, .undef, .undef, .undef, .undef, .undef, .undef, .undef, .undef, .undef, .undef, .undef], ofL [(2048, (.row 23 (.int .u64) r2048 0, false))], [2048], []⟩
theorem g25_L4_eq (t1 : Int) (t5 : Int) (t7 : Int) (r2048 : List Int) : g25_L4 t1 t5 t7 r2048 =
  if (decide (t7 < t1)) = true then
    Option.bind (h12 (t5, ())) fun (y0 : (Int × (Int × Unit))) =>
    if (decide ((((List.length r2048) + (List.length (List.set (List.replicate 1 (0 : Int)) 0 y0.1))) * 8) ≤ 140737488355328)) = true then
      (g25_L4 t1 y0.1 (IntKind.wrap .i64 (t7 + 1)) (r2048 ++ (List.set (List.replicate 1 (0 : Int)) 0 y0.1)))
    else none
  else some (r2048, ()) := (Lp_eq cx25 an25 Try.f25 [(.sl (.int .u64))] [true, true, true, false, true, false] _).trans (by kernel_rfl)
theorem g25_eq (a : Int) (b : Int) : g25 (a, b, ()) =
  (g25_L4 b (IntKind.wrap .u64 (Int.tmod a 2147000000)) 0 (List.replicate 0 (0 : Int))) := (Fn_eq rfl).trans (by kernel_rfl)


theorem so42 : SigsOk Try.prog cx42 := ⟨(lookAll_cons s47 (lookAll_cons s62 (lookAll_cons s63 (lookAll_cons s66 lookAll_nil)))), lookAll_nil, lookAll_nil⟩
theorem in42 : ∀ f p, look cx42.inl f = some p → Try.prog.funcs[f]? = some p.1 ∧ (p.1.name == "runtime.NumGoroutine") = false := lookAll_nil
theorem ok42 {h : DL [(.pair .bool (.pair (.sl (.int .u32)) .unit)), (.pair .bool (.pair (.sl (.int .u32)) .unit))] → Option (DL [(.pair .bool (.pair (.sl (.int .u32)) .unit)), (.pair .bool (.pair (.sl (.int .u32)) .unit)), (.int .i64)])} (hw : ∀ x r, h x = some r → g42 x = some r) : SigOk Try.prog 42 ⟨[(.pair .bool (.pair (.sl (.int .u32)) .unit)), (.pair .bool (.pair (.sl (.int .u32)) .unit))], [(.pair .bool (.pair (.sl (.int .u32)) .unit)), (.pair .bool (.pair (.sl (.int .u32)) .unit)), (.int .i64)], h⟩ := (Fn_ok (anns := an42) mixed T_ok so42 in42 (f := 42) (fn := Try.f42) rfl rfl rfl [(.pair .bool (.pair (.sl (.int .u32)) .unit)), (.pair .bool (.pair (.sl (.int .u32)) .unit))] [(.pair .bool (.pair (.sl (.int .u32)) .unit)), (.pair .bool (.pair (.sl (.int .u32)) .unit)), (.int .i64)]).weaken hw

theorem so41 : SigsOk Try.prog cx41 := ⟨(lookAll_cons s44 (lookAll_cons s52 (lookAll_cons s65 lookAll_nil))), lookAll_nil, lookAll_nil⟩
theorem in41 : ∀ f p, look cx41.inl f = some p → Try.prog.funcs[f]? = some p.1 ∧ (p.1.name == "runtime.NumGoroutine") = false := lookAll_nil
theorem ok41 {h : DL [(.pair .bool (.pair (.sl (.int .u32)) .unit)), (.int .u64)] → Option (DL [(.int .u64)])} (hw : ∀ x r, h x = some r → g41 x = some r) : SigOk Try.prog 41 ⟨[(.pair .bool (.pair (.sl (.int .u32)) .unit)), (.int .u64)], [(.int .u64)], h⟩ := (Fn_ok (anns := an41) mixed T_ok so41 in41 (f := 41) (fn := Try.f41) rfl rfl rfl [(.pair .bool (.pair (.sl (.int .u32)) .unit)), (.int .u64)] [(.int .u64)]).weaken hw

theorem so11 : SigsOk Try.prog cx11 := ⟨(lookAll_cons s13 lookAll_nil), lookAll_nil, lookAll_nil⟩
theorem in11 : ∀ f p, look cx11.inl f = some p → Try.prog.funcs[f]? = some p.1 ∧ (p.1.name == "runtime.NumGoroutine") = false := lookAll_nil
theorem ok11 {h : DL [(.int .u64)] → Option (DL [(.int .u64), (.int .i64)])} (hw : ∀ x r, h x = some r → g11 x = some r) : SigOk Try.prog 11 ⟨[(.int .u64)], [(.int .u64), (.int .i64)], h⟩ := (Fn_ok (anns := an11) mixed T_ok so11 in11 (f := 11) (fn := Try.f11) rfl rfl rfl [(.int .u64)] [(.int .u64), (.int .i64)]).weaken hw

theorem so81 : SigsOk Try.prog cx81 := ⟨(lookAll_cons s48 (lookAll_cons s66 (lookAll_cons s67 (lookAll_cons s101 lookAll_nil)))), lookAll_nil, lookAll_nil⟩
theorem in81 : ∀ f p, look cx81.inl f = some p → Try.prog.funcs[f]? = some p.1 ∧ (p.1.name == "runtime.NumGoroutine") = false := lookAll_nil
theorem ok81 {h : DL [(.sl (.int .u32)), (.sl (.int .u32))] → Option (DL [(.sl (.int .u32))])} (hw : ∀ x r, h x = some r → g81 x = some r) : SigOk Try.prog 81 ⟨[(.sl (.int .u32)), (.sl (.int .u32))], [(.sl (.int .u32))], h⟩ := (Fn_ok (anns := an81) mixed T_ok so81 in81 (f := 81) (fn := Try.f81) rfl rfl rfl [(.sl (.int .u32)), (.sl (.int .u32))] [(.sl (.int .u32))]).weaken hw

theorem so25 : SigsOk Try.prog cx25 := ⟨(lookAll_cons s12 lookAll_nil), lookAll_nil, lookAll_nil⟩
theorem in25 : ∀ f p, look cx25.inl f = some p → Try.prog.funcs[f]? = some p.1 ∧ (p.1.name == "runtime.NumGoroutine") = false := lookAll_nil
theorem ok25 {h : DL [(.int .u32), (.int .i64)] → Option (DL [(.sl (.int .u64))])} (hw : ∀ x r, h x = some r → g25 x = some r) : SigOk Try.prog 25 ⟨[(.int .u32), (.int .i64)], [(.sl (.int .u64))], h⟩ := (Fn_ok (anns := an25) mixed T_ok so25 in25 (f := 25) (fn := Try.f25) rfl rfl rfl [(.int .u32), (.int .i64)] [(.sl (.int .u64))]).weaken hw

end Go.Refl.S3
