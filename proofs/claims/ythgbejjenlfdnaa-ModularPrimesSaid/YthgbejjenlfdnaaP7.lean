/-
  PRINTED BY PROGRAM: what the bodies of some functions compute, loop by loop; each equation is checked by the kernel.
-/
import Derived.Test.YthgbejjenlfdnaaQ10
import Derived.KernelRfl
set_option linter.unusedVariables false
set_option maxRecDepth 100000
namespace Go.Refl.S3
open Go Go.Refl Go.Proofs

noncomputable def cx22 : Cx := { types := T, sigs := [(27, ⟨[(.int .i64)], [(.pair .bool (.pair (.sl (.int .u32)) .unit))], h27⟩), (42, ⟨[(.pair .bool (.pair (.sl (.int .u32)) .unit)), (.pair .bool (.pair (.sl (.int .u32)) .unit))], [(.pair .bool (.pair (.sl (.int .u32)) .unit)), (.pair .bool (.pair (.sl (.int .u32)) .unit)), (.int .i64)], h42⟩), (43, ⟨[(.pair .bool (.pair (.sl (.int .u32)) .unit))], [(.int .i64), .bool], h43⟩)], muts := [] }
def an22 : List (Nat × Ann) := []
noncomputable def cx18 : Cx := { types := T, sigs := [(16, ⟨[(.int .u64), (.int .u64)], [(.int .u64), (.int .i64)], h16⟩), (41, ⟨[(.pair .bool (.pair (.sl (.int .u32)) .unit)), (.int .u64)], [(.int .u64)], h41⟩)], muts := [] }
def an18 : List (Nat × Ann) := []
noncomputable def cx61 : Cx := { types := T, sigs := [(47, ⟨[.bool, (.sl (.int .u32))], [(.pair .bool (.pair (.sl (.int .u32)) .unit))], h47⟩), (81, ⟨[(.sl (.int .u32)), (.sl (.int .u32))], [(.sl (.int .u32))], h81⟩)], muts := [] }
def an61 : List (Nat × Ann) := []
noncomputable def cx26 : Cx := { types := T, sigs := [(13, ⟨[(.int .u64)], [.bool], h13⟩), (16, ⟨[(.int .u64), (.int .u64)], [(.int .u64), (.int .i64)], h16⟩), (41, ⟨[(.pair .bool (.pair (.sl (.int .u32)) .unit)), (.int .u64)], [(.int .u64)], h41⟩), (44, ⟨[(.int .i64)], [(.pair .bool (.pair (.sl (.int .u32)) .unit))], h44⟩), (45, ⟨[(.pair .bool (.pair (.sl (.int .u32)) .unit)), (.pair .bool (.pair (.sl (.int .u32)) .unit))], [(.pair .bool (.pair (.sl (.int .u32)) .unit))], h45⟩), (46, ⟨[(.pair .bool (.pair (.sl (.int .u32)) .unit)), (.pair .bool (.pair (.sl (.int .u32)) .unit))], [(.pair .bool (.pair (.sl (.int .u32)) .unit))], h46⟩)], muts := [] }
def an26 : List (Nat × Ann) := [(5, { keep := 25166259 })]
noncomputable def g22 : DL [(.pair .bool (.pair (.sl (.int .u32)) .unit)), (.int .u64)] → Option (DL [(.int .u64)]) := Fn cx22 an22 Try.f22 [(.pair .bool (.pair (.sl (.int .u32)) .unit)), (.int .u64)] [(.int .u64)]
theorem g22_eq (a : (Bool × ((List Int) × Unit))) (b : Int) : g22 (a, b, ()) =
  Option.bind (h27 ((IntKind.wrap .i64 b), ())) fun (y0 : ((Bool × ((List Int) × Unit)) × Unit)) =>
  Option.bind (h42 ((a.1, (a.2.1, ())), (y0.1, ()))) fun (y1 : ((Bool × ((List Int) × Unit)) × ((Bool × ((List Int) × Unit)) × (Int × Unit)))) =>
  Option.bind (h43 ((y1.2.1.1, (y1.2.1.2.1, ())), ())) fun (y2 : (Int × (Bool × Unit))) =>
  some ((IntKind.wrap .u64 y2.1), ()) := (Fn_eq rfl).trans (by kernel_rfl)

noncomputable def g18 : DL [(.pair (.pair .bool (.pair (.sl (.int .u32)) .unit)) (.pair (.pair .bool (.pair (.sl (.int .u32)) .unit)) .unit)), (.int .u64)] → Option (DL [(.int .u64), (.int .i64)]) := Fn cx18 an18 Try.f18 [(.pair (.pair .bool (.pair (.sl (.int .u32)) .unit)) (.pair (.pair .bool (.pair (.sl (.int .u32)) .unit)) .unit)), (.int .u64)] [(.int .u64), (.int .i64)]
theorem g18_eq (a : ((Bool × ((List Int) × Unit)) × ((Bool × ((List Int) × Unit)) × Unit))) (b : Int) : g18 (a, b, ()) =
  Option.bind (h41 ((a.2.1.1, (a.2.1.2.1, ())), (b, ()))) fun (y0 : (Int × Unit)) =>
  Option.bind (h16 (y0.1, (b, ()))) fun (y1 : (Int × (Int × Unit))) =>
  if (y1.2.1 != 0) = true then
    some (0, (30, ()))
  else Option.bind (h41 ((a.1.1, (a.1.2.1, ())), (b, ()))) fun (y2 : (Int × Unit)) =>
  if (b == 0) = true then
    none
  else some ((Int.tmod (IntKind.wrap .u64 (y2.1 * y1.1)) b), (0, ())) := (Fn_eq rfl).trans (by kernel_rfl)

noncomputable def g61 : DL [(.pair .bool (.pair (.sl (.int .u32)) .unit)), (.pair .bool (.pair (.sl (.int .u32)) .unit))] → Option (DL [(.pair .bool (.pair (.sl (.int .u32)) .unit))]) := Fn cx61 an61 Try.f61 [(.pair .bool (.pair (.sl (.int .u32)) .unit)), (.pair .bool (.pair (.sl (.int .u32)) .unit))] [(.pair .bool (.pair (.sl (.int .u32)) .unit))]
theorem g61_eq (a : (Bool × ((List Int) × Unit))) (b : (Bool × ((List Int) × Unit))) : g61 (a, b, ()) =
  Option.bind (h81 (a.2.1, (b.2.1, ()))) fun (y0 : ((List Int) × Unit)) =>
  Option.bind (h47 (false, (y0.1, ()))) fun (y1 : ((Bool × ((List Int) × Unit)) × Unit)) =>
  some ((y1.1.1, (y1.1.2.1, ())), ()) := (Fn_eq rfl).trans (by kernel_rfl)

noncomputable def g26 : DL [(.sl (.int .u64)), (.sl (.int .u64))] → Option (DL [(.pair .bool (.pair (.sl (.int .u32)) .unit)), (.pair .bool (.pair (.sl (.int .u32)) .unit)), (.int .i64)]) := Fn cx26 an26 Try.f26 [(.sl (.int .u64)), (.sl (.int .u64))] [(.pair .bool (.pair (.sl (.int .u32)) .unit)), (.pair .bool (.pair (.sl (.int .u32)) .unit)), (.int .i64)]
noncomputable def g26_L5 (t0 : (List Int)) (t1 : (List Int)) (t23 : Int) (t24 : Int) (v0 : Bool) (v0_1 : (List Int)) (v1 : Bool) (v1_1 : (List Int)) (v3074 : Bool) (v3074_1 : (List Int)) (v3075 : Bool) (v3075_1 : (List Int)) : Option (DL [(.pair .bool (.pair (.sl (.int .u32)) .unit)), (.pair .bool (.pair (.sl (.int .u32)) .unit)), (.int .i64)]) := Lp cx26 an26 Try.f26 [(.pair .bool (.pair (.sl (.int .u32)) .unit)), (.pair .bool (.pair (.sl (.int .u32)) .unit)), (.int .i64)] [true, true, true, false, true, false] ⟨[.val (.sl (.int .u64)) t0, .val (.sl (.int .u64)) t1, .undef, .undef, .ptr 0 [], .ptr 1 [], .undef, .ptr 3074 [], .ptr 3075 [], .undef, .undef, .undef, .undef, .undef, .undef, .undef, .undef, .undef, .undef, .undef, .undef, .undef, .undef, .val (.int .i64) t23, .val (.int .i64) t24, .undef, .undef, .undef, .undef, .undef, .undef, .undef, .undef, .undef, .undef, .undef, .undef, .undef, .undef, .undef, .undef, .undef, .undef, .undef, .undef, .undef, .undef, .undef, .undef, .undef, .undef, .undef, .undef, .undef, .undef, .undef, .undef, .undef, .undef, .undef, .undef, .undef, .undef, .undef, .undef, .undef, .undef, .undef, .undef, .undef, .undef, .undef, .undef, .undef, .undef, .undef, .undef, .undef, .undef, .undef, .undef, .undef, .undef, .undef, .undef, .undef, .undef, .undef, .undef, .undef, .undef, .undef, .undef, .undef, .undef, .undef, .undef, .undef, .undef, .undef, .undef, .undef, .undef, .undef, .undef, .undef, .undef, .undef, .undef], ofL [(0, (.var (.pair .bool (.pair (.sl (.int .u32)) .unit)) (.pr (.val .bool v0) (.pr (.val (.sl (.int .u32)) v0_1) (.un))), false)), (1, (.var (.pair .bool (.pair (.sl (.int .u32)) .unit)) (.pr (.val .bool v1) (.pr (.val (.sl (.int .u32)) v1_1) (.un))), false)), (3074, (.var (.pair .bool (.pair (.sl (.int .u32)) .unit)) (.pr (.val .bool v3074) (.pr (.val (.sl (.int .u32)) v3074_1) (.un))), false)), (3075, (.var (.pair .bool (.pair (.sl (.int .u32)) .unit)) (.pr (.val .bool v3075) (.pr (.val (.sl (.int .u32)) v3075_1) (.un))), false))], [0, 1, 3074, 3075], []⟩
theorem g26_L5_eq (t0 : (List Int)) (t1 : (List Int)) (t23 : Int) (t24 : Int) (v0 : Bool) (v0_1 : (List Int)) (v1 : Bool) (v1_1 : (List Int)) (v3074 : Bool) (v3074_1 : (List Int)) (v3075 : Bool) (v3075_1 : (List Int)) : g26_L5 t0 t1 t23 t24 v0 v0_1 v1 v1_1 v3074 v3074_1 v3075 v3075_1 =
  if (decide (t24 < t23)) = true then
    if ((decide (0 ≤ t24)) && (decide (t24 < ((List.length t1) : Int)))) = true then
      Option.bind (h13 ((List.getD t1 (Int.toNat t24) 0), ())) fun (y2 : (Bool × Unit)) =>
      if (!y2.1) = true then
        some ((false, ([], ())), ((false, ([], ())), (1, ())))
      else if ((decide (0 ≤ t24)) && (decide (t24 < ((List.length t1) : Int)))) = true then
        Option.bind (h41 ((v3075, (v3075_1, ())), ((List.getD t1 (Int.toNat t24) 0), ()))) fun (y3 : (Int × Unit)) =>
        if (y3.1 == 0) = true then
          some ((false, ([], ())), ((false, ([], ())), (1, ())))
        else if ((decide (0 ≤ t24)) && (decide (t24 < ((List.length t1) : Int)))) = true then
          Option.bind (h41 ((v3075, (v3075_1, ())), ((List.getD t1 (Int.toNat t24) 0), ()))) fun (y4 : (Int × Unit)) =>
          if ((decide (0 ≤ t24)) && (decide (t24 < ((List.length t1) : Int)))) = true then
            Option.bind (h16 (y4.1, ((List.getD t1 (Int.toNat t24) 0), ()))) fun (y5 : (Int × (Int × Unit))) =>
            if ((decide (0 ≤ t24)) && (decide (t24 < ((List.length t0) : Int)))) = true then
              if ((decide (0 ≤ t24)) && (decide (t24 < ((List.length t1) : Int)))) = true then
                if ((List.getD t1 (Int.toNat t24) 0) == 0) = true then
                  none
                else if ((decide (0 ≤ t24)) && (decide (t24 < ((List.length t1) : Int)))) = true then
                  if ((decide (0 ≤ t24)) && (decide (t24 < ((List.length t1) : Int)))) = true then
                    Option.bind (h41 ((v3074, (v3074_1, ())), ((List.getD t1 (Int.toNat t24) 0), ()))) fun (y6 : (Int × Unit)) =>
                    if ((decide (0 ≤ t24)) && (decide (t24 < ((List.length t1) : Int)))) = true then
                      if ((List.getD t1 (Int.toNat t24) 0) == 0) = true then
                        none
                      else if ((decide (0 ≤ t24)) && (decide (t24 < ((List.length t1) : Int)))) = true then
                        if ((List.getD t1 (Int.toNat t24) 0) == 0) = true then
                          none
                        else Option.bind (h44 ((IntKind.wrap .i64 (Int.tmod (IntKind.wrap .u64 ((Int.tmod (IntKind.wrap .u64 ((IntKind.wrap .u64 ((Int.tmod (List.getD t0 (Int.toNat t24) 0) (List.getD t1 (Int.toNat t24) 0)) + (List.getD t1 (Int.toNat t24) 0))) - y6.1)) (List.getD t1 (Int.toNat t24) 0)) * y5.1)) (List.getD t1 (Int.toNat t24) 0))), ())) fun (y7 : ((Bool × ((List Int) × Unit)) × Unit)) =>
                        Option.bind (h46 ((v3075, (v3075_1, ())), (y7.1, ()))) fun (y8 : ((Bool × ((List Int) × Unit)) × Unit)) =>
                        Option.bind (h45 ((v3074, (v3074_1, ())), (y8.1, ()))) fun (y9 : ((Bool × ((List Int) × Unit)) × Unit)) =>
                        if ((decide (0 ≤ t24)) && (decide (t24 < ((List.length t1) : Int)))) = true then
                          Option.bind (h44 ((IntKind.wrap .i64 (List.getD t1 (Int.toNat t24) 0)), ())) fun (y10 : ((Bool × ((List Int) × Unit)) × Unit)) =>
                          Option.bind (h46 ((v3075, (v3075_1, ())), (y10.1, ()))) fun (y11 : ((Bool × ((List Int) × Unit)) × Unit)) =>
                          (g26_L5 t0 t1 t23 (IntKind.wrap .i64 (t24 + 1)) v0 v0_1 v1 v1_1 y9.1.1 y9.1.2.1 y11.1.1 y11.1.2.1)
                        else none
                      else none
                    else none
                  else none
                else none
              else none
            else none
          else none
        else none
      else none
    else none
  else some ((v3074, (v3074_1, ())), ((v3075, (v3075_1, ())), (0, ()))) := (Lp_eq cx26 an26 Try.f26 [(.pair .bool (.pair (.sl (.int .u32)) .unit)), (.pair .bool (.pair (.sl (.int .u32)) .unit)), (.int .i64)] [true, true, true, false, true, false] _).trans (by kernel_rfl)
theorem g26_eq (a : (List Int)) (b : (List Int)) : g26 (a, b, ()) =
  if (((List.length a) : Int) != ((List.length b) : Int)) = true then
    some ((false, ([], ())), ((false, ([], ())), (1, ())))
  else Option.bind (h44 (0, ())) fun (y0 : ((Bool × ((List Int) × Unit)) × Unit)) =>
  Option.bind (h44 (1, ())) fun (y1 : ((Bool × ((List Int) × Unit)) × Unit)) =>
  (g26_L5 a b ((List.length b) : Int) 0 false [] false [] y0.1.1 y0.1.2.1 y1.1.1 y1.1.2.1) := (Fn_eq rfl).trans (by kernel_rfl)


theorem so22 : SigsOk Try.prog cx22 := ⟨(lookAll_cons s27 (lookAll_cons s42 (lookAll_cons s43 lookAll_nil))), lookAll_nil, lookAll_nil⟩
theorem in22 : ∀ f p, look cx22.inl f = some p → Try.prog.funcs[f]? = some p.1 ∧ (p.1.name == "runtime.NumGoroutine") = false := lookAll_nil
theorem ok22 {h : DL [(.pair .bool (.pair (.sl (.int .u32)) .unit)), (.int .u64)] → Option (DL [(.int .u64)])} (hw : ∀ x r, h x = some r → g22 x = some r) : SigOk Try.prog 22 ⟨[(.pair .bool (.pair (.sl (.int .u32)) .unit)), (.int .u64)], [(.int .u64)], h⟩ := (Fn_ok (anns := an22) mixed T_ok so22 in22 (f := 22) (fn := Try.f22) rfl rfl rfl [(.pair .bool (.pair (.sl (.int .u32)) .unit)), (.int .u64)] [(.int .u64)]).weaken hw

theorem so18 : SigsOk Try.prog cx18 := ⟨(lookAll_cons s16 (lookAll_cons s41 lookAll_nil)), lookAll_nil, lookAll_nil⟩
theorem in18 : ∀ f p, look cx18.inl f = some p → Try.prog.funcs[f]? = some p.1 ∧ (p.1.name == "runtime.NumGoroutine") = false := lookAll_nil
theorem ok18 {h : DL [(.pair (.pair .bool (.pair (.sl (.int .u32)) .unit)) (.pair (.pair .bool (.pair (.sl (.int .u32)) .unit)) .unit)), (.int .u64)] → Option (DL [(.int .u64), (.int .i64)])} (hw : ∀ x r, h x = some r → g18 x = some r) : SigOk Try.prog 18 ⟨[(.pair (.pair .bool (.pair (.sl (.int .u32)) .unit)) (.pair (.pair .bool (.pair (.sl (.int .u32)) .unit)) .unit)), (.int .u64)], [(.int .u64), (.int .i64)], h⟩ := (Fn_ok (anns := an18) mixed T_ok so18 in18 (f := 18) (fn := Try.f18) rfl rfl rfl [(.pair (.pair .bool (.pair (.sl (.int .u32)) .unit)) (.pair (.pair .bool (.pair (.sl (.int .u32)) .unit)) .unit)), (.int .u64)] [(.int .u64), (.int .i64)]).weaken hw

theorem so61 : SigsOk Try.prog cx61 := ⟨(lookAll_cons s47 (lookAll_cons s81 lookAll_nil)), lookAll_nil, lookAll_nil⟩
theorem in61 : ∀ f p, look cx61.inl f = some p → Try.prog.funcs[f]? = some p.1 ∧ (p.1.name == "runtime.NumGoroutine") = false := lookAll_nil
theorem ok61 {h : DL [(.pair .bool (.pair (.sl (.int .u32)) .unit)), (.pair .bool (.pair (.sl (.int .u32)) .unit))] → Option (DL [(.pair .bool (.pair (.sl (.int .u32)) .unit))])} (hw : ∀ x r, h x = some r → g61 x = some r) : SigOk Try.prog 61 ⟨[(.pair .bool (.pair (.sl (.int .u32)) .unit)), (.pair .bool (.pair (.sl (.int .u32)) .unit))], [(.pair .bool (.pair (.sl (.int .u32)) .unit))], h⟩ := (Fn_ok (anns := an61) mixed T_ok so61 in61 (f := 61) (fn := Try.f61) rfl rfl rfl [(.pair .bool (.pair (.sl (.int .u32)) .unit)), (.pair .bool (.pair (.sl (.int .u32)) .unit))] [(.pair .bool (.pair (.sl (.int .u32)) .unit))]).weaken hw

theorem so26 : SigsOk Try.prog cx26 := ⟨(lookAll_cons s13 (lookAll_cons s16 (lookAll_cons s41 (lookAll_cons s44 (lookAll_cons s45 (lookAll_cons s46 lookAll_nil)))))), lookAll_nil, lookAll_nil⟩
theorem in26 : ∀ f p, look cx26.inl f = some p → Try.prog.funcs[f]? = some p.1 ∧ (p.1.name == "runtime.NumGoroutine") = false := lookAll_nil
theorem ok26 {h : DL [(.sl (.int .u64)), (.sl (.int .u64))] → Option (DL [(.pair .bool (.pair (.sl (.int .u32)) .unit)), (.pair .bool (.pair (.sl (.int .u32)) .unit)), (.int .i64)])} (hw : ∀ x r, h x = some r → g26 x = some r) : SigOk Try.prog 26 ⟨[(.sl (.int .u64)), (.sl (.int .u64))], [(.pair .bool (.pair (.sl (.int .u32)) .unit)), (.pair .bool (.pair (.sl (.int .u32)) .unit)), (.int .i64)], h⟩ := (Fn_ok (anns := an26) mixed T_ok so26 in26 (f := 26) (fn := Try.f26) rfl rfl rfl [(.sl (.int .u64)), (.sl (.int .u64))] [(.pair .bool (.pair (.sl (.int .u32)) .unit)), (.pair .bool (.pair (.sl (.int .u32)) .unit)), (.int .i64)]).weaken hw

end Go.Refl.S3
