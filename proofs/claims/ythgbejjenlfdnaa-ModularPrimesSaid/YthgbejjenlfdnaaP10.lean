/-
  PRINTED BY PROGRAM: what the bodies of some functions compute, loop by loop; each equation is checked by the kernel.
-/
import Derived.Test.YthgbejjenlfdnaaQ13
import Derived.KernelRfl
set_option linter.unusedVariables false
set_option maxRecDepth 100000
namespace Go.Refl.S3
open Go Go.Refl Go.Proofs

noncomputable def cx10 : Cx := { types := T, sigs := [(11, ⟨[(.int .u64)], [(.int .u64), (.int .i64)], h11⟩), (13, ⟨[(.int .u64)], [.bool], h13⟩), (16, ⟨[(.int .u64), (.int .u64)], [(.int .u64), (.int .i64)], h16⟩), (18, ⟨[(.pair (.pair .bool (.pair (.sl (.int .u32)) .unit)) (.pair (.pair .bool (.pair (.sl (.int .u32)) .unit)) .unit)), (.int .u64)], [(.int .u64), (.int .i64)], h18⟩), (20, ⟨[(.int .u64), (.int .u64), (.int .u64)], [(.int .u64)], h20⟩), (26, ⟨[(.sl (.int .u64)), (.sl (.int .u64))], [(.pair .bool (.pair (.sl (.int .u32)) .unit)), (.pair .bool (.pair (.sl (.int .u32)) .unit)), (.int .i64)], h26⟩), (27, ⟨[(.int .i64)], [(.pair .bool (.pair (.sl (.int .u32)) .unit))], h27⟩), (30, ⟨[(.pair .bool (.pair (.sl (.int .u32)) .unit)), (.pair .bool (.pair (.sl (.int .u32)) .unit))], [.bool], h30⟩), (33, ⟨[(.pair .bool (.pair (.sl (.int .u32)) .unit)), (.pair .bool (.pair (.sl (.int .u32)) .unit))], [(.pair (.pair .bool (.pair (.sl (.int .u32)) .unit)) (.pair (.pair .bool (.pair (.sl (.int .u32)) .unit)) .unit)), .bool], h33⟩)], muts := [] }
def an10 : List (Nat × Ann) := []
noncomputable def g10 : DL [] → Option (DL [.bool]) := Fn cx10 an10 Try.f10 [] [.bool]
theorem g10_eq  : g10 (()) =
  Option.bind (h11 (7, ())) fun (y0 : (Int × (Int × Unit))) =>
  Option.bind (h16 (3, (7, ()))) fun (y1 : (Int × (Int × Unit))) =>
  Option.bind (h27 (1, ())) fun (y2 : ((Bool × ((List Int) × Unit)) × Unit)) =>
  Option.bind (h27 (2, ())) fun (y3 : ((Bool × ((List Int) × Unit)) × Unit)) =>
  Option.bind (h18 (((y2.1.1, (y2.1.2.1, ())), ((y3.1.1, (y3.1.2.1, ())), ())), (7, ()))) fun (y4 : (Int × (Int × Unit))) =>
  Option.bind (h26 ((List.set (List.set (List.replicate 2 (0 : Int)) 0 2) 1 3), ((List.set (List.set (List.replicate 2 (0 : Int)) 0 3) 1 5), ()))) fun (y5 : ((Bool × ((List Int) × Unit)) × ((Bool × ((List Int) × Unit)) × (Int × Unit)))) =>
  Option.bind (h27 (51, ())) fun (y6 : ((Bool × ((List Int) × Unit)) × Unit)) =>
  Option.bind (h27 (101, ())) fun (y7 : ((Bool × ((List Int) × Unit)) × Unit)) =>
  Option.bind (h33 (y6.1, (y7.1, ()))) fun (y8 : (((Bool × ((List Int) × Unit)) × ((Bool × ((List Int) × Unit)) × Unit)) × (Bool × Unit))) =>
  Option.bind (h27 (4, ())) fun (y9 : ((Bool × ((List Int) × Unit)) × Unit)) =>
  Option.bind (h27 (7, ())) fun (y10 : ((Bool × ((List Int) × Unit)) × Unit)) =>
  Option.bind (h33 (y9.1, (y10.1, ()))) fun (y11 : (((Bool × ((List Int) × Unit)) × ((Bool × ((List Int) × Unit)) × Unit)) × (Bool × Unit))) =>
  if (y0.2.1 == 0) = true then
    if (y1.2.1 == 0) = true then
      if (y4.2.1 == 0) = true then
        if (y5.2.2.1 == 0) = true then
          Option.bind (h13 (2, ())) fun (y12 : (Bool × Unit)) =>
          if y12.1 = true then
            Option.bind (h13 (9, ())) fun (y13 : (Bool × Unit)) =>
            if (!y13.1) = true then
              if (y0.1 == 11) = true then
                if (y1.1 == 5) = true then
                  if (y4.1 == 4) = true then
                    Option.bind (h27 (8, ())) fun (y14 : ((Bool × ((List Int) × Unit)) × Unit)) =>
                    Option.bind (h30 ((y5.1.1, (y5.1.2.1, ())), (y14.1, ()))) fun (y15 : (Bool × Unit)) =>
                    if y15.1 = true then
                      Option.bind (h27 (15, ())) fun (y16 : ((Bool × ((List Int) × Unit)) × Unit)) =>
                      Option.bind (h30 ((y5.2.1.1, (y5.2.1.2.1, ())), (y16.1, ()))) fun (y17 : (Bool × Unit)) =>
                      if y17.1 = true then
                        if y8.2.1 = true then
                          Option.bind (h27 (1, ())) fun (y18 : ((Bool × ((List Int) × Unit)) × Unit)) =>
                          Option.bind (h30 ((y8.1.1.1, (y8.1.1.2.1, ())), (y18.1, ()))) fun (y19 : (Bool × Unit)) =>
                          if y19.1 = true then
                            Option.bind (h27 (2, ())) fun (y20 : ((Bool × ((List Int) × Unit)) × Unit)) =>
                            Option.bind (h30 ((y8.1.2.1.1, (y8.1.2.1.2.1, ())), (y20.1, ()))) fun (y21 : (Bool × Unit)) =>
                            if y21.1 = true then
                              if (!y11.2.1) = true then
                                Option.bind (h20 (2, (10, (1000, ())))) fun (y22 : (Int × Unit)) =>
                                some ((y22.1 == 24), ())
                              else some (false, ())
                            else some (false, ())
                          else some (false, ())
                        else some (false, ())
                      else some (false, ())
                    else some (false, ())
                  else some (false, ())
                else some (false, ())
              else some (false, ())
            else some (false, ())
          else some (false, ())
        else some (false, ())
      else some (false, ())
    else some (false, ())
  else some (false, ()) := (Fn_eq rfl).trans (by kernel_rfl)


theorem so10 : SigsOk Try.prog cx10 := ⟨(lookAll_cons s11 (lookAll_cons s13 (lookAll_cons s16 (lookAll_cons s18 (lookAll_cons s20 (lookAll_cons s26 (lookAll_cons s27 (lookAll_cons s30 (lookAll_cons s33 lookAll_nil))))))))), lookAll_nil, lookAll_nil⟩
theorem in10 : ∀ f p, look cx10.inl f = some p → Try.prog.funcs[f]? = some p.1 ∧ (p.1.name == "runtime.NumGoroutine") = false := lookAll_nil
theorem ok10 {h : DL [] → Option (DL [.bool])} (hw : ∀ x r, h x = some r → g10 x = some r) : SigOk Try.prog 10 ⟨[], [.bool], h⟩ := (Fn_ok (anns := an10) mixed T_ok so10 in10 (f := 10) (fn := Try.f10) rfl rfl rfl [] [.bool]).weaken hw

end Go.Refl.S3
