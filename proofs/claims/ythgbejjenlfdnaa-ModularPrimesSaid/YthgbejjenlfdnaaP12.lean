/-
  PRINTED BY PROGRAM: what the bodies of some functions compute, loop by loop; each equation is checked by the kernel.
-/
import Derived.Test.YthgbejjenlfdnaaH12
import Derived.KernelRfl
set_option linter.unusedVariables false
set_option maxRecDepth 100000
namespace Go.Refl.S3
open Go Go.Refl Go.Proofs

noncomputable def cx64 : Cx := { types := T, sigs := [(42, ⟨[(.pair .bool (.pair (.sl (.int .u32)) .unit)), (.pair .bool (.pair (.sl (.int .u32)) .unit))], [(.pair .bool (.pair (.sl (.int .u32)) .unit)), (.pair .bool (.pair (.sl (.int .u32)) .unit)), (.int .i64)], h42⟩)], muts := [] }
def an64 : List (Nat × Ann) := []
noncomputable def cx40 : Cx := { types := T, sigs := [(31, ⟨[(.pair .bool (.pair (.sl (.int .u32)) .unit))], [(.int .i64)], h31⟩), (35, ⟨[(.pair .bool (.pair (.sl (.int .u32)) .unit))], [(.pair .bool (.pair (.sl (.int .u32)) .unit))], h35⟩), (61, ⟨[(.pair .bool (.pair (.sl (.int .u32)) .unit)), (.pair .bool (.pair (.sl (.int .u32)) .unit))], [(.pair .bool (.pair (.sl (.int .u32)) .unit))], h61⟩), (64, ⟨[(.pair .bool (.pair (.sl (.int .u32)) .unit)), (.pair .bool (.pair (.sl (.int .u32)) .unit))], [(.pair .bool (.pair (.sl (.int .u32)) .unit))], h64⟩)], muts := [] }
def an40 : List (Nat × Ann) := []
noncomputable def cx15 : Cx := { types := T, sigs := [(27, ⟨[(.int .i64)], [(.pair .bool (.pair (.sl (.int .u32)) .unit))], h27⟩), (28, ⟨[(.pair .bool (.pair (.sl (.int .u32)) .unit)), (.pair .bool (.pair (.sl (.int .u32)) .unit))], [(.pair .bool (.pair (.sl (.int .u32)) .unit))], h28⟩), (39, ⟨[(.pair .bool (.pair (.sl (.int .u32)) .unit)), (.pair .bool (.pair (.sl (.int .u32)) .unit))], [(.pair .bool (.pair (.sl (.int .u32)) .unit))], h39⟩), (40, ⟨[(.pair .bool (.pair (.sl (.int .u32)) .unit)), (.pair .bool (.pair (.sl (.int .u32)) .unit))], [(.pair (.pair .bool (.pair (.sl (.int .u32)) .unit)) (.pair (.pair .bool (.pair (.sl (.int .u32)) .unit)) .unit))], h40⟩)], muts := [] }
def an15 : List (Nat × Ann) := []
noncomputable def cx23 : Cx := { types := T, sigs := [(28, ⟨[(.pair .bool (.pair (.sl (.int .u32)) .unit)), (.pair .bool (.pair (.sl (.int .u32)) .unit))], [(.pair .bool (.pair (.sl (.int .u32)) .unit))], h28⟩), (39, ⟨[(.pair .bool (.pair (.sl (.int .u32)) .unit)), (.pair .bool (.pair (.sl (.int .u32)) .unit))], [(.pair .bool (.pair (.sl (.int .u32)) .unit))], h39⟩), (40, ⟨[(.pair .bool (.pair (.sl (.int .u32)) .unit)), (.pair .bool (.pair (.sl (.int .u32)) .unit))], [(.pair (.pair .bool (.pair (.sl (.int .u32)) .unit)) (.pair (.pair .bool (.pair (.sl (.int .u32)) .unit)) .unit))], h40⟩)], muts := [] }
def an23 : List (Nat × Ann) := []
noncomputable def cx24 : Cx := { types := T, sigs := [(28, ⟨[(.pair .bool (.pair (.sl (.int .u32)) .unit)), (.pair .bool (.pair (.sl (.int .u32)) .unit))], [(.pair .bool (.pair (.sl (.int .u32)) .unit))], h28⟩), (40, ⟨[(.pair .bool (.pair (.sl (.int .u32)) .unit)), (.pair .bool (.pair (.sl (.int .u32)) .unit))], [(.pair (.pair .bool (.pair (.sl (.int .u32)) .unit)) (.pair (.pair .bool (.pair (.sl (.int .u32)) .unit)) .unit))], h40⟩)], muts := [] }
def an24 : List (Nat × Ann) := []
noncomputable def cx34 : Cx := { types := T, sigs := [(27, ⟨[(.int .i64)], [(.pair .bool (.pair (.sl (.int .u32)) .unit))], h27⟩), (42, ⟨[(.pair .bool (.pair (.sl (.int .u32)) .unit)), (.pair .bool (.pair (.sl (.int .u32)) .unit))], [(.pair .bool (.pair (.sl (.int .u32)) .unit)), (.pair .bool (.pair (.sl (.int .u32)) .unit)), (.int .i64)], h42⟩), (59, ⟨[(.pair .bool (.pair (.sl (.int .u32)) .unit)), (.pair .bool (.pair (.sl (.int .u32)) .unit))], [(.pair .bool (.pair (.sl (.int .u32)) .unit))], h59⟩), (60, ⟨[(.pair .bool (.pair (.sl (.int .u32)) .unit)), (.int .i64)], [(.pair .bool (.pair (.sl (.int .u32)) .unit)), (.int .i64)], h60⟩)], muts := [] }
def an34 : List (Nat × Ann) := []
noncomputable def cx36 : Cx := { types := T, sigs := [(27, ⟨[(.int .i64)], [(.pair .bool (.pair (.sl (.int .u32)) .unit))], h27⟩), (28, ⟨[(.pair .bool (.pair (.sl (.int .u32)) .unit)), (.pair .bool (.pair (.sl (.int .u32)) .unit))], [(.pair .bool (.pair (.sl (.int .u32)) .unit))], h28⟩), (31, ⟨[(.pair .bool (.pair (.sl (.int .u32)) .unit))], [(.int .i64)], h31⟩), (32, ⟨[(.pair .bool (.pair (.sl (.int .u32)) .unit)), (.pair .bool (.pair (.sl (.int .u32)) .unit))], [(.int .i64)], h32⟩), (34, ⟨[(.pair .bool (.pair (.sl (.int .u32)) .unit))], [(.pair .bool (.pair (.sl (.int .u32)) .unit))], h34⟩), (35, ⟨[(.pair .bool (.pair (.sl (.int .u32)) .unit))], [(.pair .bool (.pair (.sl (.int .u32)) .unit))], h35⟩), (42, ⟨[(.pair .bool (.pair (.sl (.int .u32)) .unit)), (.pair .bool (.pair (.sl (.int .u32)) .unit))], [(.pair .bool (.pair (.sl (.int .u32)) .unit)), (.pair .bool (.pair (.sl (.int .u32)) .unit)), (.int .i64)], h42⟩), (59, ⟨[(.pair .bool (.pair (.sl (.int .u32)) .unit)), (.pair .bool (.pair (.sl (.int .u32)) .unit))], [(.pair .bool (.pair (.sl (.int .u32)) .unit))], h59⟩), (61, ⟨[(.pair .bool (.pair (.sl (.int .u32)) .unit)), (.pair .bool (.pair (.sl (.int .u32)) .unit))], [(.pair .bool (.pair (.sl (.int .u32)) .unit))], h61⟩)], muts := [] }
def an36 : List (Nat × Ann) := [(6, { keep := 7512 })]
noncomputable def g64 : DL [(.pair .bool (.pair (.sl (.int .u32)) .unit)), (.pair .bool (.pair (.sl (.int .u32)) .unit))] → Option (DL [(.pair .bool (.pair (.sl (.int .u32)) .unit))]) := Fn cx64 an64 Try.f64 [(.pair .bool (.pair (.sl (.int .u32)) .unit)), (.pair .bool (.pair (.sl (.int .u32)) .unit))] [(.pair .bool (.pair (.sl (.int .u32)) .unit))]
theorem g64_eq (a : (Bool × ((List Int) × Unit))) (b : (Bool × ((List Int) × Unit))) : g64 (a, b, ()) =
  Option.bind (h42 ((a.1, (a.2.1, ())), ((b.1, (b.2.1, ())), ()))) fun (y0 : ((Bool × ((List Int) × Unit)) × ((Bool × ((List Int) × Unit)) × (Int × Unit)))) =>
  some ((y0.1.1, (y0.1.2.1, ())), ()) := (Fn_eq rfl).trans (by kernel_rfl)

noncomputable def g40 : DL [(.pair .bool (.pair (.sl (.int .u32)) .unit)), (.pair .bool (.pair (.sl (.int .u32)) .unit))] → Option (DL [(.pair (.pair .bool (.pair (.sl (.int .u32)) .unit)) (.pair (.pair .bool (.pair (.sl (.int .u32)) .unit)) .unit))]) := Fn cx40 an40 Try.f40 [(.pair .bool (.pair (.sl (.int .u32)) .unit)), (.pair .bool (.pair (.sl (.int .u32)) .unit))] [(.pair (.pair .bool (.pair (.sl (.int .u32)) .unit)) (.pair (.pair .bool (.pair (.sl (.int .u32)) .unit)) .unit))]
theorem g40_eq (a : (Bool × ((List Int) × Unit))) (b : (Bool × ((List Int) × Unit))) : g40 (a, b, ()) =
  Option.bind (h61 ((a.1, (a.2.1, ())), ((b.1, (b.2.1, ())), ()))) fun (y0 : ((Bool × ((List Int) × Unit)) × Unit)) =>
  Option.bind (h31 ((b.1, (b.2.1, ())), ())) fun (y1 : (Int × Unit)) =>
  if (decide (y1.1 < 0)) = true then
    Option.bind (h35 ((y0.1.1, (y0.1.2.1, ())), ())) fun (y2 : ((Bool × ((List Int) × Unit)) × Unit)) =>
    Option.bind (h64 ((a.1, (a.2.1, ())), ((y2.1.1, (y2.1.2.1, ())), ()))) fun (y3 : ((Bool × ((List Int) × Unit)) × Unit)) =>
    Option.bind (h64 ((b.1, (b.2.1, ())), ((y2.1.1, (y2.1.2.1, ())), ()))) fun (y4 : ((Bool × ((List Int) × Unit)) × Unit)) =>
    some (((y3.1.1, (y3.1.2.1, ())), ((y4.1.1, (y4.1.2.1, ())), ())), ())
  else Option.bind (h64 ((a.1, (a.2.1, ())), ((y0.1.1, (y0.1.2.1, ())), ()))) fun (y5 : ((Bool × ((List Int) × Unit)) × Unit)) =>
  Option.bind (h64 ((b.1, (b.2.1, ())), ((y0.1.1, (y0.1.2.1, ())), ()))) fun (y6 : ((Bool × ((List Int) × Unit)) × Unit)) =>
  some (((y5.1.1, (y5.1.2.1, ())), ((y6.1.1, (y6.1.2.1, ())), ())), ()) := (Fn_eq rfl).trans (by kernel_rfl)

noncomputable def g15 : DL [(.pair (.int .i8) (.pair (.int .i8) (.pair (.int .u8) .unit)))] → Option (DL [(.pair (.pair .bool (.pair (.sl (.int .u32)) .unit)) (.pair (.pair .bool (.pair (.sl (.int .u32)) .unit)) .unit))]) := Fn cx15 an15 Try.f15 [(.pair (.int .i8) (.pair (.int .i8) (.pair (.int .u8) .unit)))] [(.pair (.pair .bool (.pair (.sl (.int .u32)) .unit)) (.pair (.pair .bool (.pair (.sl (.int .u32)) .unit)) .unit))]
theorem g15_eq (a : (Int × (Int × (Int × Unit)))) : g15 (a, ()) =
  Option.bind (h27 ((IntKind.wrap .i64 a.1), ())) fun (y0 : ((Bool × ((List Int) × Unit)) × Unit)) =>
  Option.bind (h27 ((IntKind.wrap .i64 a.2.1), ())) fun (y1 : ((Bool × ((List Int) × Unit)) × Unit)) =>
  if (a.2.1 == 0) = true then
    Option.bind (h27 (1, ())) fun (y2 : ((Bool × ((List Int) × Unit)) × Unit)) =>
    Option.bind (h27 ((IntKind.wrap .i64 (4611686018427387904 + (IntKind.wrap .i64 a.2.2.1))), ())) fun (y3 : ((Bool × ((List Int) × Unit)) × Unit)) =>
    if ((Int.tmod a.2.2.1 8) == 7) = true then
      Option.bind (h28 ((y0.1.1, (y0.1.2.1, ())), ((y3.1.1, (y3.1.2.1, ())), ()))) fun (y4 : ((Bool × ((List Int) × Unit)) × Unit)) =>
      Option.bind (h28 (y4.1, ((y3.1.1, (y3.1.2.1, ())), ()))) fun (y5 : ((Bool × ((List Int) × Unit)) × Unit)) =>
      Option.bind (h27 ((IntKind.wrap .i64 a.2.2.1), ())) fun (y6 : ((Bool × ((List Int) × Unit)) × Unit)) =>
      Option.bind (h39 (y5.1, (y6.1, ()))) fun (y7 : ((Bool × ((List Int) × Unit)) × Unit)) =>
      if ((Int.tmod a.2.2.1 8) == 6) = true then
        Option.bind (h28 ((y2.1.1, (y2.1.2.1, ())), ((y3.1.1, (y3.1.2.1, ())), ()))) fun (y8 : ((Bool × ((List Int) × Unit)) × Unit)) =>
        Option.bind (h28 (y8.1, ((y3.1.1, (y3.1.2.1, ())), ()))) fun (y9 : ((Bool × ((List Int) × Unit)) × Unit)) =>
        Option.bind (h40 ((y7.1.1, (y7.1.2.1, ())), ((y9.1.1, (y9.1.2.1, ())), ()))) fun (y10 : (((Bool × ((List Int) × Unit)) × ((Bool × ((List Int) × Unit)) × Unit)) × Unit)) =>
        some (((y10.1.1.1, (y10.1.1.2.1, ())), ((y10.1.2.1.1, (y10.1.2.1.2.1, ())), ())), ())
      else Option.bind (h40 ((y7.1.1, (y7.1.2.1, ())), ((y2.1.1, (y2.1.2.1, ())), ()))) fun (y11 : (((Bool × ((List Int) × Unit)) × ((Bool × ((List Int) × Unit)) × Unit)) × Unit)) =>
      some (((y11.1.1.1, (y11.1.1.2.1, ())), ((y11.1.2.1.1, (y11.1.2.1.2.1, ())), ())), ())
    else if ((Int.tmod a.2.2.1 8) == 6) = true then
      Option.bind (h28 ((y2.1.1, (y2.1.2.1, ())), ((y3.1.1, (y3.1.2.1, ())), ()))) fun (y12 : ((Bool × ((List Int) × Unit)) × Unit)) =>
      Option.bind (h28 (y12.1, ((y3.1.1, (y3.1.2.1, ())), ()))) fun (y13 : ((Bool × ((List Int) × Unit)) × Unit)) =>
      Option.bind (h40 ((y0.1.1, (y0.1.2.1, ())), ((y13.1.1, (y13.1.2.1, ())), ()))) fun (y14 : (((Bool × ((List Int) × Unit)) × ((Bool × ((List Int) × Unit)) × Unit)) × Unit)) =>
      some (((y14.1.1.1, (y14.1.1.2.1, ())), ((y14.1.2.1.1, (y14.1.2.1.2.1, ())), ())), ())
    else Option.bind (h40 ((y0.1.1, (y0.1.2.1, ())), ((y2.1.1, (y2.1.2.1, ())), ()))) fun (y15 : (((Bool × ((List Int) × Unit)) × ((Bool × ((List Int) × Unit)) × Unit)) × Unit)) =>
    some (((y15.1.1.1, (y15.1.1.2.1, ())), ((y15.1.2.1.1, (y15.1.2.1.2.1, ())), ())), ())
  else Option.bind (h27 ((IntKind.wrap .i64 (4611686018427387904 + (IntKind.wrap .i64 a.2.2.1))), ())) fun (y16 : ((Bool × ((List Int) × Unit)) × Unit)) =>
  if ((Int.tmod a.2.2.1 8) == 7) = true then
    Option.bind (h28 ((y0.1.1, (y0.1.2.1, ())), ((y16.1.1, (y16.1.2.1, ())), ()))) fun (y17 : ((Bool × ((List Int) × Unit)) × Unit)) =>
    Option.bind (h28 (y17.1, ((y16.1.1, (y16.1.2.1, ())), ()))) fun (y18 : ((Bool × ((List Int) × Unit)) × Unit)) =>
    Option.bind (h27 ((IntKind.wrap .i64 a.2.2.1), ())) fun (y19 : ((Bool × ((List Int) × Unit)) × Unit)) =>
    Option.bind (h39 (y18.1, (y19.1, ()))) fun (y20 : ((Bool × ((List Int) × Unit)) × Unit)) =>
    if ((Int.tmod a.2.2.1 8) == 6) = true then
      Option.bind (h28 ((y1.1.1, (y1.1.2.1, ())), ((y16.1.1, (y16.1.2.1, ())), ()))) fun (y21 : ((Bool × ((List Int) × Unit)) × Unit)) =>
      Option.bind (h28 (y21.1, ((y16.1.1, (y16.1.2.1, ())), ()))) fun (y22 : ((Bool × ((List Int) × Unit)) × Unit)) =>
      Option.bind (h40 ((y20.1.1, (y20.1.2.1, ())), ((y22.1.1, (y22.1.2.1, ())), ()))) fun (y23 : (((Bool × ((List Int) × Unit)) × ((Bool × ((List Int) × Unit)) × Unit)) × Unit)) =>
      some (((y23.1.1.1, (y23.1.1.2.1, ())), ((y23.1.2.1.1, (y23.1.2.1.2.1, ())), ())), ())
    else Option.bind (h40 ((y20.1.1, (y20.1.2.1, ())), ((y1.1.1, (y1.1.2.1, ())), ()))) fun (y24 : (((Bool × ((List Int) × Unit)) × ((Bool × ((List Int) × Unit)) × Unit)) × Unit)) =>
    some (((y24.1.1.1, (y24.1.1.2.1, ())), ((y24.1.2.1.1, (y24.1.2.1.2.1, ())), ())), ())
  else if ((Int.tmod a.2.2.1 8) == 6) = true then
    Option.bind (h28 ((y1.1.1, (y1.1.2.1, ())), ((y16.1.1, (y16.1.2.1, ())), ()))) fun (y25 : ((Bool × ((List Int) × Unit)) × Unit)) =>
    Option.bind (h28 (y25.1, ((y16.1.1, (y16.1.2.1, ())), ()))) fun (y26 : ((Bool × ((List Int) × Unit)) × Unit)) =>
    Option.bind (h40 ((y0.1.1, (y0.1.2.1, ())), ((y26.1.1, (y26.1.2.1, ())), ()))) fun (y27 : (((Bool × ((List Int) × Unit)) × ((Bool × ((List Int) × Unit)) × Unit)) × Unit)) =>
    some (((y27.1.1.1, (y27.1.1.2.1, ())), ((y27.1.2.1.1, (y27.1.2.1.2.1, ())), ())), ())
  else Option.bind (h40 ((y0.1.1, (y0.1.2.1, ())), ((y1.1.1, (y1.1.2.1, ())), ()))) fun (y28 : (((Bool × ((List Int) × Unit)) × ((Bool × ((List Int) × Unit)) × Unit)) × Unit)) =>
  some (((y28.1.1.1, (y28.1.1.2.1, ())), ((y28.1.2.1.1, (y28.1.2.1.2.1, ())), ())), ()) := (Fn_eq rfl).trans (by kernel_rfl)

noncomputable def g23 : DL [(.pair (.pair .bool (.pair (.sl (.int .u32)) .unit)) (.pair (.pair .bool (.pair (.sl (.int .u32)) .unit)) .unit)), (.pair (.pair .bool (.pair (.sl (.int .u32)) .unit)) (.pair (.pair .bool (.pair (.sl (.int .u32)) .unit)) .unit))] → Option (DL [(.pair (.pair .bool (.pair (.sl (.int .u32)) .unit)) (.pair (.pair .bool (.pair (.sl (.int .u32)) .unit)) .unit))]) := Fn cx23 an23 Try.f23 [(.pair (.pair .bool (.pair (.sl (.int .u32)) .unit)) (.pair (.pair .bool (.pair (.sl (.int .u32)) .unit)) .unit)), (.pair (.pair .bool (.pair (.sl (.int .u32)) .unit)) (.pair (.pair .bool (.pair (.sl (.int .u32)) .unit)) .unit))] [(.pair (.pair .bool (.pair (.sl (.int .u32)) .unit)) (.pair (.pair .bool (.pair (.sl (.int .u32)) .unit)) .unit))]
theorem g23_eq (a : ((Bool × ((List Int) × Unit)) × ((Bool × ((List Int) × Unit)) × Unit))) (b : ((Bool × ((List Int) × Unit)) × ((Bool × ((List Int) × Unit)) × Unit))) : g23 (a, b, ()) =
  Option.bind (h28 ((a.1.1, (a.1.2.1, ())), ((b.2.1.1, (b.2.1.2.1, ())), ()))) fun (y0 : ((Bool × ((List Int) × Unit)) × Unit)) =>
  Option.bind (h28 ((b.1.1, (b.1.2.1, ())), ((a.2.1.1, (a.2.1.2.1, ())), ()))) fun (y1 : ((Bool × ((List Int) × Unit)) × Unit)) =>
  Option.bind (h39 (y0.1, (y1.1, ()))) fun (y2 : ((Bool × ((List Int) × Unit)) × Unit)) =>
  Option.bind (h28 ((a.2.1.1, (a.2.1.2.1, ())), ((b.2.1.1, (b.2.1.2.1, ())), ()))) fun (y3 : ((Bool × ((List Int) × Unit)) × Unit)) =>
  Option.bind (h40 (y2.1, (y3.1, ()))) fun (y4 : (((Bool × ((List Int) × Unit)) × ((Bool × ((List Int) × Unit)) × Unit)) × Unit)) =>
  some (((y4.1.1.1, (y4.1.1.2.1, ())), ((y4.1.2.1.1, (y4.1.2.1.2.1, ())), ())), ()) := (Fn_eq rfl).trans (by kernel_rfl)

noncomputable def g24 : DL [(.pair (.pair .bool (.pair (.sl (.int .u32)) .unit)) (.pair (.pair .bool (.pair (.sl (.int .u32)) .unit)) .unit)), (.pair (.pair .bool (.pair (.sl (.int .u32)) .unit)) (.pair (.pair .bool (.pair (.sl (.int .u32)) .unit)) .unit))] → Option (DL [(.pair (.pair .bool (.pair (.sl (.int .u32)) .unit)) (.pair (.pair .bool (.pair (.sl (.int .u32)) .unit)) .unit))]) := Fn cx24 an24 Try.f24 [(.pair (.pair .bool (.pair (.sl (.int .u32)) .unit)) (.pair (.pair .bool (.pair (.sl (.int .u32)) .unit)) .unit)), (.pair (.pair .bool (.pair (.sl (.int .u32)) .unit)) (.pair (.pair .bool (.pair (.sl (.int .u32)) .unit)) .unit))] [(.pair (.pair .bool (.pair (.sl (.int .u32)) .unit)) (.pair (.pair .bool (.pair (.sl (.int .u32)) .unit)) .unit))]
theorem g24_eq (a : ((Bool × ((List Int) × Unit)) × ((Bool × ((List Int) × Unit)) × Unit))) (b : ((Bool × ((List Int) × Unit)) × ((Bool × ((List Int) × Unit)) × Unit))) : g24 (a, b, ()) =
  Option.bind (h28 ((a.1.1, (a.1.2.1, ())), ((b.1.1, (b.1.2.1, ())), ()))) fun (y0 : ((Bool × ((List Int) × Unit)) × Unit)) =>
  Option.bind (h28 ((a.2.1.1, (a.2.1.2.1, ())), ((b.2.1.1, (b.2.1.2.1, ())), ()))) fun (y1 : ((Bool × ((List Int) × Unit)) × Unit)) =>
  Option.bind (h40 (y0.1, (y1.1, ()))) fun (y2 : (((Bool × ((List Int) × Unit)) × ((Bool × ((List Int) × Unit)) × Unit)) × Unit)) =>
  some (((y2.1.1.1, (y2.1.1.2.1, ())), ((y2.1.2.1.1, (y2.1.2.1.2.1, ())), ())), ()) := (Fn_eq rfl).trans (by kernel_rfl)

noncomputable def g34 : DL [(.pair .bool (.pair (.sl (.int .u32)) .unit))] → Option (DL [(.pair .bool (.pair (.sl (.int .u32)) .unit))]) := Fn cx34 an34 Try.f34 [(.pair .bool (.pair (.sl (.int .u32)) .unit))] [(.pair .bool (.pair (.sl (.int .u32)) .unit))]
theorem g34_eq (a : (Bool × ((List Int) × Unit))) : g34 (a, ()) =
  Option.bind (h27 (1, ())) fun (y0 : ((Bool × ((List Int) × Unit)) × Unit)) =>
  Option.bind (h59 ((a.1, (a.2.1, ())), (y0.1, ()))) fun (y1 : ((Bool × ((List Int) × Unit)) × Unit)) =>
  Option.bind (h27 (2, ())) fun (y2 : ((Bool × ((List Int) × Unit)) × Unit)) =>
  Option.bind (h42 (y1.1, (y2.1, ()))) fun (y3 : ((Bool × ((List Int) × Unit)) × ((Bool × ((List Int) × Unit)) × (Int × Unit)))) =>
  Option.bind (h60 ((y3.1.1, (y3.1.2.1, ())), (2, ()))) fun (y4 : ((Bool × ((List Int) × Unit)) × (Int × Unit))) =>
  some ((y4.1.1, (y4.1.2.1, ())), ()) := (Fn_eq rfl).trans (by kernel_rfl)

noncomputable def g36 : DL [(.pair .bool (.pair (.sl (.int .u32)) .unit)), (.pair .bool (.pair (.sl (.int .u32)) .unit))] → Option (DL [(.pair (.pair .bool (.pair (.sl (.int .u32)) .unit)) (.pair (.pair .bool (.pair (.sl (.int .u32)) .unit)) .unit)), .bool]) := Fn cx36 an36 Try.f36 [(.pair .bool (.pair (.sl (.int .u32)) .unit)), (.pair .bool (.pair (.sl (.int .u32)) .unit))] [(.pair (.pair .bool (.pair (.sl (.int .u32)) .unit)) (.pair (.pair .bool (.pair (.sl (.int .u32)) .unit)) .unit)), .bool]
noncomputable def g36_L6 (v1 : Bool) (v1_1 : (List Int)) (v2 : Bool) (v2_1 : (List Int)) (v2_1_2 : Bool) (v2_1_2_3 : (List Int)) (v3074 : Bool) (v3074_1 : (List Int)) (v4104 : Bool) (v4104_1 : (List Int)) (v5123 : Bool) (v5123_1 : (List Int)) (v5124 : Bool) (v5124_1 : (List Int)) (v5125 : Bool) (v5125_1 : (List Int)) : Option (DL [(.pair (.pair .bool (.pair (.sl (.int .u32)) .unit)) (.pair (.pair .bool (.pair (.sl (.int .u32)) .unit)) .unit)), .bool]) := Lp cx36 an36 Try.f36 [(.pair (.pair .bool (.pair (.sl (.int .u32)) .unit)) (.pair (.pair .bool (.pair (.sl (.int .u32)) .unit)) .unit)), .bool] [true, true, true, true, true, false, false] ⟨[.undef, .undef, .undef, .ptr 1 [], .ptr 2 [], .undef, .ptr 3074 [], .undef, .ptr 4104 [], .undef, .ptr 5123 [], .ptr 5124 [], .ptr 5125 [], .undef, .undef, .undef, .undef, .undef, .undef, .undef, .undef, .undef, .undef, .undef, .undef, .undef, .undef, .undef, .undef, .undef, .undef, .undef, .undef, .undef, .undef, .undef, .undef, .undef, .undef, .undef, .undef, .undef, .undef, .undef, .undef, .undef, .undef, .undef, .undef, .undef, .undef, .undef, .undef, .undef, .undef, .undef, .undef, .undef, .undef, .undef, .undef, .undef, .undef, .undef, .undef, .undef, .undef, .undef, .undef, .undef, .undef, .undef, .undef, .undef, .undef, .undef, .undef, .undef, .undef, .undef, .undef], ofL [(1, (.var (.pair .bool (.pair (.sl (.int .u32)) .unit)) (.pr (.val .bool v1) (.pr (.val (.sl (.int .u32)) v1_1) (.un))), false)), (2, (.var (.pair (.pair .bool (.pair (.sl (.int .u32)) .unit)) (.pair (.pair .bool (.pair (.sl (.int .u32)) .unit)) .unit)) (.pr (.pr (.val .bool v2) (.pr (.val (.sl (.int .u32)) v2_1) (.un))) (.pr (.pr (.val .bool v2_1_2) (.pr (.val (.sl (.int .u32)) v2_1_2_3) (.un))) (.un))), false)), (3074, (.var (.pair .bool (.pair (.sl (.int .u32)) .unit)) (.pr (.val .bool v3074) (.pr (.val (.sl (.int .u32)) v3074_1) (.un))), false)), (4104, (.var (.pair .bool (.pair (.sl (.int .u32)) .unit)) (.pr (.val .bool v4104) (.pr (.val (.sl (.int .u32)) v4104_1) (.un))), false)), (5123, (.var (.pair .bool (.pair (.sl (.int .u32)) .unit)) (.pr (.val .bool v5123) (.pr (.val (.sl (.int .u32)) v5123_1) (.un))), false)), (5124, (.var (.pair .bool (.pair (.sl (.int .u32)) .unit)) (.pr (.val .bool v5124) (.pr (.val (.sl (.int .u32)) v5124_1) (.un))), false)), (5125, (.var (.pair .bool (.pair (.sl (.int .u32)) .unit)) (.pr (.val .bool v5125) (.pr (.val (.sl (.int .u32)) v5125_1) (.un))), false))], [1, 2, 3074, 4104, 5123, 5124, 5125], []⟩
theorem g36_L6_eq (v1 : Bool) (v1_1 : (List Int)) (v2 : Bool) (v2_1 : (List Int)) (v2_1_2 : Bool) (v2_1_2_3 : (List Int)) (v3074 : Bool) (v3074_1 : (List Int)) (v4104 : Bool) (v4104_1 : (List Int)) (v5123 : Bool) (v5123_1 : (List Int)) (v5124 : Bool) (v5124_1 : (List Int)) (v5125 : Bool) (v5125_1 : (List Int)) : g36_L6 v1 v1_1 v2 v2_1 v2_1_2 v2_1_2_3 v3074 v3074_1 v4104 v4104_1 v5123 v5123_1 v5124 v5124_1 v5125 v5125_1 =
  Option.bind (h32 ((v4104, (v4104_1, ())), ((v3074, (v3074_1, ())), ()))) fun (y5 : (Int × Unit)) =>
  if (decide (y5.1 > 0)) = true then
    Option.bind (h42 ((v5123, (v5123_1, ())), ((v4104, (v4104_1, ())), ()))) fun (y6 : ((Bool × ((List Int) × Unit)) × ((Bool × ((List Int) × Unit)) × (Int × Unit)))) =>
    Option.bind (h28 ((y6.1.1, (y6.1.2.1, ())), ((v5125, (v5125_1, ())), ()))) fun (y7 : ((Bool × ((List Int) × Unit)) × Unit)) =>
    Option.bind (h59 ((v5124, (v5124_1, ())), (y7.1, ()))) fun (y8 : ((Bool × ((List Int) × Unit)) × Unit)) =>
    (g36_L6 v1 v1_1 v2 v2_1 v2_1_2 v2_1_2_3 v3074 v3074_1 y6.2.1.1 y6.2.1.2.1 v4104 v4104_1 v5125 v5125_1 y8.1.1 y8.1.2.1)
  else Option.bind (h31 ((v5125, (v5125_1, ())), ())) fun (y9 : (Int × Unit)) =>
  if (decide (y9.1 < 0)) = true then
    Option.bind (h35 ((v4104, (v4104_1, ())), ())) fun (y10 : ((Bool × ((List Int) × Unit)) × Unit)) =>
    Option.bind (h35 ((v5125, (v5125_1, ())), ())) fun (y11 : ((Bool × ((List Int) × Unit)) × Unit)) =>
    Option.bind (h31 ((y11.1.1, (y11.1.2.1, ())), ())) fun (y12 : (Int × Unit)) =>
    if (y12.1 == 0) = true then
      some (((false, ([], ())), ((false, ([], ())), ())), (false, ()))
    else Option.bind (h32 ((y11.1.1, (y11.1.2.1, ())), ((v3074, (v3074_1, ())), ()))) fun (y13 : (Int × Unit)) =>
    if (decide (y13.1 > 0)) = true then
      some (((false, ([], ())), ((false, ([], ())), ())), (false, ()))
    else Option.bind (h61 ((y11.1.1, (y11.1.2.1, ())), ((v1, (v1_1, ())), ()))) fun (y14 : ((Bool × ((List Int) × Unit)) × Unit)) =>
    Option.bind (h27 (1, ())) fun (y15 : ((Bool × ((List Int) × Unit)) × Unit)) =>
    Option.bind (h32 (y14.1, (y15.1, ()))) fun (y16 : (Int × Unit)) =>
    if (y16.1 != 0) = true then
      some (((false, ([], ())), ((false, ([], ())), ())), (false, ()))
    else some (((y10.1.1, (y10.1.2.1, ())), ((y11.1.1, (y11.1.2.1, ())), ())), (true, ()))
  else Option.bind (h31 ((v5125, (v5125_1, ())), ())) fun (y17 : (Int × Unit)) =>
  if (y17.1 == 0) = true then
    some (((false, ([], ())), ((false, ([], ())), ())), (false, ()))
  else Option.bind (h32 ((v5125, (v5125_1, ())), ((v3074, (v3074_1, ())), ()))) fun (y18 : (Int × Unit)) =>
  if (decide (y18.1 > 0)) = true then
    some (((false, ([], ())), ((false, ([], ())), ())), (false, ()))
  else Option.bind (h61 ((v5125, (v5125_1, ())), ((v1, (v1_1, ())), ()))) fun (y19 : ((Bool × ((List Int) × Unit)) × Unit)) =>
  Option.bind (h27 (1, ())) fun (y20 : ((Bool × ((List Int) × Unit)) × Unit)) =>
  Option.bind (h32 (y19.1, (y20.1, ()))) fun (y21 : (Int × Unit)) =>
  if (y21.1 != 0) = true then
    some (((false, ([], ())), ((false, ([], ())), ())), (false, ()))
  else some (((v4104, (v4104_1, ())), ((v5125, (v5125_1, ())), ())), (true, ())) := (Lp_eq cx36 an36 Try.f36 [(.pair (.pair .bool (.pair (.sl (.int .u32)) .unit)) (.pair (.pair .bool (.pair (.sl (.int .u32)) .unit)) .unit)), .bool] [true, true, true, true, true, false, false] _).trans (by kernel_rfl)
theorem g36_eq (a : (Bool × ((List Int) × Unit))) (b : (Bool × ((List Int) × Unit))) : g36 (a, b, ()) =
  Option.bind (h31 ((b.1, (b.2.1, ())), ())) fun (y0 : (Int × Unit)) =>
  if (decide (y0.1 ≤ 0)) = true then
    some (((false, ([], ())), ((false, ([], ())), ())), (false, ()))
  else Option.bind (h34 ((b.1, (b.2.1, ())), ())) fun (y1 : ((Bool × ((List Int) × Unit)) × Unit)) =>
  Option.bind (h42 ((a.1, (a.2.1, ())), ((b.1, (b.2.1, ())), ()))) fun (y2 : ((Bool × ((List Int) × Unit)) × ((Bool × ((List Int) × Unit)) × (Int × Unit)))) =>
  Option.bind (h27 (0, ())) fun (y3 : ((Bool × ((List Int) × Unit)) × Unit)) =>
  Option.bind (h27 (1, ())) fun (y4 : ((Bool × ((List Int) × Unit)) × Unit)) =>
  (g36_L6 b.1 b.2.1 false [] false [] y1.1.1 y1.1.2.1 y2.2.1.1 y2.2.1.2.1 b.1 b.2.1 y3.1.1 y3.1.2.1 y4.1.1 y4.1.2.1) := (Fn_eq rfl).trans (by kernel_rfl)


end Go.Refl.S3
