/-
  PRINTED BY PROGRAM: what the bodies of some functions compute, loop by loop; each equation is checked by the kernel.
-/
import Derived.Test.YthgbejjenlfdnaaU1
import Derived.KernelRfl
set_option linter.unusedVariables false
set_option maxRecDepth 100000
namespace Go.Refl.S3
open Go Go.Refl Go.Proofs

noncomputable def cx12 : Cx := { types := T, sigs := [(14, ⟨[(.int .u64)], [.bool], h14⟩)], muts := [] }
def an12 : List (Nat × Ann) := [(4, { keep := 16 })]
noncomputable def cx13 : Cx := { types := T, sigs := [(20, ⟨[(.int .u64), (.int .u64), (.int .u64)], [(.int .u64)], h20⟩), (38, ⟨[], [(.arr 4 (.int .u64))], h38⟩)], muts := [] }
def an13 : List (Nat × Ann) := [(4, { keep := 25 }), (7, { keep := 50331673 }), (15, { keep := 52776608465305 })]
noncomputable def cx17 : Cx := { types := T, sigs := [(21, ⟨[(.int .u64), (.int .u64), (.int .u64)], [(.int .u64)], h21⟩)], muts := [] }
def an17 : List (Nat × Ann) := []
noncomputable def cx32 : Cx := { types := T, sigs := [(50, ⟨[(.sl (.int .u32)), (.sl (.int .u32))], [(.int .i64)], h50⟩)], muts := [] }
def an32 : List (Nat × Ann) := []
noncomputable def cx47 : Cx := { types := T, sigs := [(74, ⟨[(.sl (.int .u32))], [(.sl (.int .u32))], h74⟩)], muts := [] }
def an47 : List (Nat × Ann) := []
noncomputable def cx48 : Cx := { types := T, sigs := [(74, ⟨[(.sl (.int .u32))], [(.sl (.int .u32))], h74⟩)], muts := [] }
def an48 : List (Nat × Ann) := []
noncomputable def cx49 : Cx := { types := T, sigs := [(74, ⟨[(.sl (.int .u32))], [(.sl (.int .u32))], h74⟩)], muts := [] }
def an49 : List (Nat × Ann) := [(3, { keep := 99 }), (7, { keep := 483 })]
noncomputable def cx62 : Cx := { types := T, sigs := [(74, ⟨[(.sl (.int .u32))], [(.sl (.int .u32))], h74⟩), (82, ⟨[(.sl (.int .u32)), (.int .i64)], [(.int .u64)], h82⟩)], muts := [] }
def an62 : List (Nat × Ann) := [(5, { keep := 483 })]
noncomputable def cx63 : Cx := { types := T, sigs := [(74, ⟨[(.sl (.int .u32))], [(.sl (.int .u32))], h74⟩), (82, ⟨[(.sl (.int .u32)), (.int .i64)], [(.int .u64)], h82⟩)], muts := [] }
def an63 : List (Nat × Ann) := [(4, { keep := 227 })]
noncomputable def cx65 : Cx := { types := T, sigs := [(83, ⟨[(.sl (.int .u32)), (.int .i64)], [(.int .u32)], h83⟩)], muts := [] }
def an65 : List (Nat × Ann) := []
noncomputable def cx67 : Cx := { types := T, sigs := [(82, ⟨[(.sl (.int .u32)), (.int .i64)], [(.int .u64)], h82⟩)], muts := [] }
def an67 : List (Nat × Ann) := []
noncomputable def cx68 : Cx := { types := T, sigs := [(88, ⟨[(.sl (.int .u32))], [(.sl (.int .u32))], h88⟩)], muts := [] }
def an68 : List (Nat × Ann) := []
noncomputable def cx69 : Cx := { types := T, sigs := [(88, ⟨[(.sl (.int .u32))], [(.sl (.int .u32))], h88⟩), (89, ⟨[(.sl (.int .u32))], [(.sl (.int .u32))], h89⟩)], muts := [] }
def an69 : List (Nat × Ann) := []
noncomputable def cx70 : Cx := { types := T, sigs := [(83, ⟨[(.sl (.int .u32)), (.int .i64)], [(.int .u32)], h83⟩), (88, ⟨[(.sl (.int .u32))], [(.sl (.int .u32))], h88⟩), (90, ⟨[(.int .u32), (.int .u32), (.int .u32)], [(.int .u32), (.int .u32)], h90⟩)], muts := [] }
def an70 : List (Nat × Ann) := [(5, { keep := 393443 })]
noncomputable def cx72 : Cx := { types := T, sigs := [(83, ⟨[(.sl (.int .u32)), (.int .i64)], [(.int .u32)], h83⟩), (88, ⟨[(.sl (.int .u32))], [(.sl (.int .u32))], h88⟩), (92, ⟨[(.int .u32), (.int .u32), (.int .u32)], [(.int .u32), (.int .u32)], h92⟩)], muts := [] }
def an72 : List (Nat × Ann) := [(4, { keep := 12387 })]
noncomputable def cx73 : Cx := { types := T, sigs := [(88, ⟨[(.sl (.int .u32))], [(.sl (.int .u32))], h88⟩)], muts := [] }
def an73 : List (Nat × Ann) := [(3, { keep := 917538 }), (7, { keep := 118358498 })]
noncomputable def cx76 : Cx := { types := T, sigs := [(98, ⟨[(.int .u32)], [(.int .i64)], h98⟩)], muts := [] }
def an76 : List (Nat × Ann) := []
noncomputable def cx78 : Cx := { types := T, sigs := [(100, ⟨[(.int .i64)], [.bool], h100⟩)], muts := [] }
def an78 : List (Nat × Ann) := []
noncomputable def cx84 : Cx := { types := T, sigs := [(74, ⟨[(.sl (.int .u32))], [(.sl (.int .u32))], h74⟩)], muts := [] }
def an84 : List (Nat × Ann) := [(4, { keep := 451 })]
noncomputable def cx91 : Cx := { types := T, sigs := [(102, ⟨[(.int .u32)], [.bool], h102⟩)], muts := [] }
def an91 : List (Nat × Ann) := []
noncomputable def cx93 : Cx := { types := T, sigs := [(88, ⟨[(.sl (.int .u32))], [(.sl (.int .u32))], h88⟩), (103, ⟨[(.int .u32), (.int .u32), (.int .u32)], [(.int .u32), (.int .u32)], h103⟩)], muts := [] }
def an93 : List (Nat × Ann) := [(4, { keep := 49347 })]
noncomputable def cx94 : Cx := { types := T, sigs := [(98, ⟨[(.int .u32)], [(.int .i64)], h98⟩)], muts := [] }
def an94 : List (Nat × Ann) := []
noncomputable def cx97 : Cx := { types := T, sigs := [(83, ⟨[(.sl (.int .u32)), (.int .i64)], [(.int .u32)], h83⟩), (88, ⟨[(.sl (.int .u32))], [(.sl (.int .u32))], h88⟩)], muts := [] }
def an97 : List (Nat × Ann) := [(3, { keep := 6179 })]
noncomputable def cx99 : Cx := { types := T, sigs := [(98, ⟨[(.int .u32)], [(.int .i64)], h98⟩), (104, ⟨[(.int .u64)], [(.int .i64)], h104⟩)], muts := [] }
def an99 : List (Nat × Ann) := []
noncomputable def g12 : DL [(.int .u64)] → Option (DL [(.int .u64), (.int .i64)]) := Fn cx12 an12 Try.f12 [(.int .u64)] [(.int .u64), (.int .i64)]
noncomputable def g12_L4 (t4 : Int) : Option (DL [(.int .u64), (.int .i64)]) := Lp cx12 an12 Try.f12 [(.int .u64), (.int .i64)] [true, true, true, false, false] ⟨[.undef, .undef, .undef, .undef, .val (.int .u64) t4, .undef, .undef, .undef, .undef, .undef, .undef, .undef, .undef, .undef, .undef], ofL [], [], []⟩
theorem g12_L4_eq (t4 : Int) : g12_L4 t4 =
  Option.bind (h14 (t4, ())) fun (y0 : (Bool × Unit)) =>
  if (!y0.1) = true then
    (g12_L4 (IntKind.wrap .u64 (t4 + 1)))
  else some (t4, (0, ())) := (Lp_eq cx12 an12 Try.f12 [(.int .u64), (.int .i64)] [true, true, true, false, false] _).trans (by kernel_rfl)
theorem g12_eq (a : Int) : g12 (a, ()) =
  if (decide (a ≥ 2147483647)) = true then
    some (0, (1, ()))
  else (g12_L4 (IntKind.wrap .u64 (a + 1))) := (Fn_eq rfl).trans (by kernel_rfl)

noncomputable def g13 : DL [(.int .u64)] → Option (DL [.bool]) := Fn cx13 an13 Try.f13 [(.int .u64)] [.bool]
noncomputable def g13_L4 (t0 : Int) (t3 : Int) (t4 : Int) : Option (DL [.bool]) := Lp cx13 an13 Try.f13 [.bool] [true, true, true, false, false] ⟨[.val (.int .u64) t0, .undef, .undef, .val (.int .u64) t3, .val (.int .i64) t4, .undef, .undef, .undef, .undef, .undef, .undef, .undef, .undef, .undef, .undef, .undef, .undef, .undef, .undef, .undef, .undef, .undef, .undef, .undef, .undef, .undef, .undef, .undef, .undef, .undef, .undef, .undef, .undef, .undef, .undef, .undef, .undef, .undef, .undef, .undef, .undef, .undef, .undef, .undef, .undef, .undef, .undef, .undef, .undef, .undef, .undef, .undef, .undef, .undef, .undef, .undef, .undef, .undef, .undef, .undef, .undef, .undef, .undef, .undef, .undef], ofL [], [], []⟩
noncomputable def g13_L7 (t0 : Int) (t3 : Int) (t4 : Int) (t24 : (List Int)) (t25 : Int) : Option (DL [.bool]) := Lp cx13 an13 Try.f13 [.bool] [true, true, true, true, false, true, false] ⟨[.val (.int .u64) t0, .undef, .undef, .val (.int .u64) t3, .val (.int .i64) t4, .undef, .undef, .undef, .undef, .undef, .undef, .undef, .undef, .undef, .undef, .undef, .undef, .undef, .undef, .undef, .undef, .undef, .undef, .undef, .val (.arr 4 (.int .u64)) t24, .val (.int .i64) t25, .undef, .undef, .undef, .undef, .undef, .undef, .undef, .undef, .undef, .undef, .undef, .undef, .undef, .undef, .undef, .undef, .undef, .undef, .undef, .undef, .undef, .undef, .undef, .undef, .undef, .undef, .undef, .undef, .undef, .undef, .undef, .undef, .undef, .undef, .undef, .undef, .undef, .undef, .undef], ofL [], [], []⟩
noncomputable def g13_L15 (t0 : Int) (t3 : Int) (t4 : Int) (t7 : Int) (t8 : Bool) (t24 : (List Int)) (t25 : Int) (t44 : Int) (t45 : Int) : Option (DL [.bool]) := Lp cx13 an13 Try.f13 [.bool] [true, true, true, true, false, true, false, false, true, true, false, false, true, true, true, true, true, false, true, false] ⟨[.val (.int .u64) t0, .undef, .undef, .val (.int .u64) t3, .val (.int .i64) t4, .undef, .undef, .val (.int .u64) t7, .val .bool t8, .undef, .undef, .undef, .undef, .undef, .undef, .undef, .undef, .undef, .undef, .undef, .undef, .undef, .undef, .undef, .val (.arr 4 (.int .u64)) t24, .val (.int .i64) t25, .undef, .undef, .undef, .undef, .undef, .undef, .undef, .undef, .undef, .undef, .undef, .undef, .undef, .undef, .undef, .undef, .undef, .undef, .val (.int .i64) t44, .val (.int .i64) t45, .undef, .undef, .undef, .undef, .undef, .undef, .undef, .undef, .undef, .undef, .undef, .undef, .undef, .undef, .undef, .undef, .undef, .undef, .undef], ofL [], [], []⟩
theorem g13_L4_eq (t0 : Int) (t3 : Int) (t4 : Int) : g13_L4 t0 t3 t4 =
  if ((Int.tmod t3 2) == 0) = true then
    (g13_L4 t0 (IntKind.wrap .u64 (Int.tdiv t3 2)) (IntKind.wrap .i64 (t4 + 1)))
  else Option.bind (h38 ()) fun (y0 : ((List Int) × Unit)) =>
  (g13_L7 t0 t3 t4 y0.1 0) := (Lp_eq cx13 an13 Try.f13 [.bool] [true, true, true, false, false] _).trans (by kernel_rfl)
theorem g13_L7_eq (t0 : Int) (t3 : Int) (t4 : Int) (t24 : (List Int)) (t25 : Int) : g13_L7 t0 t3 t4 t24 t25 =
  if (decide (t25 < 4)) = true then
    if ((decide (0 ≤ t25)) && (decide (t25 < 4))) = true then
      if (t0 == (List.getD t24 (Int.toNat t25) 0)) = true then
        some (true, ())
      else Option.bind (h20 ((List.getD t24 (Int.toNat t25) 0), (t3, (t0, ())))) fun (y1 : (Int × Unit)) =>
      if (y1.1 == 1) = true then
        (g13_L7 t0 t3 t4 t24 (IntKind.wrap .i64 (t25 + 1)))
      else if (y1.1 == (IntKind.wrap .u64 (t0 - 1))) = true then
        (g13_L7 t0 t3 t4 t24 (IntKind.wrap .i64 (t25 + 1)))
      else (g13_L15 t0 t3 t4 y1.1 false t24 t25 (IntKind.wrap .i64 (t4 - 1)) 0)
    else none
  else some ((decide (t0 > 1)), ()) := (Lp_eq cx13 an13 Try.f13 [.bool] [true, true, true, true, false, true, false] _).trans (by kernel_rfl)
theorem g13_L15_eq (t0 : Int) (t3 : Int) (t4 : Int) (t7 : Int) (t8 : Bool) (t24 : (List Int)) (t25 : Int) (t44 : Int) (t45 : Int) : g13_L15 t0 t3 t4 t7 t8 t24 t25 t44 t45 =
  if (decide (t45 < t44)) = true then
    if (t0 == 0) = true then
      none
    else if t8 = true then
      (g13_L15 t0 t3 t4 (Int.tmod (IntKind.wrap .u64 (t7 * t7)) t0) true t24 t25 t44 (IntKind.wrap .i64 (t45 + 1)))
    else (g13_L15 t0 t3 t4 (Int.tmod (IntKind.wrap .u64 (t7 * t7)) t0) ((Int.tmod (IntKind.wrap .u64 (t7 * t7)) t0) == (IntKind.wrap .u64 (t0 - 1))) t24 t25 t44 (IntKind.wrap .i64 (t45 + 1)))
  else if (!t8) = true then
    some (false, ())
  else (g13_L7 t0 t3 t4 t24 (IntKind.wrap .i64 (t25 + 1))) := (Lp_eq cx13 an13 Try.f13 [.bool] [true, true, true, true, false, true, false, false, true, true, false, false, true, true, true, true, true, false, true, false] _).trans (by kernel_rfl)
theorem g13_eq (a : Int) : g13 (a, ()) =
  if (decide (a < 2)) = true then
    some (false, ())
  else if (decide (a ≥ 2147483648)) = true then
    some (false, ())
  else (g13_L4 a (IntKind.wrap .u64 (a - 1)) 0) := (Fn_eq rfl).trans (by kernel_rfl)

noncomputable def g17 : DL [(.int .u64), (.int .u64)] → Option (DL [(.int .u64), (.int .i64)]) := Fn cx17 an17 Try.f17 [(.int .u64), (.int .u64)] [(.int .u64), (.int .i64)]
theorem g17_eq (a : Int) (b : Int) : g17 (a, b, ()) =
  if (b == 0) = true then
    none
  else if ((Int.tmod a b) == 0) = true then
    some (0, (10, ()))
  else Option.bind (h21 (a, ((IntKind.wrap .u64 (b - 2)), (b, ())))) fun (y0 : (Int × Unit)) =>
  some (y0.1, (0, ())) := (Fn_eq rfl).trans (by kernel_rfl)

noncomputable def g32 : DL [(.pair .bool (.pair (.sl (.int .u32)) .unit)), (.pair .bool (.pair (.sl (.int .u32)) .unit))] → Option (DL [(.int .i64)]) := Fn cx32 an32 Try.f32 [(.pair .bool (.pair (.sl (.int .u32)) .unit)), (.pair .bool (.pair (.sl (.int .u32)) .unit))] [(.int .i64)]
theorem g32_eq (a : (Bool × ((List Int) × Unit))) (b : (Bool × ((List Int) × Unit))) : g32 (a, b, ()) =
  if a.1 = true then
    if (!b.1) = true then
      some ((-1), ())
    else if (!a.1) = true then
      if b.1 = true then
        some (1, ())
      else if a.1 = true then
        Option.bind (h50 (b.2.1, (a.2.1, ()))) fun (y0 : (Int × Unit)) =>
        some (y0.1, ())
      else Option.bind (h50 (a.2.1, (b.2.1, ()))) fun (y1 : (Int × Unit)) =>
      some (y1.1, ())
    else if a.1 = true then
      Option.bind (h50 (b.2.1, (a.2.1, ()))) fun (y2 : (Int × Unit)) =>
      some (y2.1, ())
    else Option.bind (h50 (a.2.1, (b.2.1, ()))) fun (y3 : (Int × Unit)) =>
    some (y3.1, ())
  else if (!a.1) = true then
    if b.1 = true then
      some (1, ())
    else if a.1 = true then
      Option.bind (h50 (b.2.1, (a.2.1, ()))) fun (y4 : (Int × Unit)) =>
      some (y4.1, ())
    else Option.bind (h50 (a.2.1, (b.2.1, ()))) fun (y5 : (Int × Unit)) =>
    some (y5.1, ())
  else if a.1 = true then
    Option.bind (h50 (b.2.1, (a.2.1, ()))) fun (y6 : (Int × Unit)) =>
    some (y6.1, ())
  else Option.bind (h50 (a.2.1, (b.2.1, ()))) fun (y7 : (Int × Unit)) =>
  some (y7.1, ()) := (Fn_eq rfl).trans (by kernel_rfl)

noncomputable def g47 : DL [.bool, (.sl (.int .u32))] → Option (DL [(.pair .bool (.pair (.sl (.int .u32)) .unit))]) := Fn cx47 an47 Try.f47 [.bool, (.sl (.int .u32))] [(.pair .bool (.pair (.sl (.int .u32)) .unit))]
theorem g47_eq (a : Bool) (b : (List Int)) : g47 (a, b, ()) =
  Option.bind (h74 (b, ())) fun (y0 : ((List Int) × Unit)) =>
  if a = true then
    some (((decide (((List.length y0.1) : Int) > 0)), (y0.1, ())), ())
  else some ((false, (y0.1, ())), ()) := (Fn_eq rfl).trans (by kernel_rfl)

noncomputable def g48 : DL [(.int .u64)] → Option (DL [(.sl (.int .u32))]) := Fn cx48 an48 Try.f48 [(.int .u64)] [(.sl (.int .u32))]
theorem g48_eq (a : Int) : g48 (a, ()) =
  Option.bind (h74 ((List.set (List.set (List.replicate 2 (0 : Int)) 0 (IntKind.wrap .u32 (Int.tmod a 4294967296))) 1 (IntKind.wrap .u32 (IntKind.wrap .u64 (Int.tdiv a 4294967296)))), ())) fun (y0 : ((List Int) × Unit)) =>
  some (y0.1, ()) := (Fn_eq rfl).trans (by kernel_rfl)

noncomputable def g49 : DL [(.sl (.int .u32)), (.sl (.int .u32))] → Option (DL [(.sl (.int .u32))]) := Fn cx49 an49 Try.f49 [(.sl (.int .u32)), (.sl (.int .u32))] [(.sl (.int .u32))]
noncomputable def g49_L3 (t0 : (List Int)) (t1 : (List Int)) (t6 : Int) (r1029 : List Int) : Option (DL [(.sl (.int .u32))]) := Lp cx49 an49 Try.f49 [(.sl (.int .u32))] [true, true, false, true, false] ⟨[.val (.sl (.int .u32)) t0, .val (.sl (.int .u32)) t1, .undef, .undef, .undef, .own 1029 0, .val (.int .i64) t6, .undef, .undef, .undef, .undef, .undef, .undef, .undef, .undef, .undef, .undef, .undef, .undef, .undef, .undef, .undef, .undef, .undef, .undef, .undef, .undef, .undef, .undef, .undef, .undef, .undef, .undef, .undef, .undef, .undef, .undef, .undef, .undef, .undef, .undef, .undef, .undef, .undef, .undef, .undef, .undef, .undef, .undef, .undef, .undef, .undef, .undef, .undef, .undef, .undef, .undef, .undef, .undef, .undef, .undef, .undef, .undef, .undef, .undef, .undef, .undef, .undef, .undef], ofL [(1029, (.row 22 (.int .u32) r1029 0, false))], [1029], []⟩
noncomputable def g49_L7 (t0 : (List Int)) (t1 : (List Int)) (t6 : Int) (t7 : Int) (t8 : Int) (r1029 : List Int) : Option (DL [(.sl (.int .u32))]) := Lp cx49 an49 Try.f49 [(.sl (.int .u32))] [true, true, false, true, false, false, true, false, false, true, false, true, false] ⟨[.val (.sl (.int .u32)) t0, .val (.sl (.int .u32)) t1, .undef, .undef, .undef, .own 1029 0, .val (.int .i64) t6, .val (.int .u64) t7, .val (.int .i64) t8, .undef, .undef, .undef, .undef, .undef, .undef, .undef, .undef, .undef, .undef, .undef, .undef, .undef, .undef, .undef, .undef, .undef, .undef, .undef, .undef, .undef, .undef, .undef, .undef, .undef, .undef, .undef, .undef, .undef, .undef, .undef, .undef, .undef, .undef, .undef, .undef, .undef, .undef, .undef, .undef, .undef, .undef, .undef, .undef, .undef, .undef, .undef, .undef, .undef, .undef, .undef, .undef, .undef, .undef, .undef, .undef, .undef, .undef, .undef, .undef], ofL [(1029, (.row 22 (.int .u32) r1029 0, false))], [1029], []⟩
theorem g49_L3_eq (t0 : (List Int)) (t1 : (List Int)) (t6 : Int) (r1029 : List Int) : g49_L3 t0 t1 t6 r1029 =
  if (decide (t6 < ((List.length t0) : Int))) = true then
    (g49_L7 t0 t1 t6 0 0 r1029)
  else Option.bind (h74 (r1029, ())) fun (y0 : ((List Int) × Unit)) =>
  some (y0.1, ()) := (Lp_eq cx49 an49 Try.f49 [(.sl (.int .u32))] [true, true, false, true, false] _).trans (by kernel_rfl)
theorem g49_L7_eq (t0 : (List Int)) (t1 : (List Int)) (t6 : Int) (t7 : Int) (t8 : Int) (r1029 : List Int) : g49_L7 t0 t1 t6 t7 t8 r1029 =
  if (decide (t8 < ((List.length t1) : Int))) = true then
    if ((decide (0 ≤ t6)) && (decide (t6 < ((List.length t0) : Int)))) = true then
      if ((decide (0 ≤ t8)) && (decide (t8 < ((List.length t1) : Int)))) = true then
        if ((decide (0 ≤ (IntKind.wrap .i64 (t6 + t8)))) && (decide ((IntKind.wrap .i64 (t6 + t8)) < ((List.length r1029) : Int)))) = true then
          if ((decide (0 ≤ (IntKind.wrap .i64 (t6 + t8)))) && (decide ((IntKind.wrap .i64 (t6 + t8)) < ((List.length r1029) : Int)))) = true then
            (g49_L7 t0 t1 t6 (IntKind.wrap .u64 (Int.tdiv (IntKind.wrap .u64 ((IntKind.wrap .u64 ((IntKind.wrap .u64 ((IntKind.wrap .u64 (List.getD t0 (Int.toNat t6) 0)) * (IntKind.wrap .u64 (List.getD t1 (Int.toNat t8) 0)))) + (IntKind.wrap .u64 (List.getD r1029 (Int.toNat (IntKind.wrap .i64 (t6 + t8))) 0)))) + t7)) 4294967296)) (IntKind.wrap .i64 (t8 + 1)) (List.set r1029 (Int.toNat (IntKind.wrap .i64 (t6 + t8))) (IntKind.wrap .u32 (Int.tmod (IntKind.wrap .u64 ((IntKind.wrap .u64 ((IntKind.wrap .u64 ((IntKind.wrap .u64 (List.getD t0 (Int.toNat t6) 0)) * (IntKind.wrap .u64 (List.getD t1 (Int.toNat t8) 0)))) + (IntKind.wrap .u64 (List.getD r1029 (Int.toNat (IntKind.wrap .i64 (t6 + t8))) 0)))) + t7)) 4294967296))))
          else none
        else none
      else none
    else none
  else if ((decide (0 ≤ (IntKind.wrap .i64 (t6 + ((List.length t1) : Int))))) && (decide ((IntKind.wrap .i64 (t6 + ((List.length t1) : Int))) < ((List.length r1029) : Int)))) = true then
    (g49_L3 t0 t1 (IntKind.wrap .i64 (t6 + 1)) (List.set r1029 (Int.toNat (IntKind.wrap .i64 (t6 + ((List.length t1) : Int)))) (IntKind.wrap .u32 t7)))
  else none := (Lp_eq cx49 an49 Try.f49 [(.sl (.int .u32))] [true, true, false, true, false, false, true, false, false, true, false, true, false] _).trans (by kernel_rfl)
theorem g49_eq (a : (List Int)) (b : (List Int)) : g49 (a, b, ()) =
  if (((decide (0 ≤ (IntKind.wrap .i64 (((List.length a) : Int) + ((List.length b) : Int))))) && (decide ((IntKind.wrap .i64 (((List.length a) : Int) + ((List.length b) : Int))) ≤ (IntKind.wrap .i64 (((List.length a) : Int) + ((List.length b) : Int)))))) && (decide (((IntKind.wrap .i64 (((List.length a) : Int) + ((List.length b) : Int))) * 4) ≤ 140737488355328))) = true then
    (g49_L3 a b 0 (List.replicate (Int.toNat (IntKind.wrap .i64 (((List.length a) : Int) + ((List.length b) : Int)))) (0 : Int)))
  else none := (Fn_eq rfl).trans (by kernel_rfl)

noncomputable def g62 : DL [(.sl (.int .u32)), (.sl (.int .u32))] → Option (DL [(.sl (.int .u32))]) := Fn cx62 an62 Try.f62 [(.sl (.int .u32)), (.sl (.int .u32))] [(.sl (.int .u32))]
noncomputable def g62_L5 (t0 : (List Int)) (t1 : (List Int)) (t5 : Int) (t7 : Int) (t8 : Int) (r2049 : List Int) : Option (DL [(.sl (.int .u32))]) := Lp cx62 an62 Try.f62 [(.sl (.int .u32))] [true, true, true, true, false, true, false] ⟨[.val (.sl (.int .u32)) t0, .val (.sl (.int .u32)) t1, .undef, .undef, .undef, .val (.int .i64) t5, .own 2049 0, .val (.int .u64) t7, .val (.int .i64) t8, .undef, .undef, .undef, .undef, .undef, .undef, .undef, .undef, .undef, .undef, .undef, .undef, .undef, .undef, .undef, .undef, .undef, .undef, .undef, .undef, .undef, .undef, .undef, .undef, .undef, .undef, .undef, .undef, .undef, .undef, .undef, .undef, .undef], ofL [(2049, (.row 22 (.int .u32) r2049 0, false))], [2049], []⟩
theorem g62_L5_eq (t0 : (List Int)) (t1 : (List Int)) (t5 : Int) (t7 : Int) (t8 : Int) (r2049 : List Int) : g62_L5 t0 t1 t5 t7 t8 r2049 =
  if (decide (t8 < t5)) = true then
    Option.bind (h82 (t0, (t8, ()))) fun (y0 : (Int × Unit)) =>
    Option.bind (h82 (t1, (t8, ()))) fun (y1 : (Int × Unit)) =>
    if ((decide (0 ≤ t8)) && (decide (t8 < ((List.length r2049) : Int)))) = true then
      (g62_L5 t0 t1 t5 (IntKind.wrap .u64 (Int.tdiv (IntKind.wrap .u64 ((IntKind.wrap .u64 (y0.1 + y1.1)) + t7)) 4294967296)) (IntKind.wrap .i64 (t8 + 1)) (List.set r2049 (Int.toNat t8) (IntKind.wrap .u32 (Int.tmod (IntKind.wrap .u64 ((IntKind.wrap .u64 (y0.1 + y1.1)) + t7)) 4294967296))))
    else none
  else Option.bind (h74 (r2049, ())) fun (y2 : ((List Int) × Unit)) =>
  some (y2.1, ()) := (Lp_eq cx62 an62 Try.f62 [(.sl (.int .u32))] [true, true, true, true, false, true, false] _).trans (by kernel_rfl)
theorem g62_eq (a : (List Int)) (b : (List Int)) : g62 (a, b, ()) =
  if (((decide (0 ≤ (IntKind.wrap .i64 ((if (true = true) then (if (((List.length b) : Int) > ((List.length a) : Int)) then ((List.length b) : Int) else ((List.length a) : Int)) else (if (((List.length b) : Int) < ((List.length a) : Int)) then ((List.length b) : Int) else ((List.length a) : Int))) + 1)))) && (decide ((IntKind.wrap .i64 ((if (true = true) then (if (((List.length b) : Int) > ((List.length a) : Int)) then ((List.length b) : Int) else ((List.length a) : Int)) else (if (((List.length b) : Int) < ((List.length a) : Int)) then ((List.length b) : Int) else ((List.length a) : Int))) + 1)) ≤ (IntKind.wrap .i64 ((if (true = true) then (if (((List.length b) : Int) > ((List.length a) : Int)) then ((List.length b) : Int) else ((List.length a) : Int)) else (if (((List.length b) : Int) < ((List.length a) : Int)) then ((List.length b) : Int) else ((List.length a) : Int))) + 1))))) && (decide (((IntKind.wrap .i64 ((if (true = true) then (if (((List.length b) : Int) > ((List.length a) : Int)) then ((List.length b) : Int) else ((List.length a) : Int)) else (if (((List.length b) : Int) < ((List.length a) : Int)) then ((List.length b) : Int) else ((List.length a) : Int))) + 1)) * 4) ≤ 140737488355328))) = true then
    (g62_L5 a b (IntKind.wrap .i64 ((if (true = true) then (if (((List.length b) : Int) > ((List.length a) : Int)) then ((List.length b) : Int) else ((List.length a) : Int)) else (if (((List.length b) : Int) < ((List.length a) : Int)) then ((List.length b) : Int) else ((List.length a) : Int))) + 1)) 0 0 (List.replicate (Int.toNat (IntKind.wrap .i64 ((if (true = true) then (if (((List.length b) : Int) > ((List.length a) : Int)) then ((List.length b) : Int) else ((List.length a) : Int)) else (if (((List.length b) : Int) < ((List.length a) : Int)) then ((List.length b) : Int) else ((List.length a) : Int))) + 1))) (0 : Int)))
  else none := (Fn_eq rfl).trans (by kernel_rfl)

noncomputable def g63 : DL [(.sl (.int .u32)), (.sl (.int .u32))] → Option (DL [(.sl (.int .u32))]) := Fn cx63 an63 Try.f63 [(.sl (.int .u32)), (.sl (.int .u32))] [(.sl (.int .u32))]
noncomputable def g63_L4 (t0 : (List Int)) (t1 : (List Int)) (t6 : Int) (t7 : Int) (r1026 : List Int) : Option (DL [(.sl (.int .u32))]) := Lp cx63 an63 Try.f63 [(.sl (.int .u32))] [true, true, true, false, true, false] ⟨[.val (.sl (.int .u32)) t0, .val (.sl (.int .u32)) t1, .undef, .undef, .undef, .own 1026 0, .val (.int .u64) t6, .val (.int .i64) t7, .undef, .undef, .undef, .undef, .undef, .undef, .undef, .undef, .undef, .undef, .undef, .undef, .undef, .undef, .undef, .undef, .undef, .undef, .undef, .undef, .undef, .undef, .undef, .undef, .undef, .undef, .undef, .undef, .undef, .undef, .undef, .undef, .undef], ofL [(1026, (.row 22 (.int .u32) r1026 0, false))], [1026], []⟩
theorem g63_L4_eq (t0 : (List Int)) (t1 : (List Int)) (t6 : Int) (t7 : Int) (r1026 : List Int) : g63_L4 t0 t1 t6 t7 r1026 =
  if (decide (t7 < ((List.length t0) : Int))) = true then
    if ((decide (0 ≤ t7)) && (decide (t7 < ((List.length t0) : Int)))) = true then
      Option.bind (h82 (t1, (t7, ()))) fun (y0 : (Int × Unit)) =>
      if ((decide (0 ≤ t7)) && (decide (t7 < ((List.length r1026) : Int)))) = true then
        (g63_L4 t0 t1 (IntKind.wrap .u64 (1 - (IntKind.wrap .u64 (Int.tdiv (IntKind.wrap .u64 ((IntKind.wrap .u64 ((IntKind.wrap .u64 (4294967296 + (IntKind.wrap .u64 (List.getD t0 (Int.toNat t7) 0)))) - y0.1)) - t6)) 4294967296)))) (IntKind.wrap .i64 (t7 + 1)) (List.set r1026 (Int.toNat t7) (IntKind.wrap .u32 (Int.tmod (IntKind.wrap .u64 ((IntKind.wrap .u64 ((IntKind.wrap .u64 (4294967296 + (IntKind.wrap .u64 (List.getD t0 (Int.toNat t7) 0)))) - y0.1)) - t6)) 4294967296))))
      else none
    else none
  else Option.bind (h74 (r1026, ())) fun (y1 : ((List Int) × Unit)) =>
  some (y1.1, ()) := (Lp_eq cx63 an63 Try.f63 [(.sl (.int .u32))] [true, true, true, false, true, false] _).trans (by kernel_rfl)
theorem g63_eq (a : (List Int)) (b : (List Int)) : g63 (a, b, ()) =
  if (((decide (0 ≤ ((List.length a) : Int))) && (decide (((List.length a) : Int) ≤ ((List.length a) : Int)))) && (decide ((((List.length a) : Int) * 4) ≤ 140737488355328))) = true then
    (g63_L4 a b 0 0 (List.replicate (Int.toNat ((List.length a) : Int)) (0 : Int)))
  else none := (Fn_eq rfl).trans (by kernel_rfl)

noncomputable def g65 : DL [(.pair .bool (.pair (.sl (.int .u32)) .unit))] → Option (DL [(.int .i64), .bool]) := Fn cx65 an65 Try.f65 [(.pair .bool (.pair (.sl (.int .u32)) .unit))] [(.int .i64), .bool]
theorem g65_eq (a : (Bool × ((List Int) × Unit))) : g65 (a, ()) =
  Option.bind (h83 (a.2.1, (1, ()))) fun (y0 : (Int × Unit)) =>
  Option.bind (h83 (a.2.1, (0, ()))) fun (y1 : (Int × Unit)) =>
  if (decide (((List.length a.2.1) : Int) > 2)) = true then
    some (0, (false, ()))
  else if a.1 = true then
    if (decide ((IntKind.wrap .u64 ((BitVec.toNat ((BitVec.ofInt 64 (IntKind.wrap .u64 ((IntKind.wrap .u64 y0.1) * 4294967296))) ||| (BitVec.ofInt 64 (IntKind.wrap .u64 y1.1)))) : Int)) ≤ 9223372036854775808)) = true then
      some ((IntKind.wrap .i64 (IntKind.wrap .u64 (0 - (IntKind.wrap .u64 ((BitVec.toNat ((BitVec.ofInt 64 (IntKind.wrap .u64 ((IntKind.wrap .u64 y0.1) * 4294967296))) ||| (BitVec.ofInt 64 (IntKind.wrap .u64 y1.1)))) : Int))))), (true, ()))
    else if (!a.1) = true then
      if (decide ((IntKind.wrap .u64 ((BitVec.toNat ((BitVec.ofInt 64 (IntKind.wrap .u64 ((IntKind.wrap .u64 y0.1) * 4294967296))) ||| (BitVec.ofInt 64 (IntKind.wrap .u64 y1.1)))) : Int)) < 9223372036854775808)) = true then
        some ((IntKind.wrap .i64 (IntKind.wrap .u64 ((BitVec.toNat ((BitVec.ofInt 64 (IntKind.wrap .u64 ((IntKind.wrap .u64 y0.1) * 4294967296))) ||| (BitVec.ofInt 64 (IntKind.wrap .u64 y1.1)))) : Int))), (true, ()))
      else some (0, (false, ()))
    else some (0, (false, ()))
  else if (!a.1) = true then
    if (decide ((IntKind.wrap .u64 ((BitVec.toNat ((BitVec.ofInt 64 (IntKind.wrap .u64 ((IntKind.wrap .u64 y0.1) * 4294967296))) ||| (BitVec.ofInt 64 (IntKind.wrap .u64 y1.1)))) : Int)) < 9223372036854775808)) = true then
      some ((IntKind.wrap .i64 (IntKind.wrap .u64 ((BitVec.toNat ((BitVec.ofInt 64 (IntKind.wrap .u64 ((IntKind.wrap .u64 y0.1) * 4294967296))) ||| (BitVec.ofInt 64 (IntKind.wrap .u64 y1.1)))) : Int))), (true, ()))
    else some (0, (false, ()))
  else some (0, (false, ())) := (Fn_eq rfl).trans (by kernel_rfl)

noncomputable def g67 : DL [(.sl (.int .u32))] → Option (DL [(.int .u64)]) := Fn cx67 an67 Try.f67 [(.sl (.int .u32))] [(.int .u64)]
theorem g67_eq (a : (List Int)) : g67 (a, ()) =
  Option.bind (h82 (a, (1, ()))) fun (y0 : (Int × Unit)) =>
  Option.bind (h82 (a, (0, ()))) fun (y1 : (Int × Unit)) =>
  some ((IntKind.wrap .u64 ((IntKind.wrap .u64 (y0.1 * 4294967296)) + y1.1)), ()) := (Fn_eq rfl).trans (by kernel_rfl)

noncomputable def g68 : DL [(.int .u64)] → Option (DL [(.sl (.int .u32))]) := Fn cx68 an68 Try.f68 [(.int .u64)] [(.sl (.int .u32))]
theorem g68_eq (a : Int) : g68 (a, ()) =
  Option.bind (h88 ((List.set (List.set (List.replicate 2 (0 : Int)) 0 (IntKind.wrap .u32 a)) 1 (IntKind.wrap .u32 (Int.fdiv a 4294967296))), ())) fun (y0 : ((List Int) × Unit)) =>
  some (y0.1, ()) := (Fn_eq rfl).trans (by kernel_rfl)

noncomputable def g69 : DL [(.sl (.int .u32)), .bool] → Option (DL [(.pair .bool (.pair (.sl (.int .u32)) .unit))]) := Fn cx69 an69 Try.f69 [(.sl (.int .u32)), .bool] [(.pair .bool (.pair (.sl (.int .u32)) .unit))]
theorem g69_eq (a : (List Int)) (b : Bool) : g69 (a, b, ()) =
  Option.bind (h88 (a, ())) fun (y0 : ((List Int) × Unit)) =>
  if b = true then
    Option.bind (h89 (y0.1, ())) fun (y1 : ((List Int) × Unit)) =>
    some (((decide (((List.length y0.1) : Int) > 0)), (y1.1, ())), ())
  else Option.bind (h89 (y0.1, ())) fun (y2 : ((List Int) × Unit)) =>
  some ((false, (y2.1, ())), ()) := (Fn_eq rfl).trans (by kernel_rfl)

noncomputable def g70 : DL [(.sl (.int .u32)), (.sl (.int .u32))] → Option (DL [(.sl (.int .u32))]) := Fn cx70 an70 Try.f70 [(.sl (.int .u32)), (.sl (.int .u32))] [(.sl (.int .u32))]
noncomputable def g70_L5 (t0 : (List Int)) (t1 : (List Int)) (t5 : Int) (t7 : Int) (t17 : Int) (t18 : Int) (r2050 : List Int) : Option (DL [(.sl (.int .u32))]) := Lp cx70 an70 Try.f70 [(.sl (.int .u32))] [true, true, true, true, false, true, false] ⟨[.val (.sl (.int .u32)) t0, .val (.sl (.int .u32)) t1, .undef, .undef, .undef, .val (.int .i64) t5, .own 2050 0, .val (.int .u32) t7, .undef, .undef, .undef, .undef, .undef, .undef, .undef, .undef, .undef, .val (.int .i64) t17, .val (.int .i64) t18, .undef, .undef, .undef, .undef, .undef, .undef, .undef, .undef, .undef, .undef, .undef, .undef, .undef, .undef, .undef, .undef, .undef, .undef, .undef, .undef, .undef, .undef, .undef], ofL [(2050, (.row 22 (.int .u32) r2050 0, false))], [2050], []⟩
theorem g70_L5_eq (t0 : (List Int)) (t1 : (List Int)) (t5 : Int) (t7 : Int) (t17 : Int) (t18 : Int) (r2050 : List Int) : g70_L5 t0 t1 t5 t7 t17 t18 r2050 =
  if (decide (t18 < t17)) = true then
    Option.bind (h83 (t0, (t18, ()))) fun (y0 : (Int × Unit)) =>
    Option.bind (h83 (t1, (t18, ()))) fun (y1 : (Int × Unit)) =>
    Option.bind (h90 (y0.1, (y1.1, (t7, ())))) fun (y2 : (Int × (Int × Unit))) =>
    if ((decide (0 ≤ t18)) && (decide (t18 < ((List.length r2050) : Int)))) = true then
      (g70_L5 t0 t1 t5 y2.2.1 t17 (IntKind.wrap .i64 (t18 + 1)) (List.set r2050 (Int.toNat t18) y2.1))
    else none
  else if ((decide (0 ≤ t5)) && (decide (t5 < ((List.length r2050) : Int)))) = true then
    Option.bind (h88 ((List.set r2050 (Int.toNat t5) t7), ())) fun (y3 : ((List Int) × Unit)) =>
    some (y3.1, ())
  else none := (Lp_eq cx70 an70 Try.f70 [(.sl (.int .u32))] [true, true, true, true, false, true, false] _).trans (by kernel_rfl)
theorem g70_eq (a : (List Int)) (b : (List Int)) : g70 (a, b, ()) =
  if (((decide (0 ≤ (IntKind.wrap .i64 ((if (true = true) then (if (((List.length b) : Int) > ((List.length a) : Int)) then ((List.length b) : Int) else ((List.length a) : Int)) else (if (((List.length b) : Int) < ((List.length a) : Int)) then ((List.length b) : Int) else ((List.length a) : Int))) + 1)))) && (decide ((IntKind.wrap .i64 ((if (true = true) then (if (((List.length b) : Int) > ((List.length a) : Int)) then ((List.length b) : Int) else ((List.length a) : Int)) else (if (((List.length b) : Int) < ((List.length a) : Int)) then ((List.length b) : Int) else ((List.length a) : Int))) + 1)) ≤ (IntKind.wrap .i64 ((if (true = true) then (if (((List.length b) : Int) > ((List.length a) : Int)) then ((List.length b) : Int) else ((List.length a) : Int)) else (if (((List.length b) : Int) < ((List.length a) : Int)) then ((List.length b) : Int) else ((List.length a) : Int))) + 1))))) && (decide (((IntKind.wrap .i64 ((if (true = true) then (if (((List.length b) : Int) > ((List.length a) : Int)) then ((List.length b) : Int) else ((List.length a) : Int)) else (if (((List.length b) : Int) < ((List.length a) : Int)) then ((List.length b) : Int) else ((List.length a) : Int))) + 1)) * 4) ≤ 140737488355328))) = true then
    (g70_L5 a b (if (true = true) then (if (((List.length b) : Int) > ((List.length a) : Int)) then ((List.length b) : Int) else ((List.length a) : Int)) else (if (((List.length b) : Int) < ((List.length a) : Int)) then ((List.length b) : Int) else ((List.length a) : Int))) 0 (if (true = true) then (if (((List.length b) : Int) > ((List.length a) : Int)) then ((List.length b) : Int) else ((List.length a) : Int)) else (if (((List.length b) : Int) < ((List.length a) : Int)) then ((List.length b) : Int) else ((List.length a) : Int))) 0 (List.replicate (Int.toNat (IntKind.wrap .i64 ((if (true = true) then (if (((List.length b) : Int) > ((List.length a) : Int)) then ((List.length b) : Int) else ((List.length a) : Int)) else (if (((List.length b) : Int) < ((List.length a) : Int)) then ((List.length b) : Int) else ((List.length a) : Int))) + 1))) (0 : Int)))
  else none := (Fn_eq rfl).trans (by kernel_rfl)

noncomputable def g72 : DL [(.sl (.int .u32)), (.sl (.int .u32))] → Option (DL [(.sl (.int .u32))]) := Fn cx72 an72 Try.f72 [(.sl (.int .u32)), (.sl (.int .u32))] [(.sl (.int .u32))]
noncomputable def g72_L4 (t0 : (List Int)) (t1 : (List Int)) (t6 : Int) (t12 : Int) (t13 : Int) (r1026 : List Int) : Option (DL [(.sl (.int .u32))]) := Lp cx72 an72 Try.f72 [(.sl (.int .u32))] [true, true, true, false, true, false] ⟨[.val (.sl (.int .u32)) t0, .val (.sl (.int .u32)) t1, .undef, .undef, .undef, .own 1026 0, .val (.int .u32) t6, .undef, .undef, .undef, .undef, .undef, .val (.int .i64) t12, .val (.int .i64) t13, .undef, .undef, .undef, .undef, .undef, .undef, .undef, .undef, .undef, .undef, .undef, .undef, .undef, .undef, .undef, .undef, .undef, .undef, .undef, .undef], ofL [(1026, (.row 22 (.int .u32) r1026 0, false))], [1026], []⟩
theorem g72_L4_eq (t0 : (List Int)) (t1 : (List Int)) (t6 : Int) (t12 : Int) (t13 : Int) (r1026 : List Int) : g72_L4 t0 t1 t6 t12 t13 r1026 =
  if (decide (t13 < t12)) = true then
    if ((decide (0 ≤ t13)) && (decide (t13 < ((List.length t0) : Int)))) = true then
      Option.bind (h83 (t1, (t13, ()))) fun (y0 : (Int × Unit)) =>
      Option.bind (h92 ((List.getD t0 (Int.toNat t13) 0), (y0.1, (t6, ())))) fun (y1 : (Int × (Int × Unit))) =>
      if ((decide (0 ≤ t13)) && (decide (t13 < ((List.length r1026) : Int)))) = true then
        (g72_L4 t0 t1 y1.2.1 t12 (IntKind.wrap .i64 (t13 + 1)) (List.set r1026 (Int.toNat t13) y1.1))
      else none
    else none
  else Option.bind (h88 (r1026, ())) fun (y2 : ((List Int) × Unit)) =>
  some (y2.1, ()) := (Lp_eq cx72 an72 Try.f72 [(.sl (.int .u32))] [true, true, true, false, true, false] _).trans (by kernel_rfl)
theorem g72_eq (a : (List Int)) (b : (List Int)) : g72 (a, b, ()) =
  if (((decide (0 ≤ ((List.length a) : Int))) && (decide (((List.length a) : Int) ≤ ((List.length a) : Int)))) && (decide ((((List.length a) : Int) * 4) ≤ 140737488355328))) = true then
    (g72_L4 a b 0 ((List.length (List.replicate (Int.toNat ((List.length a) : Int)) (0 : Int))) : Int) 0 (List.replicate (Int.toNat ((List.length a) : Int)) (0 : Int)))
  else none := (Fn_eq rfl).trans (by kernel_rfl)

noncomputable def g73 : DL [(.sl (.int .u32)), (.sl (.int .u32))] → Option (DL [(.sl (.int .u32))]) := Fn cx73 an73 Try.f73 [(.sl (.int .u32)), (.sl (.int .u32))] [(.sl (.int .u32))]
noncomputable def g73_L3 (t1 : (List Int)) (t17 : (List Int)) (t18 : Int) (t19 : Int) (r1029 : List Int) : Option (DL [(.sl (.int .u32))]) := Lp cx73 an73 Try.f73 [(.sl (.int .u32))] [true, true, false, true, false] ⟨[.undef, .val (.sl (.int .u32)) t1, .undef, .undef, .undef, .own 1029 0, .undef, .undef, .undef, .undef, .undef, .undef, .undef, .undef, .undef, .undef, .undef, .val (.sl (.int .u32)) t17, .val (.int .i64) t18, .val (.int .i64) t19, .undef, .undef, .undef, .undef, .undef, .undef, .undef, .undef, .undef, .undef, .undef, .undef, .undef, .undef, .undef, .undef, .undef, .undef, .undef, .undef, .undef, .undef, .undef, .undef, .undef, .undef, .undef, .undef, .undef, .undef, .undef, .undef, .undef, .undef, .undef, .undef, .undef, .undef, .undef, .undef, .undef, .undef, .undef, .undef, .undef, .undef, .undef], ofL [(1029, (.row 22 (.int .u32) r1029 0, false))], [1029], []⟩
noncomputable def g73_L7 (t1 : (List Int)) (t6 : Int) (t7 : Int) (t8 : Int) (t17 : (List Int)) (t18 : Int) (t19 : Int) (t24 : (List Int)) (t25 : Int) (t26 : Int) (r1029 : List Int) : Option (DL [(.sl (.int .u32))]) := Lp cx73 an73 Try.f73 [(.sl (.int .u32))] [true, true, false, true, false, false, true, true, false, false, true, true, false, true, false] ⟨[.undef, .val (.sl (.int .u32)) t1, .undef, .undef, .undef, .own 1029 0, .val (.int .i64) t6, .val (.int .u32) t7, .val (.int .u64) t8, .undef, .undef, .undef, .undef, .undef, .undef, .undef, .undef, .val (.sl (.int .u32)) t17, .val (.int .i64) t18, .val (.int .i64) t19, .undef, .undef, .undef, .undef, .val (.sl (.int .u32)) t24, .val (.int .i64) t25, .val (.int .i64) t26, .undef, .undef, .undef, .undef, .undef, .undef, .undef, .undef, .undef, .undef, .undef, .undef, .undef, .undef, .undef, .undef, .undef, .undef, .undef, .undef, .undef, .undef, .undef, .undef, .undef, .undef, .undef, .undef, .undef, .undef, .undef, .undef, .undef, .undef, .undef, .undef, .undef, .undef, .undef, .undef], ofL [(1029, (.row 22 (.int .u32) r1029 0, false))], [1029], []⟩
theorem g73_L3_eq (t1 : (List Int)) (t17 : (List Int)) (t18 : Int) (t19 : Int) (r1029 : List Int) : g73_L3 t1 t17 t18 t19 r1029 =
  if (decide (t19 < t18)) = true then
    if ((decide (0 ≤ t19)) && (decide (t19 < ((List.length t17) : Int)))) = true then
      (g73_L7 t1 t19 (List.getD t17 (Int.toNat t19) 0) 0 t17 t18 t19 t1 ((List.length t1) : Int) 0 r1029)
    else none
  else Option.bind (h88 (r1029, ())) fun (y0 : ((List Int) × Unit)) =>
  some (y0.1, ()) := (Lp_eq cx73 an73 Try.f73 [(.sl (.int .u32))] [true, true, false, true, false] _).trans (by kernel_rfl)
theorem g73_L7_eq (t1 : (List Int)) (t6 : Int) (t7 : Int) (t8 : Int) (t17 : (List Int)) (t18 : Int) (t19 : Int) (t24 : (List Int)) (t25 : Int) (t26 : Int) (r1029 : List Int) : g73_L7 t1 t6 t7 t8 t17 t18 t19 t24 t25 t26 r1029 =
  if (decide (t26 < t25)) = true then
    if ((decide (0 ≤ t26)) && (decide (t26 < ((List.length t24) : Int)))) = true then
      if ((decide (0 ≤ (IntKind.wrap .i64 (t6 + t26)))) && (decide ((IntKind.wrap .i64 (t6 + t26)) < ((List.length r1029) : Int)))) = true then
        if ((decide (0 ≤ (IntKind.wrap .i64 (t6 + t26)))) && (decide ((IntKind.wrap .i64 (t6 + t26)) < ((List.length r1029) : Int)))) = true then
          (g73_L7 t1 t6 t7 (Int.fdiv (IntKind.wrap .u64 (t8 + (IntKind.wrap .u64 ((IntKind.wrap .u64 ((IntKind.wrap .u64 t7) * (IntKind.wrap .u64 (List.getD t24 (Int.toNat t26) 0)))) + (IntKind.wrap .u64 (List.getD r1029 (Int.toNat (IntKind.wrap .i64 (t6 + t26))) 0)))))) 4294967296) t17 t18 t19 t24 t25 (IntKind.wrap .i64 (t26 + 1)) (List.set r1029 (Int.toNat (IntKind.wrap .i64 (t6 + t26))) (IntKind.wrap .u32 (IntKind.wrap .u64 (t8 + (IntKind.wrap .u64 ((IntKind.wrap .u64 ((IntKind.wrap .u64 t7) * (IntKind.wrap .u64 (List.getD t24 (Int.toNat t26) 0)))) + (IntKind.wrap .u64 (List.getD r1029 (Int.toNat (IntKind.wrap .i64 (t6 + t26))) 0)))))))))
        else none
      else none
    else none
  else if ((decide (0 ≤ (IntKind.wrap .i64 (t6 + ((List.length t1) : Int))))) && (decide ((IntKind.wrap .i64 (t6 + ((List.length t1) : Int))) < ((List.length r1029) : Int)))) = true then
    (g73_L3 t1 t17 t18 (IntKind.wrap .i64 (t19 + 1)) (List.set r1029 (Int.toNat (IntKind.wrap .i64 (t6 + ((List.length t1) : Int)))) (IntKind.wrap .u32 t8)))
  else none := (Lp_eq cx73 an73 Try.f73 [(.sl (.int .u32))] [true, true, false, true, false, false, true, true, false, false, true, true, false, true, false] _).trans (by kernel_rfl)
theorem g73_eq (a : (List Int)) (b : (List Int)) : g73 (a, b, ()) =
  if (((decide (0 ≤ (IntKind.wrap .i64 (((List.length a) : Int) + ((List.length b) : Int))))) && (decide ((IntKind.wrap .i64 (((List.length a) : Int) + ((List.length b) : Int))) ≤ (IntKind.wrap .i64 (((List.length a) : Int) + ((List.length b) : Int)))))) && (decide (((IntKind.wrap .i64 (((List.length a) : Int) + ((List.length b) : Int))) * 4) ≤ 140737488355328))) = true then
    (g73_L3 b a ((List.length a) : Int) 0 (List.replicate (Int.toNat (IntKind.wrap .i64 (((List.length a) : Int) + ((List.length b) : Int)))) (0 : Int)))
  else none := (Fn_eq rfl).trans (by kernel_rfl)

noncomputable def g76 : DL [(.pair .bool (.pair (.sl (.int .u32)) .unit))] → Option (DL [(.int .i64)]) := Fn cx76 an76 Try.f76 [(.pair .bool (.pair (.sl (.int .u32)) .unit))] [(.int .i64)]
theorem g76_eq (a : (Bool × ((List Int) × Unit))) : g76 (a, ()) =
  if (((List.length a.2.1) : Int) == 0) = true then
    some (0, ())
  else if ((decide (0 ≤ (IntKind.wrap .i64 (((List.length a.2.1) : Int) - 1)))) && (decide ((IntKind.wrap .i64 (((List.length a.2.1) : Int) - 1)) < ((List.length a.2.1) : Int)))) = true then
    Option.bind (h98 ((List.getD a.2.1 (Int.toNat (IntKind.wrap .i64 (((List.length a.2.1) : Int) - 1))) 0), ())) fun (y0 : (Int × Unit)) =>
    some ((IntKind.wrap .i64 ((IntKind.wrap .i64 (32 * (IntKind.wrap .i64 (((List.length a.2.1) : Int) - 1)))) + y0.1)), ())
  else none := (Fn_eq rfl).trans (by kernel_rfl)

noncomputable def g78 : DL [(.int .i64), (.int .i64)] → Option (DL [(.int .i64)]) := Fn cx78 an78 Try.f78 [(.int .i64), (.int .i64)] [(.int .i64)]
theorem g78_eq (a : Int) (b : Int) : g78 (a, b, ()) =
  Option.bind (h100 (a, ())) fun (y0 : (Bool × Unit)) =>
  Option.bind (h100 (b, ())) fun (y1 : (Bool × Unit)) =>
  if y0.1 = true then
    if y1.1 = true then
      some (0, ())
    else some ((-1), ())
  else if y1.1 = true then
    some (1, ())
  else if (decide (a < b)) = true then
    some ((-1), ())
  else if (decide (a > b)) = true then
    some (1, ())
  else some (0, ()) := (Fn_eq rfl).trans (by kernel_rfl)

noncomputable def g84 : DL [(.sl (.int .u32)), (.int .u64)] → Option (DL [(.sl (.int .u32)), (.int .u64)]) := Fn cx84 an84 Try.f84 [(.sl (.int .u32)), (.int .u64)] [(.sl (.int .u32)), (.int .u64)]
noncomputable def g84_L4 (t0 : (List Int)) (t1 : Int) (t7 : Int) (t8 : Int) (r1026 : List Int) : Option (DL [(.sl (.int .u32)), (.int .u64)]) := Lp cx84 an84 Try.f84 [(.sl (.int .u32)), (.int .u64)] [true, true, true, false, true, false] ⟨[.val (.sl (.int .u32)) t0, .val (.int .u64) t1, .undef, .undef, .undef, .undef, .own 1026 0, .val (.int .u64) t7, .val (.int .i64) t8, .undef, .undef, .undef, .undef, .undef, .undef, .undef, .undef, .undef, .undef, .undef, .undef, .undef, .undef, .undef, .undef, .undef, .undef, .undef, .undef, .undef, .undef, .undef, .undef, .undef, .undef, .undef, .undef, .undef, .undef, .undef, .undef], ofL [(1026, (.row 22 (.int .u32) r1026 0, false))], [1026], []⟩
theorem g84_L4_eq (t0 : (List Int)) (t1 : Int) (t7 : Int) (t8 : Int) (r1026 : List Int) : g84_L4 t0 t1 t7 t8 r1026 =
  if (decide (t8 ≥ 0)) = true then
    if ((decide (0 ≤ t8)) && (decide (t8 < ((List.length t0) : Int)))) = true then
      if (t1 == 0) = true then
        none
      else if ((decide (0 ≤ t8)) && (decide (t8 < ((List.length r1026) : Int)))) = true then
        if (t1 == 0) = true then
          none
        else (g84_L4 t0 t1 (Int.tmod (IntKind.wrap .u64 ((IntKind.wrap .u64 (t7 * 4294967296)) + (IntKind.wrap .u64 (List.getD t0 (Int.toNat t8) 0)))) t1) (IntKind.wrap .i64 (t8 - 1)) (List.set r1026 (Int.toNat t8) (IntKind.wrap .u32 (IntKind.wrap .u64 (Int.tdiv (IntKind.wrap .u64 ((IntKind.wrap .u64 (t7 * 4294967296)) + (IntKind.wrap .u64 (List.getD t0 (Int.toNat t8) 0)))) t1)))))
      else none
    else none
  else Option.bind (h74 (r1026, ())) fun (y0 : ((List Int) × Unit)) =>
  some (y0.1, (t7, ())) := (Lp_eq cx84 an84 Try.f84 [(.sl (.int .u32)), (.int .u64)] [true, true, true, false, true, false] _).trans (by kernel_rfl)
theorem g84_eq (a : (List Int)) (b : Int) : g84 (a, b, ()) =
  if (((decide (0 ≤ ((List.length a) : Int))) && (decide (((List.length a) : Int) ≤ ((List.length a) : Int)))) && (decide ((((List.length a) : Int) * 4) ≤ 140737488355328))) = true then
    (g84_L4 a b 0 (IntKind.wrap .i64 (((List.length a) : Int) - 1)) (List.replicate (Int.toNat ((List.length a) : Int)) (0 : Int)))
  else none := (Fn_eq rfl).trans (by kernel_rfl)

noncomputable def g91 : DL [(.int .u32), (.int .u32)] → Option (DL [(.int .i64)]) := Fn cx91 an91 Try.f91 [(.int .u32), (.int .u32)] [(.int .i64)]
theorem g91_eq (a : Int) (b : Int) : g91 (a, b, ()) =
  Option.bind (h102 (a, ())) fun (y0 : (Bool × Unit)) =>
  Option.bind (h102 (b, ())) fun (y1 : (Bool × Unit)) =>
  if y0.1 = true then
    if y1.1 = true then
      some (0, ())
    else some ((-1), ())
  else if y1.1 = true then
    some (1, ())
  else if (decide (a < b)) = true then
    some ((-1), ())
  else if (decide (a > b)) = true then
    some (1, ())
  else some (0, ()) := (Fn_eq rfl).trans (by kernel_rfl)

noncomputable def g93 : DL [(.sl (.int .u32)), (.int .u32)] → Option (DL [(.sl (.int .u32)), (.int .u32)]) := Fn cx93 an93 Try.f93 [(.sl (.int .u32)), (.int .u32)] [(.sl (.int .u32)), (.int .u32)]
noncomputable def g93_L4 (t0 : (List Int)) (t1 : Int) (t7 : Int) (t14 : Int) (t15 : Int) (r1026 : List Int) : Option (DL [(.sl (.int .u32)), (.int .u32)]) := Lp cx93 an93 Try.f93 [(.sl (.int .u32)), (.int .u32)] [true, true, true, false, true, false] ⟨[.val (.sl (.int .u32)) t0, .val (.int .u32) t1, .undef, .undef, .undef, .undef, .own 1026 0, .val (.int .u32) t7, .undef, .undef, .undef, .undef, .undef, .undef, .val (.int .i64) t14, .val (.int .i64) t15, .undef, .undef, .undef, .undef, .undef, .undef, .undef, .undef, .undef, .undef, .undef, .undef, .undef, .undef, .undef, .undef, .undef, .undef, .undef, .undef, .undef, .undef, .undef, .undef], ofL [(1026, (.row 22 (.int .u32) r1026 0, false))], [1026], []⟩
theorem g93_L4_eq (t0 : (List Int)) (t1 : Int) (t7 : Int) (t14 : Int) (t15 : Int) (r1026 : List Int) : g93_L4 t0 t1 t7 t14 t15 r1026 =
  if (decide (t15 < t14)) = true then
    if ((decide (0 ≤ (IntKind.wrap .i64 ((IntKind.wrap .i64 (((List.length t0) : Int) - 1)) - t15)))) && (decide ((IntKind.wrap .i64 ((IntKind.wrap .i64 (((List.length t0) : Int) - 1)) - t15)) < ((List.length t0) : Int)))) = true then
      Option.bind (h103 (t7, ((List.getD t0 (Int.toNat (IntKind.wrap .i64 ((IntKind.wrap .i64 (((List.length t0) : Int) - 1)) - t15))) 0), (t1, ())))) fun (y0 : (Int × (Int × Unit))) =>
      if ((decide (0 ≤ (IntKind.wrap .i64 ((IntKind.wrap .i64 (((List.length t0) : Int) - 1)) - t15)))) && (decide ((IntKind.wrap .i64 ((IntKind.wrap .i64 (((List.length t0) : Int) - 1)) - t15)) < ((List.length r1026) : Int)))) = true then
        (g93_L4 t0 t1 y0.2.1 t14 (IntKind.wrap .i64 (t15 + 1)) (List.set r1026 (Int.toNat (IntKind.wrap .i64 ((IntKind.wrap .i64 (((List.length t0) : Int) - 1)) - t15))) y0.1))
      else none
    else none
  else Option.bind (h88 (r1026, ())) fun (y1 : ((List Int) × Unit)) =>
  some (y1.1, (t7, ())) := (Lp_eq cx93 an93 Try.f93 [(.sl (.int .u32)), (.int .u32)] [true, true, true, false, true, false] _).trans (by kernel_rfl)
theorem g93_eq (a : (List Int)) (b : Int) : g93 (a, b, ()) =
  if (((decide (0 ≤ ((List.length a) : Int))) && (decide (((List.length a) : Int) ≤ ((List.length a) : Int)))) && (decide ((((List.length a) : Int) * 4) ≤ 140737488355328))) = true then
    (g93_L4 a b 0 ((List.length a) : Int) 0 (List.replicate (Int.toNat ((List.length a) : Int)) (0 : Int)))
  else none := (Fn_eq rfl).trans (by kernel_rfl)

noncomputable def g94 : DL [(.int .u32)] → Option (DL [(.int .i64)]) := Fn cx94 an94 Try.f94 [(.int .u32)] [(.int .i64)]
theorem g94_eq (a : Int) : g94 (a, ()) =
  Option.bind (h98 (a, ())) fun (y0 : (Int × Unit)) =>
  some ((IntKind.wrap .i64 (32 - y0.1)), ()) := (Fn_eq rfl).trans (by kernel_rfl)

noncomputable def g97 : DL [(.sl (.int .u32)), (.int .i64)] → Option (DL [(.sl (.int .u32))]) := Fn cx97 an97 Try.f97 [(.sl (.int .u32)), (.int .i64)] [(.sl (.int .u32))]
noncomputable def g97_L3 (t0 : (List Int)) (t1 : Int) (t11 : Int) (t12 : Int) (r1026 : List Int) : Option (DL [(.sl (.int .u32))]) := Lp cx97 an97 Try.f97 [(.sl (.int .u32))] [true, true, false, true, false] ⟨[.val (.sl (.int .u32)) t0, .val (.int .i64) t1, .undef, .undef, .undef, .own 1026 0, .undef, .undef, .undef, .undef, .undef, .val (.int .i64) t11, .val (.int .i64) t12, .undef, .undef, .undef, .undef, .undef, .undef, .undef, .undef, .undef, .undef, .undef, .undef, .undef, .undef, .undef, .undef, .undef, .undef, .undef, .undef, .undef, .undef, .undef], ofL [(1026, (.row 22 (.int .u32) r1026 0, false))], [1026], []⟩
theorem g97_L3_eq (t0 : (List Int)) (t1 : Int) (t11 : Int) (t12 : Int) (r1026 : List Int) : g97_L3 t0 t1 t11 t12 r1026 =
  if (decide (t12 < t11)) = true then
    Option.bind (h83 (t0, ((IntKind.wrap .i64 (t12 + 1)), ()))) fun (y0 : (Int × Unit)) =>
    if ((decide (0 ≤ t12)) && (decide (t12 < ((List.length t0) : Int)))) = true then
      if (decide (t1 < 0)) = true then
        none
      else if ((decide (0 ≤ t12)) && (decide (t12 < ((List.length r1026) : Int)))) = true then
        (g97_L3 t0 t1 t11 (IntKind.wrap .i64 (t12 + 1)) (List.set r1026 (Int.toNat t12) (IntKind.wrap .u32 (Int.fdiv (IntKind.wrap .u64 ((BitVec.toNat ((BitVec.ofInt 64 (IntKind.wrap .u64 ((IntKind.wrap .u64 y0.1) * 4294967296))) ||| (BitVec.ofInt 64 (IntKind.wrap .u64 (List.getD t0 (Int.toNat t12) 0))))) : Int)) (2 ^ (min (Int.toNat t1) 64))))))
      else none
    else none
  else Option.bind (h88 (r1026, ())) fun (y1 : ((List Int) × Unit)) =>
  some (y1.1, ()) := (Lp_eq cx97 an97 Try.f97 [(.sl (.int .u32))] [true, true, false, true, false] _).trans (by kernel_rfl)
theorem g97_eq (a : (List Int)) (b : Int) : g97 (a, b, ()) =
  if (((decide (0 ≤ ((List.length a) : Int))) && (decide (((List.length a) : Int) ≤ ((List.length a) : Int)))) && (decide ((((List.length a) : Int) * 4) ≤ 140737488355328))) = true then
    (g97_L3 a b ((List.length a) : Int) 0 (List.replicate (Int.toNat ((List.length a) : Int)) (0 : Int)))
  else none := (Fn_eq rfl).trans (by kernel_rfl)

noncomputable def g99 : DL [(.int .u64)] → Option (DL [(.int .i64)]) := Fn cx99 an99 Try.f99 [(.int .u64)] [(.int .i64)]
theorem g99_eq (a : Int) : g99 (a, ()) =
  Option.bind (h104 (a, ())) fun (y0 : (Int × Unit)) =>
  some (y0.1, ()) := (Fn_eq rfl).trans (by kernel_rfl)


theorem so12 : SigsOk Try.prog cx12 := ⟨(lookAll_cons s14 lookAll_nil), lookAll_nil, lookAll_nil⟩
theorem in12 : ∀ f p, look cx12.inl f = some p → Try.prog.funcs[f]? = some p.1 ∧ (p.1.name == "runtime.NumGoroutine") = false := lookAll_nil
theorem ok12 {h : DL [(.int .u64)] → Option (DL [(.int .u64), (.int .i64)])} (hw : ∀ x r, h x = some r → g12 x = some r) : SigOk Try.prog 12 ⟨[(.int .u64)], [(.int .u64), (.int .i64)], h⟩ := (Fn_ok (anns := an12) mixed T_ok so12 in12 (f := 12) (fn := Try.f12) rfl rfl rfl [(.int .u64)] [(.int .u64), (.int .i64)]).weaken hw

theorem so13 : SigsOk Try.prog cx13 := ⟨(lookAll_cons s20 (lookAll_cons s38 lookAll_nil)), lookAll_nil, lookAll_nil⟩
theorem in13 : ∀ f p, look cx13.inl f = some p → Try.prog.funcs[f]? = some p.1 ∧ (p.1.name == "runtime.NumGoroutine") = false := lookAll_nil
theorem ok13 {h : DL [(.int .u64)] → Option (DL [.bool])} (hw : ∀ x r, h x = some r → g13 x = some r) : SigOk Try.prog 13 ⟨[(.int .u64)], [.bool], h⟩ := (Fn_ok (anns := an13) mixed T_ok so13 in13 (f := 13) (fn := Try.f13) rfl rfl rfl [(.int .u64)] [.bool]).weaken hw

theorem so17 : SigsOk Try.prog cx17 := ⟨(lookAll_cons s21 lookAll_nil), lookAll_nil, lookAll_nil⟩
theorem in17 : ∀ f p, look cx17.inl f = some p → Try.prog.funcs[f]? = some p.1 ∧ (p.1.name == "runtime.NumGoroutine") = false := lookAll_nil
theorem ok17 {h : DL [(.int .u64), (.int .u64)] → Option (DL [(.int .u64), (.int .i64)])} (hw : ∀ x r, h x = some r → g17 x = some r) : SigOk Try.prog 17 ⟨[(.int .u64), (.int .u64)], [(.int .u64), (.int .i64)], h⟩ := (Fn_ok (anns := an17) mixed T_ok so17 in17 (f := 17) (fn := Try.f17) rfl rfl rfl [(.int .u64), (.int .u64)] [(.int .u64), (.int .i64)]).weaken hw

theorem so32 : SigsOk Try.prog cx32 := ⟨(lookAll_cons s50 lookAll_nil), lookAll_nil, lookAll_nil⟩
theorem in32 : ∀ f p, look cx32.inl f = some p → Try.prog.funcs[f]? = some p.1 ∧ (p.1.name == "runtime.NumGoroutine") = false := lookAll_nil
theorem ok32 {h : DL [(.pair .bool (.pair (.sl (.int .u32)) .unit)), (.pair .bool (.pair (.sl (.int .u32)) .unit))] → Option (DL [(.int .i64)])} (hw : ∀ x r, h x = some r → g32 x = some r) : SigOk Try.prog 32 ⟨[(.pair .bool (.pair (.sl (.int .u32)) .unit)), (.pair .bool (.pair (.sl (.int .u32)) .unit))], [(.int .i64)], h⟩ := (Fn_ok (anns := an32) mixed T_ok so32 in32 (f := 32) (fn := Try.f32) rfl rfl rfl [(.pair .bool (.pair (.sl (.int .u32)) .unit)), (.pair .bool (.pair (.sl (.int .u32)) .unit))] [(.int .i64)]).weaken hw

theorem so47 : SigsOk Try.prog cx47 := ⟨(lookAll_cons s74 lookAll_nil), lookAll_nil, lookAll_nil⟩
theorem in47 : ∀ f p, look cx47.inl f = some p → Try.prog.funcs[f]? = some p.1 ∧ (p.1.name == "runtime.NumGoroutine") = false := lookAll_nil
theorem ok47 {h : DL [.bool, (.sl (.int .u32))] → Option (DL [(.pair .bool (.pair (.sl (.int .u32)) .unit))])} (hw : ∀ x r, h x = some r → g47 x = some r) : SigOk Try.prog 47 ⟨[.bool, (.sl (.int .u32))], [(.pair .bool (.pair (.sl (.int .u32)) .unit))], h⟩ := (Fn_ok (anns := an47) mixed T_ok so47 in47 (f := 47) (fn := Try.f47) rfl rfl rfl [.bool, (.sl (.int .u32))] [(.pair .bool (.pair (.sl (.int .u32)) .unit))]).weaken hw

theorem so48 : SigsOk Try.prog cx48 := ⟨(lookAll_cons s74 lookAll_nil), lookAll_nil, lookAll_nil⟩
theorem in48 : ∀ f p, look cx48.inl f = some p → Try.prog.funcs[f]? = some p.1 ∧ (p.1.name == "runtime.NumGoroutine") = false := lookAll_nil
theorem ok48 {h : DL [(.int .u64)] → Option (DL [(.sl (.int .u32))])} (hw : ∀ x r, h x = some r → g48 x = some r) : SigOk Try.prog 48 ⟨[(.int .u64)], [(.sl (.int .u32))], h⟩ := (Fn_ok (anns := an48) mixed T_ok so48 in48 (f := 48) (fn := Try.f48) rfl rfl rfl [(.int .u64)] [(.sl (.int .u32))]).weaken hw

theorem so49 : SigsOk Try.prog cx49 := ⟨(lookAll_cons s74 lookAll_nil), lookAll_nil, lookAll_nil⟩
theorem in49 : ∀ f p, look cx49.inl f = some p → Try.prog.funcs[f]? = some p.1 ∧ (p.1.name == "runtime.NumGoroutine") = false := lookAll_nil
theorem ok49 {h : DL [(.sl (.int .u32)), (.sl (.int .u32))] → Option (DL [(.sl (.int .u32))])} (hw : ∀ x r, h x = some r → g49 x = some r) : SigOk Try.prog 49 ⟨[(.sl (.int .u32)), (.sl (.int .u32))], [(.sl (.int .u32))], h⟩ := (Fn_ok (anns := an49) mixed T_ok so49 in49 (f := 49) (fn := Try.f49) rfl rfl rfl [(.sl (.int .u32)), (.sl (.int .u32))] [(.sl (.int .u32))]).weaken hw

theorem so62 : SigsOk Try.prog cx62 := ⟨(lookAll_cons s74 (lookAll_cons s82 lookAll_nil)), lookAll_nil, lookAll_nil⟩
theorem in62 : ∀ f p, look cx62.inl f = some p → Try.prog.funcs[f]? = some p.1 ∧ (p.1.name == "runtime.NumGoroutine") = false := lookAll_nil
theorem ok62 {h : DL [(.sl (.int .u32)), (.sl (.int .u32))] → Option (DL [(.sl (.int .u32))])} (hw : ∀ x r, h x = some r → g62 x = some r) : SigOk Try.prog 62 ⟨[(.sl (.int .u32)), (.sl (.int .u32))], [(.sl (.int .u32))], h⟩ := (Fn_ok (anns := an62) mixed T_ok so62 in62 (f := 62) (fn := Try.f62) rfl rfl rfl [(.sl (.int .u32)), (.sl (.int .u32))] [(.sl (.int .u32))]).weaken hw

theorem so63 : SigsOk Try.prog cx63 := ⟨(lookAll_cons s74 (lookAll_cons s82 lookAll_nil)), lookAll_nil, lookAll_nil⟩
theorem in63 : ∀ f p, look cx63.inl f = some p → Try.prog.funcs[f]? = some p.1 ∧ (p.1.name == "runtime.NumGoroutine") = false := lookAll_nil
theorem ok63 {h : DL [(.sl (.int .u32)), (.sl (.int .u32))] → Option (DL [(.sl (.int .u32))])} (hw : ∀ x r, h x = some r → g63 x = some r) : SigOk Try.prog 63 ⟨[(.sl (.int .u32)), (.sl (.int .u32))], [(.sl (.int .u32))], h⟩ := (Fn_ok (anns := an63) mixed T_ok so63 in63 (f := 63) (fn := Try.f63) rfl rfl rfl [(.sl (.int .u32)), (.sl (.int .u32))] [(.sl (.int .u32))]).weaken hw

theorem so65 : SigsOk Try.prog cx65 := ⟨(lookAll_cons s83 lookAll_nil), lookAll_nil, lookAll_nil⟩
theorem in65 : ∀ f p, look cx65.inl f = some p → Try.prog.funcs[f]? = some p.1 ∧ (p.1.name == "runtime.NumGoroutine") = false := lookAll_nil
theorem ok65 {h : DL [(.pair .bool (.pair (.sl (.int .u32)) .unit))] → Option (DL [(.int .i64), .bool])} (hw : ∀ x r, h x = some r → g65 x = some r) : SigOk Try.prog 65 ⟨[(.pair .bool (.pair (.sl (.int .u32)) .unit))], [(.int .i64), .bool], h⟩ := (Fn_ok (anns := an65) mixed T_ok so65 in65 (f := 65) (fn := Try.f65) rfl rfl rfl [(.pair .bool (.pair (.sl (.int .u32)) .unit))] [(.int .i64), .bool]).weaken hw

theorem so67 : SigsOk Try.prog cx67 := ⟨(lookAll_cons s82 lookAll_nil), lookAll_nil, lookAll_nil⟩
theorem in67 : ∀ f p, look cx67.inl f = some p → Try.prog.funcs[f]? = some p.1 ∧ (p.1.name == "runtime.NumGoroutine") = false := lookAll_nil
theorem ok67 {h : DL [(.sl (.int .u32))] → Option (DL [(.int .u64)])} (hw : ∀ x r, h x = some r → g67 x = some r) : SigOk Try.prog 67 ⟨[(.sl (.int .u32))], [(.int .u64)], h⟩ := (Fn_ok (anns := an67) mixed T_ok so67 in67 (f := 67) (fn := Try.f67) rfl rfl rfl [(.sl (.int .u32))] [(.int .u64)]).weaken hw

theorem so68 : SigsOk Try.prog cx68 := ⟨(lookAll_cons s88 lookAll_nil), lookAll_nil, lookAll_nil⟩
theorem in68 : ∀ f p, look cx68.inl f = some p → Try.prog.funcs[f]? = some p.1 ∧ (p.1.name == "runtime.NumGoroutine") = false := lookAll_nil
theorem ok68 {h : DL [(.int .u64)] → Option (DL [(.sl (.int .u32))])} (hw : ∀ x r, h x = some r → g68 x = some r) : SigOk Try.prog 68 ⟨[(.int .u64)], [(.sl (.int .u32))], h⟩ := (Fn_ok (anns := an68) mixed T_ok so68 in68 (f := 68) (fn := Try.f68) rfl rfl rfl [(.int .u64)] [(.sl (.int .u32))]).weaken hw

theorem so69 : SigsOk Try.prog cx69 := ⟨(lookAll_cons s88 (lookAll_cons s89 lookAll_nil)), lookAll_nil, lookAll_nil⟩
theorem in69 : ∀ f p, look cx69.inl f = some p → Try.prog.funcs[f]? = some p.1 ∧ (p.1.name == "runtime.NumGoroutine") = false := lookAll_nil
theorem ok69 {h : DL [(.sl (.int .u32)), .bool] → Option (DL [(.pair .bool (.pair (.sl (.int .u32)) .unit))])} (hw : ∀ x r, h x = some r → g69 x = some r) : SigOk Try.prog 69 ⟨[(.sl (.int .u32)), .bool], [(.pair .bool (.pair (.sl (.int .u32)) .unit))], h⟩ := (Fn_ok (anns := an69) mixed T_ok so69 in69 (f := 69) (fn := Try.f69) rfl rfl rfl [(.sl (.int .u32)), .bool] [(.pair .bool (.pair (.sl (.int .u32)) .unit))]).weaken hw

theorem so70 : SigsOk Try.prog cx70 := ⟨(lookAll_cons s83 (lookAll_cons s88 (lookAll_cons s90 lookAll_nil))), lookAll_nil, lookAll_nil⟩
theorem in70 : ∀ f p, look cx70.inl f = some p → Try.prog.funcs[f]? = some p.1 ∧ (p.1.name == "runtime.NumGoroutine") = false := lookAll_nil
theorem ok70 {h : DL [(.sl (.int .u32)), (.sl (.int .u32))] → Option (DL [(.sl (.int .u32))])} (hw : ∀ x r, h x = some r → g70 x = some r) : SigOk Try.prog 70 ⟨[(.sl (.int .u32)), (.sl (.int .u32))], [(.sl (.int .u32))], h⟩ := (Fn_ok (anns := an70) mixed T_ok so70 in70 (f := 70) (fn := Try.f70) rfl rfl rfl [(.sl (.int .u32)), (.sl (.int .u32))] [(.sl (.int .u32))]).weaken hw

theorem so72 : SigsOk Try.prog cx72 := ⟨(lookAll_cons s83 (lookAll_cons s88 (lookAll_cons s92 lookAll_nil))), lookAll_nil, lookAll_nil⟩
theorem in72 : ∀ f p, look cx72.inl f = some p → Try.prog.funcs[f]? = some p.1 ∧ (p.1.name == "runtime.NumGoroutine") = false := lookAll_nil
theorem ok72 {h : DL [(.sl (.int .u32)), (.sl (.int .u32))] → Option (DL [(.sl (.int .u32))])} (hw : ∀ x r, h x = some r → g72 x = some r) : SigOk Try.prog 72 ⟨[(.sl (.int .u32)), (.sl (.int .u32))], [(.sl (.int .u32))], h⟩ := (Fn_ok (anns := an72) mixed T_ok so72 in72 (f := 72) (fn := Try.f72) rfl rfl rfl [(.sl (.int .u32)), (.sl (.int .u32))] [(.sl (.int .u32))]).weaken hw

theorem so73 : SigsOk Try.prog cx73 := ⟨(lookAll_cons s88 lookAll_nil), lookAll_nil, lookAll_nil⟩
theorem in73 : ∀ f p, look cx73.inl f = some p → Try.prog.funcs[f]? = some p.1 ∧ (p.1.name == "runtime.NumGoroutine") = false := lookAll_nil
theorem ok73 {h : DL [(.sl (.int .u32)), (.sl (.int .u32))] → Option (DL [(.sl (.int .u32))])} (hw : ∀ x r, h x = some r → g73 x = some r) : SigOk Try.prog 73 ⟨[(.sl (.int .u32)), (.sl (.int .u32))], [(.sl (.int .u32))], h⟩ := (Fn_ok (anns := an73) mixed T_ok so73 in73 (f := 73) (fn := Try.f73) rfl rfl rfl [(.sl (.int .u32)), (.sl (.int .u32))] [(.sl (.int .u32))]).weaken hw

theorem so76 : SigsOk Try.prog cx76 := ⟨(lookAll_cons s98 lookAll_nil), lookAll_nil, lookAll_nil⟩
theorem in76 : ∀ f p, look cx76.inl f = some p → Try.prog.funcs[f]? = some p.1 ∧ (p.1.name == "runtime.NumGoroutine") = false := lookAll_nil
theorem ok76 {h : DL [(.pair .bool (.pair (.sl (.int .u32)) .unit))] → Option (DL [(.int .i64)])} (hw : ∀ x r, h x = some r → g76 x = some r) : SigOk Try.prog 76 ⟨[(.pair .bool (.pair (.sl (.int .u32)) .unit))], [(.int .i64)], h⟩ := (Fn_ok (anns := an76) mixed T_ok so76 in76 (f := 76) (fn := Try.f76) rfl rfl rfl [(.pair .bool (.pair (.sl (.int .u32)) .unit))] [(.int .i64)]).weaken hw

theorem so78 : SigsOk Try.prog cx78 := ⟨(lookAll_cons s100 lookAll_nil), lookAll_nil, lookAll_nil⟩
theorem in78 : ∀ f p, look cx78.inl f = some p → Try.prog.funcs[f]? = some p.1 ∧ (p.1.name == "runtime.NumGoroutine") = false := lookAll_nil
theorem ok78 {h : DL [(.int .i64), (.int .i64)] → Option (DL [(.int .i64)])} (hw : ∀ x r, h x = some r → g78 x = some r) : SigOk Try.prog 78 ⟨[(.int .i64), (.int .i64)], [(.int .i64)], h⟩ := (Fn_ok (anns := an78) mixed T_ok so78 in78 (f := 78) (fn := Try.f78) rfl rfl rfl [(.int .i64), (.int .i64)] [(.int .i64)]).weaken hw

theorem so84 : SigsOk Try.prog cx84 := ⟨(lookAll_cons s74 lookAll_nil), lookAll_nil, lookAll_nil⟩
theorem in84 : ∀ f p, look cx84.inl f = some p → Try.prog.funcs[f]? = some p.1 ∧ (p.1.name == "runtime.NumGoroutine") = false := lookAll_nil
theorem ok84 {h : DL [(.sl (.int .u32)), (.int .u64)] → Option (DL [(.sl (.int .u32)), (.int .u64)])} (hw : ∀ x r, h x = some r → g84 x = some r) : SigOk Try.prog 84 ⟨[(.sl (.int .u32)), (.int .u64)], [(.sl (.int .u32)), (.int .u64)], h⟩ := (Fn_ok (anns := an84) mixed T_ok so84 in84 (f := 84) (fn := Try.f84) rfl rfl rfl [(.sl (.int .u32)), (.int .u64)] [(.sl (.int .u32)), (.int .u64)]).weaken hw

theorem so91 : SigsOk Try.prog cx91 := ⟨(lookAll_cons s102 lookAll_nil), lookAll_nil, lookAll_nil⟩
theorem in91 : ∀ f p, look cx91.inl f = some p → Try.prog.funcs[f]? = some p.1 ∧ (p.1.name == "runtime.NumGoroutine") = false := lookAll_nil
theorem ok91 {h : DL [(.int .u32), (.int .u32)] → Option (DL [(.int .i64)])} (hw : ∀ x r, h x = some r → g91 x = some r) : SigOk Try.prog 91 ⟨[(.int .u32), (.int .u32)], [(.int .i64)], h⟩ := (Fn_ok (anns := an91) mixed T_ok so91 in91 (f := 91) (fn := Try.f91) rfl rfl rfl [(.int .u32), (.int .u32)] [(.int .i64)]).weaken hw

theorem so93 : SigsOk Try.prog cx93 := ⟨(lookAll_cons s88 (lookAll_cons s103 lookAll_nil)), lookAll_nil, lookAll_nil⟩
theorem in93 : ∀ f p, look cx93.inl f = some p → Try.prog.funcs[f]? = some p.1 ∧ (p.1.name == "runtime.NumGoroutine") = false := lookAll_nil
theorem ok93 {h : DL [(.sl (.int .u32)), (.int .u32)] → Option (DL [(.sl (.int .u32)), (.int .u32)])} (hw : ∀ x r, h x = some r → g93 x = some r) : SigOk Try.prog 93 ⟨[(.sl (.int .u32)), (.int .u32)], [(.sl (.int .u32)), (.int .u32)], h⟩ := (Fn_ok (anns := an93) mixed T_ok so93 in93 (f := 93) (fn := Try.f93) rfl rfl rfl [(.sl (.int .u32)), (.int .u32)] [(.sl (.int .u32)), (.int .u32)]).weaken hw

theorem so94 : SigsOk Try.prog cx94 := ⟨(lookAll_cons s98 lookAll_nil), lookAll_nil, lookAll_nil⟩
theorem in94 : ∀ f p, look cx94.inl f = some p → Try.prog.funcs[f]? = some p.1 ∧ (p.1.name == "runtime.NumGoroutine") = false := lookAll_nil
theorem ok94 {h : DL [(.int .u32)] → Option (DL [(.int .i64)])} (hw : ∀ x r, h x = some r → g94 x = some r) : SigOk Try.prog 94 ⟨[(.int .u32)], [(.int .i64)], h⟩ := (Fn_ok (anns := an94) mixed T_ok so94 in94 (f := 94) (fn := Try.f94) rfl rfl rfl [(.int .u32)] [(.int .i64)]).weaken hw

theorem so97 : SigsOk Try.prog cx97 := ⟨(lookAll_cons s83 (lookAll_cons s88 lookAll_nil)), lookAll_nil, lookAll_nil⟩
theorem in97 : ∀ f p, look cx97.inl f = some p → Try.prog.funcs[f]? = some p.1 ∧ (p.1.name == "runtime.NumGoroutine") = false := lookAll_nil
theorem ok97 {h : DL [(.sl (.int .u32)), (.int .i64)] → Option (DL [(.sl (.int .u32))])} (hw : ∀ x r, h x = some r → g97 x = some r) : SigOk Try.prog 97 ⟨[(.sl (.int .u32)), (.int .i64)], [(.sl (.int .u32))], h⟩ := (Fn_ok (anns := an97) mixed T_ok so97 in97 (f := 97) (fn := Try.f97) rfl rfl rfl [(.sl (.int .u32)), (.int .i64)] [(.sl (.int .u32))]).weaken hw

theorem so99 : SigsOk Try.prog cx99 := ⟨(lookAll_cons s98 (lookAll_cons s104 lookAll_nil)), lookAll_nil, lookAll_nil⟩
theorem in99 : ∀ f p, look cx99.inl f = some p → Try.prog.funcs[f]? = some p.1 ∧ (p.1.name == "runtime.NumGoroutine") = false := lookAll_nil
theorem ok99 {h : DL [(.int .u64)] → Option (DL [(.int .i64)])} (hw : ∀ x r, h x = some r → g99 x = some r) : SigOk Try.prog 99 ⟨[(.int .u64)], [(.int .i64)], h⟩ := (Fn_ok (anns := an99) mixed T_ok so99 in99 (f := 99) (fn := Try.f99) rfl rfl rfl [(.int .u64)] [(.int .i64)]).weaken hw

end Go.Refl.S3
