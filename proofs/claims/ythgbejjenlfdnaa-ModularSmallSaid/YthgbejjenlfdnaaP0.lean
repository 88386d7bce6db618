/-
  PRINTED BY PROGRAM: what the bodies of some functions compute, loop by loop; each equation is checked by the kernel.
-/
import Derived.Test.YthgbejjenlfdnaaNum
import Derived.KernelRfl
set_option linter.unusedVariables false
set_option maxRecDepth 100000
namespace Go.Refl.S3
open Go Go.Refl Go.Proofs

noncomputable def cx0 : Cx := { types := T, sigs := [], muts := [] }
def an14 : List (Nat × Ann) := [(4, { keep := 9 })]
def an16 : List (Nat × Ann) := [(4, { keep := 962 })]
def an20 : List (Nat × Ann) := [(2, { keep := 135 })]
def an21 : List (Nat × Ann) := [(4, { keep := 900 })]
def an29 : List (Nat × Ann) := []
def an30 : List (Nat × Ann) := [(4, { keep := 44 })]
def an31 : List (Nat × Ann) := []
def an37 : List (Nat × Ann) := [(1, { keep := 3 })]
def an38 : List (Nat × Ann) := []
def an50 : List (Nat × Ann) := [(6, { keep := 35 })]
def an51 : List (Nat × Ann) := []
def an74 : List (Nat × Ann) := [(2, { keep := 9 })]
def an79 : List (Nat × Ann) := [(6, { keep := 48 })]
def an82 : List (Nat × Ann) := []
def an83 : List (Nat × Ann) := []
def an85 : List (Nat × Ann) := [(5, { keep := 419 })]
def an88 : List (Nat × Ann) := [(2, { keep := 9 })]
def an90 : List (Nat × Ann) := []
def an92 : List (Nat × Ann) := []
def an98 : List (Nat × Ann) := []
def an100 : List (Nat × Ann) := []
def an101 : List (Nat × Ann) := [(1, { keep := 3 })]
def an102 : List (Nat × Ann) := []
def an103 : List (Nat × Ann) := []
def an104 : List (Nat × Ann) := []
noncomputable def g14 : DL [(.int .u64)] → Option (DL [.bool]) := Fn cx0 an14 Try.f14 [(.int .u64)] [.bool]
noncomputable def g14_L4 (t0 : Int) (t3 : Int) : Option (DL [.bool]) := Lp cx0 an14 Try.f14 [.bool] [true, true, false, true, false] ⟨[.val (.int .u64) t0, .undef, .undef, .val (.int .u64) t3, .undef, .undef, .undef, .undef, .undef, .undef, .undef, .undef, .undef, .undef, .undef, .undef, .undef, .undef, .undef, .undef, .undef], ofL [], [], []⟩
theorem g14_L4_eq (t0 : Int) (t3 : Int) : g14_L4 t0 t3 =
  if (decide ((IntKind.wrap .u64 (t3 * t3)) ≤ t0)) = true then
    if (t3 == 0) = true then
      none
    else if ((Int.tmod t0 t3) == 0) = true then
      some (false, ())
    else (g14_L4 t0 (IntKind.wrap .u64 (t3 + 1)))
  else some (true, ()) := (Lp_eq cx0 an14 Try.f14 [.bool] [true, true, false, true, false] _).trans (by kernel_rfl)
theorem g14_eq (a : Int) : g14 (a, ()) =
  if (decide (a < 2)) = true then
    some (false, ())
  else if (decide (a > 2147483647)) = true then
    some (false, ())
  else (g14_L4 a 2) := (Fn_eq rfl).trans (by kernel_rfl)

noncomputable def g16 : DL [(.int .u64), (.int .u64)] → Option (DL [(.int .u64), (.int .i64)]) := Fn cx0 an16 Try.f16 [(.int .u64), (.int .u64)] [(.int .u64), (.int .i64)]
noncomputable def g16_L4 (t1 : Int) (t6 : Int) (t7 : Int) (t8 : Int) (t9 : Int) : Option (DL [(.int .u64), (.int .i64)]) := Lp cx0 an16 Try.f16 [(.int .u64), (.int .i64)] [true, true, true, false, false] ⟨[.undef, .val (.int .u64) t1, .undef, .undef, .undef, .undef, .val (.int .i64) t6, .val (.int .i64) t7, .val (.int .i64) t8, .val (.int .i64) t9, .undef, .undef, .undef, .undef, .undef, .undef, .undef, .undef, .undef, .undef, .undef, .undef, .undef, .undef, .undef, .undef, .undef, .undef, .undef, .undef, .undef, .undef, .undef, .undef, .undef, .undef, .undef, .undef, .undef, .undef, .undef, .undef, .undef, .undef], ofL [], [], []⟩
theorem g16_L4_eq (t1 : Int) (t6 : Int) (t7 : Int) (t8 : Int) (t9 : Int) : g16_L4 t1 t6 t7 t8 t9 =
  if (t7 != 0) = true then
    if (t7 == 0) = true then
      none
    else (g16_L4 t1 t7 (IntKind.wrap .i64 (t6 - (IntKind.wrap .i64 ((IntKind.wrap .i64 (Int.tdiv t6 t7)) * t7)))) t9 (IntKind.wrap .i64 (t8 - (IntKind.wrap .i64 ((IntKind.wrap .i64 (Int.tdiv t6 t7)) * t9)))))
  else if ((IntKind.wrap .i64 t1) == 0) = true then
    none
  else some ((IntKind.wrap .u64 (Int.tmod (IntKind.wrap .i64 (t8 + (IntKind.wrap .i64 t1))) (IntKind.wrap .i64 t1))), (0, ())) := (Lp_eq cx0 an16 Try.f16 [(.int .u64), (.int .i64)] [true, true, true, false, false] _).trans (by kernel_rfl)
theorem g16_eq (a : Int) (b : Int) : g16 (a, b, ()) =
  if (b == 0) = true then
    none
  else if ((IntKind.wrap .i64 (Int.tmod a b)) == 0) = true then
    some (0, (10, ()))
  else (g16_L4 b (IntKind.wrap .i64 b) (IntKind.wrap .i64 (Int.tmod a b)) 0 1) := (Fn_eq rfl).trans (by kernel_rfl)

noncomputable def g20 : DL [(.int .u64), (.int .u64), (.int .u64)] → Option (DL [(.int .u64)]) := Fn cx0 an20 Try.f20 [(.int .u64), (.int .u64), (.int .u64)] [(.int .u64)]
noncomputable def g20_L2 (t0 : Int) (t1 : Int) (t2 : Int) (t7 : Int) : Option (DL [(.int .u64)]) := Lp cx0 an20 Try.f20 [(.int .u64)] [true, true, false, false] ⟨[.val (.int .u64) t0, .val (.int .u64) t1, .val (.int .u64) t2, .undef, .undef, .undef, .undef, .val (.int .u64) t7, .undef, .undef, .undef, .undef, .undef, .undef, .undef, .undef, .undef, .undef, .undef, .undef, .undef, .undef, .undef, .undef, .undef, .undef, .undef, .undef, .undef, .undef, .undef], ofL [], [], []⟩
theorem g20_L2_eq (t0 : Int) (t1 : Int) (t2 : Int) (t7 : Int) : g20_L2 t0 t1 t2 t7 =
  if (decide (t1 > 0)) = true then
    if ((IntKind.wrap .u64 ((BitVec.toNat ((BitVec.ofInt 64 t1) &&& (BitVec.ofInt 64 1))) : Int)) == 1) = true then
      if (t2 == 0) = true then
        none
      else if (t2 == 0) = true then
        none
      else (g20_L2 (Int.tmod (IntKind.wrap .u64 (t0 * t0)) t2) (Int.fdiv t1 2) t2 (Int.tmod (IntKind.wrap .u64 (t7 * t0)) t2))
    else if (t2 == 0) = true then
      none
    else (g20_L2 (Int.tmod (IntKind.wrap .u64 (t0 * t0)) t2) (Int.fdiv t1 2) t2 t7)
  else some (t7, ()) := (Lp_eq cx0 an20 Try.f20 [(.int .u64)] [true, true, false, false] _).trans (by kernel_rfl)
theorem g20_eq (a : Int) (b : Int) (c : Int) : g20 (a, b, c, ()) =
  if (c == 0) = true then
    none
  else if (c == 0) = true then
    none
  else (g20_L2 (Int.tmod a c) b c (Int.tmod 1 c)) := (Fn_eq rfl).trans (by kernel_rfl)

noncomputable def g21 : DL [(.int .u64), (.int .u64), (.int .u64)] → Option (DL [(.int .u64)]) := Fn cx0 an21 Try.f21 [(.int .u64), (.int .u64), (.int .u64)] [(.int .u64)]
noncomputable def g21_L4 (t2 : Int) (t7 : Int) (t8 : Int) (t9 : Int) : Option (DL [(.int .u64)]) := Lp cx0 an21 Try.f21 [(.int .u64)] [true, true, true, false, true, false] ⟨[.undef, .undef, .val (.int .u64) t2, .undef, .undef, .undef, .undef, .val (.int .u64) t7, .val (.int .u64) t8, .val (.int .u64) t9, .undef, .undef, .undef, .undef, .undef, .undef, .undef, .undef, .undef, .undef, .undef, .undef, .undef, .undef, .undef, .undef, .undef, .undef, .undef, .undef, .undef, .undef, .undef, .undef], ofL [], [], []⟩
theorem g21_L4_eq (t2 : Int) (t7 : Int) (t8 : Int) (t9 : Int) : g21_L4 t2 t7 t8 t9 =
  if (decide (t9 > 0)) = true then
    if ((Int.tmod t9 2) == 1) = true then
      if (t2 == 0) = true then
        none
      else if (t2 == 0) = true then
        none
      else (g21_L4 t2 (Int.tmod (IntKind.wrap .u64 (t7 * t8)) t2) (Int.tmod (IntKind.wrap .u64 (t8 * t8)) t2) (IntKind.wrap .u64 (Int.tdiv t9 2)))
    else if (t2 == 0) = true then
      none
    else (g21_L4 t2 t7 (Int.tmod (IntKind.wrap .u64 (t8 * t8)) t2) (IntKind.wrap .u64 (Int.tdiv t9 2)))
  else some (t7, ()) := (Lp_eq cx0 an21 Try.f21 [(.int .u64)] [true, true, true, false, true, false] _).trans (by kernel_rfl)
theorem g21_eq (a : Int) (b : Int) (c : Int) : g21 (a, b, c, ()) =
  if (c == 0) = true then
    none
  else if (c == 0) = true then
    none
  else (g21_L4 c (Int.tmod 1 c) (Int.tmod a c) b) := (Fn_eq rfl).trans (by kernel_rfl)

noncomputable def g29 : DL [(.pair .bool (.pair (.sl (.int .u32)) .unit))] → Option (DL [.bool]) := Fn cx0 an29 Try.f29 [(.pair .bool (.pair (.sl (.int .u32)) .unit))] [.bool]
theorem g29_eq (a : (Bool × ((List Int) × Unit))) : g29 (a, ()) =
  if (((List.length a.2.1) : Int) == 0) = true then
    some ((!a.1), ())
  else if ((decide (0 ≤ (IntKind.wrap .i64 (((List.length a.2.1) : Int) - 1)))) && (decide ((IntKind.wrap .i64 (((List.length a.2.1) : Int) - 1)) < ((List.length a.2.1) : Int)))) = true then
    some (((List.getD a.2.1 (Int.toNat (IntKind.wrap .i64 (((List.length a.2.1) : Int) - 1))) 0) != 0), ())
  else none := (Fn_eq rfl).trans (by kernel_rfl)

noncomputable def g30 : DL [(.pair .bool (.pair (.sl (.int .u32)) .unit)), (.pair .bool (.pair (.sl (.int .u32)) .unit))] → Option (DL [.bool]) := Fn cx0 an30 Try.f30 [(.pair .bool (.pair (.sl (.int .u32)) .unit)), (.pair .bool (.pair (.sl (.int .u32)) .unit))] [.bool]
noncomputable def g30_L4 (t5 : Int) (v0 : Bool) (v0_1 : (List Int)) (v1 : Bool) (v1_1 : (List Int)) : Option (DL [.bool]) := Lp cx0 an30 Try.f30 [.bool] [true, true, false, true, false] ⟨[.undef, .undef, .ptr 0 [], .ptr 1 [], .undef, .val (.int .i64) t5, .undef, .undef, .undef, .undef, .undef, .undef, .undef, .undef, .undef, .undef, .undef, .undef, .undef, .undef, .undef, .undef, .undef, .undef, .undef, .undef, .undef, .undef, .undef, .undef, .undef, .undef, .undef, .undef, .undef, .undef, .undef, .undef], ofL [(0, (.var (.pair .bool (.pair (.sl (.int .u32)) .unit)) (.pr (.val .bool v0) (.pr (.val (.sl (.int .u32)) v0_1) (.un))), false)), (1, (.var (.pair .bool (.pair (.sl (.int .u32)) .unit)) (.pr (.val .bool v1) (.pr (.val (.sl (.int .u32)) v1_1) (.un))), false))], [0, 1], []⟩
theorem g30_L4_eq (t5 : Int) (v0 : Bool) (v0_1 : (List Int)) (v1 : Bool) (v1_1 : (List Int)) : g30_L4 t5 v0 v0_1 v1 v1_1 =
  if (decide (t5 < ((List.length v0_1) : Int))) = true then
    if ((decide (0 ≤ t5)) && (decide (t5 < ((List.length v0_1) : Int)))) = true then
      if ((decide (0 ≤ t5)) && (decide (t5 < ((List.length v1_1) : Int)))) = true then
        if ((List.getD v0_1 (Int.toNat t5) 0) != (List.getD v1_1 (Int.toNat t5) 0)) = true then
          some (false, ())
        else (g30_L4 (IntKind.wrap .i64 (t5 + 1)) v0 v0_1 v1 v1_1)
      else none
    else none
  else some (true, ()) := (Lp_eq cx0 an30 Try.f30 [.bool] [true, true, false, true, false] _).trans (by kernel_rfl)
theorem g30_eq (a : (Bool × ((List Int) × Unit))) (b : (Bool × ((List Int) × Unit))) : g30 (a, b, ()) =
  if (!(a.1 == b.1)) = true then
    some (false, ())
  else if (((List.length a.2.1) : Int) != ((List.length b.2.1) : Int)) = true then
    some (false, ())
  else (g30_L4 0 a.1 a.2.1 b.1 b.2.1) := (Fn_eq rfl).trans (by kernel_rfl)

noncomputable def g31 : DL [(.pair .bool (.pair (.sl (.int .u32)) .unit))] → Option (DL [(.int .i64)]) := Fn cx0 an31 Try.f31 [(.pair .bool (.pair (.sl (.int .u32)) .unit))] [(.int .i64)]
theorem g31_eq (a : (Bool × ((List Int) × Unit))) : g31 (a, ()) =
  if a.1 = true then
    some ((-1), ())
  else some ((if (false = true) then (if (1 > ((List.length a.2.1) : Int)) then 1 else ((List.length a.2.1) : Int)) else (if (1 < ((List.length a.2.1) : Int)) then 1 else ((List.length a.2.1) : Int))), ()) := (Fn_eq rfl).trans (by kernel_rfl)

noncomputable def g37 : DL [(.int .i64), (.int .i64)] → Option (DL [(.int .i64)]) := Fn cx0 an37 Try.f37 [(.int .i64), (.int .i64)] [(.int .i64)]
noncomputable def g37_L1 (t0 : Int) (t1 : Int) : Option (DL [(.int .i64)]) := Lp cx0 an37 Try.f37 [(.int .i64)] [true, false, false] ⟨[.val (.int .i64) t0, .val (.int .i64) t1, .undef, .undef, .undef, .undef, .undef, .undef, .undef, .undef, .undef, .undef], ofL [], [], []⟩
theorem g37_L1_eq (t0 : Int) (t1 : Int) : g37_L1 t0 t1 =
  if (decide (t1 > 0)) = true then
    if (t1 == 0) = true then
      none
    else (g37_L1 t1 (Int.tmod t0 t1))
  else some (t0, ()) := (Lp_eq cx0 an37 Try.f37 [(.int .i64)] [true, false, false] _).trans (by kernel_rfl)
theorem g37_eq (a : Int) (b : Int) : g37 (a, b, ()) =
  (g37_L1 a b) := (Fn_eq rfl).trans (by kernel_rfl)

noncomputable def g38 : DL [] → Option (DL [(.arr 4 (.int .u64))]) := Fn cx0 an38 Try.f38 [] [(.arr 4 (.int .u64))]
theorem g38_eq  : g38 (()) =
  some ((List.set (List.set (List.set (List.set (List.replicate 4 (0 : Int)) 0 2) 1 3) 2 5) 3 7), ()) := (Fn_eq rfl).trans (by kernel_rfl)

noncomputable def g50 : DL [(.sl (.int .u32)), (.sl (.int .u32))] → Option (DL [(.int .i64)]) := Fn cx0 an50 Try.f50 [(.sl (.int .u32)), (.sl (.int .u32))] [(.int .i64)]
noncomputable def g50_L6 (t0 : (List Int)) (t1 : (List Int)) (t5 : Int) : Option (DL [(.int .i64)]) := Lp cx0 an50 Try.f50 [(.int .i64)] [true, true, true, false, true, false] ⟨[.val (.sl (.int .u32)) t0, .val (.sl (.int .u32)) t1, .undef, .undef, .undef, .val (.int .i64) t5, .undef, .undef, .undef, .undef, .undef, .undef, .undef, .undef, .undef, .undef, .undef, .undef, .undef, .undef, .undef, .undef, .undef, .undef, .undef, .undef, .undef, .undef, .undef, .undef, .undef, .undef, .undef, .undef, .undef, .undef, .undef, .undef, .undef, .undef, .undef], ofL [], [], []⟩
theorem g50_L6_eq (t0 : (List Int)) (t1 : (List Int)) (t5 : Int) : g50_L6 t0 t1 t5 =
  if (decide (t5 ≥ 0)) = true then
    if ((decide (0 ≤ t5)) && (decide (t5 < ((List.length t0) : Int)))) = true then
      if ((decide (0 ≤ t5)) && (decide (t5 < ((List.length t1) : Int)))) = true then
        if (decide ((List.getD t0 (Int.toNat t5) 0) < (List.getD t1 (Int.toNat t5) 0))) = true then
          some ((-1), ())
        else if ((decide (0 ≤ t5)) && (decide (t5 < ((List.length t0) : Int)))) = true then
          if ((decide (0 ≤ t5)) && (decide (t5 < ((List.length t1) : Int)))) = true then
            if (decide ((List.getD t0 (Int.toNat t5) 0) > (List.getD t1 (Int.toNat t5) 0))) = true then
              some (1, ())
            else (g50_L6 t0 t1 (IntKind.wrap .i64 (t5 - 1)))
          else none
        else none
      else none
    else none
  else some (0, ()) := (Lp_eq cx0 an50 Try.f50 [(.int .i64)] [true, true, true, false, true, false] _).trans (by kernel_rfl)
theorem g50_eq (a : (List Int)) (b : (List Int)) : g50 (a, b, ()) =
  if (decide (((List.length a) : Int) < ((List.length b) : Int))) = true then
    some ((-1), ())
  else if (decide (((List.length a) : Int) > ((List.length b) : Int))) = true then
    some (1, ())
  else (g50_L6 a b (IntKind.wrap .i64 (((List.length a) : Int) - 1))) := (Fn_eq rfl).trans (by kernel_rfl)

noncomputable def g51 : DL [(.pair .bool (.pair (.sl (.int .u32)) .unit))] → Option (DL [(.int .i64)]) := Fn cx0 an51 Try.f51 [(.pair .bool (.pair (.sl (.int .u32)) .unit))] [(.int .i64)]
theorem g51_eq (a : (Bool × ((List Int) × Unit))) : g51 (a, ()) =
  if a.1 = true then
    some ((-1), ())
  else some ((if (false = true) then (if (1 > ((List.length a.2.1) : Int)) then 1 else ((List.length a.2.1) : Int)) else (if (1 < ((List.length a.2.1) : Int)) then 1 else ((List.length a.2.1) : Int))), ()) := (Fn_eq rfl).trans (by kernel_rfl)

noncomputable def g74 : DL [(.sl (.int .u32))] → Option (DL [(.sl (.int .u32))]) := Fn cx0 an74 Try.f74 [(.sl (.int .u32))] [(.sl (.int .u32))]
noncomputable def g74_L2 (t0 : (List Int)) (t3 : Int) : Option (DL [(.sl (.int .u32))]) := Lp cx0 an74 Try.f74 [(.sl (.int .u32))] [true, true, false, false] ⟨[.val (.sl (.int .u32)) t0, .undef, .undef, .val (.int .i64) t3, .undef, .undef, .undef, .undef, .undef, .undef, .undef, .undef, .undef, .undef, .undef, .undef, .undef, .undef, .undef, .undef, .undef], ofL [], [], []⟩
theorem g74_L2_eq (t0 : (List Int)) (t3 : Int) : g74_L2 t0 t3 =
  if (decide (t3 > 0)) = true then
    if ((decide (0 ≤ (IntKind.wrap .i64 (t3 - 1)))) && (decide ((IntKind.wrap .i64 (t3 - 1)) < ((List.length t0) : Int)))) = true then
      if ((List.getD t0 (Int.toNat (IntKind.wrap .i64 (t3 - 1))) 0) == 0) = true then
        (g74_L2 t0 (IntKind.wrap .i64 (t3 - 1)))
      else if ((decide (0 ≤ t3)) && (decide (t3 ≤ ((List.length t0) : Int)))) = true then
        some ((List.take (Int.toNat t3) t0), ())
      else none
    else none
  else if ((decide (0 ≤ t3)) && (decide (t3 ≤ ((List.length t0) : Int)))) = true then
    some ((List.take (Int.toNat t3) t0), ())
  else none := (Lp_eq cx0 an74 Try.f74 [(.sl (.int .u32))] [true, true, false, false] _).trans (by kernel_rfl)
theorem g74_eq (a : (List Int)) : g74 (a, ()) =
  (g74_L2 a ((List.length a) : Int)) := (Fn_eq rfl).trans (by kernel_rfl)

noncomputable def g79 : DL [(.pair .bool (.pair (.sl (.int .u32)) .unit))] → Option (DL [(.int .i64)]) := Fn cx0 an79 Try.f79 [(.pair .bool (.pair (.sl (.int .u32)) .unit))] [(.int .i64)]
noncomputable def g79_L6 (t4 : Int) (t5 : Int) : Option (DL [(.int .i64)]) := Lp cx0 an79 Try.f79 [(.int .i64)] [true, true, true, true, false, true, false] ⟨[.undef, .undef, .undef, .undef, .val (.int .i64) t4, .val (.int .u32) t5, .undef, .undef, .undef, .undef, .undef, .undef, .undef, .undef, .undef, .undef, .undef, .undef, .undef, .undef, .undef, .undef, .undef, .undef, .undef, .undef, .undef], ofL [], [], []⟩
theorem g79_L6_eq (t4 : Int) (t5 : Int) : g79_L6 t4 t5 =
  if (decide (t5 > 0)) = true then
    (g79_L6 (IntKind.wrap .i64 (t4 + 1)) (IntKind.wrap .u32 (Int.tdiv t5 2)))
  else some (t4, ()) := (Lp_eq cx0 an79 Try.f79 [(.int .i64)] [true, true, true, true, false, true, false] _).trans (by kernel_rfl)
theorem g79_eq (a : (Bool × ((List Int) × Unit))) : g79 (a, ()) =
  if (((List.length a.2.1) : Int) == 0) = true then
    some (0, ())
  else if ((decide (0 ≤ (IntKind.wrap .i64 (((List.length a.2.1) : Int) - 1)))) && (decide ((IntKind.wrap .i64 (((List.length a.2.1) : Int) - 1)) < ((List.length a.2.1) : Int)))) = true then
    (g79_L6 (IntKind.wrap .i64 (32 * (IntKind.wrap .i64 (((List.length a.2.1) : Int) - 1)))) (List.getD a.2.1 (Int.toNat (IntKind.wrap .i64 (((List.length a.2.1) : Int) - 1))) 0))
  else none := (Fn_eq rfl).trans (by kernel_rfl)

noncomputable def g82 : DL [(.sl (.int .u32)), (.int .i64)] → Option (DL [(.int .u64)]) := Fn cx0 an82 Try.f82 [(.sl (.int .u32)), (.int .i64)] [(.int .u64)]
theorem g82_eq (a : (List Int)) (b : Int) : g82 (a, b, ()) =
  if (decide (b < ((List.length a) : Int))) = true then
    if ((decide (0 ≤ b)) && (decide (b < ((List.length a) : Int)))) = true then
      some ((IntKind.wrap .u64 (List.getD a (Int.toNat b) 0)), ())
    else none
  else some (0, ()) := (Fn_eq rfl).trans (by kernel_rfl)

noncomputable def g83 : DL [(.sl (.int .u32)), (.int .i64)] → Option (DL [(.int .u32)]) := Fn cx0 an83 Try.f83 [(.sl (.int .u32)), (.int .i64)] [(.int .u32)]
theorem g83_eq (a : (List Int)) (b : Int) : g83 (a, b, ()) =
  if (decide (b < ((List.length a) : Int))) = true then
    if ((decide (0 ≤ b)) && (decide (b < ((List.length a) : Int)))) = true then
      some ((List.getD a (Int.toNat b) 0), ())
    else none
  else some (0, ()) := (Fn_eq rfl).trans (by kernel_rfl)

noncomputable def g85 : DL [(.sl (.int .u32)), (.sl (.int .u32))] → Option (DL [(.int .u64)]) := Fn cx0 an85 Try.f85 [(.sl (.int .u32)), (.sl (.int .u32))] [(.int .u64)]
noncomputable def g85_L5 (t0 : (List Int)) (t1 : (List Int)) (t5 : Int) (t7 : Int) (t8 : Int) : Option (DL [(.int .u64)]) := Lp cx0 an85 Try.f85 [(.int .u64)] [true, true, true, true, true, false, false] ⟨[.val (.sl (.int .u32)) t0, .val (.sl (.int .u32)) t1, .undef, .undef, .undef, .val (.int .i64) t5, .undef, .val (.int .u64) t7, .val (.int .u64) t8, .undef, .undef, .undef, .undef, .undef, .undef, .undef, .undef, .undef, .undef, .undef, .undef, .undef, .undef, .undef, .undef, .undef, .undef, .undef, .undef, .undef, .undef, .undef, .undef, .undef, .undef, .undef, .undef, .undef, .undef, .undef, .undef, .undef, .undef, .undef, .undef, .undef, .undef, .undef, .undef, .undef, .undef, .undef, .undef, .undef, .undef, .undef, .undef, .undef, .undef, .undef, .undef, .undef, .undef, .undef, .undef, .undef, .undef, .undef, .undef, .undef, .undef, .undef, .undef, .undef, .undef], ofL [], [], []⟩
theorem g85_L5_eq (t0 : (List Int)) (t1 : (List Int)) (t5 : Int) (t7 : Int) (t8 : Int) : g85_L5 t0 t1 t5 t7 t8 =
  if (decide (t7 ≥ 4294967296)) = true then
    if ((decide (0 ≤ (IntKind.wrap .i64 (t5 - 1)))) && (decide ((IntKind.wrap .i64 (t5 - 1)) < ((List.length t1) : Int)))) = true then
      if (decide ((IntKind.wrap .u64 (t8 + (IntKind.wrap .u64 (List.getD t1 (Int.toNat (IntKind.wrap .i64 (t5 - 1))) 0)))) ≥ 4294967296)) = true then
        some ((IntKind.wrap .u64 (t7 - 1)), ())
      else (g85_L5 t0 t1 t5 (IntKind.wrap .u64 (t7 - 1)) (IntKind.wrap .u64 (t8 + (IntKind.wrap .u64 (List.getD t1 (Int.toNat (IntKind.wrap .i64 (t5 - 1))) 0)))))
    else none
  else if ((decide (0 ≤ (IntKind.wrap .i64 (t5 - 2)))) && (decide ((IntKind.wrap .i64 (t5 - 2)) < ((List.length t1) : Int)))) = true then
    if ((decide (0 ≤ (IntKind.wrap .i64 (t5 - 2)))) && (decide ((IntKind.wrap .i64 (t5 - 2)) < ((List.length t0) : Int)))) = true then
      if (decide ((IntKind.wrap .u64 (t7 * (IntKind.wrap .u64 (List.getD t1 (Int.toNat (IntKind.wrap .i64 (t5 - 2))) 0)))) > (IntKind.wrap .u64 ((IntKind.wrap .u64 (t8 * 4294967296)) + (IntKind.wrap .u64 (List.getD t0 (Int.toNat (IntKind.wrap .i64 (t5 - 2))) 0)))))) = true then
        if ((decide (0 ≤ (IntKind.wrap .i64 (t5 - 1)))) && (decide ((IntKind.wrap .i64 (t5 - 1)) < ((List.length t1) : Int)))) = true then
          if (decide ((IntKind.wrap .u64 (t8 + (IntKind.wrap .u64 (List.getD t1 (Int.toNat (IntKind.wrap .i64 (t5 - 1))) 0)))) ≥ 4294967296)) = true then
            some ((IntKind.wrap .u64 (t7 - 1)), ())
          else (g85_L5 t0 t1 t5 (IntKind.wrap .u64 (t7 - 1)) (IntKind.wrap .u64 (t8 + (IntKind.wrap .u64 (List.getD t1 (Int.toNat (IntKind.wrap .i64 (t5 - 1))) 0)))))
        else none
      else some (t7, ())
    else none
  else none := (Lp_eq cx0 an85 Try.f85 [(.int .u64)] [true, true, true, true, true, false, false] _).trans (by kernel_rfl)
theorem g85_eq (a : (List Int)) (b : (List Int)) : g85 (a, b, ()) =
  if ((decide (0 ≤ ((List.length b) : Int))) && (decide (((List.length b) : Int) < ((List.length a) : Int)))) = true then
    if ((decide (0 ≤ (IntKind.wrap .i64 (((List.length b) : Int) - 1)))) && (decide ((IntKind.wrap .i64 (((List.length b) : Int) - 1)) < ((List.length a) : Int)))) = true then
      if ((decide (0 ≤ (IntKind.wrap .i64 (((List.length b) : Int) - 1)))) && (decide ((IntKind.wrap .i64 (((List.length b) : Int) - 1)) < ((List.length b) : Int)))) = true then
        if ((IntKind.wrap .u64 (List.getD b (Int.toNat (IntKind.wrap .i64 (((List.length b) : Int) - 1))) 0)) == 0) = true then
          none
        else if ((decide (0 ≤ (IntKind.wrap .i64 (((List.length b) : Int) - 1)))) && (decide ((IntKind.wrap .i64 (((List.length b) : Int) - 1)) < ((List.length b) : Int)))) = true then
          if ((IntKind.wrap .u64 (List.getD b (Int.toNat (IntKind.wrap .i64 (((List.length b) : Int) - 1))) 0)) == 0) = true then
            none
          else (g85_L5 a b ((List.length b) : Int) (IntKind.wrap .u64 (Int.tdiv (IntKind.wrap .u64 ((IntKind.wrap .u64 ((IntKind.wrap .u64 (List.getD a (Int.toNat ((List.length b) : Int)) 0)) * 4294967296)) + (IntKind.wrap .u64 (List.getD a (Int.toNat (IntKind.wrap .i64 (((List.length b) : Int) - 1))) 0)))) (IntKind.wrap .u64 (List.getD b (Int.toNat (IntKind.wrap .i64 (((List.length b) : Int) - 1))) 0)))) (Int.tmod (IntKind.wrap .u64 ((IntKind.wrap .u64 ((IntKind.wrap .u64 (List.getD a (Int.toNat ((List.length b) : Int)) 0)) * 4294967296)) + (IntKind.wrap .u64 (List.getD a (Int.toNat (IntKind.wrap .i64 (((List.length b) : Int) - 1))) 0)))) (IntKind.wrap .u64 (List.getD b (Int.toNat (IntKind.wrap .i64 (((List.length b) : Int) - 1))) 0))))
        else none
      else none
    else none
  else none := (Fn_eq rfl).trans (by kernel_rfl)

noncomputable def g88 : DL [(.sl (.int .u32))] → Option (DL [(.sl (.int .u32))]) := Fn cx0 an88 Try.f88 [(.sl (.int .u32))] [(.sl (.int .u32))]
noncomputable def g88_L2 (t0 : (List Int)) (t3 : Int) : Option (DL [(.sl (.int .u32))]) := Lp cx0 an88 Try.f88 [(.sl (.int .u32))] [true, true, false, false] ⟨[.val (.sl (.int .u32)) t0, .undef, .undef, .val (.int .i64) t3, .undef, .undef, .undef, .undef, .undef, .undef, .undef, .undef, .undef, .undef, .undef, .undef, .undef, .undef, .undef, .undef, .undef, .undef], ofL [], [], []⟩
theorem g88_L2_eq (t0 : (List Int)) (t3 : Int) : g88_L2 t0 t3 =
  if (decide (t3 > 0)) = true then
    if ((decide (0 ≤ (IntKind.wrap .i64 (t3 - 1)))) && (decide ((IntKind.wrap .i64 (t3 - 1)) < ((List.length t0) : Int)))) = true then
      if ((List.getD t0 (Int.toNat (IntKind.wrap .i64 (t3 - 1))) 0) == 0) = true then
        (g88_L2 t0 (IntKind.wrap .i64 (t3 - 1)))
      else if ((decide (0 ≤ t3)) && (decide (t3 ≤ ((List.length t0) : Int)))) = true then
        if ((decide (0 ≤ t3)) && (decide (t3 ≤ ((Int.toNat t3) : Int)))) = true then
          some ((List.take (Int.toNat t3) t0), ())
        else none
      else none
    else none
  else if ((decide (0 ≤ t3)) && (decide (t3 ≤ ((List.length t0) : Int)))) = true then
    if ((decide (0 ≤ t3)) && (decide (t3 ≤ ((Int.toNat t3) : Int)))) = true then
      some ((List.take (Int.toNat t3) t0), ())
    else none
  else none := (Lp_eq cx0 an88 Try.f88 [(.sl (.int .u32))] [true, true, false, false] _).trans (by kernel_rfl)
theorem g88_eq (a : (List Int)) : g88 (a, ()) =
  (g88_L2 a ((List.length a) : Int)) := (Fn_eq rfl).trans (by kernel_rfl)

noncomputable def g90 : DL [(.int .u32), (.int .u32), (.int .u32)] → Option (DL [(.int .u32), (.int .u32)]) := Fn cx0 an90 Try.f90 [(.int .u32), (.int .u32), (.int .u32)] [(.int .u32), (.int .u32)]
theorem g90_eq (a : Int) (b : Int) (c : Int) : g90 (a, b, c, ()) =
  some ((IntKind.wrap .u32 (IntKind.wrap .u64 ((IntKind.wrap .u64 ((IntKind.wrap .u64 a) + (IntKind.wrap .u64 b))) + (IntKind.wrap .u64 c)))), ((IntKind.wrap .u32 (Int.fdiv (IntKind.wrap .u64 ((IntKind.wrap .u64 ((IntKind.wrap .u64 a) + (IntKind.wrap .u64 b))) + (IntKind.wrap .u64 c))) 4294967296)), ())) := (Fn_eq rfl).trans (by kernel_rfl)

noncomputable def g92 : DL [(.int .u32), (.int .u32), (.int .u32)] → Option (DL [(.int .u32), (.int .u32)]) := Fn cx0 an92 Try.f92 [(.int .u32), (.int .u32), (.int .u32)] [(.int .u32), (.int .u32)]
theorem g92_eq (a : Int) (b : Int) (c : Int) : g92 (a, b, c, ()) =
  some ((IntKind.wrap .u32 ((IntKind.wrap .u32 (a - b)) - c)), ((Int.fdiv (IntKind.wrap .u32 ((BitVec.toNat ((BitVec.ofInt 32 (IntKind.wrap .u32 ((BitVec.toNat ((BitVec.ofInt 32 (IntKind.wrap .u32 ((BitVec.toNat ((BitVec.ofInt 32 4294967295) ^^^ (BitVec.ofInt 32 a))) : Int))) &&& (BitVec.ofInt 32 b))) : Int))) ||| (BitVec.ofInt 32 (IntKind.wrap .u32 ((BitVec.toNat ((BitVec.ofInt 32 (IntKind.wrap .u32 ((BitVec.toNat ((BitVec.ofInt 32 4294967295) ^^^ (BitVec.ofInt 32 (IntKind.wrap .u32 ((BitVec.toNat ((BitVec.ofInt 32 a) ^^^ (BitVec.ofInt 32 b))) : Int))))) : Int))) &&& (BitVec.ofInt 32 (IntKind.wrap .u32 ((IntKind.wrap .u32 (a - b)) - c))))) : Int))))) : Int)) 2147483648), ())) := (Fn_eq rfl).trans (by kernel_rfl)

noncomputable def g98 : DL [(.int .u32)] → Option (DL [(.int .i64)]) := Fn cx0 an98 Try.f98 [(.int .u32)] [(.int .i64)]
theorem g98_eq (a : Int) : g98 (a, ()) =
  if (decide (a ≥ 65536)) = true then
    if (decide ((Int.fdiv a 65536) ≥ 256)) = true then
      if ((decide (0 ≤ (IntKind.wrap .u8 (Int.fdiv (Int.fdiv a 65536) 256)))) && (decide ((IntKind.wrap .u8 (Int.fdiv (Int.fdiv a 65536) 256)) < 256))) = true then
        some ((IntKind.wrap .i64 (24 + (IntKind.wrap .i64 ((UInt8.toNat (List.getD (0 :: (1 :: (2 :: (2 :: (3 :: (3 :: (3 :: (3 :: (4 :: (4 :: (4 :: (4 :: (4 :: (4 :: (4 :: (4 :: (5 :: (5 :: (5 :: (5 :: (5 :: (5 :: (5 :: (5 :: (5 :: (5 :: (5 :: (5 :: (5 :: (5 :: (5 :: (5 :: (6 :: (6 :: (6 :: (6 :: (6 :: (6 :: (6 :: (6 :: (6 :: (6 :: (6 :: (6 :: (6 :: (6 :: (6 :: (6 :: (6 :: (6 :: (6 :: (6 :: (6 :: (6 :: (6 :: (6 :: (6 :: (6 :: (6 :: (6 :: (6 :: (6 :: (6 :: (6 :: (7 :: (7 :: (7 :: (7 :: (7 :: (7 :: (7 :: (7 :: (7 :: (7 :: (7 :: (7 :: (7 :: (7 :: (7 :: (7 :: (7 :: (7 :: (7 :: (7 :: (7 :: (7 :: (7 :: (7 :: (7 :: (7 :: (7 :: (7 :: (7 :: (7 :: (7 :: (7 :: (7 :: (7 :: (7 :: (7 :: (7 :: (7 :: (7 :: (7 :: (7 :: (7 :: (7 :: (7 :: (7 :: (7 :: (7 :: (7 :: (7 :: (7 :: (7 :: (7 :: (7 :: (7 :: (7 :: (7 :: (7 :: (7 :: (7 :: (7 :: (7 :: (7 :: (7 :: (7 :: (8 :: (8 :: (8 :: (8 :: (8 :: (8 :: (8 :: (8 :: (8 :: (8 :: (8 :: (8 :: (8 :: (8 :: (8 :: (8 :: (8 :: (8 :: (8 :: (8 :: (8 :: (8 :: (8 :: (8 :: (8 :: (8 :: (8 :: (8 :: (8 :: (8 :: (8 :: (8 :: (8 :: (8 :: (8 :: (8 :: (8 :: (8 :: (8 :: (8 :: (8 :: (8 :: (8 :: (8 :: (8 :: (8 :: (8 :: (8 :: (8 :: (8 :: (8 :: (8 :: (8 :: (8 :: (8 :: (8 :: (8 :: (8 :: (8 :: (8 :: (8 :: (8 :: (8 :: (8 :: (8 :: (8 :: (8 :: (8 :: (8 :: (8 :: (8 :: (8 :: (8 :: (8 :: (8 :: (8 :: (8 :: (8 :: (8 :: (8 :: (8 :: (8 :: (8 :: (8 :: (8 :: (8 :: (8 :: (8 :: (8 :: (8 :: (8 :: (8 :: (8 :: (8 :: (8 :: (8 :: (8 :: (8 :: (8 :: (8 :: (8 :: (8 :: (8 :: (8 :: (8 :: (8 :: (8 :: (8 :: (8 :: (8 :: (8 :: (8 :: (8 :: (8 :: (8 :: (8 :: (8 :: (8 :: (8 :: (8 :: (8 :: (8 :: (8 :: (8 :: (8 :: (8 :: (8 :: (8 :: [])))))))))))))))))))))))))))))))))))))))))))))))))))))))))))))))))))))))))))))))))))))))))))))))))))))))))))))))))))))))))))))))))))))))))))))))))))))))))))))))))))))))))))))))))))))))))))))))))))))))))))))))))))))))))))))))))))))))))))))))))))))))))))))))) (Int.toNat (IntKind.wrap .u8 (Int.fdiv (Int.fdiv a 65536) 256))) 0)) : Int)))), ())
      else none
    else if ((decide (0 ≤ (IntKind.wrap .u8 (Int.fdiv a 65536)))) && (decide ((IntKind.wrap .u8 (Int.fdiv a 65536)) < 256))) = true then
      some ((IntKind.wrap .i64 (16 + (IntKind.wrap .i64 ((UInt8.toNat (List.getD (0 :: (1 :: (2 :: (2 :: (3 :: (3 :: (3 :: (3 :: (4 :: (4 :: (4 :: (4 :: (4 :: (4 :: (4 :: (4 :: (5 :: (5 :: (5 :: (5 :: (5 :: (5 :: (5 :: (5 :: (5 :: (5 :: (5 :: (5 :: (5 :: (5 :: (5 :: (5 :: (6 :: (6 :: (6 :: (6 :: (6 :: (6 :: (6 :: (6 :: (6 :: (6 :: (6 :: (6 :: (6 :: (6 :: (6 :: (6 :: (6 :: (6 :: (6 :: (6 :: (6 :: (6 :: (6 :: (6 :: (6 :: (6 :: (6 :: (6 :: (6 :: (6 :: (6 :: (6 :: (7 :: (7 :: (7 :: (7 :: (7 :: (7 :: (7 :: (7 :: (7 :: (7 :: (7 :: (7 :: (7 :: (7 :: (7 :: (7 :: (7 :: (7 :: (7 :: (7 :: (7 :: (7 :: (7 :: (7 :: (7 :: (7 :: (7 :: (7 :: (7 :: (7 :: (7 :: (7 :: (7 :: (7 :: (7 :: (7 :: (7 :: (7 :: (7 :: (7 :: (7 :: (7 :: (7 :: (7 :: (7 :: (7 :: (7 :: (7 :: (7 :: (7 :: (7 :: (7 :: (7 :: (7 :: (7 :: (7 :: (7 :: (7 :: (7 :: (7 :: (7 :: (7 :: (7 :: (7 :: (8 :: (8 :: (8 :: (8 :: (8 :: (8 :: (8 :: (8 :: (8 :: (8 :: (8 :: (8 :: (8 :: (8 :: (8 :: (8 :: (8 :: (8 :: (8 :: (8 :: (8 :: (8 :: (8 :: (8 :: (8 :: (8 :: (8 :: (8 :: (8 :: (8 :: (8 :: (8 :: (8 :: (8 :: (8 :: (8 :: (8 :: (8 :: (8 :: (8 :: (8 :: (8 :: (8 :: (8 :: (8 :: (8 :: (8 :: (8 :: (8 :: (8 :: (8 :: (8 :: (8 :: (8 :: (8 :: (8 :: (8 :: (8 :: (8 :: (8 :: (8 :: (8 :: (8 :: (8 :: (8 :: (8 :: (8 :: (8 :: (8 :: (8 :: (8 :: (8 :: (8 :: (8 :: (8 :: (8 :: (8 :: (8 :: (8 :: (8 :: (8 :: (8 :: (8 :: (8 :: (8 :: (8 :: (8 :: (8 :: (8 :: (8 :: (8 :: (8 :: (8 :: (8 :: (8 :: (8 :: (8 :: (8 :: (8 :: (8 :: (8 :: (8 :: (8 :: (8 :: (8 :: (8 :: (8 :: (8 :: (8 :: (8 :: (8 :: (8 :: (8 :: (8 :: (8 :: (8 :: (8 :: (8 :: (8 :: (8 :: (8 :: (8 :: (8 :: (8 :: (8 :: (8 :: (8 :: (8 :: [])))))))))))))))))))))))))))))))))))))))))))))))))))))))))))))))))))))))))))))))))))))))))))))))))))))))))))))))))))))))))))))))))))))))))))))))))))))))))))))))))))))))))))))))))))))))))))))))))))))))))))))))))))))))))))))))))))))))))))))))))))))))))))))))) (Int.toNat (IntKind.wrap .u8 (Int.fdiv a 65536))) 0)) : Int)))), ())
    else none
  else if (decide (a ≥ 256)) = true then
    if ((decide (0 ≤ (IntKind.wrap .u8 (Int.fdiv a 256)))) && (decide ((IntKind.wrap .u8 (Int.fdiv a 256)) < 256))) = true then
      some ((IntKind.wrap .i64 (8 + (IntKind.wrap .i64 ((UInt8.toNat (List.getD (0 :: (1 :: (2 :: (2 :: (3 :: (3 :: (3 :: (3 :: (4 :: (4 :: (4 :: (4 :: (4 :: (4 :: (4 :: (4 :: (5 :: (5 :: (5 :: (5 :: (5 :: (5 :: (5 :: (5 :: (5 :: (5 :: (5 :: (5 :: (5 :: (5 :: (5 :: (5 :: (6 :: (6 :: (6 :: (6 :: (6 :: (6 :: (6 :: (6 :: (6 :: (6 :: (6 :: (6 :: (6 :: (6 :: (6 :: (6 :: (6 :: (6 :: (6 :: (6 :: (6 :: (6 :: (6 :: (6 :: (6 :: (6 :: (6 :: (6 :: (6 :: (6 :: (6 :: (6 :: (7 :: (7 :: (7 :: (7 :: (7 :: (7 :: (7 :: (7 :: (7 :: (7 :: (7 :: (7 :: (7 :: (7 :: (7 :: (7 :: (7 :: (7 :: (7 :: (7 :: (7 :: (7 :: (7 :: (7 :: (7 :: (7 :: (7 :: (7 :: (7 :: (7 :: (7 :: (7 :: (7 :: (7 :: (7 :: (7 :: (7 :: (7 :: (7 :: (7 :: (7 :: (7 :: (7 :: (7 :: (7 :: (7 :: (7 :: (7 :: (7 :: (7 :: (7 :: (7 :: (7 :: (7 :: (7 :: (7 :: (7 :: (7 :: (7 :: (7 :: (7 :: (7 :: (7 :: (7 :: (8 :: (8 :: (8 :: (8 :: (8 :: (8 :: (8 :: (8 :: (8 :: (8 :: (8 :: (8 :: (8 :: (8 :: (8 :: (8 :: (8 :: (8 :: (8 :: (8 :: (8 :: (8 :: (8 :: (8 :: (8 :: (8 :: (8 :: (8 :: (8 :: (8 :: (8 :: (8 :: (8 :: (8 :: (8 :: (8 :: (8 :: (8 :: (8 :: (8 :: (8 :: (8 :: (8 :: (8 :: (8 :: (8 :: (8 :: (8 :: (8 :: (8 :: (8 :: (8 :: (8 :: (8 :: (8 :: (8 :: (8 :: (8 :: (8 :: (8 :: (8 :: (8 :: (8 :: (8 :: (8 :: (8 :: (8 :: (8 :: (8 :: (8 :: (8 :: (8 :: (8 :: (8 :: (8 :: (8 :: (8 :: (8 :: (8 :: (8 :: (8 :: (8 :: (8 :: (8 :: (8 :: (8 :: (8 :: (8 :: (8 :: (8 :: (8 :: (8 :: (8 :: (8 :: (8 :: (8 :: (8 :: (8 :: (8 :: (8 :: (8 :: (8 :: (8 :: (8 :: (8 :: (8 :: (8 :: (8 :: (8 :: (8 :: (8 :: (8 :: (8 :: (8 :: (8 :: (8 :: (8 :: (8 :: (8 :: (8 :: (8 :: (8 :: (8 :: (8 :: (8 :: (8 :: (8 :: (8 :: [])))))))))))))))))))))))))))))))))))))))))))))))))))))))))))))))))))))))))))))))))))))))))))))))))))))))))))))))))))))))))))))))))))))))))))))))))))))))))))))))))))))))))))))))))))))))))))))))))))))))))))))))))))))))))))))))))))))))))))))))))))))))))))))))) (Int.toNat (IntKind.wrap .u8 (Int.fdiv a 256))) 0)) : Int)))), ())
    else none
  else if ((decide (0 ≤ (IntKind.wrap .u8 a))) && (decide ((IntKind.wrap .u8 a) < 256))) = true then
    some ((IntKind.wrap .i64 (0 + (IntKind.wrap .i64 ((UInt8.toNat (List.getD (0 :: (1 :: (2 :: (2 :: (3 :: (3 :: (3 :: (3 :: (4 :: (4 :: (4 :: (4 :: (4 :: (4 :: (4 :: (4 :: (5 :: (5 :: (5 :: (5 :: (5 :: (5 :: (5 :: (5 :: (5 :: (5 :: (5 :: (5 :: (5 :: (5 :: (5 :: (5 :: (6 :: (6 :: (6 :: (6 :: (6 :: (6 :: (6 :: (6 :: (6 :: (6 :: (6 :: (6 :: (6 :: (6 :: (6 :: (6 :: (6 :: (6 :: (6 :: (6 :: (6 :: (6 :: (6 :: (6 :: (6 :: (6 :: (6 :: (6 :: (6 :: (6 :: (6 :: (6 :: (7 :: (7 :: (7 :: (7 :: (7 :: (7 :: (7 :: (7 :: (7 :: (7 :: (7 :: (7 :: (7 :: (7 :: (7 :: (7 :: (7 :: (7 :: (7 :: (7 :: (7 :: (7 :: (7 :: (7 :: (7 :: (7 :: (7 :: (7 :: (7 :: (7 :: (7 :: (7 :: (7 :: (7 :: (7 :: (7 :: (7 :: (7 :: (7 :: (7 :: (7 :: (7 :: (7 :: (7 :: (7 :: (7 :: (7 :: (7 :: (7 :: (7 :: (7 :: (7 :: (7 :: (7 :: (7 :: (7 :: (7 :: (7 :: (7 :: (7 :: (7 :: (7 :: (7 :: (7 :: (8 :: (8 :: (8 :: (8 :: (8 :: (8 :: (8 :: (8 :: (8 :: (8 :: (8 :: (8 :: (8 :: (8 :: (8 :: (8 :: (8 :: (8 :: (8 :: (8 :: (8 :: (8 :: (8 :: (8 :: (8 :: (8 :: (8 :: (8 :: (8 :: (8 :: (8 :: (8 :: (8 :: (8 :: (8 :: (8 :: (8 :: (8 :: (8 :: (8 :: (8 :: (8 :: (8 :: (8 :: (8 :: (8 :: (8 :: (8 :: (8 :: (8 :: (8 :: (8 :: (8 :: (8 :: (8 :: (8 :: (8 :: (8 :: (8 :: (8 :: (8 :: (8 :: (8 :: (8 :: (8 :: (8 :: (8 :: (8 :: (8 :: (8 :: (8 :: (8 :: (8 :: (8 :: (8 :: (8 :: (8 :: (8 :: (8 :: (8 :: (8 :: (8 :: (8 :: (8 :: (8 :: (8 :: (8 :: (8 :: (8 :: (8 :: (8 :: (8 :: (8 :: (8 :: (8 :: (8 :: (8 :: (8 :: (8 :: (8 :: (8 :: (8 :: (8 :: (8 :: (8 :: (8 :: (8 :: (8 :: (8 :: (8 :: (8 :: (8 :: (8 :: (8 :: (8 :: (8 :: (8 :: (8 :: (8 :: (8 :: (8 :: (8 :: (8 :: (8 :: (8 :: (8 :: (8 :: (8 :: [])))))))))))))))))))))))))))))))))))))))))))))))))))))))))))))))))))))))))))))))))))))))))))))))))))))))))))))))))))))))))))))))))))))))))))))))))))))))))))))))))))))))))))))))))))))))))))))))))))))))))))))))))))))))))))))))))))))))))))))))))))))))))))))))) (Int.toNat (IntKind.wrap .u8 a)) 0)) : Int)))), ())
  else none := (Fn_eq rfl).trans (by kernel_rfl)

noncomputable def g100 : DL [(.int .i64)] → Option (DL [.bool]) := Fn cx0 an100 Try.f100 [(.int .i64)] [.bool]
theorem g100_eq (a : Int) : g100 (a, ()) =
  some ((a != a), ()) := (Fn_eq rfl).trans (by kernel_rfl)

noncomputable def g101 : DL [(.int .u64), (.int .u64)] → Option (DL [(.int .u64)]) := Fn cx0 an101 Try.f101 [(.int .u64), (.int .u64)] [(.int .u64)]
noncomputable def g101_L1 (t0 : Int) (t1 : Int) : Option (DL [(.int .u64)]) := Lp cx0 an101 Try.f101 [(.int .u64)] [true, false, false] ⟨[.val (.int .u64) t0, .val (.int .u64) t1, .undef, .undef, .undef, .undef, .undef, .undef, .undef, .undef, .undef, .undef, .undef, .undef], ofL [], [], []⟩
theorem g101_L1_eq (t0 : Int) (t1 : Int) : g101_L1 t0 t1 =
  if (decide (t1 > 0)) = true then
    if (t1 == 0) = true then
      none
    else (g101_L1 t1 (Int.tmod t0 t1))
  else some (t0, ()) := (Lp_eq cx0 an101 Try.f101 [(.int .u64)] [true, false, false] _).trans (by kernel_rfl)
theorem g101_eq (a : Int) (b : Int) : g101 (a, b, ()) =
  (g101_L1 a b) := (Fn_eq rfl).trans (by kernel_rfl)

noncomputable def g102 : DL [(.int .u32)] → Option (DL [.bool]) := Fn cx0 an102 Try.f102 [(.int .u32)] [.bool]
theorem g102_eq (a : Int) : g102 (a, ()) =
  some ((a != a), ()) := (Fn_eq rfl).trans (by kernel_rfl)

noncomputable def g103 : DL [(.int .u32), (.int .u32), (.int .u32)] → Option (DL [(.int .u32), (.int .u32)]) := Fn cx0 an103 Try.f103 [(.int .u32), (.int .u32), (.int .u32)] [(.int .u32), (.int .u32)]
theorem g103_eq (a : Int) (b : Int) (c : Int) : g103 (a, b, c, ()) =
  if (c != 0) = true then
    if (decide (c ≤ a)) = true then
      none
    else if ((IntKind.wrap .u64 c) == 0) = true then
      none
    else if ((IntKind.wrap .u64 c) == 0) = true then
      none
    else some ((IntKind.wrap .u32 (IntKind.wrap .u64 (Int.tdiv (IntKind.wrap .u64 ((BitVec.toNat ((BitVec.ofInt 64 (IntKind.wrap .u64 ((IntKind.wrap .u64 a) * 4294967296))) ||| (BitVec.ofInt 64 (IntKind.wrap .u64 b)))) : Int)) (IntKind.wrap .u64 c)))), ((IntKind.wrap .u32 (Int.tmod (IntKind.wrap .u64 ((BitVec.toNat ((BitVec.ofInt 64 (IntKind.wrap .u64 ((IntKind.wrap .u64 a) * 4294967296))) ||| (BitVec.ofInt 64 (IntKind.wrap .u64 b)))) : Int)) (IntKind.wrap .u64 c))), ()))
  else if ((IntKind.wrap .u64 c) == 0) = true then
    none
  else if ((IntKind.wrap .u64 c) == 0) = true then
    none
  else some ((IntKind.wrap .u32 (IntKind.wrap .u64 (Int.tdiv (IntKind.wrap .u64 ((BitVec.toNat ((BitVec.ofInt 64 (IntKind.wrap .u64 ((IntKind.wrap .u64 a) * 4294967296))) ||| (BitVec.ofInt 64 (IntKind.wrap .u64 b)))) : Int)) (IntKind.wrap .u64 c)))), ((IntKind.wrap .u32 (Int.tmod (IntKind.wrap .u64 ((BitVec.toNat ((BitVec.ofInt 64 (IntKind.wrap .u64 ((IntKind.wrap .u64 a) * 4294967296))) ||| (BitVec.ofInt 64 (IntKind.wrap .u64 b)))) : Int)) (IntKind.wrap .u64 c))), ())) := (Fn_eq rfl).trans (by kernel_rfl)

noncomputable def g104 : DL [(.int .u64)] → Option (DL [(.int .i64)]) := Fn cx0 an104 Try.f104 [(.int .u64)] [(.int .i64)]
theorem g104_eq (a : Int) : g104 (a, ()) =
  if (decide (a ≥ 4294967296)) = true then
    if (decide ((Int.fdiv a 4294967296) ≥ 65536)) = true then
      if (decide ((Int.fdiv (Int.fdiv a 4294967296) 65536) ≥ 256)) = true then
        if ((decide (0 ≤ (IntKind.wrap .u8 (Int.fdiv (Int.fdiv (Int.fdiv a 4294967296) 65536) 256)))) && (decide ((IntKind.wrap .u8 (Int.fdiv (Int.fdiv (Int.fdiv a 4294967296) 65536) 256)) < 256))) = true then
          some ((IntKind.wrap .i64 (56 + (IntKind.wrap .i64 ((UInt8.toNat (List.getD (0 :: (1 :: (2 :: (2 :: (3 :: (3 :: (3 :: (3 :: (4 :: (4 :: (4 :: (4 :: (4 :: (4 :: (4 :: (4 :: (5 :: (5 :: (5 :: (5 :: (5 :: (5 :: (5 :: (5 :: (5 :: (5 :: (5 :: (5 :: (5 :: (5 :: (5 :: (5 :: (6 :: (6 :: (6 :: (6 :: (6 :: (6 :: (6 :: (6 :: (6 :: (6 :: (6 :: (6 :: (6 :: (6 :: (6 :: (6 :: (6 :: (6 :: (6 :: (6 :: (6 :: (6 :: (6 :: (6 :: (6 :: (6 :: (6 :: (6 :: (6 :: (6 :: (6 :: (6 :: (7 :: (7 :: (7 :: (7 :: (7 :: (7 :: (7 :: (7 :: (7 :: (7 :: (7 :: (7 :: (7 :: (7 :: (7 :: (7 :: (7 :: (7 :: (7 :: (7 :: (7 :: (7 :: (7 :: (7 :: (7 :: (7 :: (7 :: (7 :: (7 :: (7 :: (7 :: (7 :: (7 :: (7 :: (7 :: (7 :: (7 :: (7 :: (7 :: (7 :: (7 :: (7 :: (7 :: (7 :: (7 :: (7 :: (7 :: (7 :: (7 :: (7 :: (7 :: (7 :: (7 :: (7 :: (7 :: (7 :: (7 :: (7 :: (7 :: (7 :: (7 :: (7 :: (7 :: (7 :: (8 :: (8 :: (8 :: (8 :: (8 :: (8 :: (8 :: (8 :: (8 :: (8 :: (8 :: (8 :: (8 :: (8 :: (8 :: (8 :: (8 :: (8 :: (8 :: (8 :: (8 :: (8 :: (8 :: (8 :: (8 :: (8 :: (8 :: (8 :: (8 :: (8 :: (8 :: (8 :: (8 :: (8 :: (8 :: (8 :: (8 :: (8 :: (8 :: (8 :: (8 :: (8 :: (8 :: (8 :: (8 :: (8 :: (8 :: (8 :: (8 :: (8 :: (8 :: (8 :: (8 :: (8 :: (8 :: (8 :: (8 :: (8 :: (8 :: (8 :: (8 :: (8 :: (8 :: (8 :: (8 :: (8 :: (8 :: (8 :: (8 :: (8 :: (8 :: (8 :: (8 :: (8 :: (8 :: (8 :: (8 :: (8 :: (8 :: (8 :: (8 :: (8 :: (8 :: (8 :: (8 :: (8 :: (8 :: (8 :: (8 :: (8 :: (8 :: (8 :: (8 :: (8 :: (8 :: (8 :: (8 :: (8 :: (8 :: (8 :: (8 :: (8 :: (8 :: (8 :: (8 :: (8 :: (8 :: (8 :: (8 :: (8 :: (8 :: (8 :: (8 :: (8 :: (8 :: (8 :: (8 :: (8 :: (8 :: (8 :: (8 :: (8 :: (8 :: (8 :: (8 :: (8 :: (8 :: (8 :: [])))))))))))))))))))))))))))))))))))))))))))))))))))))))))))))))))))))))))))))))))))))))))))))))))))))))))))))))))))))))))))))))))))))))))))))))))))))))))))))))))))))))))))))))))))))))))))))))))))))))))))))))))))))))))))))))))))))))))))))))))))))))))))))))) (Int.toNat (IntKind.wrap .u8 (Int.fdiv (Int.fdiv (Int.fdiv a 4294967296) 65536) 256))) 0)) : Int)))), ())
        else none
      else if ((decide (0 ≤ (IntKind.wrap .u8 (Int.fdiv (Int.fdiv a 4294967296) 65536)))) && (decide ((IntKind.wrap .u8 (Int.fdiv (Int.fdiv a 4294967296) 65536)) < 256))) = true then
        some ((IntKind.wrap .i64 (48 + (IntKind.wrap .i64 ((UInt8.toNat (List.getD (0 :: (1 :: (2 :: (2 :: (3 :: (3 :: (3 :: (3 :: (4 :: (4 :: (4 :: (4 :: (4 :: (4 :: (4 :: (4 :: (5 :: (5 :: (5 :: (5 :: (5 :: (5 :: (5 :: (5 :: (5 :: (5 :: (5 :: (5 :: (5 :: (5 :: (5 :: (5 :: (6 :: (6 :: (6 :: (6 :: (6 :: (6 :: (6 :: (6 :: (6 :: (6 :: (6 :: (6 :: (6 :: (6 :: (6 :: (6 :: (6 :: (6 :: (6 :: (6 :: (6 :: (6 :: (6 :: (6 :: (6 :: (6 :: (6 :: (6 :: (6 :: (6 :: (6 :: (6 :: (7 :: (7 :: (7 :: (7 :: (7 :: (7 :: (7 :: (7 :: (7 :: (7 :: (7 :: (7 :: (7 :: (7 :: (7 :: (7 :: (7 :: (7 :: (7 :: (7 :: (7 :: (7 :: (7 :: (7 :: (7 :: (7 :: (7 :: (7 :: (7 :: (7 :: (7 :: (7 :: (7 :: (7 :: (7 :: (7 :: (7 :: (7 :: (7 :: (7 :: (7 :: (7 :: (7 :: (7 :: (7 :: (7 :: (7 :: (7 :: (7 :: (7 :: (7 :: (7 :: (7 :: (7 :: (7 :: (7 :: (7 :: (7 :: (7 :: (7 :: (7 :: (7 :: (7 :: (7 :: (8 :: (8 :: (8 :: (8 :: (8 :: (8 :: (8 :: (8 :: (8 :: (8 :: (8 :: (8 :: (8 :: (8 :: (8 :: (8 :: (8 :: (8 :: (8 :: (8 :: (8 :: (8 :: (8 :: (8 :: (8 :: (8 :: (8 :: (8 :: (8 :: (8 :: (8 :: (8 :: (8 :: (8 :: (8 :: (8 :: (8 :: (8 :: (8 :: (8 :: (8 :: (8 :: (8 :: (8 :: (8 :: (8 :: (8 :: (8 :: (8 :: (8 :: (8 :: (8 :: (8 :: (8 :: (8 :: (8 :: (8 :: (8 :: (8 :: (8 :: (8 :: (8 :: (8 :: (8 :: (8 :: (8 :: (8 :: (8 :: (8 :: (8 :: (8 :: (8 :: (8 :: (8 :: (8 :: (8 :: (8 :: (8 :: (8 :: (8 :: (8 :: (8 :: (8 :: (8 :: (8 :: (8 :: (8 :: (8 :: (8 :: (8 :: (8 :: (8 :: (8 :: (8 :: (8 :: (8 :: (8 :: (8 :: (8 :: (8 :: (8 :: (8 :: (8 :: (8 :: (8 :: (8 :: (8 :: (8 :: (8 :: (8 :: (8 :: (8 :: (8 :: (8 :: (8 :: (8 :: (8 :: (8 :: (8 :: (8 :: (8 :: (8 :: (8 :: (8 :: (8 :: (8 :: (8 :: (8 :: [])))))))))))))))))))))))))))))))))))))))))))))))))))))))))))))))))))))))))))))))))))))))))))))))))))))))))))))))))))))))))))))))))))))))))))))))))))))))))))))))))))))))))))))))))))))))))))))))))))))))))))))))))))))))))))))))))))))))))))))))))))))))))))))))) (Int.toNat (IntKind.wrap .u8 (Int.fdiv (Int.fdiv a 4294967296) 65536))) 0)) : Int)))), ())
      else none
    else if (decide ((Int.fdiv a 4294967296) ≥ 256)) = true then
      if ((decide (0 ≤ (IntKind.wrap .u8 (Int.fdiv (Int.fdiv a 4294967296) 256)))) && (decide ((IntKind.wrap .u8 (Int.fdiv (Int.fdiv a 4294967296) 256)) < 256))) = true then
        some ((IntKind.wrap .i64 (40 + (IntKind.wrap .i64 ((UInt8.toNat (List.getD (0 :: (1 :: (2 :: (2 :: (3 :: (3 :: (3 :: (3 :: (4 :: (4 :: (4 :: (4 :: (4 :: (4 :: (4 :: (4 :: (5 :: (5 :: (5 :: (5 :: (5 :: (5 :: (5 :: (5 :: (5 :: (5 :: (5 :: (5 :: (5 :: (5 :: (5 :: (5 :: (6 :: (6 :: (6 :: (6 :: (6 :: (6 :: (6 :: (6 :: (6 :: (6 :: (6 :: (6 :: (6 :: (6 :: (6 :: (6 :: (6 :: (6 :: (6 :: (6 :: (6 :: (6 :: (6 :: (6 :: (6 :: (6 :: (6 :: (6 :: (6 :: (6 :: (6 :: (6 :: (7 :: (7 :: (7 :: (7 :: (7 :: (7 :: (7 :: (7 :: (7 :: (7 :: (7 :: (7 :: (7 :: (7 :: (7 :: (7 :: (7 :: (7 :: (7 :: (7 :: (7 :: (7 :: (7 :: (7 :: (7 :: (7 :: (7 :: (7 :: (7 :: (7 :: (7 :: (7 :: (7 :: (7 :: (7 :: (7 :: (7 :: (7 :: (7 :: (7 :: (7 :: (7 :: (7 :: (7 :: (7 :: (7 :: (7 :: (7 :: (7 :: (7 :: (7 :: (7 :: (7 :: (7 :: (7 :: (7 :: (7 :: (7 :: (7 :: (7 :: (7 :: (7 :: (7 :: (7 :: (8 :: (8 :: (8 :: (8 :: (8 :: (8 :: (8 :: (8 :: (8 :: (8 :: (8 :: (8 :: (8 :: (8 :: (8 :: (8 :: (8 :: (8 :: (8 :: (8 :: (8 :: (8 :: (8 :: (8 :: (8 :: (8 :: (8 :: (8 :: (8 :: (8 :: (8 :: (8 :: (8 :: (8 :: (8 :: (8 :: (8 :: (8 :: (8 :: (8 :: (8 :: (8 :: (8 :: (8 :: (8 :: (8 :: (8 :: (8 :: (8 :: (8 :: (8 :: (8 :: (8 :: (8 :: (8 :: (8 :: (8 :: (8 :: (8 :: (8 :: (8 :: (8 :: (8 :: (8 :: (8 :: (8 :: (8 :: (8 :: (8 :: (8 :: (8 :: (8 :: (8 :: (8 :: (8 :: (8 :: (8 :: (8 :: (8 :: (8 :: (8 :: (8 :: (8 :: (8 :: (8 :: (8 :: (8 :: (8 :: (8 :: (8 :: (8 :: (8 :: (8 :: (8 :: (8 :: (8 :: (8 :: (8 :: (8 :: (8 :: (8 :: (8 :: (8 :: (8 :: (8 :: (8 :: (8 :: (8 :: (8 :: (8 :: (8 :: (8 :: (8 :: (8 :: (8 :: (8 :: (8 :: (8 :: (8 :: (8 :: (8 :: (8 :: (8 :: (8 :: (8 :: (8 :: (8 :: (8 :: [])))))))))))))))))))))))))))))))))))))))))))))))))))))))))))))))))))))))))))))))))))))))))))))))))))))))))))))))))))))))))))))))))))))))))))))))))))))))))))))))))))))))))))))))))))))))))))))))))))))))))))))))))))))))))))))))))))))))))))))))))))))))))))))))) (Int.toNat (IntKind.wrap .u8 (Int.fdiv (Int.fdiv a 4294967296) 256))) 0)) : Int)))), ())
      else none
    else if ((decide (0 ≤ (IntKind.wrap .u8 (Int.fdiv a 4294967296)))) && (decide ((IntKind.wrap .u8 (Int.fdiv a 4294967296)) < 256))) = true then
      some ((IntKind.wrap .i64 (32 + (IntKind.wrap .i64 ((UInt8.toNat (List.getD (0 :: (1 :: (2 :: (2 :: (3 :: (3 :: (3 :: (3 :: (4 :: (4 :: (4 :: (4 :: (4 :: (4 :: (4 :: (4 :: (5 :: (5 :: (5 :: (5 :: (5 :: (5 :: (5 :: (5 :: (5 :: (5 :: (5 :: (5 :: (5 :: (5 :: (5 :: (5 :: (6 :: (6 :: (6 :: (6 :: (6 :: (6 :: (6 :: (6 :: (6 :: (6 :: (6 :: (6 :: (6 :: (6 :: (6 :: (6 :: (6 :: (6 :: (6 :: (6 :: (6 :: (6 :: (6 :: (6 :: (6 :: (6 :: (6 :: (6 :: (6 :: (6 :: (6 :: (6 :: (7 :: (7 :: (7 :: (7 :: (7 :: (7 :: (7 :: (7 :: (7 :: (7 :: (7 :: (7 :: (7 :: (7 :: (7 :: (7 :: (7 :: (7 :: (7 :: (7 :: (7 :: (7 :: (7 :: (7 :: (7 :: (7 :: (7 :: (7 :: (7 :: (7 :: (7 :: (7 :: (7 :: (7 :: (7 :: (7 :: (7 :: (7 :: (7 :: (7 :: (7 :: (7 :: (7 :: (7 :: (7 :: (7 :: (7 :: (7 :: (7 :: (7 :: (7 :: (7 :: (7 :: (7 :: (7 :: (7 :: (7 :: (7 :: (7 :: (7 :: (7 :: (7 :: (7 :: (7 :: (8 :: (8 :: (8 :: (8 :: (8 :: (8 :: (8 :: (8 :: (8 :: (8 :: (8 :: (8 :: (8 :: (8 :: (8 :: (8 :: (8 :: (8 :: (8 :: (8 :: (8 :: (8 :: (8 :: (8 :: (8 :: (8 :: (8 :: (8 :: (8 :: (8 :: (8 :: (8 :: (8 :: (8 :: (8 :: (8 :: (8 :: (8 :: (8 :: (8 :: (8 :: (8 :: (8 :: (8 :: (8 :: (8 :: (8 :: (8 :: (8 :: (8 :: (8 :: (8 :: (8 :: (8 :: (8 :: (8 :: (8 :: (8 :: (8 :: (8 :: (8 :: (8 :: (8 :: (8 :: (8 :: (8 :: (8 :: (8 :: (8 :: (8 :: (8 :: (8 :: (8 :: (8 :: (8 :: (8 :: (8 :: (8 :: (8 :: (8 :: (8 :: (8 :: (8 :: (8 :: (8 :: (8 :: (8 :: (8 :: (8 :: (8 :: (8 :: (8 :: (8 :: (8 :: (8 :: (8 :: (8 :: (8 :: (8 :: (8 :: (8 :: (8 :: (8 :: (8 :: (8 :: (8 :: (8 :: (8 :: (8 :: (8 :: (8 :: (8 :: (8 :: (8 :: (8 :: (8 :: (8 :: (8 :: (8 :: (8 :: (8 :: (8 :: (8 :: (8 :: (8 :: (8 :: (8 :: (8 :: [])))))))))))))))))))))))))))))))))))))))))))))))))))))))))))))))))))))))))))))))))))))))))))))))))))))))))))))))))))))))))))))))))))))))))))))))))))))))))))))))))))))))))))))))))))))))))))))))))))))))))))))))))))))))))))))))))))))))))))))))))))))))))))))))) (Int.toNat (IntKind.wrap .u8 (Int.fdiv a 4294967296))) 0)) : Int)))), ())
    else none
  else if (decide (a ≥ 65536)) = true then
    if (decide ((Int.fdiv a 65536) ≥ 256)) = true then
      if ((decide (0 ≤ (IntKind.wrap .u8 (Int.fdiv (Int.fdiv a 65536) 256)))) && (decide ((IntKind.wrap .u8 (Int.fdiv (Int.fdiv a 65536) 256)) < 256))) = true then
        some ((IntKind.wrap .i64 (24 + (IntKind.wrap .i64 ((UInt8.toNat (List.getD (0 :: (1 :: (2 :: (2 :: (3 :: (3 :: (3 :: (3 :: (4 :: (4 :: (4 :: (4 :: (4 :: (4 :: (4 :: (4 :: (5 :: (5 :: (5 :: (5 :: (5 :: (5 :: (5 :: (5 :: (5 :: (5 :: (5 :: (5 :: (5 :: (5 :: (5 :: (5 :: (6 :: (6 :: (6 :: (6 :: (6 :: (6 :: (6 :: (6 :: (6 :: (6 :: (6 :: (6 :: (6 :: (6 :: (6 :: (6 :: (6 :: (6 :: (6 :: (6 :: (6 :: (6 :: (6 :: (6 :: (6 :: (6 :: (6 :: (6 :: (6 :: (6 :: (6 :: (6 :: (7 :: (7 :: (7 :: (7 :: (7 :: (7 :: (7 :: (7 :: (7 :: (7 :: (7 :: (7 :: (7 :: (7 :: (7 :: (7 :: (7 :: (7 :: (7 :: (7 :: (7 :: (7 :: (7 :: (7 :: (7 :: (7 :: (7 :: (7 :: (7 :: (7 :: (7 :: (7 :: (7 :: (7 :: (7 :: (7 :: (7 :: (7 :: (7 :: (7 :: (7 :: (7 :: (7 :: (7 :: (7 :: (7 :: (7 :: (7 :: (7 :: (7 :: (7 :: (7 :: (7 :: (7 :: (7 :: (7 :: (7 :: (7 :: (7 :: (7 :: (7 :: (7 :: (7 :: (7 :: (8 :: (8 :: (8 :: (8 :: (8 :: (8 :: (8 :: (8 :: (8 :: (8 :: (8 :: (8 :: (8 :: (8 :: (8 :: (8 :: (8 :: (8 :: (8 :: (8 :: (8 :: (8 :: (8 :: (8 :: (8 :: (8 :: (8 :: (8 :: (8 :: (8 :: (8 :: (8 :: (8 :: (8 :: (8 :: (8 :: (8 :: (8 :: (8 :: (8 :: (8 :: (8 :: (8 :: (8 :: (8 :: (8 :: (8 :: (8 :: (8 :: (8 :: (8 :: (8 :: (8 :: (8 :: (8 :: (8 :: (8 :: (8 :: (8 :: (8 :: (8 :: (8 :: (8 :: (8 :: (8 :: (8 :: (8 :: (8 :: (8 :: (8 :: (8 :: (8 :: (8 :: (8 :: (8 :: (8 :: (8 :: (8 :: (8 :: (8 :: (8 :: (8 :: (8 :: (8 :: (8 :: (8 :: (8 :: (8 :: (8 :: (8 :: (8 :: (8 :: (8 :: (8 :: (8 :: (8 :: (8 :: (8 :: (8 :: (8 :: (8 :: (8 :: (8 :: (8 :: (8 :: (8 :: (8 :: (8 :: (8 :: (8 :: (8 :: (8 :: (8 :: (8 :: (8 :: (8 :: (8 :: (8 :: (8 :: (8 :: (8 :: (8 :: (8 :: (8 :: (8 :: (8 :: (8 :: (8 :: [])))))))))))))))))))))))))))))))))))))))))))))))))))))))))))))))))))))))))))))))))))))))))))))))))))))))))))))))))))))))))))))))))))))))))))))))))))))))))))))))))))))))))))))))))))))))))))))))))))))))))))))))))))))))))))))))))))))))))))))))))))))))))))))))) (Int.toNat (IntKind.wrap .u8 (Int.fdiv (Int.fdiv a 65536) 256))) 0)) : Int)))), ())
      else none
    else if ((decide (0 ≤ (IntKind.wrap .u8 (Int.fdiv a 65536)))) && (decide ((IntKind.wrap .u8 (Int.fdiv a 65536)) < 256))) = true then
      some ((IntKind.wrap .i64 (16 + (IntKind.wrap .i64 ((UInt8.toNat (List.getD (0 :: (1 :: (2 :: (2 :: (3 :: (3 :: (3 :: (3 :: (4 :: (4 :: (4 :: (4 :: (4 :: (4 :: (4 :: (4 :: (5 :: (5 :: (5 :: (5 :: (5 :: (5 :: (5 :: (5 :: (5 :: (5 :: (5 :: (5 :: (5 :: (5 :: (5 :: (5 :: (6 :: (6 :: (6 :: (6 :: (6 :: (6 :: (6 :: (6 :: (6 :: (6 :: (6 :: (6 :: (6 :: (6 :: (6 :: (6 :: (6 :: (6 :: (6 :: (6 :: (6 :: (6 :: (6 :: (6 :: (6 :: (6 :: (6 :: (6 :: (6 :: (6 :: (6 :: (6 :: (7 :: (7 :: (7 :: (7 :: (7 :: (7 :: (7 :: (7 :: (7 :: (7 :: (7 :: (7 :: (7 :: (7 :: (7 :: (7 :: (7 :: (7 :: (7 :: (7 :: (7 :: (7 :: (7 :: (7 :: (7 :: (7 :: (7 :: (7 :: (7 :: (7 :: (7 :: (7 :: (7 :: (7 :: (7 :: (7 :: (7 :: (7 :: (7 :: (7 :: (7 :: (7 :: (7 :: (7 :: (7 :: (7 :: (7 :: (7 :: (7 :: (7 :: (7 :: (7 :: (7 :: (7 :: (7 :: (7 :: (7 :: (7 :: (7 :: (7 :: (7 :: (7 :: (7 :: (7 :: (8 :: (8 :: (8 :: (8 :: (8 :: (8 :: (8 :: (8 :: (8 :: (8 :: (8 :: (8 :: (8 :: (8 :: (8 :: (8 :: (8 :: (8 :: (8 :: (8 :: (8 :: (8 :: (8 :: (8 :: (8 :: (8 :: (8 :: (8 :: (8 :: (8 :: (8 :: (8 :: (8 :: (8 :: (8 :: (8 :: (8 :: (8 :: (8 :: (8 :: (8 :: (8 :: (8 :: (8 :: (8 :: (8 :: (8 :: (8 :: (8 :: (8 :: (8 :: (8 :: (8 :: (8 :: (8 :: (8 :: (8 :: (8 :: (8 :: (8 :: (8 :: (8 :: (8 :: (8 :: (8 :: (8 :: (8 :: (8 :: (8 :: (8 :: (8 :: (8 :: (8 :: (8 :: (8 :: (8 :: (8 :: (8 :: (8 :: (8 :: (8 :: (8 :: (8 :: (8 :: (8 :: (8 :: (8 :: (8 :: (8 :: (8 :: (8 :: (8 :: (8 :: (8 :: (8 :: (8 :: (8 :: (8 :: (8 :: (8 :: (8 :: (8 :: (8 :: (8 :: (8 :: (8 :: (8 :: (8 :: (8 :: (8 :: (8 :: (8 :: (8 :: (8 :: (8 :: (8 :: (8 :: (8 :: (8 :: (8 :: (8 :: (8 :: (8 :: (8 :: (8 :: (8 :: (8 :: (8 :: [])))))))))))))))))))))))))))))))))))))))))))))))))))))))))))))))))))))))))))))))))))))))))))))))))))))))))))))))))))))))))))))))))))))))))))))))))))))))))))))))))))))))))))))))))))))))))))))))))))))))))))))))))))))))))))))))))))))))))))))))))))))))))))))))) (Int.toNat (IntKind.wrap .u8 (Int.fdiv a 65536))) 0)) : Int)))), ())
    else none
  else if (decide (a ≥ 256)) = true then
    if ((decide (0 ≤ (IntKind.wrap .u8 (Int.fdiv a 256)))) && (decide ((IntKind.wrap .u8 (Int.fdiv a 256)) < 256))) = true then
      some ((IntKind.wrap .i64 (8 + (IntKind.wrap .i64 ((UInt8.toNat (List.getD (0 :: (1 :: (2 :: (2 :: (3 :: (3 :: (3 :: (3 :: (4 :: (4 :: (4 :: (4 :: (4 :: (4 :: (4 :: (4 :: (5 :: (5 :: (5 :: (5 :: (5 :: (5 :: (5 :: (5 :: (5 :: (5 :: (5 :: (5 :: (5 :: (5 :: (5 :: (5 :: (6 :: (6 :: (6 :: (6 :: (6 :: (6 :: (6 :: (6 :: (6 :: (6 :: (6 :: (6 :: (6 :: (6 :: (6 :: (6 :: (6 :: (6 :: (6 :: (6 :: (6 :: (6 :: (6 :: (6 :: (6 :: (6 :: (6 :: (6 :: (6 :: (6 :: (6 :: (6 :: (7 :: (7 :: (7 :: (7 :: (7 :: (7 :: (7 :: (7 :: (7 :: (7 :: (7 :: (7 :: (7 :: (7 :: (7 :: (7 :: (7 :: (7 :: (7 :: (7 :: (7 :: (7 :: (7 :: (7 :: (7 :: (7 :: (7 :: (7 :: (7 :: (7 :: (7 :: (7 :: (7 :: (7 :: (7 :: (7 :: (7 :: (7 :: (7 :: (7 :: (7 :: (7 :: (7 :: (7 :: (7 :: (7 :: (7 :: (7 :: (7 :: (7 :: (7 :: (7 :: (7 :: (7 :: (7 :: (7 :: (7 :: (7 :: (7 :: (7 :: (7 :: (7 :: (7 :: (7 :: (8 :: (8 :: (8 :: (8 :: (8 :: (8 :: (8 :: (8 :: (8 :: (8 :: (8 :: (8 :: (8 :: (8 :: (8 :: (8 :: (8 :: (8 :: (8 :: (8 :: (8 :: (8 :: (8 :: (8 :: (8 :: (8 :: (8 :: (8 :: (8 :: (8 :: (8 :: (8 :: (8 :: (8 :: (8 :: (8 :: (8 :: (8 :: (8 :: (8 :: (8 :: (8 :: (8 :: (8 :: (8 :: (8 :: (8 :: (8 :: (8 :: (8 :: (8 :: (8 :: (8 :: (8 :: (8 :: (8 :: (8 :: (8 :: (8 :: (8 :: (8 :: (8 :: (8 :: (8 :: (8 :: (8 :: (8 :: (8 :: (8 :: (8 :: (8 :: (8 :: (8 :: (8 :: (8 :: (8 :: (8 :: (8 :: (8 :: (8 :: (8 :: (8 :: (8 :: (8 :: (8 :: (8 :: (8 :: (8 :: (8 :: (8 :: (8 :: (8 :: (8 :: (8 :: (8 :: (8 :: (8 :: (8 :: (8 :: (8 :: (8 :: (8 :: (8 :: (8 :: (8 :: (8 :: (8 :: (8 :: (8 :: (8 :: (8 :: (8 :: (8 :: (8 :: (8 :: (8 :: (8 :: (8 :: (8 :: (8 :: (8 :: (8 :: (8 :: (8 :: (8 :: (8 :: (8 :: (8 :: [])))))))))))))))))))))))))))))))))))))))))))))))))))))))))))))))))))))))))))))))))))))))))))))))))))))))))))))))))))))))))))))))))))))))))))))))))))))))))))))))))))))))))))))))))))))))))))))))))))))))))))))))))))))))))))))))))))))))))))))))))))))))))))))))) (Int.toNat (IntKind.wrap .u8 (Int.fdiv a 256))) 0)) : Int)))), ())
    else none
  else if ((decide (0 ≤ (IntKind.wrap .u8 a))) && (decide ((IntKind.wrap .u8 a) < 256))) = true then
    some ((IntKind.wrap .i64 (0 + (IntKind.wrap .i64 ((UInt8.toNat (List.getD (0 :: (1 :: (2 :: (2 :: (3 :: (3 :: (3 :: (3 :: (4 :: (4 :: (4 :: (4 :: (4 :: (4 :: (4 :: (4 :: (5 :: (5 :: (5 :: (5 :: (5 :: (5 :: (5 :: (5 :: (5 :: (5 :: (5 :: (5 :: (5 :: (5 :: (5 :: (5 :: (6 :: (6 :: (6 :: (6 :: (6 :: (6 :: (6 :: (6 :: (6 :: (6 :: (6 :: (6 :: (6 :: (6 :: (6 :: (6 :: (6 :: (6 :: (6 :: (6 :: (6 :: (6 :: (6 :: (6 :: (6 :: (6 :: (6 :: (6 :: (6 :: (6 :: (6 :: (6 :: (7 :: (7 :: (7 :: (7 :: (7 :: (7 :: (7 :: (7 :: (7 :: (7 :: (7 :: (7 :: (7 :: (7 :: (7 :: (7 :: (7 :: (7 :: (7 :: (7 :: (7 :: (7 :: (7 :: (7 :: (7 :: (7 :: (7 :: (7 :: (7 :: (7 :: (7 :: (7 :: (7 :: (7 :: (7 :: (7 :: (7 :: (7 :: (7 :: (7 :: (7 :: (7 :: (7 :: (7 :: (7 :: (7 :: (7 :: (7 :: (7 :: (7 :: (7 :: (7 :: (7 :: (7 :: (7 :: (7 :: (7 :: (7 :: (7 :: (7 :: (7 :: (7 :: (7 :: (7 :: (8 :: (8 :: (8 :: (8 :: (8 :: (8 :: (8 :: (8 :: (8 :: (8 :: (8 :: (8 :: (8 :: (8 :: (8 :: (8 :: (8 :: (8 :: (8 :: (8 :: (8 :: (8 :: (8 :: (8 :: (8 :: (8 :: (8 :: (8 :: (8 :: (8 :: (8 :: (8 :: (8 :: (8 :: (8 :: (8 :: (8 :: (8 :: (8 :: (8 :: (8 :: (8 :: (8 :: (8 :: (8 :: (8 :: (8 :: (8 :: (8 :: (8 :: (8 :: (8 :: (8 :: (8 :: (8 :: (8 :: (8 :: (8 :: (8 :: (8 :: (8 :: (8 :: (8 :: (8 :: (8 :: (8 :: (8 :: (8 :: (8 :: (8 :: (8 :: (8 :: (8 :: (8 :: (8 :: (8 :: (8 :: (8 :: (8 :: (8 :: (8 :: (8 :: (8 :: (8 :: (8 :: (8 :: (8 :: (8 :: (8 :: (8 :: (8 :: (8 :: (8 :: (8 :: (8 :: (8 :: (8 :: (8 :: (8 :: (8 :: (8 :: (8 :: (8 :: (8 :: (8 :: (8 :: (8 :: (8 :: (8 :: (8 :: (8 :: (8 :: (8 :: (8 :: (8 :: (8 :: (8 :: (8 :: (8 :: (8 :: (8 :: (8 :: (8 :: (8 :: (8 :: (8 :: (8 :: (8 :: [])))))))))))))))))))))))))))))))))))))))))))))))))))))))))))))))))))))))))))))))))))))))))))))))))))))))))))))))))))))))))))))))))))))))))))))))))))))))))))))))))))))))))))))))))))))))))))))))))))))))))))))))))))))))))))))))))))))))))))))))))))))))))))))))) (Int.toNat (IntKind.wrap .u8 a)) 0)) : Int)))), ())
  else none := (Fn_eq rfl).trans (by kernel_rfl)

end Go.Refl.S3
