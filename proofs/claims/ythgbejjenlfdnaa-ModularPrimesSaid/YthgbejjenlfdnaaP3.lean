/-
  PRINTED BY PROGRAM: what the bodies of some functions compute, loop by loop; each equation is checked by the kernel.
-/
import Derived.Test.YthgbejjenlfdnaaQ3
import Derived.KernelRfl
set_option linter.unusedVariables false
set_option maxRecDepth 100000
namespace Go.Refl.S3
open Go Go.Refl Go.Proofs

noncomputable def cx86 : Cx := { types := T, sigs := [(82, ⟨[(.sl (.int .u32)), (.int .i64)], [(.int .u64)], h82⟩)], muts := [] }
def an86 : List (Nat × Ann) := [(4, { keep := 903 })]
noncomputable def cx87 : Cx := { types := T, sigs := [(82, ⟨[(.sl (.int .u32)), (.int .i64)], [(.int .u64)], h82⟩)], muts := [] }
def an87 : List (Nat × Ann) := [(2, { keep := 51 })]
noncomputable def cx96 : Cx := { types := T, sigs := [(83, ⟨[(.sl (.int .u32)), (.int .i64)], [(.int .u32)], h83⟩), (90, ⟨[(.int .u32), (.int .u32), (.int .u32)], [(.int .u32), (.int .u32)], h90⟩), (92, ⟨[(.int .u32), (.int .u32), (.int .u32)], [(.int .u32), (.int .u32)], h92⟩), (103, ⟨[(.int .u32), (.int .u32), (.int .u32)], [(.int .u32), (.int .u32)], h103⟩)], muts := [] }
def an96 : List (Nat × Ann) := [(7, { keep := 611 }), (13, { keep := 14507109835375550096477251 }), (19, { keep := 2115 }), (23, { keep := 249230249209671726169463823802574915 })]
noncomputable def cx45 : Cx := { types := T, sigs := [(69, ⟨[(.sl (.int .u32)), .bool], [(.pair .bool (.pair (.sl (.int .u32)) .unit))], h69⟩), (70, ⟨[(.sl (.int .u32)), (.sl (.int .u32))], [(.sl (.int .u32))], h70⟩), (71, ⟨[(.sl (.int .u32)), (.sl (.int .u32))], [(.int .i64)], h71⟩), (72, ⟨[(.sl (.int .u32)), (.sl (.int .u32))], [(.sl (.int .u32))], h72⟩)], muts := [] }
def an45 : List (Nat × Ann) := []
noncomputable def cx56 : Cx := { types := T, sigs := [(51, ⟨[(.pair .bool (.pair (.sl (.int .u32)) .unit))], [(.int .i64)], h51⟩), (71, ⟨[(.sl (.int .u32)), (.sl (.int .u32))], [(.int .i64)], h71⟩), (78, ⟨[(.int .i64), (.int .i64)], [(.int .i64)], h78⟩)], muts := [] }
def an56 : List (Nat × Ann) := []
noncomputable def cx59 : Cx := { types := T, sigs := [(35, ⟨[(.pair .bool (.pair (.sl (.int .u32)) .unit))], [(.pair .bool (.pair (.sl (.int .u32)) .unit))], h35⟩), (39, ⟨[(.pair .bool (.pair (.sl (.int .u32)) .unit)), (.pair .bool (.pair (.sl (.int .u32)) .unit))], [(.pair .bool (.pair (.sl (.int .u32)) .unit))], h39⟩)], muts := [] }
def an59 : List (Nat × Ann) := []
noncomputable def cx77 : Cx := { types := T, sigs := [(68, ⟨[(.int .u64)], [(.sl (.int .u32))], h68⟩), (73, ⟨[(.sl (.int .u32)), (.sl (.int .u32))], [(.sl (.int .u32))], h73⟩), (99, ⟨[(.int .u64)], [(.int .i64)], h99⟩)], muts := [] }
def an77 : List (Nat × Ann) := [(3, { keep := 3107 })]
noncomputable def cx95 : Cx := { types := T, sigs := [], muts := [] }
def an95 : List (Nat × Ann) := [(3, { keep := 57378 })]
noncomputable def g86 : List (Ty.D (.int .u32)) → Nat → Nat → DL [(.sl (.int .u32)), (.int .u64)] → Option (DL [.bool] × List (Ty.D (.int .u32))) := FnM cx86 an86 Try.f86 (.int .u32) 22 [(.sl (.int .u32)), (.int .u64)] [.bool]
noncomputable def g86_L4 (t0lo : Nat) (t0n : Nat) (t1 : (List Int)) (t2 : Int) (t7 : Int) (t8 : Int) (t9 : Int) (r0 : List Int) : Option (DL [.bool] × List (Ty.D (.int .u32))) := LpM cx86 an86 Try.f86 (.int .u32) 22 [.bool] [true, true, true, false, true, false] ⟨[.sub 0 0 t0lo t0n, .val (.sl (.int .u32)) t1, .val (.int .u64) t2, .undef, .undef, .undef, .undef, .val (.int .u64) t7, .val (.int .u64) t8, .val (.int .i64) t9, .undef, .undef, .undef, .undef, .undef, .undef, .undef, .undef, .undef, .undef, .undef, .undef, .undef, .undef, .undef, .undef, .undef, .undef, .undef, .undef, .undef, .undef, .undef, .undef, .undef, .undef, .undef, .undef, .undef, .undef, .undef, .undef, .undef, .undef, .undef, .undef, .undef, .undef, .undef], ofL [(0, (.row 22 (.int .u32) r0 0, false))], [0], []⟩
theorem g86_L4_eq (t0lo : Nat) (t0n : Nat) (t1 : (List Int)) (t2 : Int) (t7 : Int) (t8 : Int) (t9 : Int) (r0 : List Int) : g86_L4 t0lo t0n t1 t2 t7 t8 t9 r0 =
  if (decide (t9 < (t0n : Int))) = true then
    Option.bind (h82 (t1, (t9, ()))) fun (y0 : (Int × Unit)) =>
    if ((decide (0 ≤ t9)) && (decide (t9 < (t0n : Int)))) = true then
      if ((decide (0 ≤ t9)) && (decide (t9 < (t0n : Int)))) = true then
        (g86_L4 t0lo t0n t1 t2 (IntKind.wrap .u64 (Int.tdiv (IntKind.wrap .u64 ((IntKind.wrap .u64 (t2 * y0.1)) + t7)) 4294967296)) (IntKind.wrap .u64 (1 - (IntKind.wrap .u64 (Int.tdiv (IntKind.wrap .u64 ((IntKind.wrap .u64 ((IntKind.wrap .u64 (4294967296 + (IntKind.wrap .u64 (List.getD r0 (t0lo + (Int.toNat t9)) 0)))) - (Int.tmod (IntKind.wrap .u64 ((IntKind.wrap .u64 (t2 * y0.1)) + t7)) 4294967296))) - t8)) 4294967296)))) (IntKind.wrap .i64 (t9 + 1)) (List.set r0 (t0lo + (Int.toNat t9)) (IntKind.wrap .u32 (Int.tmod (IntKind.wrap .u64 ((IntKind.wrap .u64 ((IntKind.wrap .u64 (4294967296 + (IntKind.wrap .u64 (List.getD r0 (t0lo + (Int.toNat t9)) 0)))) - (Int.tmod (IntKind.wrap .u64 ((IntKind.wrap .u64 (t2 * y0.1)) + t7)) 4294967296))) - t8)) 4294967296))))
      else none
    else none
  else some (((t8 == 1), ()), r0) := (LpM_eq cx86 an86 Try.f86 (.int .u32) 22 [.bool] [true, true, true, false, true, false] _).trans (by kernel_rfl)
theorem g86_eq (xs : List Int) (lo n : Nat) (v : (List Int)) (q : Int) : g86 xs lo n (v, q, ()) =
  (g86_L4 lo n v q 0 0 0 xs) := by kernel_rfl

noncomputable def g87 : List (Ty.D (.int .u32)) → Nat → Nat → DL [(.sl (.int .u32))] → Option (DL [] × List (Ty.D (.int .u32))) := FnM cx87 an87 Try.f87 (.int .u32) 22 [(.sl (.int .u32))] []
noncomputable def g87_L2 (t0lo : Nat) (t0n : Nat) (t1 : (List Int)) (t4 : Int) (t5 : Int) (r0 : List Int) : Option (DL [] × List (Ty.D (.int .u32))) := LpM cx87 an87 Try.f87 (.int .u32) 22 [] [true, true, false] ⟨[.sub 0 0 t0lo t0n, .val (.sl (.int .u32)) t1, .undef, .undef, .val (.int .u64) t4, .val (.int .i64) t5, .undef, .undef, .undef, .undef, .undef, .undef, .undef, .undef, .undef, .undef, .undef, .undef, .undef, .undef, .undef, .undef, .undef, .undef, .undef, .undef, .undef, .undef, .undef, .undef, .undef, .undef], ofL [(0, (.row 22 (.int .u32) r0 0, false))], [0], []⟩
theorem g87_L2_eq (t0lo : Nat) (t0n : Nat) (t1 : (List Int)) (t4 : Int) (t5 : Int) (r0 : List Int) : g87_L2 t0lo t0n t1 t4 t5 r0 =
  if (decide (t5 < (t0n : Int))) = true then
    if ((decide (0 ≤ t5)) && (decide (t5 < (t0n : Int)))) = true then
      Option.bind (h82 (t1, (t5, ()))) fun (y0 : (Int × Unit)) =>
      if ((decide (0 ≤ t5)) && (decide (t5 < (t0n : Int)))) = true then
        (g87_L2 t0lo t0n t1 (IntKind.wrap .u64 (Int.tdiv (IntKind.wrap .u64 ((IntKind.wrap .u64 ((IntKind.wrap .u64 (List.getD r0 (t0lo + (Int.toNat t5)) 0)) + y0.1)) + t4)) 4294967296)) (IntKind.wrap .i64 (t5 + 1)) (List.set r0 (t0lo + (Int.toNat t5)) (IntKind.wrap .u32 (Int.tmod (IntKind.wrap .u64 ((IntKind.wrap .u64 ((IntKind.wrap .u64 (List.getD r0 (t0lo + (Int.toNat t5)) 0)) + y0.1)) + t4)) 4294967296))))
      else none
    else none
  else some ((), r0) := (LpM_eq cx87 an87 Try.f87 (.int .u32) 22 [] [true, true, false] _).trans (by kernel_rfl)
theorem g87_eq (xs : List Int) (lo n : Nat) (v : (List Int)) : g87 xs lo n (v, ()) =
  (g87_L2 lo n v 0 0 xs) := by kernel_rfl

noncomputable def g96 : List (Ty.D (.int .u32)) → Nat → Nat → DL [(.sl (.int .u32))] → Option (DL [(.int .u32)] × List (Ty.D (.int .u32))) := FnM cx96 an96 Try.f96 (.int .u32) 22 [(.sl (.int .u32))] [(.int .u32)]
noncomputable def g96_L7 (t0lo : Nat) (t0n : Nat) (t1 : (List Int)) (t5 : Int) (t6 : Int) (t9 : Int) (r0 : List Int) : Option (DL [(.int .u32)] × List (Ty.D (.int .u32))) := LpM cx96 an96 Try.f96 (.int .u32) 22 [(.int .u32)] [true, true, true, false, true, false, true, true, true, false] ⟨[.sub 0 0 t0lo t0n, .val (.sl (.int .u32)) t1, .undef, .undef, .undef, .val (.int .i64) t5, .val (.int .u64) t6, .undef, .undef, .val (.int .u64) t9, .undef, .undef, .undef, .undef, .undef, .undef, .undef, .undef, .undef, .undef, .undef, .undef, .undef, .undef, .undef, .undef, .undef, .undef, .undef, .undef, .undef, .undef, .undef, .undef, .undef, .undef, .undef, .undef, .undef, .undef, .undef, .undef, .undef, .undef, .undef, .undef, .undef, .undef, .undef, .undef, .undef, .undef, .undef, .undef, .undef, .undef, .undef, .undef, .undef, .undef, .undef, .undef, .undef, .undef, .undef, .undef, .undef, .undef, .undef, .undef, .undef, .undef, .undef, .undef, .undef, .undef, .undef, .undef, .undef, .undef, .undef, .undef, .undef, .undef, .undef, .undef, .undef, .undef, .undef, .undef, .undef, .undef, .undef, .undef, .undef, .undef, .undef, .undef, .undef, .undef, .undef, .undef, .undef, .undef, .undef, .undef, .undef, .undef, .undef, .undef, .undef, .undef, .undef, .undef, .undef, .undef, .undef, .undef, .undef, .undef, .undef, .undef, .undef, .undef, .undef, .undef, .undef, .undef, .undef, .undef, .undef, .undef, .undef, .undef, .undef, .undef, .undef, .undef, .undef, .undef, .undef], ofL [(0, (.row 22 (.int .u32) r0 0, false))], [0], []⟩
noncomputable def g96_L13 (t0lo : Nat) (t0n : Nat) (t1 : (List Int)) (t6 : Int) (t10 : Int) (t11 : Int) (t82 : Int) (t83 : Int) (r0 : List Int) : Option (DL [(.int .u32)] × List (Ty.D (.int .u32))) := LpM cx96 an96 Try.f96 (.int .u32) 22 [(.int .u32)] [true, true, true, true, true, true, false, true, false] ⟨[.sub 0 0 t0lo t0n, .val (.sl (.int .u32)) t1, .undef, .undef, .undef, .undef, .val (.int .u64) t6, .undef, .undef, .undef, .val (.int .u64) t10, .val (.int .u32) t11, .undef, .undef, .undef, .undef, .undef, .undef, .undef, .undef, .undef, .undef, .undef, .undef, .undef, .undef, .undef, .undef, .undef, .undef, .undef, .undef, .undef, .undef, .undef, .undef, .undef, .undef, .undef, .undef, .undef, .undef, .undef, .undef, .undef, .undef, .undef, .undef, .undef, .undef, .undef, .undef, .undef, .undef, .undef, .undef, .undef, .undef, .undef, .undef, .undef, .undef, .undef, .undef, .undef, .undef, .undef, .undef, .undef, .undef, .undef, .undef, .undef, .undef, .undef, .undef, .undef, .undef, .undef, .undef, .undef, .undef, .val (.int .i64) t82, .val (.int .i64) t83, .undef, .undef, .undef, .undef, .undef, .undef, .undef, .undef, .undef, .undef, .undef, .undef, .undef, .undef, .undef, .undef, .undef, .undef, .undef, .undef, .undef, .undef, .undef, .undef, .undef, .undef, .undef, .undef, .undef, .undef, .undef, .undef, .undef, .undef, .undef, .undef, .undef, .undef, .undef, .undef, .undef, .undef, .undef, .undef, .undef, .undef, .undef, .undef, .undef, .undef, .undef, .undef, .undef, .undef, .undef, .undef, .undef], ofL [(0, (.row 22 (.int .u32) r0 0, false))], [0], []⟩
noncomputable def g96_L19 (t0lo : Nat) (t0n : Nat) (t1 : (List Int)) (t6 : Int) (t11 : Int) (r0 : List Int) : Option (DL [(.int .u32)] × List (Ty.D (.int .u32))) := LpM cx96 an96 Try.f96 (.int .u32) 22 [(.int .u32)] [true, true, true, true, true, true, true, false, false] ⟨[.sub 0 0 t0lo t0n, .val (.sl (.int .u32)) t1, .undef, .undef, .undef, .undef, .val (.int .u64) t6, .undef, .undef, .undef, .undef, .val (.int .u32) t11, .undef, .undef, .undef, .undef, .undef, .undef, .undef, .undef, .undef, .undef, .undef, .undef, .undef, .undef, .undef, .undef, .undef, .undef, .undef, .undef, .undef, .undef, .undef, .undef, .undef, .undef, .undef, .undef, .undef, .undef, .undef, .undef, .undef, .undef, .undef, .undef, .undef, .undef, .undef, .undef, .undef, .undef, .undef, .undef, .undef, .undef, .undef, .undef, .undef, .undef, .undef, .undef, .undef, .undef, .undef, .undef, .undef, .undef, .undef, .undef, .undef, .undef, .undef, .undef, .undef, .undef, .undef, .undef, .undef, .undef, .undef, .undef, .undef, .undef, .undef, .undef, .undef, .undef, .undef, .undef, .undef, .undef, .undef, .undef, .undef, .undef, .undef, .undef, .undef, .undef, .undef, .undef, .undef, .undef, .undef, .undef, .undef, .undef, .undef, .undef, .undef, .undef, .undef, .undef, .undef, .undef, .undef, .undef, .undef, .undef, .undef, .undef, .undef, .undef, .undef, .undef, .undef, .undef, .undef, .undef, .undef, .undef, .undef, .undef, .undef, .undef, .undef, .undef, .undef], ofL [(0, (.row 22 (.int .u32) r0 0, false))], [0], []⟩
noncomputable def g96_L23 (t0lo : Nat) (t0n : Nat) (t1 : (List Int)) (t6 : Int) (t11 : Int) (t13 : Int) (t116 : Int) (t117 : Int) (r0 : List Int) : Option (DL [(.int .u32)] × List (Ty.D (.int .u32))) := LpM cx96 an96 Try.f96 (.int .u32) 22 [(.int .u32)] [true, true, true, true, true, true, true, false, false, false, true, false, true, true, false, true, false] ⟨[.sub 0 0 t0lo t0n, .val (.sl (.int .u32)) t1, .undef, .undef, .undef, .undef, .val (.int .u64) t6, .undef, .undef, .undef, .undef, .val (.int .u32) t11, .undef, .val (.int .u32) t13, .undef, .undef, .undef, .undef, .undef, .undef, .undef, .undef, .undef, .undef, .undef, .undef, .undef, .undef, .undef, .undef, .undef, .undef, .undef, .undef, .undef, .undef, .undef, .undef, .undef, .undef, .undef, .undef, .undef, .undef, .undef, .undef, .undef, .undef, .undef, .undef, .undef, .undef, .undef, .undef, .undef, .undef, .undef, .undef, .undef, .undef, .undef, .undef, .undef, .undef, .undef, .undef, .undef, .undef, .undef, .undef, .undef, .undef, .undef, .undef, .undef, .undef, .undef, .undef, .undef, .undef, .undef, .undef, .undef, .undef, .undef, .undef, .undef, .undef, .undef, .undef, .undef, .undef, .undef, .undef, .undef, .undef, .undef, .undef, .undef, .undef, .undef, .undef, .undef, .undef, .undef, .undef, .undef, .undef, .undef, .undef, .undef, .undef, .undef, .undef, .undef, .undef, .val (.int .i64) t116, .val (.int .i64) t117, .undef, .undef, .undef, .undef, .undef, .undef, .undef, .undef, .undef, .undef, .undef, .undef, .undef, .undef, .undef, .undef, .undef, .undef, .undef, .undef, .undef, .undef, .undef], ofL [(0, (.row 22 (.int .u32) r0 0, false))], [0], []⟩
theorem g96_L7_eq (t0lo : Nat) (t0n : Nat) (t1 : (List Int)) (t5 : Int) (t6 : Int) (t9 : Int) (r0 : List Int) : g96_L7 t0lo t0n t1 t5 t6 t9 r0 =
  if (decide (t9 ≤ 4294967295)) = true then
    if ((decide (0 ≤ (IntKind.wrap .i64 (t5 - 2)))) && (decide ((IntKind.wrap .i64 (t5 - 2)) < ((List.length t1) : Int)))) = true then
      if ((decide (0 ≤ (IntKind.wrap .i64 (t5 - 2)))) && (decide ((IntKind.wrap .i64 (t5 - 2)) < (t0n : Int)))) = true then
        if (decide ((IntKind.wrap .u64 (t6 * (IntKind.wrap .u64 (List.getD t1 (Int.toNat (IntKind.wrap .i64 (t5 - 2))) 0)))) > (IntKind.wrap .u64 ((BitVec.toNat ((BitVec.ofInt 64 (IntKind.wrap .u64 (t9 * 4294967296))) ||| (BitVec.ofInt 64 (IntKind.wrap .u64 (List.getD r0 (t0lo + (Int.toNat (IntKind.wrap .i64 (t5 - 2)))) 0))))) : Int)))) = true then
          if ((decide (0 ≤ (IntKind.wrap .i64 (t5 - 1)))) && (decide ((IntKind.wrap .i64 (t5 - 1)) < ((List.length t1) : Int)))) = true then
            (g96_L7 t0lo t0n t1 t5 (IntKind.wrap .u64 (t6 - 1)) (IntKind.wrap .u64 (t9 + (IntKind.wrap .u64 (List.getD t1 (Int.toNat (IntKind.wrap .i64 (t5 - 1))) 0)))) r0)
          else none
        else (g96_L13 t0lo t0n t1 t6 0 0 (t0n : Int) 0 r0)
      else none
    else none
  else (g96_L13 t0lo t0n t1 t6 0 0 (t0n : Int) 0 r0) := (LpM_eq cx96 an96 Try.f96 (.int .u32) 22 [(.int .u32)] [true, true, true, false, true, false, true, true, true, false] _).trans (by kernel_rfl)
theorem g96_L13_eq (t0lo : Nat) (t0n : Nat) (t1 : (List Int)) (t6 : Int) (t10 : Int) (t11 : Int) (t82 : Int) (t83 : Int) (r0 : List Int) : g96_L13 t0lo t0n t1 t6 t10 t11 t82 t83 r0 =
  if (decide (t83 < t82)) = true then
    Option.bind (h83 (t1, (t83, ()))) fun (y1 : (Int × Unit)) =>
    if ((decide (0 ≤ t83)) && (decide (t83 < (t0n : Int)))) = true then
      Option.bind (h92 ((List.getD r0 (t0lo + (Int.toNat t83)) 0), ((IntKind.wrap .u32 (IntKind.wrap .u64 (t10 + (IntKind.wrap .u64 (t6 * (IntKind.wrap .u64 y1.1)))))), (t11, ())))) fun (y2 : (Int × (Int × Unit))) =>
      if ((decide (0 ≤ t83)) && (decide (t83 < (t0n : Int)))) = true then
        (g96_L13 t0lo t0n t1 t6 (Int.fdiv (IntKind.wrap .u64 (t10 + (IntKind.wrap .u64 (t6 * (IntKind.wrap .u64 y1.1))))) 4294967296) y2.2.1 t82 (IntKind.wrap .i64 (t83 + 1)) (List.set r0 (t0lo + (Int.toNat t83)) y2.1))
      else none
    else none
  else (g96_L19 t0lo t0n t1 t6 t11 r0) := (LpM_eq cx96 an96 Try.f96 (.int .u32) 22 [(.int .u32)] [true, true, true, true, true, true, false, true, false] _).trans (by kernel_rfl)
theorem g96_L19_eq (t0lo : Nat) (t0n : Nat) (t1 : (List Int)) (t6 : Int) (t11 : Int) (r0 : List Int) : g96_L19 t0lo t0n t1 t6 t11 r0 =
  if (decide (t11 > 0)) = true then
    (g96_L23 t0lo t0n t1 (IntKind.wrap .u64 (t6 - 1)) t11 0 (t0n : Int) 0 r0)
  else some (((IntKind.wrap .u32 t6), ()), r0) := (LpM_eq cx96 an96 Try.f96 (.int .u32) 22 [(.int .u32)] [true, true, true, true, true, true, true, false, false] _).trans (by kernel_rfl)
theorem g96_L23_eq (t0lo : Nat) (t0n : Nat) (t1 : (List Int)) (t6 : Int) (t11 : Int) (t13 : Int) (t116 : Int) (t117 : Int) (r0 : List Int) : g96_L23 t0lo t0n t1 t6 t11 t13 t116 t117 r0 =
  if (decide (t117 < t116)) = true then
    if ((decide (0 ≤ t117)) && (decide (t117 < (t0n : Int)))) = true then
      Option.bind (h83 (t1, (t117, ()))) fun (y3 : (Int × Unit)) =>
      Option.bind (h90 ((List.getD r0 (t0lo + (Int.toNat t117)) 0), (y3.1, (t13, ())))) fun (y4 : (Int × (Int × Unit))) =>
      if ((decide (0 ≤ t117)) && (decide (t117 < (t0n : Int)))) = true then
        (g96_L23 t0lo t0n t1 t6 t11 y4.2.1 t116 (IntKind.wrap .i64 (t117 + 1)) (List.set r0 (t0lo + (Int.toNat t117)) y4.1))
      else none
    else none
  else (g96_L19 t0lo t0n t1 t6 (IntKind.wrap .u32 (t11 - t13)) r0) := (LpM_eq cx96 an96 Try.f96 (.int .u32) 22 [(.int .u32)] [true, true, true, true, true, true, true, false, false, false, true, false, true, true, false, true, false] _).trans (by kernel_rfl)
theorem g96_eq (xs : List Int) (lo n : Nat) (v : (List Int)) : g96 xs lo n (v, ()) =
  if ((decide (0 ≤ ((List.length v) : Int))) && (decide (((List.length v) : Int) < (n : Int)))) = true then
    if ((decide (0 ≤ (IntKind.wrap .i64 (((List.length v) : Int) - 1)))) && (decide ((IntKind.wrap .i64 (((List.length v) : Int) - 1)) < ((List.length v) : Int)))) = true then
      if (decide ((List.getD xs (lo + (Int.toNat ((List.length v) : Int))) 0) < (List.getD v (Int.toNat (IntKind.wrap .i64 (((List.length v) : Int) - 1))) 0))) = true then
        if ((decide (0 ≤ ((List.length v) : Int))) && (decide (((List.length v) : Int) < (n : Int)))) = true then
          if ((decide (0 ≤ (IntKind.wrap .i64 (((List.length v) : Int) - 1)))) && (decide ((IntKind.wrap .i64 (((List.length v) : Int) - 1)) < (n : Int)))) = true then
            if ((decide (0 ≤ (IntKind.wrap .i64 (((List.length v) : Int) - 1)))) && (decide ((IntKind.wrap .i64 (((List.length v) : Int) - 1)) < ((List.length v) : Int)))) = true then
              Option.bind (h103 ((List.getD xs (lo + (Int.toNat ((List.length v) : Int))) 0), ((List.getD xs (lo + (Int.toNat (IntKind.wrap .i64 (((List.length v) : Int) - 1)))) 0), ((List.getD v (Int.toNat (IntKind.wrap .i64 (((List.length v) : Int) - 1))) 0), ())))) fun (y0 : (Int × (Int × Unit))) =>
              (g96_L7 lo n v ((List.length v) : Int) (IntKind.wrap .u64 y0.1) (IntKind.wrap .u64 y0.2.1) xs)
            else none
          else none
        else none
      else (g96_L13 lo n v 4294967295 0 0 (n : Int) 0 xs)
    else none
  else none := by kernel_rfl

noncomputable def g45 : DL [(.pair .bool (.pair (.sl (.int .u32)) .unit)), (.pair .bool (.pair (.sl (.int .u32)) .unit))] → Option (DL [(.pair .bool (.pair (.sl (.int .u32)) .unit))]) := Fn cx45 an45 Try.f45 [(.pair .bool (.pair (.sl (.int .u32)) .unit)), (.pair .bool (.pair (.sl (.int .u32)) .unit))] [(.pair .bool (.pair (.sl (.int .u32)) .unit))]
theorem g45_eq (a : (Bool × ((List Int) × Unit))) (b : (Bool × ((List Int) × Unit))) : g45 (a, b, ()) =
  if (a.1 == b.1) = true then
    Option.bind (h70 (a.2.1, (b.2.1, ()))) fun (y0 : ((List Int) × Unit)) =>
    Option.bind (h69 (y0.1, (a.1, ()))) fun (y1 : ((Bool × ((List Int) × Unit)) × Unit)) =>
    some ((y1.1.1, (y1.1.2.1, ())), ())
  else Option.bind (h71 (a.2.1, (b.2.1, ()))) fun (y2 : (Int × Unit)) =>
  if (decide (y2.1 < 0)) = true then
    Option.bind (h72 (b.2.1, (a.2.1, ()))) fun (y3 : ((List Int) × Unit)) =>
    Option.bind (h69 (y3.1, (b.1, ()))) fun (y4 : ((Bool × ((List Int) × Unit)) × Unit)) =>
    some ((y4.1.1, (y4.1.2.1, ())), ())
  else Option.bind (h72 (a.2.1, (b.2.1, ()))) fun (y5 : ((List Int) × Unit)) =>
  Option.bind (h69 (y5.1, (a.1, ()))) fun (y6 : ((Bool × ((List Int) × Unit)) × Unit)) =>
  some ((y6.1.1, (y6.1.2.1, ())), ()) := (Fn_eq rfl).trans (by kernel_rfl)

noncomputable def g56 : DL [(.pair .bool (.pair (.sl (.int .u32)) .unit)), (.pair .bool (.pair (.sl (.int .u32)) .unit))] → Option (DL [(.int .i64)]) := Fn cx56 an56 Try.f56 [(.pair .bool (.pair (.sl (.int .u32)) .unit)), (.pair .bool (.pair (.sl (.int .u32)) .unit))] [(.int .i64)]
theorem g56_eq (a : (Bool × ((List Int) × Unit))) (b : (Bool × ((List Int) × Unit))) : g56 (a, b, ()) =
  if (!(a.1 == b.1)) = true then
    Option.bind (h51 ((a.1, (a.2.1, ())), ())) fun (y0 : (Int × Unit)) =>
    Option.bind (h51 ((b.1, (b.2.1, ())), ())) fun (y1 : (Int × Unit)) =>
    Option.bind (h78 (y0.1, (y1.1, ()))) fun (y2 : (Int × Unit)) =>
    some (y2.1, ())
  else if a.1 = true then
    Option.bind (h71 (b.2.1, (a.2.1, ()))) fun (y3 : (Int × Unit)) =>
    some (y3.1, ())
  else Option.bind (h71 (a.2.1, (b.2.1, ()))) fun (y4 : (Int × Unit)) =>
  some (y4.1, ()) := (Fn_eq rfl).trans (by kernel_rfl)

noncomputable def g59 : DL [(.pair .bool (.pair (.sl (.int .u32)) .unit)), (.pair .bool (.pair (.sl (.int .u32)) .unit))] → Option (DL [(.pair .bool (.pair (.sl (.int .u32)) .unit))]) := Fn cx59 an59 Try.f59 [(.pair .bool (.pair (.sl (.int .u32)) .unit)), (.pair .bool (.pair (.sl (.int .u32)) .unit))] [(.pair .bool (.pair (.sl (.int .u32)) .unit))]
theorem g59_eq (a : (Bool × ((List Int) × Unit))) (b : (Bool × ((List Int) × Unit))) : g59 (a, b, ()) =
  Option.bind (h35 ((b.1, (b.2.1, ())), ())) fun (y0 : ((Bool × ((List Int) × Unit)) × Unit)) =>
  Option.bind (h39 ((a.1, (a.2.1, ())), (y0.1, ()))) fun (y1 : ((Bool × ((List Int) × Unit)) × Unit)) =>
  some ((y1.1.1, (y1.1.2.1, ())), ()) := (Fn_eq rfl).trans (by kernel_rfl)

noncomputable def g77 : DL [(.sl (.int .u32)), (.int .i64)] → Option (DL [(.sl (.int .u32))]) := Fn cx77 an77 Try.f77 [(.sl (.int .u32)), (.int .i64)] [(.sl (.int .u32))]
noncomputable def g77_L3 (t0 : (List Int)) (t1 : Int) (t5 : (List Int)) (t10 : Int) (t11 : Int) : Option (DL [(.sl (.int .u32))]) := Lp cx77 an77 Try.f77 [(.sl (.int .u32))] [true, true, false, true, false] ⟨[.val (.sl (.int .u32)) t0, .val (.int .i64) t1, .undef, .undef, .undef, .val (.sl (.int .u32)) t5, .undef, .undef, .undef, .undef, .val (.int .i64) t10, .val (.int .i64) t11, .undef, .undef, .undef, .undef, .undef, .undef, .undef, .undef, .undef, .undef, .undef, .undef, .undef, .undef, .undef, .undef, .undef, .undef, .undef], ofL [], [], []⟩
theorem g77_L3_eq (t0 : (List Int)) (t1 : Int) (t5 : (List Int)) (t10 : Int) (t11 : Int) : g77_L3 t0 t1 t5 t10 t11 =
  if (decide (t11 < t10)) = true then
    if (decide (t11 < 0)) = true then
      none
    else if ((IntKind.wrap .i64 ((BitVec.toNat ((BitVec.ofInt 64 (Int.fdiv t1 (2 ^ (min (Int.toNat t11) 64)))) &&& (BitVec.ofInt 64 1))) : Int)) == 1) = true then
      Option.bind (h73 (t5, (t0, ()))) fun (y2 : ((List Int) × Unit)) =>
      if (decide (t11 < 0)) = true then
        none
      else if (decide ((Int.fdiv t1 (2 ^ (min (Int.toNat t11) 64))) > 1)) = true then
        Option.bind (h73 (t0, (t0, ()))) fun (y3 : ((List Int) × Unit)) =>
        (g77_L3 y3.1 t1 y2.1 t10 (IntKind.wrap .i64 (t11 + 1)))
      else (g77_L3 t0 t1 y2.1 t10 (IntKind.wrap .i64 (t11 + 1)))
    else if (decide (t11 < 0)) = true then
      none
    else if (decide ((Int.fdiv t1 (2 ^ (min (Int.toNat t11) 64))) > 1)) = true then
      Option.bind (h73 (t0, (t0, ()))) fun (y4 : ((List Int) × Unit)) =>
      (g77_L3 y4.1 t1 t5 t10 (IntKind.wrap .i64 (t11 + 1)))
    else (g77_L3 t0 t1 t5 t10 (IntKind.wrap .i64 (t11 + 1)))
  else some (t5, ()) := (Lp_eq cx77 an77 Try.f77 [(.sl (.int .u32))] [true, true, false, true, false] _).trans (by kernel_rfl)
theorem g77_eq (a : (List Int)) (b : Int) : g77 (a, b, ()) =
  Option.bind (h68 (1, ())) fun (y0 : ((List Int) × Unit)) =>
  Option.bind (h99 ((IntKind.wrap .u64 b), ())) fun (y1 : (Int × Unit)) =>
  (g77_L3 a b y0.1 y1.1 0) := (Fn_eq rfl).trans (by kernel_rfl)

noncomputable def g95 : DL [(.sl (.int .u32)), (.int .i64)] → Option (List (Ty.D (.int .u32))) := FnN cx95 an95 Try.f95 (.int .u32) 22 [(.sl (.int .u32)), (.int .i64)]
noncomputable def g95_L3 (t1 : Int) (t13 : (List Int)) (t14 : Int) (t15 : Int) (r1027 : List Int) : Option (List (Ty.D (.int .u32))) := LpN cx95 an95 Try.f95 (.int .u32) 22 [true, true, false, true, false] ⟨[.undef, .val (.int .i64) t1, .undef, .undef, .undef, .own 1027 0, .undef, .undef, .undef, .undef, .undef, .undef, .undef, .val (.sl (.int .u32)) t13, .val (.int .i64) t14, .val (.int .i64) t15, .undef, .undef, .undef, .undef, .undef, .undef, .undef, .undef, .undef, .undef, .undef, .undef, .undef, .undef, .undef, .undef, .undef, .undef, .undef, .undef, .undef, .undef, .undef, .undef, .undef], ofL [(1027, (.row 22 (.int .u32) r1027 0, false))], [1027], []⟩
theorem g95_L3_eq (t1 : Int) (t13 : (List Int)) (t14 : Int) (t15 : Int) (r1027 : List Int) : g95_L3 t1 t13 t14 t15 r1027 =
  if (decide (t15 < t14)) = true then
    if ((decide (0 ≤ t15)) && (decide (t15 < ((List.length t13) : Int)))) = true then
      if (decide (t1 < 0)) = true then
        none
      else if ((decide (0 ≤ t15)) && (decide (t15 < ((List.length r1027) : Int)))) = true then
        if ((decide (0 ≤ t15)) && (decide (t15 < ((List.length r1027) : Int)))) = true then
          if ((decide (0 ≤ (IntKind.wrap .i64 (t15 + 1)))) && (decide ((IntKind.wrap .i64 (t15 + 1)) < ((List.length (List.set r1027 (Int.toNat t15) (IntKind.wrap .u32 ((BitVec.toNat ((BitVec.ofInt 32 (List.getD r1027 (Int.toNat t15) 0)) ||| (BitVec.ofInt 32 (IntKind.wrap .u32 (IntKind.wrap .u64 ((IntKind.wrap .u64 (List.getD t13 (Int.toNat t15) 0)) * (2 ^ (min (Int.toNat t1) 64)))))))) : Int)))) : Int)))) = true then
            (g95_L3 t1 t13 t14 (IntKind.wrap .i64 (t15 + 1)) (List.set (List.set r1027 (Int.toNat t15) (IntKind.wrap .u32 ((BitVec.toNat ((BitVec.ofInt 32 (List.getD r1027 (Int.toNat t15) 0)) ||| (BitVec.ofInt 32 (IntKind.wrap .u32 (IntKind.wrap .u64 ((IntKind.wrap .u64 (List.getD t13 (Int.toNat t15) 0)) * (2 ^ (min (Int.toNat t1) 64)))))))) : Int))) (Int.toNat (IntKind.wrap .i64 (t15 + 1))) (IntKind.wrap .u32 (Int.fdiv (IntKind.wrap .u64 ((IntKind.wrap .u64 (List.getD t13 (Int.toNat t15) 0)) * (2 ^ (min (Int.toNat t1) 64)))) 4294967296))))
          else none
        else none
      else none
    else none
  else some r1027 := (LpN_eq cx95 an95 Try.f95 (.int .u32) 22 [true, true, false, true, false] _).trans (by kernel_rfl)
theorem g95_eq (a : (List Int)) (b : Int) : g95 (a, b, ()) =
  if (((decide (0 ≤ (IntKind.wrap .i64 (((List.length a) : Int) + 1)))) && (decide ((IntKind.wrap .i64 (((List.length a) : Int) + 1)) ≤ (IntKind.wrap .i64 (((List.length a) : Int) + 1))))) && (decide (((IntKind.wrap .i64 (((List.length a) : Int) + 1)) * 4) ≤ 140737488355328))) = true then
    (g95_L3 b a ((List.length a) : Int) 0 (List.replicate (Int.toNat (IntKind.wrap .i64 (((List.length a) : Int) + 1))) (0 : Int)))
  else none := by kernel_rfl


theorem so86 : SigsOk Try.prog cx86 := ⟨(lookAll_cons s82 lookAll_nil), lookAll_nil, lookAll_nil⟩
theorem in86 : ∀ f p, look cx86.inl f = some p → Try.prog.funcs[f]? = some p.1 ∧ (p.1.name == "runtime.NumGoroutine") = false := lookAll_nil
theorem ok86 {h : List Int → Nat → Nat → DL [(.sl (.int .u32)), (.int .u64)] → Option (DL [.bool] × List Int)} (hw : ∀ xs lo n x r, h xs lo n x = some r → FnM cx86 an86 Try.f86 (.int .u32) 22 [(.sl (.int .u32)), (.int .u64)] [.bool] xs lo n x = some r) : SigMOk Try.prog 86 ⟨(.int .u32), 22, [(.sl (.int .u32)), (.int .u64)], [.bool], h⟩ := (FnM_ok (anns := an86) mixed T_ok so86 in86 (f := 86) (fn := Try.f86) rfl rfl rfl (.int .u32) 22 [(.sl (.int .u32)), (.int .u64)] [.bool] rfl (by decide)).weaken hw

theorem so87 : SigsOk Try.prog cx87 := ⟨(lookAll_cons s82 lookAll_nil), lookAll_nil, lookAll_nil⟩
theorem in87 : ∀ f p, look cx87.inl f = some p → Try.prog.funcs[f]? = some p.1 ∧ (p.1.name == "runtime.NumGoroutine") = false := lookAll_nil
theorem ok87 {h : List Int → Nat → Nat → DL [(.sl (.int .u32))] → Option (DL [] × List Int)} (hw : ∀ xs lo n x r, h xs lo n x = some r → FnM cx87 an87 Try.f87 (.int .u32) 22 [(.sl (.int .u32))] [] xs lo n x = some r) : SigMOk Try.prog 87 ⟨(.int .u32), 22, [(.sl (.int .u32))], [], h⟩ := (FnM_ok (anns := an87) mixed T_ok so87 in87 (f := 87) (fn := Try.f87) rfl rfl rfl (.int .u32) 22 [(.sl (.int .u32))] [] rfl (by decide)).weaken hw

theorem so96 : SigsOk Try.prog cx96 := ⟨(lookAll_cons s83 (lookAll_cons s90 (lookAll_cons s92 (lookAll_cons s103 lookAll_nil)))), lookAll_nil, lookAll_nil⟩
theorem in96 : ∀ f p, look cx96.inl f = some p → Try.prog.funcs[f]? = some p.1 ∧ (p.1.name == "runtime.NumGoroutine") = false := lookAll_nil
theorem ok96 {h : List Int → Nat → Nat → DL [(.sl (.int .u32))] → Option (DL [(.int .u32)] × List Int)} (hw : ∀ xs lo n x r, h xs lo n x = some r → FnM cx96 an96 Try.f96 (.int .u32) 22 [(.sl (.int .u32))] [(.int .u32)] xs lo n x = some r) : SigMOk Try.prog 96 ⟨(.int .u32), 22, [(.sl (.int .u32))], [(.int .u32)], h⟩ := (FnM_ok (anns := an96) mixed T_ok so96 in96 (f := 96) (fn := Try.f96) rfl rfl rfl (.int .u32) 22 [(.sl (.int .u32))] [(.int .u32)] rfl (by decide)).weaken hw

theorem so45 : SigsOk Try.prog cx45 := ⟨(lookAll_cons s69 (lookAll_cons s70 (lookAll_cons s71 (lookAll_cons s72 lookAll_nil)))), lookAll_nil, lookAll_nil⟩
theorem in45 : ∀ f p, look cx45.inl f = some p → Try.prog.funcs[f]? = some p.1 ∧ (p.1.name == "runtime.NumGoroutine") = false := lookAll_nil
theorem ok45 {h : DL [(.pair .bool (.pair (.sl (.int .u32)) .unit)), (.pair .bool (.pair (.sl (.int .u32)) .unit))] → Option (DL [(.pair .bool (.pair (.sl (.int .u32)) .unit))])} (hw : ∀ x r, h x = some r → g45 x = some r) : SigOk Try.prog 45 ⟨[(.pair .bool (.pair (.sl (.int .u32)) .unit)), (.pair .bool (.pair (.sl (.int .u32)) .unit))], [(.pair .bool (.pair (.sl (.int .u32)) .unit))], h⟩ := (Fn_ok (anns := an45) mixed T_ok so45 in45 (f := 45) (fn := Try.f45) rfl rfl rfl [(.pair .bool (.pair (.sl (.int .u32)) .unit)), (.pair .bool (.pair (.sl (.int .u32)) .unit))] [(.pair .bool (.pair (.sl (.int .u32)) .unit))]).weaken hw

theorem so56 : SigsOk Try.prog cx56 := ⟨(lookAll_cons s51 (lookAll_cons s71 (lookAll_cons s78 lookAll_nil))), lookAll_nil, lookAll_nil⟩
theorem in56 : ∀ f p, look cx56.inl f = some p → Try.prog.funcs[f]? = some p.1 ∧ (p.1.name == "runtime.NumGoroutine") = false := lookAll_nil
theorem ok56 {h : DL [(.pair .bool (.pair (.sl (.int .u32)) .unit)), (.pair .bool (.pair (.sl (.int .u32)) .unit))] → Option (DL [(.int .i64)])} (hw : ∀ x r, h x = some r → g56 x = some r) : SigOk Try.prog 56 ⟨[(.pair .bool (.pair (.sl (.int .u32)) .unit)), (.pair .bool (.pair (.sl (.int .u32)) .unit))], [(.int .i64)], h⟩ := (Fn_ok (anns := an56) mixed T_ok so56 in56 (f := 56) (fn := Try.f56) rfl rfl rfl [(.pair .bool (.pair (.sl (.int .u32)) .unit)), (.pair .bool (.pair (.sl (.int .u32)) .unit))] [(.int .i64)]).weaken hw

theorem so59 : SigsOk Try.prog cx59 := ⟨(lookAll_cons s35 (lookAll_cons s39 lookAll_nil)), lookAll_nil, lookAll_nil⟩
theorem in59 : ∀ f p, look cx59.inl f = some p → Try.prog.funcs[f]? = some p.1 ∧ (p.1.name == "runtime.NumGoroutine") = false := lookAll_nil
theorem ok59 {h : DL [(.pair .bool (.pair (.sl (.int .u32)) .unit)), (.pair .bool (.pair (.sl (.int .u32)) .unit))] → Option (DL [(.pair .bool (.pair (.sl (.int .u32)) .unit))])} (hw : ∀ x r, h x = some r → g59 x = some r) : SigOk Try.prog 59 ⟨[(.pair .bool (.pair (.sl (.int .u32)) .unit)), (.pair .bool (.pair (.sl (.int .u32)) .unit))], [(.pair .bool (.pair (.sl (.int .u32)) .unit))], h⟩ := (Fn_ok (anns := an59) mixed T_ok so59 in59 (f := 59) (fn := Try.f59) rfl rfl rfl [(.pair .bool (.pair (.sl (.int .u32)) .unit)), (.pair .bool (.pair (.sl (.int .u32)) .unit))] [(.pair .bool (.pair (.sl (.int .u32)) .unit))]).weaken hw

theorem so77 : SigsOk Try.prog cx77 := ⟨(lookAll_cons s68 (lookAll_cons s73 (lookAll_cons s99 lookAll_nil))), lookAll_nil, lookAll_nil⟩
theorem in77 : ∀ f p, look cx77.inl f = some p → Try.prog.funcs[f]? = some p.1 ∧ (p.1.name == "runtime.NumGoroutine") = false := lookAll_nil
theorem ok77 {h : DL [(.sl (.int .u32)), (.int .i64)] → Option (DL [(.sl (.int .u32))])} (hw : ∀ x r, h x = some r → g77 x = some r) : SigOk Try.prog 77 ⟨[(.sl (.int .u32)), (.int .i64)], [(.sl (.int .u32))], h⟩ := (Fn_ok (anns := an77) mixed T_ok so77 in77 (f := 77) (fn := Try.f77) rfl rfl rfl [(.sl (.int .u32)), (.int .i64)] [(.sl (.int .u32))]).weaken hw

theorem so95 : SigsOk Try.prog cx95 := ⟨lookAll_nil, lookAll_nil, lookAll_nil⟩
theorem in95 : ∀ f p, look cx95.inl f = some p → Try.prog.funcs[f]? = some p.1 ∧ (p.1.name == "runtime.NumGoroutine") = false := lookAll_nil
theorem ok95 {h : DL [(.sl (.int .u32)), (.int .i64)] → Option (List Int)} (hw : ∀ x r, h x = some r → g95 x = some r) : SigNOk Try.prog 95 ⟨(.int .u32), 22, [(.sl (.int .u32)), (.int .i64)], h⟩ := (FnN_ok (anns := an95) mixed T_ok so95 in95 (f := 95) (fn := Try.f95) rfl rfl rfl (.int .u32) 22 [(.sl (.int .u32)), (.int .i64)] rfl (by decide) rfl).weaken hw

end Go.Refl.S3
