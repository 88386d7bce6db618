/-
  What further functions of the reference compute: definitions.
-/
import Derived.Test.YthgbejjenlfdnaaM2
set_option linter.unusedVariables false
set_option linter.unusedSimpArgs false
set_option maxRecDepth 100000
namespace Go.Refl.S3
open Go Go.Refl Go.Proofs

noncomputable def h64 : DL [tInt, tInt] → Option (DL [tInt]) := HI2 (rts := [tInt]) fun n g => (enc (n / g), ())
/-- What numerator and denominator are divided by. -/
def lowG (n d : Int) : Int := if d < 0 then -((Int.gcd n d : Nat) : Int) else ((Int.gcd n d : Nat) : Int)
def lowN (n d : Int) : Int := n / lowG n d
def lowD (n d : Int) : Int := d / lowG n d
noncomputable def h40 : DL [tInt, tInt] → Option (DL [tRat]) := HI2 (rts := [tRat]) fun n d => (encR (lowN n d) (lowD n d), ())
abbrev tRaw : Ty := .pair (.int .i8) (.pair (.int .i8) (.pair (.int .u8) .unit))
abbrev DRaw : Type := Int × Int × Int × Unit
def OkRaw (x : DRaw) : Prop := (-128 ≤ x.1 ∧ x.1 ≤ 127) ∧ (-128 ≤ x.2.1 ∧ x.2.1 ≤ 127) ∧ 0 ≤ x.2.2.1 ∧ x.2.2.1 ≤ 255
def rwN (x : DRaw) : Int := if x.2.2.1 % 8 = 7 then x.1 * (4611686018427387904 + x.2.2.1) * (4611686018427387904 + x.2.2.1) + x.2.2.1 else x.1
def rwD0 (x : DRaw) : Int := if x.2.1 = 0 then 1 else x.2.1
def rwD (x : DRaw) : Int := if x.2.2.1 % 8 = 6 then rwD0 x * (4611686018427387904 + x.2.2.1) * (4611686018427387904 + x.2.2.1) else rwD0 x
def mdN (x : DRaw) : Int := lowN (rwN x) (rwD x)
def mdD (x : DRaw) : Int := lowD (rwN x) (rwD x)
noncomputable def h15 : DL [tRaw] → Option (DL [tRat]) := fun (x : DRaw × Unit) => when (OkRaw x.1) (encR (mdN x.1) (mdD x.1), ())
/-- A fraction of not too great numbers. -/
def Mod20 (a : DRat) : Prop := Is a.1 ∧ Is a.2.1 ∧ ((dec a.1).natAbs : Int) < P 20 ∧ ((dec a.2.1).natAbs : Int) < P 20
noncomputable def h23 : DL [tRat, tRat] → Option (DL [tRat]) := fun (x : DRat × DRat × Unit) => when (Mod20 x.1 ∧ Mod20 x.2.1)
  (encR (lowN (dec x.1.1 * dec x.2.1.2.1 + dec x.2.1.1 * dec x.1.2.1) (dec x.1.2.1 * dec x.2.1.2.1)) (lowD (dec x.1.1 * dec x.2.1.2.1 + dec x.2.1.1 * dec x.1.2.1) (dec x.1.2.1 * dec x.2.1.2.1)), ())
noncomputable def h24 : DL [tRat, tRat] → Option (DL [tRat]) := fun (x : DRat × DRat × Unit) => when (Mod20 x.1 ∧ Mod20 x.2.1)
  (encR (lowN (dec x.1.1 * dec x.2.1.1) (dec x.1.2.1 * dec x.2.1.2.1)) (lowD (dec x.1.1 * dec x.2.1.1) (dec x.1.2.1 * dec x.2.1.2.1)), ())
noncomputable def h60 : DL [tInt, .int .i64] → Option (DL [tInt, .int .i64]) := h54
noncomputable def h34 : DL [tInt] → Option (DL [tInt]) := fun (x : DInt × Unit) => when (Is x.1 ∧ 1 ≤ dec x.1 ∧ dec x.1 < P 99) (enc (isq ((dec x.1 - 1) / 2)), ())
noncomputable def h36 : DL [tInt, tInt] → Option (DL [tRat, .bool]) := h33
end Go.Refl.S3
