/-
  ModularInverts: the function answers true.
-/
import Derived.Test.YthgbejjenlfdnaaM1
import Derived.Test.YthgbejjenlfdnaaP11
set_option linter.unusedVariables false
set_option linter.unusedSimpArgs false
set_option maxRecDepth 100000
namespace Go.Refl.S3
open Go Go.Refl Go.Proofs

noncomputable def h5 : DL [.int .u32, .int .u64, .int .u64] → Option (DL [.bool]) := fun (x : Int × Int × Int × Unit) => when ((0 ≤ x.1 ∧ x.1 < 4294967296) ∧ (0 ≤ x.2.1 ∧ x.2.1 < 18446744073709551616) ∧ 0 ≤ x.2.2.1 ∧ x.2.2.1 < 18446744073709551616) (true, ())
theorem s5 : SigOk Try.prog 5 ⟨[.int .u32, .int .u64, .int .u64], [.bool], h5⟩ := ok5 fun (x : Int × Int × Int × Unit) r h => by
  obtain ⟨⟨hn, ha, hb⟩, rfl⟩ := when_some h
  obtain ⟨n, a, b, u⟩ := x
  simp only at hn ha hb
  show g5 (n, a, b, ()) = some (true, ())
  have hk : 0 ≤ n % 2147483647 ∧ n % 2147483647 < 2147483647 := by omega
  obtain ⟨e1, e2, e3, e4⟩ := nxt_Pri hk.2
  rw [g5_eq, e10, Option.bind_some, ifnot_f rfl, tm hn.1, wu64 (by omega) (by omega), e12 hk.1 hk.2, Option.bind_some]
  dsimp only
  generalize nxt Pri (n % 2147483647) = p at *
  have hp := e2
  have p2 := hp.1
  rw [e16 ha (by omega), Option.bind_some, ife_f (by omega), tm ha.1]
  by_cases h0 : a % p = 0
  · rw [ife_t h0, if_pos h0]
    dsimp only
    rw [ife_t rfl, ife_t rfl]
  · obtain ⟨n0, n1, n2⟩ := inv_ne hp h0
    have hm := inv_mul hp h0
    have a0 := Int.emod_nonneg a (show p ≠ 0 by omega)
    have a1 := Int.emod_lt_of_pos a (show 0 < p by omega)
    have b0 := Int.emod_nonneg b (show p ≠ 0 by omega)
    have b1 := Int.emod_lt_of_pos b (show 0 < p by omega)
    have m1 := mul_lt64 (show 0 ≤ inv a p by omega) (by omega) a0 (by omega)
    have m2 := mul_lt64 a0 (by omega) b0 (by omega)
    have c0 : 0 ≤ b % 100 ∧ b % 100 < 100 := by omega
    have hpos : ∀ z : Int, 0 ≤ z % p ∧ z % p < p := fun z => ⟨Int.emod_nonneg _ (by omega), Int.emod_lt_of_pos _ (by omega)⟩
    rw [ife_f h0, if_neg h0]
    dsimp only
    rw [e16 ⟨by omega, by omega⟩ (by omega), if_neg n0, Option.bind_some]
    dsimp only
    rw [ifn_f rfl, ifn_f rfl, ifd_f (by omega), ifd_f (by omega), ife_f (by omega), ife_f (by omega), wu64 m1.1 m1.2, tm m1.1, ifn_f (by rw [Int.mul_emod, Int.emod_emod, ← Int.mul_emod]; exact hm), ife_f (by omega), ifn_f (inv_inv hp h0), ife_f (by omega), ife_f (by omega), tm hb.1, wu64 m2.1 m2.2, e20 m2 (by omega) (by omega), Option.bind_some, e20 ha (by omega) (by omega), Option.bind_some, e20 hb (by omega) (by omega), Option.bind_some, ife_f (by omega)]
    dsimp only
    have q1 := hpos (a ^ (5 : Int).toNat)
    have q2 := hpos (b ^ (5 : Int).toNat)
    have m3 := mul_lt64 q1.1 (by omega) q2.1 (by omega)
    rw [wu64 m3.1 m3.2, tm m3.1, ife_t (by rw [Int.mul_pow, Int.mul_emod, pow_mod, pow_mod]), e20 ha (by omega) (by omega), Option.bind_some, tm hb.1, e20 ha (by omega) (by omega), Option.bind_some, ife_f (by omega), wu64 (x := 12 + b % 100) (by omega) (by omega), e20 ha (by omega) (by omega), Option.bind_some]
    dsimp only
    have q3 := hpos (a ^ (12 : Int).toNat)
    have q4 := hpos (a ^ (b % 100).toNat)
    have m4 := mul_lt64 q3.1 (by omega) q4.1 (by omega)
    rw [wu64 m4.1 m4.2, tm m4.1, ife_t (by rw [← Int.mul_emod, ← Int.pow_add]; congr 2; omega)]
end Go.Refl.S3
