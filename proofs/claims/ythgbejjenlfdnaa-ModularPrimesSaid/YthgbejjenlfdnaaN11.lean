/-
  ModularPrimes: the function answers true.
-/
import Derived.Test.YthgbejjenlfdnaaN10
import Derived.Test.YthgbejjenlfdnaaG6
set_option linter.unusedVariables false
set_option linter.unusedSimpArgs false
set_option maxRecDepth 100000
namespace Go.Refl.S3
open Go Go.Refl Go.Proofs

theorem nxt_gap {k : Int} (h0 : 0 ≤ k) (h : k < 2147483647) : nxt Pri k ≤ k + 1000 := by
  obtain ⟨h1, h2, h3, h4⟩ := nxt_Pri h
  by_cases hk : k < 2147482647
  · obtain ⟨x, x1, x2, x3⟩ := K.gap (k := k.toNat) (by omega)
    apply Classical.byContradiction
    intro hc
    exact h4 (x : Int) (by omega) (by omega) (Pri_of x3)
  · omega
theorem L4_9 {b p : Int} (hp : p ≤ 2147483647) : ∀ (n : Nat) (t : Int), 0 ≤ t → t + n = p → (∀ j, t ≤ j → j < p → ¬ Pri j) → g4_L9 b true p t = g4_L14 b true p 2 := by
  intro n
  induction n with
  | zero =>
    intro t h0 h1 h2
    rw [g4_L9_eq, ifd_f (by omega)]
  | succ n ih =>
    intro t h0 h1 h2
    have hm : mr t = false := by
      cases hm : mr t with
      | false => rfl
      | true => exact absurd (mr_is hm) (h2 t (by omega) (by omega))
    rw [g4_L9_eq, ifd_t (by omega), e13 (by omega), Option.bind_some, hm, if_neg (by simp), wu64 (x := t + 1) (by omega) (by omega)]
    exact ih (t + 1) (by omega) (by omega) fun j a c => h2 j (by omega) c
theorem L4_14 {b p : Int} (hb : 0 ≤ b ∧ b < 18446744073709551616) (hp : Pri p) (hp1 : p ≤ 2147483647) : ∀ k d : Nat, 2 ≤ d → d ≤ 46342 → 46343 ≤ d + k → g4_L14 b true p (d : Int) = some (true, ()) := by
  have p2 := hp.1
  intro k
  induction k with
  | zero => intro d h4 h5 h6; omega
  | succ k ih =>
    intro d h4 h5 h6
    have hm : (d : Int) * d ≤ 46342 * 46342 := Int.mul_le_mul (by omega) (by omega) (by omega) (by omega)
    have hm0 : 0 ≤ (d : Int) * d := Int.mul_nonneg (by omega) (by omega)
    rw [g4_L14_eq, wu64 hm0 (by omega)]
    by_cases h7 : (d : Int) * d ≤ p
    · rw [ifd_t h7, ife_f (by omega), tm (by omega), ife_f (hp.2 d (by omega) h7), wu64 (by omega) (by omega), show (d : Int) + 1 = ((d + 1 : Nat) : Int) by omega]
      have hd : d ≤ 46340 := by
        apply Classical.byContradiction
        intro hc
        have : (46341 : Int) * 46341 ≤ d * d := Int.mul_le_mul (by omega) (by omega) (by omega) (by omega)
        omega
      exact ih (d + 1) (by omega) (by omega) (by omega)
    · rw [ifd_f h7, wu64 (x := p - 1) (by omega) (by omega), e20 hb (by omega) (by omega), Option.bind_some, ife_f (by omega), tm hb.1]
      dsimp only
      by_cases h0 : b % p = 0
      · have hz : b ^ (p - 1).toNat % p = 0 := by
          rw [← pow_emod, h0]
          obtain ⟨m, hm⟩ : ∃ m : Nat, (p - 1).toNat = m + 1 := ⟨(p - 1).toNat - 1, by omega⟩
          rw [hm, Int.pow_succ, Int.mul_zero, Int.zero_emod]
        rw [ife_t h0, ife_f (by omega), ifn_f h0, ife_t hz]
      · have h1 := fermat hp h0
        rw [ife_f h0, ife_t h1, ife_f (by omega), ifn_t h0]
noncomputable def h4 : DL [.int .u32, .int .u64] → Option (DL [.bool]) := fun (x : Int × Int × Unit) => when ((0 ≤ x.1 ∧ x.1 < 4294967296) ∧ 0 ≤ x.2.1 ∧ x.2.1 < 18446744073709551616) (true, ())
theorem s4 : SigOk Try.prog 4 ⟨[.int .u32, .int .u64], [.bool], h4⟩ := ok4 fun (x : Int × Int × Unit) r h => by
  obtain ⟨⟨hn, hb⟩, rfl⟩ := when_some h
  obtain ⟨a, b, u⟩ := x
  simp only at hn hb
  show g4 (a, b, ()) = some (true, ())
  have hk : 0 ≤ a % 2147483647 ∧ a % 2147483647 < 2147483647 := by omega
  obtain ⟨k1, k2, k3, k4⟩ := nxt_Pri hk.2
  have kg := nxt_gap hk.1 hk.2
  rw [g4_eq, e10, Option.bind_some, ifnot_f rfl, tm hn.1, wu64 (by omega) (by omega), e11p hk, Option.bind_some]
  dsimp only
  generalize a % 2147483647 = k at *
  generalize nxt Pri k = p at *
  rw [ifn_f rfl, ifd_f (by omega), e13 (by omega), Option.bind_some, mr_pri k2 (by omega), ifnot_f rfl, wu64 (x := p - k) (by omega) (by omega), ifd_f (by omega), wu64 (x := k + 1) (by omega) (by omega), L4_9 k3 (p - (k + 1)).toNat (k + 1) (by omega) (by omega) (fun j h1 h2 => k4 j (by omega) h2)]
  exact L4_14 hb k2 k3 46341 2 (by omega) (by omega) (by omega)
end Go.Refl.S3
