import Derived.Test.YthgbejjenlfdnaaQ0
import Derived.WalkKit
import Derived.WalkSpells
import Derived.WalkLawsBesides
/-
  What further functions that call no other compute: powers, primes by trial division, inverses, greatest common divisors, numbers of bits.
-/
set_option linter.unusedVariables false
set_option linter.unusedSimpArgs false
set_option maxRecDepth 100000
namespace Go.Refl.S3
open Go Go.Refl Go.Proofs

theorem tm {a b : Int} (h : 0 ≤ a) : Int.tmod a b = a % b := Int.tmod_eq_emod_of_nonneg h
theorem td {a b : Int} (h : 0 ≤ a) : Int.tdiv a b = a / b := Int.tdiv_eq_ediv_of_nonneg h
theorem fd {a b : Int} (h : 0 ≤ b) : Int.fdiv a b = a / b := Int.fdiv_eq_ediv_of_nonneg _ h
theorem mul_lt64 {a b : Int} (h1 : 0 ≤ a) (h2 : a < 4294967296) (h3 : 0 ≤ b) (h4 : b < 4294967296) : 0 ≤ a * b ∧ a * b < 18446744073709551616 := by
  have h5 := Int.mul_nonneg h1 h3
  have h6 : a * b ≤ 4294967295 * 4294967295 := Int.mul_le_mul (by omega) (by omega) h3 (by omega)
  omega

/-! ### Powers -/
theorem and_one64 {n : Int} (h0 : 0 ≤ n) : ((BitVec.toNat ((BitVec.ofInt 64 n) &&& (BitVec.ofInt 64 1)) : Nat) : Int) = n % 2 := by
  have e : (BitVec.ofInt 64 1).toNat = 1 := by decide
  rw [BitVec.toNat_and, e, Nat.and_one_is_mod, BitVec.toNat_ofInt]
  omega

theorem pow_step (a n : Int) (h : 0 < n) : a ^ n.toNat = (if n % 2 = 1 then a else 1) * (a * a) ^ (n / 2).toNat := by
  have e1 : n.toNat = 2 * (n / 2).toNat + (n % 2).toNat := by omega
  rw [e1, Int.pow_add, Int.pow_mul, Int.pow_succ, Int.pow_succ, Int.pow_zero, Int.one_mul, Int.mul_comm]
  congr 1
  by_cases h2 : n % 2 = 1
  · rw [if_pos h2, h2]
    show a ^ 1 = a
    rw [Int.pow_succ, Int.pow_zero, Int.one_mul]
  · rw [if_neg h2, show n % 2 = 0 by omega]
    exact Int.pow_zero a

theorem pow_mod (a p : Int) (k : Nat) : (a % p) ^ k % p = a ^ k % p := by
  induction k with
  | zero => rw [Int.pow_zero, Int.pow_zero]
  | succ k ih => rw [Int.pow_succ, Int.pow_succ, Int.mul_emod, ih, Int.emod_emod, ← Int.mul_emod]

noncomputable def h20 : DL [.int .u64, .int .u64, .int .u64] → Option (DL [.int .u64]) := fun (x : Int × Int × Int × Unit) =>
  when ((0 ≤ x.1 ∧ x.1 < 18446744073709551616) ∧ (0 ≤ x.2.1 ∧ x.2.1 < 18446744073709551616) ∧ 0 < x.2.2.1 ∧ x.2.2.1 < 4294967296) (x.1 ^ x.2.1.toNat % x.2.2.1, ())
noncomputable def h21 : DL [.int .u64, .int .u64, .int .u64] → Option (DL [.int .u64]) := h20

theorem pow_next (a o n p : Int) (h : 0 < n) : (o * (if n % 2 = 1 then a else 1) % p) * (a * a % p) ^ (n / 2).toNat % p = o * a ^ n.toNat % p := by
  rw [pow_step a n h, ← Int.mul_assoc, Int.mul_emod, Int.emod_emod, pow_mod, ← Int.mul_emod]

theorem L20 (p : Int) (hp : 0 < p) (hp1 : p < 4294967296) : ∀ k : Nat, ∀ a n o : Int, 0 ≤ n → n < 18446744073709551616 → n.toNat ≤ k → 0 ≤ a → a < p → 0 ≤ o → o < p → g20_L2 a n p o = some (o * a ^ n.toNat % p, ()) := by
  intro k
  induction k with
  | zero =>
    intro a n o h0 h1 hk a0 a1 o0 o1
    have : n = 0 := by omega
    subst this
    rw [g20_L2_eq, ifd_f (by omega)]
    simp [Int.emod_eq_of_lt o0 o1]
  | succ k ih =>
    intro a n o h0 h1 hk a0 a1 o0 o1
    rw [g20_L2_eq]
    by_cases hn : n > 0
    · have m1 := mul_lt64 a0 (by omega) a0 (by omega)
      have m2 := mul_lt64 o0 (by omega) a0 (by omega)
      have q1 := Int.emod_nonneg (a * a) (show p ≠ 0 by omega)
      have q2 := Int.emod_lt_of_pos (a * a) hp
      have q3 := Int.emod_nonneg (o * a) (show p ≠ 0 by omega)
      have q4 := Int.emod_lt_of_pos (o * a) hp
      rw [ifd_t hn, and_one64 h0, wu64 (by omega) (by omega), wu64 m1.1 m1.2, wu64 m2.1 m2.2, tm m1.1, tm m2.1, fd (by omega)]
      have nx := pow_next a o n p hn
      by_cases h2 : n % 2 = 1
      · rw [ife_t h2, ife_f (by omega), ife_f (by omega), ih _ _ _ (by omega) (by omega) (by omega) q1 q2 q3 q4]
        rw [if_pos h2] at nx
        rw [nx]
      · rw [ife_f h2, ife_f (by omega), ih _ _ _ (by omega) (by omega) (by omega) q1 q2 o0 o1]
        rw [if_neg h2, Int.mul_one, Int.emod_eq_of_lt o0 o1] at nx
        rw [nx]
    · have : n = 0 := by omega
      subst this
      rw [ifd_f (by omega)]
      simp [Int.emod_eq_of_lt o0 o1]

theorem one_pow_fix (a n p : Int) (hp : 0 < p) : 1 % p * (a % p) ^ n.toNat % p = a ^ n.toNat % p := by
  rw [Int.mul_emod, Int.emod_emod, pow_mod, ← Int.mul_emod, Int.one_mul]

theorem s20 : SigOk Try.prog 20 ⟨[.int .u64, .int .u64, .int .u64], [.int .u64], h20⟩ := leaf (an := an20) Try.func20 rfl rfl fun (x : Int × Int × Int × Unit) r h => by
  obtain ⟨⟨⟨a0, a1⟩, ⟨n0, n1⟩, p0, p1⟩, rfl⟩ := when_some h
  obtain ⟨a, n, p, u⟩ := x
  simp only at a0 a1 n0 n1 p0 p1
  show g20 (a, n, p, ()) = some (a ^ n.toNat % p, ())
  rw [g20_eq, ife_f (by omega), ife_f (by omega), tm a0, tm (by omega), L20 p p0 p1 n.toNat _ _ _ n0 n1 (Nat.le_refl _) (Int.emod_nonneg _ (by omega)) (Int.emod_lt_of_pos _ p0) (Int.emod_nonneg _ (by omega)) (Int.emod_lt_of_pos _ p0), one_pow_fix a n p p0]

theorem L21 (p : Int) (hp : 0 < p) (hp1 : p < 4294967296) : ∀ k : Nat, ∀ a n o : Int, 0 ≤ n → n < 18446744073709551616 → n.toNat ≤ k → 0 ≤ a → a < p → 0 ≤ o → o < p → g21_L4 p o a n = some (o * a ^ n.toNat % p, ()) := by
  intro k
  induction k with
  | zero =>
    intro a n o h0 h1 hk a0 a1 o0 o1
    have : n = 0 := by omega
    subst this
    rw [g21_L4_eq, ifd_f (by omega)]
    simp [Int.emod_eq_of_lt o0 o1]
  | succ k ih =>
    intro a n o h0 h1 hk a0 a1 o0 o1
    rw [g21_L4_eq]
    by_cases hn : n > 0
    · have m1 := mul_lt64 a0 (by omega) a0 (by omega)
      have m2 := mul_lt64 o0 (by omega) a0 (by omega)
      have q1 := Int.emod_nonneg (a * a) (show p ≠ 0 by omega)
      have q2 := Int.emod_lt_of_pos (a * a) hp
      have q3 := Int.emod_nonneg (o * a) (show p ≠ 0 by omega)
      have q4 := Int.emod_lt_of_pos (o * a) hp
      rw [ifd_t hn, tm h0, wu64 m1.1 m1.2, wu64 m2.1 m2.2, tm m1.1, tm m2.1, td h0, wu64 (by omega) (by omega)]
      have nx := pow_next a o n p hn
      by_cases h2 : n % 2 = 1
      · rw [ife_t h2, ife_f (by omega), ife_f (by omega), ih _ _ _ (by omega) (by omega) (by omega) q1 q2 q3 q4]
        rw [if_pos h2] at nx
        rw [nx]
      · rw [ife_f h2, ife_f (by omega), ih _ _ _ (by omega) (by omega) (by omega) q1 q2 o0 o1]
        rw [if_neg h2, Int.mul_one, Int.emod_eq_of_lt o0 o1] at nx
        rw [nx]
    · have : n = 0 := by omega
      subst this
      rw [ifd_f (by omega)]
      simp [Int.emod_eq_of_lt o0 o1]

theorem s21 : SigOk Try.prog 21 ⟨[.int .u64, .int .u64, .int .u64], [.int .u64], h21⟩ := leaf (an := an21) Try.func21 rfl rfl fun (x : Int × Int × Int × Unit) r h => by
  obtain ⟨⟨⟨a0, a1⟩, ⟨n0, n1⟩, p0, p1⟩, rfl⟩ := when_some h
  obtain ⟨a, n, p, u⟩ := x
  simp only at a0 a1 n0 n1 p0 p1
  show g21 (a, n, p, ()) = some (a ^ n.toNat % p, ())
  rw [g21_eq, ife_f (by omega), ife_f (by omega), tm a0, tm (by omega), L21 p p0 p1 n.toNat _ _ _ n0 n1 (Nat.le_refl _) (Int.emod_nonneg _ (by omega)) (Int.emod_lt_of_pos _ p0) (Int.emod_nonneg _ (by omega)) (Int.emod_lt_of_pos _ p0), one_pow_fix a n p p0]

/-! ### Primes by trial division -/
/-- No number from 2 to the root divides. -/
def Pri (n : Int) : Prop := 2 ≤ n ∧ ∀ d : Int, 2 ≤ d → d * d ≤ n → n % d ≠ 0

noncomputable def h14 : DL [.int .u64] → Option (DL [.bool]) := fun (x : Int × Unit) => when (0 ≤ x.1 ∧ x.1 < 18446744073709551616)
  (open Classical in decide (Pri x.1 ∧ x.1 ≤ 2147483647), ())

theorem L14 (n : Int) (h2 : 2 ≤ n) (h3 : n ≤ 2147483647) : ∀ k d : Nat, 2 ≤ d → d ≤ 46342 → 46343 ≤ d + k → (∀ e : Int, 2 ≤ e → e < d → n % e ≠ 0) → g14_L4 n (d : Int) = some (open Classical in decide (Pri n ∧ n ≤ 2147483647), ()) := by
  intro k
  induction k with
  | zero => intro d h4 h5 h6; omega
  | succ k ih =>
    intro d h4 h5 h6 he
    have hm : (d : Int) * d ≤ 46342 * 46342 := Int.mul_le_mul (by omega) (by omega) (by omega) (by omega)
    have hm0 : 0 ≤ (d : Int) * d := Int.mul_nonneg (by omega) (by omega)
    rw [g14_L4_eq, wu64 hm0 (by omega)]
    by_cases h7 : (d : Int) * d ≤ n
    · rw [ifd_t h7, ife_f (by omega), tm (by omega)]
      by_cases h8 : n % d = 0
      · rw [ife_t h8]
        have : ¬ (Pri n ∧ n ≤ 2147483647) := fun hh => hh.1.2 d (by omega) h7 h8
        simp [this]
      · rw [ife_f h8, wu64 (by omega) (by omega), show (d : Int) + 1 = ((d + 1 : Nat) : Int) by omega]
        have hd : d ≤ 46340 := by
          apply Classical.byContradiction
          intro hc
          have : (46341 : Int) * 46341 ≤ d * d := Int.mul_le_mul (by omega) (by omega) (by omega) (by omega)
          omega
        refine ih (d + 1) (by omega) (by omega) (by omega) fun e h9 h10 => ?_
        by_cases h11 : e = d
        · subst h11; exact h8
        · exact he e h9 (by omega)
    · rw [ifd_f h7]
      have : Pri n ∧ n ≤ 2147483647 := ⟨⟨h2, fun e h9 h10 => he e h9 (by
        apply Classical.byContradiction
        intro hc
        have : (d : Int) * d ≤ e * e := Int.mul_le_mul (by omega) (by omega) (by omega) (by omega)
        omega)⟩, h3⟩
      simp [this]

theorem s14 : SigOk Try.prog 14 ⟨[.int .u64], [.bool], h14⟩ := leaf (an := an14) Try.func14 rfl rfl fun (x : Int × Unit) r h => by
  obtain ⟨⟨a0, a1⟩, rfl⟩ := when_some h
  obtain ⟨n, u⟩ := x
  simp only at a0 a1
  show g14 (n, ()) = some (open Classical in decide (Pri n ∧ n ≤ 2147483647), ())
  rw [g14_eq]
  by_cases h1 : n < 2
  · rw [ifd_t h1]
    have : ¬ (Pri n ∧ n ≤ 2147483647) := fun hh => by have := hh.1.1; omega
    simp [this]
  · rw [ifd_f h1]
    by_cases h2 : n > 2147483647
    · rw [ifd_t h2]
      have : ¬ (Pri n ∧ n ≤ 2147483647) := fun hh => by omega
      simp [this]
    · rw [ifd_f h2]
      exact L14 n (by omega) (by omega) 46341 2 (by omega) (by omega) (by omega) (fun e h9 h10 => by omega)

/-! ### Greatest common divisors of numbers -/
noncomputable def h37 : DL [.int .i64, .int .i64] → Option (DL [.int .i64]) := fun (x : Int × Int × Unit) => when ((0 ≤ x.1 ∧ x.1 < 9223372036854775808) ∧ 0 ≤ x.2.1 ∧ x.2.1 < 9223372036854775808) (((Int.gcd x.1 x.2.1 : Nat) : Int), ())
noncomputable def h101 : DL [.int .u64, .int .u64] → Option (DL [.int .u64]) := fun (x : Int × Int × Unit) => when ((0 ≤ x.1 ∧ x.1 < 18446744073709551616) ∧ 0 ≤ x.2.1 ∧ x.2.1 < 18446744073709551616) (((Int.gcd x.1 x.2.1 : Nat) : Int), ())

theorem gcd_step {a b : Int} (ha : 0 ≤ a) (hb : 0 < b) : Int.gcd b (a % b) = Int.gcd a b := by
  unfold Int.gcd
  have e : (a % b).natAbs = a.natAbs % b.natAbs := by
    obtain ⟨m, rfl⟩ : ∃ m : Nat, a = m := ⟨a.toNat, by omega⟩
    obtain ⟨n, rfl⟩ : ∃ n : Nat, b = n := ⟨b.toNat, by omega⟩
    rw [← Int.natCast_emod]
    rfl
  rw [e, Nat.gcd_comm a.natAbs, Nat.gcd_rec b.natAbs a.natAbs, Nat.gcd_comm]

theorem L37 : ∀ k : Nat, ∀ a b : Int, 0 ≤ a → 0 ≤ b → b.toNat ≤ k → g37_L1 a b = some (((Int.gcd a b : Nat) : Int), ()) := by
  intro k
  induction k with
  | zero =>
    intro a b ha hb hk
    have : b = 0 := by omega
    subst this
    rw [g37_L1_eq, ifd_f (by omega), Int.gcd_zero_right, show ((a.natAbs : Nat) : Int) = a by omega]
  | succ k ih =>
    intro a b ha hb hk
    rw [g37_L1_eq]
    by_cases h0 : b > 0
    · have q1 := Int.emod_nonneg a (show b ≠ 0 by omega)
      have q2 := Int.emod_lt_of_pos a h0
      rw [ifd_t h0, ife_f (by omega), tm ha, ih b (a % b) hb q1 (by omega), gcd_step ha h0]
    · have : b = 0 := by omega
      subst this
      rw [ifd_f (by omega), Int.gcd_zero_right, show ((a.natAbs : Nat) : Int) = a by omega]
theorem L101 : ∀ k : Nat, ∀ a b : Int, 0 ≤ a → 0 ≤ b → b.toNat ≤ k → g101_L1 a b = some (((Int.gcd a b : Nat) : Int), ()) := by
  intro k
  induction k with
  | zero =>
    intro a b ha hb hk
    have : b = 0 := by omega
    subst this
    rw [g101_L1_eq, ifd_f (by omega), Int.gcd_zero_right, show ((a.natAbs : Nat) : Int) = a by omega]
  | succ k ih =>
    intro a b ha hb hk
    rw [g101_L1_eq]
    by_cases h0 : b > 0
    · have q1 := Int.emod_nonneg a (show b ≠ 0 by omega)
      have q2 := Int.emod_lt_of_pos a h0
      rw [ifd_t h0, ife_f (by omega), tm ha, ih b (a % b) hb q1 (by omega), gcd_step ha h0]
    · have : b = 0 := by omega
      subst this
      rw [ifd_f (by omega), Int.gcd_zero_right, show ((a.natAbs : Nat) : Int) = a by omega]
theorem s37 : SigOk Try.prog 37 ⟨[.int .i64, .int .i64], [.int .i64], h37⟩ := leaf (an := an37) Try.func37 rfl rfl fun (x : Int × Int × Unit) r h => by
  obtain ⟨⟨⟨a0, a1⟩, b0, b1⟩, rfl⟩ := when_some h
  obtain ⟨a, b, u⟩ := x
  show g37 (a, b, ()) = _
  rw [g37_eq]
  exact L37 _ a b a0 b0 (Nat.le_refl _)
theorem s101 : SigOk Try.prog 101 ⟨[.int .u64, .int .u64], [.int .u64], h101⟩ := leaf (an := an101) Try.func101 rfl rfl fun (x : Int × Int × Unit) r h => by
  obtain ⟨⟨⟨a0, a1⟩, b0, b1⟩, rfl⟩ := when_some h
  obtain ⟨a, b, u⟩ := x
  show g101 (a, b, ()) = _
  rw [g101_eq]
  exact L101 _ a b a0 b0 (Nat.le_refl _)

noncomputable def h38 : DL [] → Option (DL [.arr 4 (.int .u64)]) := fun (_ : Unit) => some ([2, 3, 5, 7], ())
theorem s38 : SigOk Try.prog 38 ⟨[], [.arr 4 (.int .u64)], h38⟩ := leaf (an := an38) Try.func38 rfl rfl fun (x : Unit) r h => by
  show g38 () = _
  rw [g38_eq, ← h]
  rfl

/-! ### Dividing two words by one -/
theorem or_words {a b : Int} (a0 : 0 ≤ a) (a1 : a < 4294967296) (b0 : 0 ≤ b) (b1 : b < 4294967296) : ((BitVec.toNat ((BitVec.ofInt 64 (a * 4294967296)) ||| (BitVec.ofInt 64 b)) : Nat) : Int) = a * 4294967296 + b := by
  obtain ⟨m, rfl⟩ : ∃ m : Nat, a = m := ⟨a.toNat, by omega⟩
  obtain ⟨n, rfl⟩ : ∃ n : Nat, b = n := ⟨b.toNat, by omega⟩
  have e1 : (BitVec.ofInt 64 ((m : Int) * 4294967296)).toNat = m <<< 32 := by
    rw [BitVec.toNat_ofInt, Nat.shiftLeft_eq]
    omega
  have e2 : (BitVec.ofInt 64 (n : Int)).toNat = n := by
    rw [BitVec.toNat_ofInt]
    omega
  rw [BitVec.toNat_or, e1, e2, ← Nat.shiftLeft_add_eq_or_of_lt (by omega), Nat.shiftLeft_eq]
  omega

noncomputable def h103 : DL [.int .u32, .int .u32, .int .u32] → Option (DL [.int .u32, .int .u32]) := fun (x : Int × Int × Int × Unit) =>
  when ((0 ≤ x.1 ∧ x.1 < x.2.2.1) ∧ (0 ≤ x.2.1 ∧ x.2.1 < 4294967296) ∧ x.2.2.1 < 4294967296) ((x.1 * 4294967296 + x.2.1) / x.2.2.1, (x.1 * 4294967296 + x.2.1) % x.2.2.1, ())
theorem s103 : SigOk Try.prog 103 ⟨[.int .u32, .int .u32, .int .u32], [.int .u32, .int .u32], h103⟩ := leaf (an := an103) Try.func103 rfl rfl fun (x : Int × Int × Int × Unit) r h => by
  obtain ⟨⟨⟨a0, a1⟩, ⟨b0, b1⟩, c1⟩, rfl⟩ := when_some h
  obtain ⟨a, b, c, u⟩ := x
  simp only at a0 a1 b0 b1 c1
  show g103 (a, b, c, ()) = some ((a * 4294967296 + b) / c, (a * 4294967296 + b) % c, ())
  have d0 : 0 ≤ (a * 4294967296 + b) / c := Int.ediv_nonneg (by omega) (by omega)
  have d1 : (a * 4294967296 + b) / c < 4294967296 := Int.ediv_lt_of_lt_mul (by omega) (by omega)
  have m0 := Int.emod_nonneg (a * 4294967296 + b) (show c ≠ 0 by omega)
  have m1 := Int.emod_lt_of_pos (a * 4294967296 + b) (show 0 < c by omega)
  rw [g103_eq, ifn_t (by omega), ifd_f (by omega), wu64 (x := c) (by omega) (by omega), ife_f (by omega), ife_f (by omega)]
  rw [wu64 (x := a) (by omega) (by omega), wu64 (x := b) (by omega) (by omega), wu64 (x := a * 4294967296) (by omega) (by omega), or_words a0 (by omega) b0 b1, wu64 (x := a * 4294967296 + b) (by omega) (by omega), td (by omega), tm (by omega), wu64 d0 (by omega), wu32 d0 d1, wu32 m0 (by omega)]

/-! ### Numbers of bits -/
def bl (n : Nat) : Nat := if n = 0 then 0 else Nat.log2 n + 1
theorem bl_lt (n : Nat) : n < 2 ^ bl n := by
  unfold bl
  by_cases h : n = 0
  · simp [h]
  · rw [if_neg h]; exact Nat.lt_log2_self
theorem bl_le {n : Nat} (h : n ≠ 0) : 2 ^ (bl n - 1) ≤ n := by
  unfold bl
  rw [if_neg h]
  exact Nat.log2_self_le h
theorem bl_eq {n k : Nat} (h1 : 2 ^ k ≤ n) (h2 : n < 2 ^ (k + 1)) : bl n = k + 1 := by
  have h0 : n ≠ 0 := by have := Nat.two_pow_pos k; omega
  unfold bl
  rw [if_neg h0, (Nat.log2_eq_iff h0).2 ⟨h1, h2⟩]
theorem bl_shift {n : Nat} (k : Nat) (h : 2 ^ k ≤ n) : bl n = k + bl (n / 2 ^ k) := by
  have hk := Nat.two_pow_pos k
  have h0 : n / 2 ^ k ≠ 0 := by
    have := Nat.div_pos h hk
    omega
  have e1 := bl_le h0
  have e2 := bl_lt (n / 2 ^ k)
  obtain ⟨m, hm⟩ : ∃ m, bl (n / 2 ^ k) = m + 1 := ⟨bl (n / 2 ^ k) - 1, by
    unfold bl
    rw [if_neg h0]
    omega⟩
  rw [hm] at e1 e2 ⊢
  rw [show k + (m + 1) = (k + m) + 1 by omega]
  apply bl_eq
  · rw [Nat.pow_add, Nat.mul_comm]
    exact (Nat.le_div_iff_mul_le hk).1 (by simpa using e1)
  · rw [show k + m + 1 = k + (m + 1) by omega, Nat.pow_add, Nat.mul_comm]
    exact (Nat.div_lt_iff_lt_mul hk).1 e2
theorem bl_small {n : Nat} (k : Nat) (h : n < 2 ^ k) : bl n ≤ k := by
  by_cases h0 : n = 0
  · subst h0; simp [bl]
  · apply Classical.byContradiction
    intro hc
    have e1 := bl_le h0
    have : 2 ^ k ≤ 2 ^ (bl n - 1) := Nat.pow_le_pow_right (by omega) (by omega)
    omega

noncomputable def h98 : DL [.int .u32] → Option (DL [.int .i64]) := fun (x : Int × Unit) => when (0 ≤ x.1 ∧ x.1 < 4294967296) ((bl x.1.toNat : Int), ())
noncomputable def h104 : DL [.int .u64] → Option (DL [.int .i64]) := fun (x : Int × Unit) => when (0 ≤ x.1 ∧ x.1 < 18446744073709551616) ((bl x.1.toNat : Int), ())

theorem tab_bl {l : List UInt8} (hl : ∀ i : Nat, i < 256 → (l.getD i 0).toNat = bl i) {a : Int} (h0 : 0 ≤ a) (h1 : a < 256) (n : Int) (hn : 0 ≤ n) (hn1 : n < 100) : IntKind.wrap .i64 (n + IntKind.wrap .i64 (((l.getD (IntKind.wrap .u8 a).toNat 0).toNat : Nat) : Int)) = n + (bl a.toNat : Int) := by
  have e : IntKind.wrap .u8 a = a := by rw [IntKind.wrap_u8]; omega
  have hb : bl a.toNat ≤ 8 := bl_small 8 (by omega)
  rw [e, hl _ (by omega), wi64 (x := (bl a.toNat : Int)) (by omega) (by omega), wi64 (by omega) (by omega)]
theorem bl_shiftI {a : Int} (k : Nat) (c : Int) (hc : c = ((2 ^ k : Nat) : Int)) (h : c ≤ a) : (bl a.toNat : Int) = k + bl (a / c).toNat := by
  have hk := Nat.two_pow_pos k
  have e0 : 0 ≤ a := by omega
  rw [bl_shift (n := a.toNat) k (by rw [hc] at h; exact Int.toNat_le_toNat h), hc]
  have : (a / ((2 ^ k : Nat) : Int)).toNat = a.toNat / 2 ^ k := by
    have h0 : 0 ≤ a := by omega
    obtain ⟨m, rfl⟩ : ∃ m : Nat, a = m := ⟨a.toNat, by omega⟩
    rw [← Int.natCast_ediv]
    rfl
  rw [this]
  omega
theorem u8d {α : Type} {x y : α} {a : Int} : (if ((decide (0 ≤ (IntKind.wrap .u8 a))) && (decide ((IntKind.wrap .u8 a) < 256))) = true then x else y) = x := by
  have h : 0 ≤ IntKind.wrap .u8 a ∧ IntKind.wrap .u8 a < 256 := by rw [IntKind.wrap_u8]; omega
  exact ifdd_t h.1 h.2

theorem s98 : SigOk Try.prog 98 ⟨[.int .u32], [.int .i64], h98⟩ := leaf (an := an98) Try.func98 rfl rfl fun (x : Int × Unit) r h => by
  obtain ⟨⟨a0, a1⟩, rfl⟩ := when_some h
  obtain ⟨a, u⟩ := x
  simp only at a0 a1
  show g98 (a, ()) = some ((bl a.toNat : Int), ())
  rw [g98_eq]
  simp only [u8d, Int.fdiv_eq_ediv_of_nonneg _ (show (0 : Int) ≤ 65536 by omega), Int.fdiv_eq_ediv_of_nonneg _ (show (0 : Int) ≤ 256 by omega)]
  by_cases h1 : a ≥ 65536
  · rw [ifd_t h1, bl_shiftI 16 65536 (by decide) h1]
    by_cases h2 : a / 65536 ≥ 256
    · rw [ifd_t h2, bl_shiftI 8 256 (by decide) h2, tab_bl (by decide) (by omega) (by omega) 24 (by omega) (by omega)]
      congr 2
      omega
    · rw [ifd_f h2, tab_bl (by decide) (by omega) (by omega) 16 (by omega) (by omega)]
      rfl
  · rw [ifd_f h1]
    by_cases h2 : a ≥ 256
    · rw [ifd_t h2, bl_shiftI 8 256 (by decide) h2, tab_bl (by decide) (by omega) (by omega) 8 (by omega) (by omega)]
      rfl
    · rw [ifd_f h2, tab_bl (by decide) (by omega) (by omega) 0 (by omega) (by omega)]
      congr 2
      omega

theorem s104 : SigOk Try.prog 104 ⟨[.int .u64], [.int .i64], h104⟩ := leaf (an := an104) Try.func104 rfl rfl fun (x : Int × Unit) r h => by
  obtain ⟨⟨a0, a1⟩, rfl⟩ := when_some h
  obtain ⟨a, u⟩ := x
  simp only at a0 a1
  show g104 (a, ()) = some ((bl a.toNat : Int), ())
  rw [g104_eq]
  simp only [u8d, Int.fdiv_eq_ediv_of_nonneg _ (show (0 : Int) ≤ 65536 by omega), Int.fdiv_eq_ediv_of_nonneg _ (show (0 : Int) ≤ 256 by omega), Int.fdiv_eq_ediv_of_nonneg _ (show (0 : Int) ≤ 4294967296 by omega)]
  by_cases h0 : a ≥ 4294967296
  · rw [ifd_t h0, bl_shiftI 32 4294967296 (by decide) h0]
    by_cases h1 : a / 4294967296 ≥ 65536
    · rw [ifd_t h1, bl_shiftI 16 65536 (by decide) h1]
      by_cases h2 : a / 4294967296 / 65536 ≥ 256
      · rw [ifd_t h2, bl_shiftI 8 256 (by decide) h2, tab_bl (by decide) (by omega) (by omega) 56 (by omega) (by omega)]
        congr 2
        omega
      · rw [ifd_f h2, tab_bl (by decide) (by omega) (by omega) 48 (by omega) (by omega)]
        congr 2
        omega
    · rw [ifd_f h1]
      by_cases h2 : a / 4294967296 ≥ 256
      · rw [ifd_t h2, bl_shiftI 8 256 (by decide) h2, tab_bl (by decide) (by omega) (by omega) 40 (by omega) (by omega)]
        congr 2
        omega
      · rw [ifd_f h2, tab_bl (by decide) (by omega) (by omega) 32 (by omega) (by omega)]
        rfl
  · rw [ifd_f h0]
    by_cases h1 : a ≥ 65536
    · rw [ifd_t h1, bl_shiftI 16 65536 (by decide) h1]
      by_cases h2 : a / 65536 ≥ 256
      · rw [ifd_t h2, bl_shiftI 8 256 (by decide) h2, tab_bl (by decide) (by omega) (by omega) 24 (by omega) (by omega)]
        congr 2
        omega
      · rw [ifd_f h2, tab_bl (by decide) (by omega) (by omega) 16 (by omega) (by omega)]
        rfl
    · rw [ifd_f h1]
      by_cases h2 : a ≥ 256
      · rw [ifd_t h2, bl_shiftI 8 256 (by decide) h2, tab_bl (by decide) (by omega) (by omega) 8 (by omega) (by omega)]
        rfl
      · rw [ifd_f h2, tab_bl (by decide) (by omega) (by omega) 0 (by omega) (by omega)]
        congr 2
        omega
end Go.Refl.S3
/-
  Contracts in lists; a copy of a slice; lowest words.
-/
set_option linter.unusedVariables false
set_option linter.unusedSimpArgs false
set_option maxRecDepth 100000
namespace Go.Refl.S3
open Go Go.Refl Go.Proofs

theorem lookAll_nil {α : Type _} {Q : Nat → α → Prop} : ∀ f sg, look ([] : List (Nat × α)) f = some sg → Q f sg := fun f sg h => (by cases h)
theorem lookAll_cons {α : Type _} {Q : Nat → α → Prop} {k : Nat} {s : α} {l : List (Nat × α)} (h : Q k s) (hl : ∀ f sg, look l f = some sg → Q f sg) : ∀ f sg, look ((k, s) :: l) f = some sg → Q f sg := by
  intro f sg hf
  unfold look at hf
  split at hf
  · rename_i e
    injection hf with hf
    subst e; subst hf
    exact h
  · exact hl f sg hf

theorem _root_.Go.Refl.SigMOk.weaken {P : Program} {f : FuncId} {u : Ty} {e : TypeId} {ats rts : List Ty} {g h : List u.D → Nat → Nat → DL ats → Option (DL rts × List u.D)} (hs : SigMOk P f ⟨u, e, ats, rts, g⟩) (hw : ∀ xs lo n x r, h xs lo n x = some r → g xs lo n x = some r) : SigMOk P f ⟨u, e, ats, rts, h⟩ :=
  ⟨hs.1, hs.2.1, hs.2.2.1, fun Fr xs ys lo n x r hv sv vs cells w hr => hs.2.2.2 Fr xs ys lo n x r hv sv vs cells w (hw xs lo n x (r, ys) hr)⟩

theorem _root_.Go.Refl.SigNOk.weaken {P : Program} {f : FuncId} {u : Ty} {e : TypeId} {ats : List Ty} {g h : DL ats → Option (List u.D)} (hs : SigNOk P f ⟨u, e, ats, g⟩) (hw : ∀ x r, h x = some r → g x = some r) : SigNOk P f ⟨u, e, ats, h⟩ :=
  ⟨hs.1, hs.2.1, hs.2.2.1, fun Fr xs ys vs w hr => hs.2.2.2 Fr xs ys vs w (hw xs ys hr)⟩

/-! ### A copy of a slice -/
noncomputable def h89 : DL [.sl (.int .u32)] → Option (DL [.sl (.int .u32)]) := fun (x : List Int × Unit) => when (x.1.length < 17592186044416) (x.1, ())

set_option maxHeartbeats 400000 in
theorem clone_nil (n c : Nat) (w : World) :
    Calls Try.prog 89 #[.slice none n c] w fun e w' => e = .returned (.slice none 0 0) ∧ w' = w := by
  have hr : ∀ w, (binOp .eql 83 (.slice none n c) (.slice none 0 0)).run Try.prog w = .ok (.bool true) w := by
    intro w
    simp only [binOp]
    simp [run_equal_slice_nil w 83 22 none n c Try.underlying83]
  go_enter Try.func89, Try.ntmps89
  go_wp2
  go_ret
  exact ⟨rfl, rfl⟩

noncomputable def g89n (l : List Int) : Option (DL [.sl (.int .u32)]) := FnAt cx0 [] Try.f89 [.sl (.int .u32)] [.nn (.int .u32) l]
theorem g89n_eq (l : List Int) : g89n l = if decide ((0 + l.length) * 4 ≤ 140737488355328) = true then some (l, ()) else none := (FnAt_eq rfl).trans (by kernel_rfl)

theorem s89 : SigOk Try.prog 89 ⟨[.sl (.int .u32)], [.sl (.int .u32)], h89⟩ := by
  refine ⟨⟨Try.f89, Try.func89, rfl, rfl⟩, fun Fr (x : List Int × Unit) r vs w h hFr ha => ?_⟩
  obtain ⟨hl, rfl⟩ := when_some h
  obtain ⟨l, u⟩ := x
  replace hl : l.length < 17592186044416 := hl
  obtain ⟨v, vs', rfl, hv, rfl⟩ := ha
  obtain ⟨A, c, cells, hvv, hc, hcs, hrow⟩ := (show RepV w Fr (.sl (.int .u32)) l [v] from hv)
  cases A with
  | none =>
    have hnil : cells = [] := by
      rcases hrow with hrow | ⟨ad, e, _⟩
      · exact hrow
      · cases e
    subst hnil
    have hl0 : l = [] := by
      cases l with
      | nil => rfl
      | cons a l =>
        obtain ⟨c1, c2, e, h1, h2⟩ := hcs
        rw [show c1 = [.int .u32 a] from h1] at e
        cases e
    subst hl0
    injection hvv with hvv
    subst hvv
    refine (clone_nil _ c w).mono fun e w' ⟨he, hw⟩ => ?_
    subst he; subst hw
    exact ⟨RowKit.Below.refl _ _, show RepV _ _ (.sl (.int .u32)) [] [_] from ⟨none, 0, [], rfl, Nat.le_refl _, rfl, .inl rfl⟩⟩
  | some ad =>
    have hrun : (bodyAt cx0 [] Try.f89 [.sl (.int .u32)] [.nn (.int .u32) l]).run = some (l, ()) := by
      show g89n l = _
      rw [g89n_eq, if_pos (decide_eq_true (by omega))]
    refine bodyAt_ok (cx := cx0) (anns := []) mixed T_ok sigs0 inl0 Try.func89 hrun fun G => ?_
    injection hvv with hvv
    subst hvv
    refine ⟨_, _, rfl, ⟨_, rfl, ⟨some ad, c, cells, rfl, hc, hcs, ?_⟩, _, _, _, rfl⟩, rfl⟩
    rcases hrow with hrow | ⟨ad', e, hf, hcell⟩
    · exact .inl hrow
    · exact .inr ⟨ad', e, ⟨.inl hf, hFr _ hf, fun b c hb => (by cases hb)⟩, hcell⟩

/-! ### Lowest words -/
/-- The n lowest words of a number. -/
def Dn : Nat → Int → List Int
  | 0, _ => []
  | n + 1, z => z % 4294967296 :: Dn n (z / 4294967296)
theorem Dn_length (n : Nat) : ∀ z, (Dn n z).length = n := by
  induction n with
  | zero => intro z; rfl
  | succ n ih => intro z; simp [Dn, ih]
theorem Dn_W (n : Nat) : ∀ z, W (Dn n z) := by
  induction n with
  | zero => intro z; exact W.nil
  | succ n ih => intro z; exact W.cons (by omega) (by omega) (ih _)
theorem V_Dn (n : Nat) : ∀ z, V (Dn n z) = z % P n := by
  induction n with
  | zero => intro z; simp [Dn, V, P, Int.emod_one]
  | succ n ih =>
    intro z
    have hp := P_pos n
    simp only [Dn, V, ih, P_succ]
    have h1 := Int.emod_add_mul_ediv z 4294967296
    have h2 := Int.emod_add_mul_ediv (z / 4294967296) (P n)
    have h3 := Int.emod_nonneg (z / 4294967296) (show P n ≠ 0 by omega)
    have h4 := Int.emod_lt_of_pos (z / 4294967296) hp
    have e : z = (z % 4294967296 + 4294967296 * (z / 4294967296 % P n)) + (4294967296 * P n) * (z / 4294967296 / P n) := by
      rw [Int.mul_assoc]; omega
    have key : ((z % 4294967296 + 4294967296 * (z / 4294967296 % P n)) + (4294967296 * P n) * (z / 4294967296 / P n)) % (4294967296 * P n) = z % 4294967296 + 4294967296 * (z / 4294967296 % P n) := by
      rw [Int.add_mul_emod_self_left, Int.emod_eq_of_lt (by omega) (by omega)]
    rw [← e] at key
    exact key.symm
theorem Dn_V {l : List Int} (h : W l) : Dn l.length (V l) = l := by
  induction l with
  | nil => rfl
  | cons w l ih =>
    have hh := h.head
    simp only [List.length_cons, Dn, V]
    rw [show (w + 4294967296 * V l) % 4294967296 = w by omega, show (w + 4294967296 * V l) / 4294967296 = V l by omega, ih h.tail]
/-- A row of words is known by its length and its value. -/
theorem W_ext {a b : List Int} (ha : W a) (hb : W b) (hl : a.length = b.length) (hv : V a = V b) : a = b := by
  rw [← Dn_V ha, ← Dn_V hb, hl, hv]
theorem D_append_zeros {l : List Int} (hw : W l) : ∃ k, l = D (V l) ++ List.replicate k 0 := by
  refine ⟨l.length - (D (V l)).length, ?_⟩
  have h1 := V_lt hw
  have h2 := D_length h1
  refine W_ext hw ((D_W _).append (W.replicate _)) (by simp; omega) ?_
  rw [V_append, V_replicate, V_D (V_nonneg hw)]
  omega
theorem D_getD {l : List Int} (hw : W l) (i : Nat) : (D (V l)).getD i 0 = l.getD i 0 := by
  obtain ⟨k, hk⟩ := D_append_zeros hw
  conv => rhs; rw [hk]
  by_cases h : i < (D (V l)).length
  · rw [List.getD_eq_getElem?_getD, List.getD_eq_getElem?_getD, List.getElem?_append_left h]
  · rw [getD_out (by omega), List.getD_eq_getElem?_getD, List.getElem?_append_right (by omega)]
    by_cases h2 : i - (D (V l)).length < k
    · rw [List.getElem?_replicate, if_pos h2]; rfl
    · rw [List.getElem?_replicate, if_neg h2]; rfl
end Go.Refl.S3
