/-
  Plain laws about primes, inverses and powers modulo a prime.
-/
import Derived.Test.YthgbejjenlfdnaaQ14
set_option linter.unusedVariables false
set_option linter.unusedSimpArgs false
set_option maxRecDepth 100000
namespace Go.Refl.S3
open Go Go.Refl Go.Proofs

/-- A prime has no other divisors. -/
theorem Pri_dvd {p d : Int} (hp : Pri p) (h : d ∣ p) (hd : 0 < d) : d = 1 ∨ d = p := by
  obtain ⟨h2, hdiv⟩ := hp
  apply Classical.byContradiction
  intro hc
  have hd1 : d ≠ 1 := fun h => hc (.inl h)
  have hdp : d ≠ p := fun h => hc (.inr h)
  have hle := Int.le_of_dvd (by omega) h
  obtain ⟨c, hcd⟩ := h
  have hc0 : 0 < c := by
    apply Classical.byContradiction
    intro h0
    have : d * c ≤ d * 0 := Int.mul_le_mul_of_nonneg_left (by omega) (by omega)
    omega
  have hc1 : c ≠ 1 := by
    intro h1
    subst h1
    omega
  rcases Int.le_total d c with h1 | h1
  · have : d * d ≤ d * c := Int.mul_le_mul_of_nonneg_left h1 (by omega)
    exact hdiv d (by omega) (by omega) (by rw [hcd]; exact Int.mul_emod_right _ _)
  · have : c * c ≤ d * c := Int.mul_le_mul_of_nonneg_right h1 (by omega)
    exact hdiv c (by omega) (by omega) (by rw [hcd, Int.mul_comm]; exact Int.mul_emod_right _ _)
theorem Pri_gcd {p a : Int} (hp : Pri p) (h : a % p ≠ 0) : Int.gcd p (a % p) = 1 := by
  have h2 := hp.1
  have m0 := Int.emod_nonneg a (show p ≠ 0 by omega)
  have m1 := Int.emod_lt_of_pos a (show 0 < p by omega)
  have hg : 0 < Int.gcd p (a % p) := Nat.gcd_pos_of_pos_left _ (by omega)
  rcases Pri_dvd hp (d := ((Int.gcd p (a % p) : Nat) : Int)) (Int.gcd_dvd_left ..) (by omega) with h1 | h1
  · omega
  · have := gcd_le (a := p) (b := a % p) (by omega)
    omega

theorem eiv_spec (a p : Int) : ∀ k : Nat, ∀ x y u v : Int, y.toNat ≤ k → 0 ≤ x → 0 ≤ y → p ∣ x - u * a → p ∣ y - v * a → p ∣ ((Int.gcd x y : Nat) : Int) - eiv x y u v * a := by
  intro k
  induction k with
  | zero =>
    intro x y u v hk hx hy h1 h2
    have : y = 0 := by omega
    subst this
    rw [eiv_zero, Int.gcd_zero_right, show ((x.natAbs : Nat) : Int) = x by omega]
    exact h1
  | succ k ih =>
    intro x y u v hk hx hy h1 h2
    by_cases h0 : y = 0
    · subst h0
      rw [eiv_zero, Int.gcd_zero_right, show ((x.natAbs : Nat) : Int) = x by omega]
      exact h1
    · have m0 := Int.emod_nonneg x h0
      have m1 := Int.emod_lt_of_pos x (show 0 < y by omega)
      rw [eiv_pos (by omega), ← gcd_step hx (by omega)]
      refine ih y (x % y) v (u - x / y * v) (by omega) hy m0 h2 ?_
      have me := Int.mul_ediv_add_emod x y
      have e : x % y - (u - x / y * v) * a = (x - u * a) - x / y * (y - v * a) := by
        have e1 : x % y = x - y * (x / y) := by omega
        rw [e1]
        clear me e1 m0 m1 h1 h2 ih
        grind
      rw [e]
      exact Int.dvd_sub h1 (Int.dvd_mul_of_dvd_right h2)
theorem emod_of_dvd {p a b : Int} (h : p ∣ a - b) : a % p = b % p := by
  obtain ⟨c, hc⟩ := h
  have : a = b + p * c := by omega
  rw [this, Int.add_mul_emod_self_left]
theorem dvd_of_emod {p a b : Int} (h : a % p = b % p) : p ∣ a - b := Int.dvd_of_emod_eq_zero (by
  rw [Int.sub_emod, h, Int.sub_self]
  rfl)
/-- The inverse is one. -/
theorem inv_mul {p a : Int} (hp : Pri p) (h : a % p ≠ 0) : inv a p * a % p = 1 := by
  have h2 := hp.1
  have m0 := Int.emod_nonneg a (show p ≠ 0 by omega)
  have hs := eiv_spec a p _ p (a % p) 0 1 (Nat.le_refl _) (by omega) m0 ⟨1, by omega⟩ (dvd_of_emod (by rw [Int.one_mul, Int.emod_emod]))
  rw [Pri_gcd hp h] at hs
  unfold inv
  rw [Int.mul_emod, Int.emod_emod, ← Int.mul_emod, Int.add_mul, Int.add_mul_emod_self_left]
  have := emod_of_dvd hs
  rw [← this]
  exact Int.emod_eq_of_lt (by decide) (by have : ((1 : Nat) : Int) = 1 := rfl; omega)
/-- A number has but one inverse. -/
theorem inv_unique {p a i j : Int} (hi : i * a % p = 1 % p) (hj : j * a % p = 1 % p) : i % p = j % p := by
  have e1 : i * (j * a) % p = i % p := by rw [Int.mul_emod, hj, ← Int.mul_emod, Int.mul_one]
  have e2 : j * (i * a) % p = j % p := by rw [Int.mul_emod, hi, ← Int.mul_emod, Int.mul_one]
  have e3 : i * (j * a) = j * (i * a) := by grind
  rw [← e1, ← e2, e3]
theorem inv_ne {p a : Int} (hp : Pri p) (h : a % p ≠ 0) : inv a p % p ≠ 0 ∧ 1 ≤ inv a p ∧ inv a p < p := by
  have h2 := hp.1
  obtain ⟨r0, r1⟩ := inv_range (a := a) (p := p) (by omega)
  have hm := inv_mul hp h
  have h0 : inv a p ≠ 0 := by
    intro h0
    rw [h0, Int.zero_mul, Int.zero_emod] at hm
    omega
  exact ⟨by rw [Int.emod_eq_of_lt r0 r1]; exact h0, by omega, r1⟩
theorem inv_inv {p a : Int} (hp : Pri p) (h : a % p ≠ 0) : inv (inv a p) p = a % p := by
  have h2 := hp.1
  obtain ⟨n0, n1, n2⟩ := inv_ne hp h
  have hm := inv_mul hp h
  have hm2 := inv_mul hp n0
  obtain ⟨r0, r1⟩ := inv_range (a := inv a p) (p := p) (by omega)
  have := inv_unique (p := p) (a := inv a p) (i := inv (inv a p) p) (j := a) (by rw [hm2]; exact (Int.emod_eq_of_lt (by omega) (by omega)).symm) (by rw [Int.mul_comm, hm]; exact (Int.emod_eq_of_lt (by omega) (by omega)).symm)
  rw [Int.emod_eq_of_lt r0 r1] at this
  exact this
/-- A prime that divides a product divides a factor. -/
theorem Pri_mul {p a b : Int} (hp : Pri p) (h : a * b % p = 0) (ha : a % p ≠ 0) : b % p = 0 := by
  have hm := inv_mul hp ha
  have e : inv a p * (a * b) % p = b % p := by
    rw [← Int.mul_assoc, Int.mul_emod, hm]
    have h2 := hp.1
    rw [Int.one_mul, Int.emod_emod]
  rw [← e, Int.mul_emod, h, Int.mul_zero, Int.zero_emod]

/-! ### Inverts -/
theorem e10 : h10 () = some (true, ()) := rfl
end Go.Refl.S3
