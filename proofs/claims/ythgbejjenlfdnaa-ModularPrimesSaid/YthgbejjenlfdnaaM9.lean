/-
  Plain laws: what passes the test has no square factor.
-/
import Derived.Test.YthgbejjenlfdnaaM8
set_option linter.unusedVariables false
set_option linter.unusedSimpArgs false
set_option maxRecDepth 100000
namespace Go.Refl.S3
open Go Go.Refl Go.Proofs

theorem Pri_nat {p : Int} (hp : Pri p) {a : Nat} (h : ¬ p ∣ (a : Int)) : Nat.Coprime p.toNat a := by
  have p2 := hp.1
  have := Pri_co hp (a := (a : Int)) (fun e => h (Int.dvd_of_emod_eq_zero e))
  unfold Int.gcd at this
  rw [Int.natAbs_natCast] at this
  unfold Nat.Coprime
  rw [Nat.gcd_comm, show p.toNat = p.natAbs by omega]
  exact this
theorem gcd_low {p : Int} (hp : Pri p) {E : Nat} (h : ¬ p ∣ (E : Int)) : Nat.gcd ((p - 1).toNat * p.toNat) E ∣ (p - 1).toNat := by
  have hc : Nat.Coprime (Nat.gcd ((p - 1).toNat * p.toNat) E) p.toNat := Nat.Coprime.coprime_dvd_left (Nat.gcd_dvd_right _ _) (Pri_nat hp h).symm
  exact hc.dvd_of_dvd_mul_right (Nat.gcd_dvd_left _ _)
theorem no_square {n p w : Int} (h : mr n = true) (h2 : n ≠ 2) (h3 : n ≠ 3) (h5 : n ≠ 5) (h7 : n ≠ 7) (hw : w = 2 ∨ w = 3 ∨ w = 5 ∨ w = 7) (hp : Pri p) (hd : p * p ∣ n) : w ^ (p - 1).toNat % (p * p) = 1 := by
  have p2 := hp.1
  have hr := mr_range h
  have hpn : p ∣ n := Int.dvd_trans ⟨p, rfl⟩ hd
  have hpne : p ≠ 2 := fun e => mr_cop h h2 h3 h5 h7 (.inl rfl) (e ▸ hpn)
  have hq : 4 ≤ p * p := by
    have := Int.mul_le_mul p2 p2 (by omega) (by omega)
    omega
  have e1 : (1 : Int) % (p * p) = 1 := Int.emod_eq_of_lt (by omega) (by omega)
  obtain ⟨D, hD, hDn, hps⟩ := mr_pass h h2 h3 h5 h7
  have hwp : w % p ≠ 0 := fun e => by
    have hwn := mr_cop h h2 h3 h5 h7 hw
    have hpw := Int.dvd_of_emod_eq_zero e
    have hwpri : Pri w := by
      rcases hw with rfl | rfl | rfl | rfl
      · exact ⟨by omega, fun d a b => by have := Int.mul_le_mul a a (by omega) (by omega); omega⟩
      · exact ⟨by omega, fun d a b => by have := Int.mul_le_mul a a (by omega) (by omega); omega⟩
      · exact ⟨by omega, fun d a b => by
          have : d < 3 := by
            apply Classical.byContradiction
            intro hc
            have := Int.mul_le_mul (show 3 ≤ d by omega) (show 3 ≤ d by omega) (by omega) (by omega)
            omega
          rw [show d = 2 by omega]
          omega⟩
      · exact ⟨by omega, fun d a b => by
          have : d < 3 := by
            apply Classical.byContradiction
            intro hc
            have := Int.mul_le_mul (show 3 ≤ d by omega) (show 3 ≤ d by omega) (by omega) (by omega)
            omega
          rw [show d = 2 by omega]
          omega⟩
    rcases Pri_dvd hwpri hpw (by omega) with e | e
    · omega
    · exact hwn (e ▸ hpn)
  have hm : ∃ m : Nat, w ^ (D * 2 ^ m) % (p * p) = 1 := by
    have down : ∀ x : Nat, w ^ x % n % (p * p) = w ^ x % (p * p) := fun x => Int.emod_emod_of_dvd _ hd
    rcases hps w hw with h | ⟨r, h⟩
    · exact ⟨0, by rw [Nat.pow_zero, Nat.mul_one, ← down, h, e1]⟩
    · refine ⟨r + 1, ?_⟩
      rw [← down, Nat.pow_succ, ← Nat.mul_assoc, Int.pow_mul, ← pow_emod, h, show (n - 1) ^ 2 = 1 + n * (n - 2) by grind, Int.add_mul_emod_self_left, Int.emod_emod_of_dvd _ hd, e1]
  obtain ⟨m, hm⟩ := hm
  have hE : ¬ p ∣ ((D * 2 ^ m : Nat) : Int) := fun hc => by
    have hnz : ((D : Nat) : Int) % p ≠ 0 := fun e => by
      have h1 := Int.dvd_trans (Int.dvd_of_emod_eq_zero e) hDn
      have h3 := Int.dvd_sub hpn h1
      rw [show n - (n - 1) = 1 by omega] at h3
      have := Int.le_of_dvd (by omega) h3
      omega
    rw [Int.natCast_mul] at hc
    have h4 := Pri_mul hp (Int.emod_eq_zero_of_dvd hc) hnz
    have key : ∀ k : Nat, ((2 ^ k : Nat) : Int) % p ≠ 0 := by
      intro k
      induction k with
      | zero =>
        intro e
        rw [Nat.pow_zero, Int.emod_eq_of_lt (by omega) (by omega)] at e
        omega
      | succ k ih =>
        intro e
        rw [Nat.pow_succ, Int.natCast_mul] at e
        have := Pri_mul hp e ih
        rw [Int.emod_eq_of_lt (by omega) (by omega)] at this
        omega
    exact key m h4
  have hf := lift_one (x := w ^ (p - 1).toNat) (show 0 < p by omega) (dvd_of_emod (by rw [fermat hp hwp, Int.emod_eq_of_lt (by omega) (by omega)]))
  have hl : w ^ ((p - 1).toNat * p.toNat) % (p * p) = 1 := by
    rw [Int.pow_mul]
    have := emod_of_dvd hf
    rw [this, e1]
  have hg := one_gcd (a := w) (p := p * p) _ _ _ (Nat.le_refl _) (by rw [e1]; exact hl) (by rw [e1]; exact hm)
  rw [e1] at hg
  exact one_up (by omega) hg (gcd_low hp hE)
end Go.Refl.S3
