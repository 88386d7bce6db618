/-
  Plain laws: powers whose exponents have a common divisor; what passes the test of Miller and Rabin.
-/
import Derived.Test.YthgbejjenlfdnaaM7
set_option linter.unusedVariables false
set_option linter.unusedSimpArgs false
set_option maxRecDepth 100000
namespace Go.Refl.S3
open Go Go.Refl Go.Proofs

theorem pow_emod (a p : Int) (n : Nat) : (a % p) ^ n % p = a ^ n % p := by
  induction n with
  | zero => rw [Int.pow_zero, Int.pow_zero]
  | succ n ih => rw [Int.pow_succ, Int.pow_succ, Int.mul_emod, ih, Int.emod_emod, ← Int.mul_emod]
/-- Ones at two exponents give one at their greatest common divisor. -/
theorem one_gcd {a p : Int} : ∀ (k x y : Nat), y ≤ k → a ^ x % p = 1 % p → a ^ y % p = 1 % p → a ^ Nat.gcd x y % p = 1 % p := by
  intro k
  induction k with
  | zero =>
    intro x y hy hx _
    have : y = 0 := by omega
    subst this
    rw [Nat.gcd_zero_right]
    exact hx
  | succ k ih =>
    intro x y hy hx hy1
    by_cases h0 : y = 0
    · subst h0
      rw [Nat.gcd_zero_right]
      exact hx
    · have hm : a ^ (x % y) % p = 1 % p := by
        have e : x = y * (x / y) + x % y := (Nat.div_add_mod x y).symm
        rw [e, Int.pow_add, Int.pow_mul, Int.mul_emod, ← pow_emod (a ^ y), hy1, pow_emod, Int.one_pow, ← Int.mul_emod, Int.one_mul] at hx
        exact hx
      have := ih y (x % y) (by have := Nat.mod_lt x (show 0 < y by omega); omega) hy1 hm
      rw [Nat.gcd_comm, Nat.gcd_rec, Nat.gcd_comm]
      exact this
theorem sq_pow (x n : Int) (r : Nat) : (x * x % n) ^ 2 ^ r % n = x ^ 2 ^ (r + 1) % n := by
  rw [pow_emod, show x * x = x ^ 2 by rw [Int.pow_succ, Int.pow_succ, Int.pow_zero, Int.one_mul], ← Int.pow_mul, Nat.pow_succ, Nat.mul_comm 2]
theorem mrSq_get (n : Int) : ∀ (k : Nat) (x : Int) (p : Bool), mrSq n k x p = true → p = true ∨ ∃ r, r < k ∧ x ^ 2 ^ (r + 1) % n = n - 1
  | 0, x, p, h => .inl h
  | k + 1, x, p, h => by
    rcases mrSq_get n k _ _ h with h | ⟨r, h1, h2⟩
    · rcases Bool.or_eq_true .. ▸ h with h | h
      · exact .inl h
      · refine .inr ⟨0, by omega, ?_⟩
        rw [← sq_pow, Nat.pow_zero, Int.pow_succ, Int.pow_zero, Int.one_mul, Int.emod_emod]
        simpa using h
    · exact .inr ⟨r + 1, by omega, by rw [← sq_pow]; exact h2⟩
theorem mrL_get (n d s : Int) : ∀ W : List Int, (∀ w ∈ W, n ≠ w) → mrL n d s W = true → ∀ w ∈ W, w ^ d.toNat % n = 1 ∨ ∃ r : Nat, w ^ (d.toNat * 2 ^ r) % n = n - 1
  | [], _, _, w, hw => by cases hw
  | v :: W, hn, h, w, hw => by
    simp only [mrL] at h
    rw [if_neg (hn v List.mem_cons_self)] at h
    have hn' : ∀ w ∈ W, n ≠ w := fun w hw => hn w (List.mem_cons_of_mem _ hw)
    split at h
    · rename_i h1
      rcases List.mem_cons.1 hw with rfl | hw
      · rcases h1 with h1 | h1
        · exact .inl h1
        · exact .inr ⟨0, by rw [Nat.pow_zero, Nat.mul_one]; exact h1⟩
      · exact mrL_get n d s W hn' h w hw
    · split at h
      · rename_i h2
        rcases List.mem_cons.1 hw with rfl | hw
        · rcases mrSq_get n _ _ _ h2 with h3 | ⟨r, _, h4⟩
          · cases h3
          · exact .inr ⟨r + 1, by rw [pow_emod, ← Int.pow_mul] at h4; exact h4⟩
        · exact mrL_get n d s W hn' h w hw
      · cases h
/-- The signature of a base modulo a prime: how often the odd part's power is squared until it is one. -/
def SgR (w p : Int) (v : Nat) : Prop := ∃ t s : Nat, p - 1 = ((t * 2 ^ s : Nat) : Int) ∧ t % 2 = 1 ∧ w ^ (t * 2 ^ v) % p = 1 ∧ (v = 0 ∨ w ^ (t * 2 ^ (v - 1)) % p ≠ 1)
theorem odd_part : ∀ (k m : Nat), 0 < m → m ≤ k → ∃ t s : Nat, m = t * 2 ^ s ∧ t % 2 = 1
  | 0, m, h, hk => by omega
  | k + 1, m, h, hk => by
    by_cases ho : m % 2 = 1
    · exact ⟨m, 0, by simp, ho⟩
    · obtain ⟨t, s, h1, h2⟩ := odd_part k (m / 2) (by omega) (by omega)
      exact ⟨t, s + 1, by rw [Nat.pow_succ, ← Nat.mul_assoc, ← h1]; omega, h2⟩
theorem one_up {w p : Int} (hp : 2 ≤ p) {x y : Nat} (h : w ^ x % p = 1) (hd : x ∣ y) : w ^ y % p = 1 := by
  obtain ⟨c, rfl⟩ := hd
  rw [Int.pow_mul, ← pow_emod, h, Int.one_pow, Int.emod_eq_of_lt (by omega) (by omega)]
theorem one_odd {w p : Int} (hp : Pri p) (hw : w % p ≠ 0) {A B a b : Nat} (hA : A % 2 = 1) (h1 : w ^ (A * 2 ^ a) % p = 1) (h2 : w ^ (B * 2 ^ b) % p = 1) : w ^ (B * 2 ^ a) % p = 1 := by
  have p2 := hp.1
  have e1 : (1 : Int) % p = 1 := Int.emod_eq_of_lt (by omega) (by omega)
  have h3 : w ^ (B * (A * 2 ^ a)) % p = 1 := one_up p2 h1 (Nat.dvd_mul_left _ _)
  have h4 := one_gcd (a := w) (p := p) _ _ _ (Nat.le_refl _) (by rw [e1]; exact h3) (by rw [e1]; exact h2)
  rw [e1, Nat.gcd_mul_left] at h4
  refine one_up p2 h4 (Nat.mul_dvd_mul_left _ ?_)
  have hc : Nat.Coprime (Nat.gcd (A * 2 ^ a) (2 ^ b)) A := by
    refine Nat.Coprime.coprime_dvd_left (Nat.gcd_dvd_right _ _) (Nat.Coprime.pow_left _ ?_)
    unfold Nat.Coprime
    rw [Nat.gcd_rec, hA]
    rfl
  exact hc.dvd_of_dvd_mul_left (Nat.gcd_dvd_left _ _)
/-- Where a number passes the test at a base, the base has one signature modulo all its prime factors. -/
theorem sig_of {n w : Int} {D : Nat} (hD : D % 2 = 1) (h : w ^ D % n = 1 ∨ ∃ r : Nat, w ^ (D * 2 ^ r) % n = n - 1) : ∃ v, ∀ p, Pri p → p ≠ 2 → p ∣ n → w % p ≠ 0 → SgR w p v := by
  have down : ∀ (p : Int) (x : Nat), p ∣ n → w ^ x % n % p = w ^ x % p := fun p x hp => Int.emod_emod_of_dvd _ hp
  rcases h with h | ⟨r, h⟩
  · refine ⟨0, fun p hp hp2 hpn hw => ?_⟩
    have p2 := hp.1
    obtain ⟨t, s, e1, e2⟩ := odd_part _ (p - 1).toNat (by omega) (Nat.le_refl _)
    have hf := fermat hp hw
    rw [e1] at hf
    have h1 : w ^ (D * 2 ^ 0) % p = 1 := by
      rw [Nat.pow_zero, Nat.mul_one, ← down p D hpn, h, Int.emod_eq_of_lt (by omega) (by omega)]
    exact ⟨t, s, by rw [← e1]; omega, e2, one_odd hp hw hD h1 hf, .inl rfl⟩
  · refine ⟨r + 1, fun p hp hp2 hpn hw => ?_⟩
    have p2 := hp.1
    obtain ⟨t, s, e1, e2⟩ := odd_part _ (p - 1).toNat (by omega) (Nat.le_refl _)
    have hf := fermat hp hw
    rw [e1] at hf
    have hneg : w ^ (D * 2 ^ r) % p = p - 1 := by
      rw [← down p _ hpn, h]
      obtain ⟨c, hc⟩ := hpn
      rw [hc, show p * c - 1 = (p - 1) + p * (c - 1) by grind, Int.add_mul_emod_self_left, Int.emod_eq_of_lt (by omega) (by omega)]
    have h1 : w ^ (D * 2 ^ (r + 1)) % p = 1 := by
      rw [Nat.pow_succ, ← Nat.mul_assoc, Int.pow_mul, ← pow_emod, hneg, show (p - 1) ^ 2 = 1 + p * (p - 2) by grind, Int.add_mul_emod_self_left, Int.emod_eq_of_lt (by omega) (by omega)]
    refine ⟨t, s, by rw [← e1]; omega, e2, one_odd hp hw hD h1 hf, .inr fun h2 => ?_⟩
    rw [Nat.add_sub_cancel] at h2
    have h3 := one_odd hp hw e2 h2 h1
    omega
theorem SgR.le {w p : Int} (hp : Pri p) (hw : w % p ≠ 0) {v v' : Nat} (h : SgR w p v) (h' : SgR w p v') : v' ≤ v := by
  obtain ⟨t, s, e1, e2, e3, e4⟩ := h
  obtain ⟨t', s', f1, f2, f3, f4⟩ := h'
  have p2 := hp.1
  apply Classical.byContradiction
  intro hc
  rcases f4 with f4 | f4
  · omega
  · have hf := fermat hp hw
    rw [show (p - 1).toNat = t' * 2 ^ s' by omega] at hf
    have h1 := one_odd hp hw e2 e3 hf
    exact f4 (one_up p2 h1 (Nat.mul_dvd_mul_left _ (Nat.pow_dvd_pow 2 (by omega))))
theorem SgR.uniq {w p : Int} (hp : Pri p) (hw : w % p ≠ 0) {v v' : Nat} (h : SgR w p v) (h' : SgR w p v') : v = v' := Nat.le_antisymm (SgR.le hp hw h' h) (SgR.le hp hw h h')
theorem mr_pass {n : Int} (h : mr n = true) (h2 : n ≠ 2) (h3 : n ≠ 3) (h5 : n ≠ 5) (h7 : n ≠ 7) : ∃ D : Nat, D % 2 = 1 ∧ (D : Int) ∣ n - 1 ∧ ∀ w : Int, (w = 2 ∨ w = 3 ∨ w = 5 ∨ w = 7) → w ^ D % n = 1 ∨ ∃ r : Nat, w ^ (D * 2 ^ r) % n = n - 1 := by
  have hr := mr_range h
  unfold mr at h
  rw [if_neg (by omega)] at h
  obtain ⟨t1, t2, t3⟩ := tz_spec 64 (n - 1) 0 (by omega) (by omega)
  obtain ⟨b1, _⟩ := tz_bounds 64 (n - 1) 0 (by omega) (by omega) (by omega)
  have t4 := t3 (by omega)
  refine ⟨(tz 64 (n - 1) 0).1.toNat, by omega, by rw [Int.toNat_of_nonneg (by omega)]; exact ⟨_, t2⟩, fun w hw => ?_⟩
  refine mrL_get n _ _ [2, 3, 5, 7] (fun v hv => ?_) h w ?_
  · simp only [List.mem_cons, List.not_mem_nil, or_false] at hv
    omega
  · simp only [List.mem_cons, List.not_mem_nil, or_false]
    exact hw
theorem mr_cop {n : Int} (h : mr n = true) (h2 : n ≠ 2) (h3 : n ≠ 3) (h5 : n ≠ 5) (h7 : n ≠ 7) {w : Int} (hw : w = 2 ∨ w = 3 ∨ w = 5 ∨ w = 7) : ¬ w ∣ n := by
  intro hd
  obtain ⟨D, hD, _, hp⟩ := mr_pass h h2 h3 h5 h7
  have hx : ∀ x : Nat, 0 < x → w ∣ w ^ x % n := fun x hx => by
    obtain ⟨y, rfl⟩ : ∃ y, x = y + 1 := ⟨x - 1, by omega⟩
    have e := Int.mul_ediv_add_emod (w ^ (y + 1)) n
    have e2 : w ^ (y + 1) % n = w ^ (y + 1) - n * (w ^ (y + 1) / n) := by omega
    rw [e2]
    exact Int.dvd_sub ⟨w ^ y, by rw [Int.pow_succ, Int.mul_comm]⟩ (Int.dvd_mul_of_dvd_left hd)
  have h1 : w ∣ 1 := by
    rcases hp w hw with h | ⟨r, h⟩
    · have := hx D (by omega)
      rwa [h] at this
    · have := hx (D * 2 ^ r) (Nat.mul_pos (by omega) (Nat.two_pow_pos r))
      rw [h] at this
      have := Int.dvd_sub hd this
      rwa [show n - (n - 1) = 1 by omega] at this
  have := Int.le_of_dvd (by omega) h1
  omega
theorem lift_pow {p x c : Int} (h : x = 1 + p * c) : ∀ k : Nat, ∃ e, x ^ k = 1 + k * (p * c) + p * p * e
  | 0 => ⟨0, by rw [Int.pow_zero]; omega⟩
  | k + 1 => by
    obtain ⟨e, he⟩ := lift_pow h k
    refine ⟨e * x + k * c * c, ?_⟩
    rw [Int.pow_succ, he, h, Int.natCast_succ]
    grind
theorem lift_one {p x : Int} (hp : 0 < p) (h : p ∣ x - 1) : p * p ∣ x ^ p.toNat - 1 := by
  obtain ⟨c, hc⟩ := h
  obtain ⟨e, he⟩ := lift_pow (p := p) (c := c) (show x = 1 + p * c by omega) p.toNat
  rw [Int.toNat_of_nonneg (by omega)] at he
  exact ⟨c + e, by rw [he]; grind⟩
end Go.Refl.S3
