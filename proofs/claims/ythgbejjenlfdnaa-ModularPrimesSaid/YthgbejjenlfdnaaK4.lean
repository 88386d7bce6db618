/-
  Plain laws: the numbers that pass the test of Miller and Rabin with the bases 2, 3, 5 and 7 are prime, below 2^31.
-/
import Derived.Test.YthgbejjenlfdnaaM9
import Derived.Test.YthgbejjenlfdnaaK3
set_option linter.unusedVariables false
set_option linter.unusedSimpArgs false
set_option maxRecDepth 100000
namespace Go.Refl.S3
open Go Go.Refl Go.Proofs Go.Refl.K

theorem mrL_get' (n d s : Int) : ∀ W : List Int, (∀ w ∈ W, n ≠ w) → mrL n d s W = true → ∀ w ∈ W, w ^ d.toNat % n = 1 ∨ ∃ r : Nat, r ≤ (s - 1).toNat ∧ w ^ (d.toNat * 2 ^ r) % n = n - 1
  | [], _, _, w, hw => by cases hw
  | v :: W, hn, h, w, hw => by
    simp only [mrL] at h
    rw [if_neg (hn v List.mem_cons_self)] at h
    have hn' : ∀ w ∈ W, n ≠ w := fun w hw => hn w (List.mem_cons_of_mem _ hw)
    split at h
    · rename_i h1
      rcases List.mem_cons.1 hw with rfl | hw
      · rcases h1 with h1 | h1
        · exact .inl h1
        · exact .inr ⟨0, Nat.zero_le _, by rw [Nat.pow_zero, Nat.mul_one]; exact h1⟩
      · exact mrL_get' n d s W hn' h w hw
    · split at h
      · rename_i h2
        rcases List.mem_cons.1 hw with rfl | hw
        · rcases mrSq_get n _ _ _ h2 with h3 | ⟨r, h5, h4⟩
          · cases h3
          · exact .inr ⟨r + 1, h5, by rw [pow_emod, ← Int.pow_mul] at h4; exact h4⟩
        · exact mrL_get' n d s W hn' h w hw
      · cases h
theorem mr_full {n : Int} (h : mr n = true) (h2 : n ≠ 2) (h3 : n ≠ 3) (h5 : n ≠ 5) (h7 : n ≠ 7) {w : Int} (hw : w = 2 ∨ w = 3 ∨ w = 5 ∨ w = 7) : w ^ (n - 1).toNat % n = 1 := by
  have hr := mr_range h
  have hodd := mr_cop h h2 h3 h5 h7 (w := 2) (.inl rfl)
  unfold mr at h
  rw [if_neg (by omega)] at h
  obtain ⟨t1, t2, t3⟩ := tz_spec 64 (n - 1) 0 (by omega) (by omega)
  obtain ⟨b1, _⟩ := tz_bounds 64 (n - 1) 0 (by omega) (by omega) (by omega)
  have t4 := t3 (by omega)
  have hg := mrL_get' n _ _ [2, 3, 5, 7] (fun v hv => by
    simp only [List.mem_cons, List.not_mem_nil, or_false] at hv
    omega) h w (by
    simp only [List.mem_cons, List.not_mem_nil, or_false]
    exact hw)
  generalize (tz 64 (n - 1) 0).1 = d at *
  generalize (tz 64 (n - 1) 0).2 = s at *
  rw [Int.sub_zero] at t2
  have hs : 1 ≤ s := by
    apply Classical.byContradiction
    intro hc
    have : s = 0 := by omega
    subst this
    rw [show (0 : Int).toNat = 0 from rfl, Int.pow_zero, Int.mul_one] at t2
    exact hodd (Int.dvd_of_emod_eq_zero (by omega))
  have hd : (n - 1).toNat = d.toNat * 2 ^ s.toNat := by
    have e : n - 1 = ((d.toNat * 2 ^ s.toNat : Nat) : Int) := by
      rw [Int.natCast_mul, Int.natCast_pow, Int.toNat_of_nonneg (by omega)]
      exact t2
    omega
  rw [hd]
  rcases hg with hg | ⟨r, hr1, hg⟩
  · exact one_up (by omega) hg (Nat.dvd_mul_right _ _)
  · have h1 : w ^ (d.toNat * 2 ^ (r + 1)) % n = 1 := by
      rw [Nat.pow_succ, ← Nat.mul_assoc, Int.pow_mul, ← pow_emod, hg, show (n - 1) ^ 2 = 1 + n * (n - 2) by grind, Int.add_mul_emod_self_left, Int.emod_eq_of_lt (by omega) (by omega)]
    exact one_up (by omega) h1 (Nat.mul_dvd_mul_left _ (Nat.pow_dvd_pow 2 (by omega)))
theorem NP_of {p : Nat} (hp : Pri (p : Int)) : NP p := by
  have := hp.1
  refine ⟨by omega, fun d hd => ?_⟩
  have hd0 : 0 < d := Nat.pos_of_dvd_of_pos hd (by omega)
  have := Pri_dvd hp (d := (d : Int)) (Int.natCast_dvd_natCast.2 hd) (by omega)
  omega
theorem Pri_of {p : Nat} (hp : NP p) : Pri (p : Int) := by
  have p2 := hp.1
  refine ⟨by omega, fun d h1 h2 h3 => ?_⟩
  obtain ⟨e, rfl⟩ : ∃ e : Nat, d = e := ⟨d.toNat, by omega⟩
  have hd : e ∣ p := Int.natCast_dvd_natCast.1 (Int.dvd_of_emod_eq_zero h3)
  rcases hp.2 e hd with h | h
  · omega
  · subst h
    have := Int.mul_le_mul (show (2 : Int) ≤ e by omega) (Int.le_refl (e : Int)) (by omega) (by omega)
    omega
theorem nat_pow_one {w k p : Nat} : ((w : Int)) ^ k % (p : Int) = 1 ↔ w ^ k % p = 1 := by
  rw [← Int.natCast_pow, ← Int.natCast_emod]
  omega
theorem gcd_two {t s : Nat} (ht : t % 2 = 1) (hs : s ≤ 32) : Nat.gcd (t * 2 ^ s) 4294967296 = 2 ^ s := by
  have e : (4294967296 : Nat) = 2 ^ (32 - s) * 2 ^ s := by
    rw [← Nat.pow_add, Nat.sub_add_cancel hs]
  rw [e, Nat.gcd_mul_right]
  have hc : Nat.Coprime t (2 ^ (32 - s)) := by
    refine Nat.Coprime.pow_right _ ?_
    unfold Nat.Coprime
    rw [Nat.gcd_comm, Nat.gcd_rec, ht]
    rfl
  rw [hc, Nat.one_mul]
theorem sgN_of {w p v : Nat} (hp : 2 ≤ p) (hp2 : p < 2147483648) (h : SgR (w : Int) (p : Int) v) : sgN w p v = true := by
  obtain ⟨t, s, e1, e2, e3, e4⟩ := h
  have e1 : p - 1 = t * 2 ^ s := by omega
  have ht : 1 ≤ t := by omega
  have hs : s ≤ 32 := by
    apply Classical.byContradiction
    intro hc
    have h1 : 2 ^ 32 ≤ 2 ^ s := Nat.pow_le_pow_right (by omega) (by omega)
    have h2 : 1 * 2 ^ s ≤ t * 2 ^ s := Nat.mul_le_mul_right _ ht
    have h3 : (2 : Nat) ^ 32 = 4294967296 := by decide
    omega
  have ho : odp p = t := by
    unfold odp
    show (p - 1) / Nat.gcd (p - 1) 4294967296 = t
    rw [e1, gcd_two e2 hs, Nat.mul_div_cancel _ (Nat.two_pow_pos s)]
  unfold sgN
  rw [kand_iff, kor_iff, kno_iff, beq_iff, beq_iff, beq_no, ho]
  refine ⟨nat_pow_one.1 e3, ?_⟩
  rcases e4 with e4 | e4
  · exact .inl e4
  · exact .inr fun hc => e4 (nat_pow_one.2 hc)
theorem sq_low_ : K.allR (fun d => kor (Nat.blt 46340 d) (kno (kand (Nat.beq (Nat.mod (Nat.pow 2 (Nat.pred d)) (Nat.mul d d)) 1) (Nat.beq (Nat.mod (Nat.pow 3 (Nat.pred d)) (Nat.mul d d)) 1)))) 16 2 = true := by decide +kernel
/-- What passes the test is prime. -/
theorem mr_is {n : Int} (h : mr n = true) : Pri n := by
  by_cases h2 : n = 2
  · exact h2 ▸ ⟨by omega, fun d a b => by have := Int.mul_le_mul a a (by omega) (by omega); omega⟩
  by_cases h3 : n = 3
  · exact h3 ▸ ⟨by omega, fun d a b => by have := Int.mul_le_mul a a (by omega) (by omega); omega⟩
  by_cases h5 : n = 5
  · refine h5 ▸ ⟨by omega, fun d a b => ?_⟩
    have : d < 3 := by
      apply Classical.byContradiction
      intro hc
      have := Int.mul_le_mul (show 3 ≤ d by omega) (show 3 ≤ d by omega) (by omega) (by omega)
      omega
    rw [show d = 2 by omega]
    omega
  by_cases h7 : n = 7
  · refine h7 ▸ ⟨by omega, fun d a b => ?_⟩
    have : d < 3 := by
      apply Classical.byContradiction
      intro hc
      have := Int.mul_le_mul (show 3 ≤ d by omega) (show 3 ≤ d by omega) (by omega) (by omega)
      omega
    rw [show d = 2 by omega]
    omega
  have hr := mr_range h
  obtain ⟨m, rfl⟩ : ∃ m : Nat, n = m := ⟨n.toNat, by omega⟩
  obtain ⟨D, hD, _, hp⟩ := mr_pass h h2 h3 h5 h7
  have nd : ∀ {w : Int}, (w = 2 ∨ w = 3 ∨ w = 5 ∨ w = 7) → ∀ {p : Nat}, NP p → p ∣ m → w % (p : Int) ≠ 0 := by
    intro w hw p hpp hpm e
    have hpri := Pri_of hpp
    have p2 := hpp.1
    have hwn := mr_cop h h2 h3 h5 h7 hw
    have hd := Int.dvd_of_emod_eq_zero e
    have hwp : Pri w := by
      rcases hw with rfl | rfl | rfl | rfl
      · exact Pri_of (p := 2) (cop_prime (K := 1) (B := 1) (fun d _ _ => by omega) (by omega) (by omega) (by decide))
      · exact Pri_of (p := 3) (cop_prime (K := 1) (B := 1) (fun d _ _ => by omega) (by omega) (by omega) (by decide))
      · exact Pri_of (p := 5) (cop_prime (K := 2) (B := 2) (fun d _ _ => by rw [show d = 2 by omega]; decide) (by omega) (by omega) (by decide))
      · exact Pri_of (p := 7) (cop_prime (K := 2) (B := 2) (fun d _ _ => by rw [show d = 2 by omega]; decide) (by omega) (by omega) (by decide))
    rcases Pri_dvd hwp hd (by omega) with e1 | e1
    · omega
    · exact hwn (e1 ▸ Int.natCast_dvd_natCast.2 hpm)
  have n2 : ∀ {p : Nat}, NP p → p ∣ m → (p : Int) ≠ 2 := by
    intro p hpp hpm e
    exact mr_cop h h2 h3 h5 h7 (w := 2) (.inl rfl) (e ▸ Int.natCast_dvd_natCast.2 hpm)
  have hle : ∀ {p : Nat}, p ∣ m → p < 2147483648 := fun hpm => by
    have := Nat.le_of_dvd (by omega) hpm
    omega
  obtain ⟨a, ha⟩ := sig_of hD (hp 2 (by omega))
  obtain ⟨b, hb⟩ := sig_of hD (hp 3 (by omega))
  obtain ⟨c, hc⟩ := sig_of hD (hp 5 (by omega))
  obtain ⟨d, hd⟩ := sig_of hD (hp 7 (by omega))
  refine Pri_of (no_psp (a := a) (b := b) (c := c) (d := d) (by omega) (by omega) ?_ ?_ ?_)
  · intro p hpp hpm
    have p2 := hpp.1
    have hpB : p ≤ 46340 := by
      apply Classical.byContradiction
      intro hc
      have := Nat.mul_le_mul (show 46341 ≤ p by omega) (show 46341 ≤ p by omega)
      have := Nat.le_of_dvd (by omega) hpm
      omega
    have hdv : (p : Int) * (p : Int) ∣ (m : Int) := by
      rw [← Int.natCast_mul]
      exact Int.natCast_dvd_natCast.2 hpm
    have k2 := no_square h h2 h3 h5 h7 (w := 2) (by omega) (Pri_of hpp) hdv
    have k3 := no_square h h2 h3 h5 h7 (w := 3) (by omega) (Pri_of hpp) hdv
    rw [show ((p : Int) - 1).toNat = p - 1 by omega, ← Int.natCast_mul] at k2 k3
    have k2 := nat_pow_one.1 k2
    have k3 := nat_pow_one.1 k3
    have := K.allR_iff _ _ _ sq_low_ p p2 (by omega)
    rw [kor_iff, kno_iff] at this
    rcases this with e | e
    · have := blt_iff.1 e
      omega
    · have e2 : kand (Nat.beq (Nat.mod (Nat.pow 2 (Nat.pred p)) (Nat.mul p p)) 1) (Nat.beq (Nat.mod (Nat.pow 3 (Nat.pred p)) (Nat.mul p p)) 1) = true := kand_iff.2 ⟨beq_iff.2 k2, beq_iff.2 k3⟩
      rw [e] at e2
      cases e2
  · intro p hpp hpm
    have p2 := hpp.1
    have hpd := Int.natCast_dvd_natCast.2 hpm
    have q2 := n2 hpp hpm
    refine ⟨?_, kand_iff.2 ⟨sgN_of p2 (hle hpm) (ha p (Pri_of hpp) q2 hpd (nd (by omega) hpp hpm)), kand_iff.2 ⟨sgN_of p2 (hle hpm) (hb p (Pri_of hpp) q2 hpd (nd (by omega) hpp hpm)), kand_iff.2 ⟨sgN_of p2 (hle hpm) (hc p (Pri_of hpp) q2 hpd (nd (by omega) hpp hpm)), sgN_of p2 (hle hpm) (hd p (Pri_of hpp) q2 hpd (nd (by omega) hpp hpm))⟩⟩⟩⟩
    apply Classical.byContradiction
    intro hlt
    have hcases : p = 2 ∨ p = 3 ∨ p = 5 ∨ p = 7 ∨ 2 ∣ p ∧ 2 < p ∨ 3 ∣ p ∧ 3 < p := by omega
    rcases hcases with e | e | e | e | ⟨e, e'⟩ | ⟨e, e'⟩
    · exact nd (w := 2) (by omega) hpp hpm (by rw [e]; rfl)
    · exact nd (w := 3) (by omega) hpp hpm (by rw [e]; rfl)
    · exact nd (w := 5) (by omega) hpp hpm (by rw [e]; rfl)
    · exact nd (w := 7) (by omega) hpp hpm (by rw [e]; rfl)
    · rcases hpp.2 _ e with e | e <;> omega
    · rcases hpp.2 _ e with e | e <;> omega
  · intro p hpp hpm w hw
    have p2 := hpp.1
    have hpd := Int.natCast_dvd_natCast.2 hpm
    have hw' : (w : Int) = 2 ∨ (w : Int) = 3 ∨ (w : Int) = 5 ∨ (w : Int) = 7 := by omega
    have f1 := mr_full h h2 h3 h5 h7 hw'
    have f2 := fermat (Pri_of hpp) (nd hw' hpp hpm)
    rw [show ((p : Int) - 1).toNat = p - 1 by omega] at f2
    rw [show ((m : Int) - 1).toNat = m - 1 by omega] at f1
    refine ⟨?_, nat_pow_one.1 f2⟩
    refine nat_pow_one.1 ?_
    rw [← Int.emod_emod_of_dvd _ hpd, f1, Int.emod_eq_of_lt (by omega) (by omega)]
end Go.Refl.S3
