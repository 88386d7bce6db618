/-
  Plain laws: fractions in lowest terms, and their images modulo a prime.
-/
import Derived.Test.YthgbejjenlfdnaaQ15
set_option linter.unusedVariables false
set_option linter.unusedSimpArgs false
set_option maxRecDepth 100000
namespace Go.Refl.S3
open Go Go.Refl Go.Proofs

theorem lowG_dvd (n d : Int) : lowG n d ∣ n ∧ lowG n d ∣ d := by
  unfold lowG
  split
  · exact ⟨Int.neg_dvd.2 (Int.gcd_dvd_left ..), Int.neg_dvd.2 (Int.gcd_dvd_right ..)⟩
  · exact ⟨Int.gcd_dvd_left .., Int.gcd_dvd_right ..⟩
theorem low_mul (n d : Int) : lowN n d * lowG n d = n ∧ lowD n d * lowG n d = d :=
  ⟨Int.ediv_mul_cancel (lowG_dvd n d).1, Int.ediv_mul_cancel (lowG_dvd n d).2⟩
theorem low_abs (n d : Int) : ((lowN n d).natAbs : Int) ≤ n.natAbs ∧ ((lowD n d).natAbs : Int) ≤ d.natAbs := by
  have h1 := Int.natAbs_ediv_le_natAbs n (lowG n d)
  have h2 := Int.natAbs_ediv_le_natAbs d (lowG n d)
  unfold lowN lowD
  omega
theorem low_cross (n d : Int) : lowN n d * d = n * lowD n d := by
  obtain ⟨h1, h2⟩ := low_mul n d
  generalize lowN n d = a at *
  generalize lowD n d = b at *
  generalize lowG n d = g at *
  rw [← h1, ← h2]
  grind

def red (n d p : Int) : Int := n % p * inv d p % p
theorem red_range {n d p : Int} (hp : 0 < p) : 0 ≤ red n d p ∧ red n d p < p := ⟨Int.emod_nonneg _ (by omega), Int.emod_lt_of_pos _ hp⟩
theorem red_mul {n d p : Int} (hp : Pri p) (hd : d % p ≠ 0) : red n d p * d % p = n % p := by
  have hm := inv_mul hp hd
  unfold red
  rw [Int.mul_emod, Int.emod_emod, ← Int.mul_emod, Int.mul_assoc, Int.mul_emod, hm, Int.emod_emod, Int.mul_one, Int.emod_emod]
theorem red_unique {n d p x : Int} (hp : Pri p) (hd : d % p ≠ 0) (h : x * d % p = n % p) (h0 : 0 ≤ x) (h1 : x < p) : red n d p = x := by
  have hr := red_mul (n := n) hp hd
  obtain ⟨r0, r1⟩ := red_range (n := n) (d := d) (p := p) (by omega)
  have h2 : d * (red n d p - x) % p = 0 := by
    rw [Int.mul_sub, Int.mul_comm d, Int.mul_comm d, Int.sub_emod, hr, h, Int.sub_self, Int.zero_emod]
  have h3 := emod_of_dvd (Int.dvd_of_emod_eq_zero (Pri_mul hp h2 hd))
  rw [Int.emod_eq_of_lt r0 r1, Int.emod_eq_of_lt h0 h1] at h3
  exact h3
/-- The image of a fraction that is another form of N / D. -/
theorem red_of {p x N D n d : Int} (hp : Pri p) (hD : D % p ≠ 0) (hd : d % p ≠ 0) (hx : p ∣ x * D - N) (hc : n * D = N * d) : red n d p = x % p := by
  have h2 := hp.1
  refine red_unique hp hd ?_ (Int.emod_nonneg _ (by omega)) (Int.emod_lt_of_pos _ (by omega))
  rw [Int.mul_emod, Int.emod_emod, ← Int.mul_emod]
  refine emod_of_dvd (Int.dvd_of_emod_eq_zero (Pri_mul hp (a := D) ?_ hD))
  refine Int.emod_eq_zero_of_dvd ?_
  have e : D * (x * d - n) = d * (x * D - N) := by grind
  rw [e]
  exact Int.dvd_mul_of_dvd_right hx
theorem mul_ne {p a b : Int} (hp : Pri p) (ha : a % p ≠ 0) (hb : b % p ≠ 0) : a * b % p ≠ 0 := fun h => hb (Pri_mul hp h ha)
theorem lowD_ne {p N D : Int} (hp : Pri p) (hD : D % p ≠ 0) : lowD N D % p ≠ 0 := by
  intro h
  apply hD
  have := (low_mul N D).2
  rw [← this, Int.mul_emod, h, Int.zero_mul, Int.zero_emod]
theorem red_dvd {n d p : Int} (hp : Pri p) (hd : d % p ≠ 0) : p ∣ red n d p * d - n := dvd_of_emod (red_mul hp hd)
theorem red_sum {p an ad bn bd : Int} (hp : Pri p) (ha : ad % p ≠ 0) (hb : bd % p ≠ 0) : red (lowN (an * bd + bn * ad) (ad * bd)) (lowD (an * bd + bn * ad) (ad * bd)) p = (red an ad p + red bn bd p) % p := by
  have hD := mul_ne hp ha hb
  refine red_of hp hD (lowD_ne hp hD) ?_ (low_cross _ _)
  have e : (red an ad p + red bn bd p) * (ad * bd) - (an * bd + bn * ad) = bd * (red an ad p * ad - an) + ad * (red bn bd p * bd - bn) := by grind
  rw [e]
  exact Int.dvd_add (Int.dvd_mul_of_dvd_right (red_dvd hp ha)) (Int.dvd_mul_of_dvd_right (red_dvd hp hb))
theorem red_prod {p an ad bn bd : Int} (hp : Pri p) (ha : ad % p ≠ 0) (hb : bd % p ≠ 0) : red (lowN (an * bn) (ad * bd)) (lowD (an * bn) (ad * bd)) p = red an ad p * red bn bd p % p := by
  have hD := mul_ne hp ha hb
  refine red_of hp hD (lowD_ne hp hD) ?_ (low_cross _ _)
  have e : red an ad p * red bn bd p * (ad * bd) - an * bn = red bn bd p * bd * (red an ad p * ad - an) + an * (red bn bd p * bd - bn) := by grind
  rw [e]
  exact Int.dvd_add (Int.dvd_mul_of_dvd_right (red_dvd hp ha)) (Int.dvd_mul_of_dvd_right (red_dvd hp hb))
end Go.Refl.S3
