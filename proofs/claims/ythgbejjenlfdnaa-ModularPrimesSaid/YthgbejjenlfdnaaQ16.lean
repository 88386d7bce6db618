import Derived.Test.YthgbejjenlfdnaaQ15
import Derived.KernelRfl
/-
  Plain laws: fractions in lowest terms, and their images modulo a prime.
-/
set_option linter.unusedVariables false
set_option linter.unusedSimpArgs false
set_option maxRecDepth 100000
namespace Go.Refl.S3
open Go Go.Refl Go.Proofs

theorem lowG_dvd (n d : Int) : lowG n d ∣ n ∧ lowG n d ∣ d := by
  unfold lowG
  split
  · exact ⟨Int.neg_dvd.2 (Int.gcd_dvd_left ..), Int.neg_dvd.2 (Int.gcd_dvd_right ..)⟩
  · exact ⟨Int.gcd_dvd_left .., Int.gcd_dvd_right ..⟩
theorem low_mul (n d : Int) : lowN n d * lowG n d = n ∧ lowD n d * lowG n d = d :=
  ⟨Int.ediv_mul_cancel (lowG_dvd n d).1, Int.ediv_mul_cancel (lowG_dvd n d).2⟩
theorem low_abs (n d : Int) : ((lowN n d).natAbs : Int) ≤ n.natAbs ∧ ((lowD n d).natAbs : Int) ≤ d.natAbs := by
  have h1 := Int.natAbs_ediv_le_natAbs n (lowG n d)
  have h2 := Int.natAbs_ediv_le_natAbs d (lowG n d)
  unfold lowN lowD
  omega
theorem low_cross (n d : Int) : lowN n d * d = n * lowD n d := by
  obtain ⟨h1, h2⟩ := low_mul n d
  generalize lowN n d = a at *
  generalize lowD n d = b at *
  generalize lowG n d = g at *
  rw [← h1, ← h2]
  grind

def red (n d p : Int) : Int := n % p * inv d p % p
theorem red_range {n d p : Int} (hp : 0 < p) : 0 ≤ red n d p ∧ red n d p < p := ⟨Int.emod_nonneg _ (by omega), Int.emod_lt_of_pos _ hp⟩
theorem red_mul {n d p : Int} (hp : Pri p) (hd : d % p ≠ 0) : red n d p * d % p = n % p := by
  have hm := inv_mul hp hd
  unfold red
  rw [Int.mul_emod, Int.emod_emod, ← Int.mul_emod, Int.mul_assoc, Int.mul_emod, hm, Int.emod_emod, Int.mul_one, Int.emod_emod]
theorem red_unique {n d p x : Int} (hp : Pri p) (hd : d % p ≠ 0) (h : x * d % p = n % p) (h0 : 0 ≤ x) (h1 : x < p) : red n d p = x := by
  have hr := red_mul (n := n) hp hd
  obtain ⟨r0, r1⟩ := red_range (n := n) (d := d) (p := p) (by omega)
  have h2 : d * (red n d p - x) % p = 0 := by
    rw [Int.mul_sub, Int.mul_comm d, Int.mul_comm d, Int.sub_emod, hr, h, Int.sub_self, Int.zero_emod]
  have h3 := emod_of_dvd (Int.dvd_of_emod_eq_zero (Pri_mul hp h2 hd))
  rw [Int.emod_eq_of_lt r0 r1, Int.emod_eq_of_lt h0 h1] at h3
  exact h3
/-- The image of a fraction that is another form of N / D. -/
theorem red_of {p x N D n d : Int} (hp : Pri p) (hD : D % p ≠ 0) (hd : d % p ≠ 0) (hx : p ∣ x * D - N) (hc : n * D = N * d) : red n d p = x % p := by
  have h2 := hp.1
  refine red_unique hp hd ?_ (Int.emod_nonneg _ (by omega)) (Int.emod_lt_of_pos _ (by omega))
  rw [Int.mul_emod, Int.emod_emod, ← Int.mul_emod]
  refine emod_of_dvd (Int.dvd_of_emod_eq_zero (Pri_mul hp (a := D) ?_ hD))
  refine Int.emod_eq_zero_of_dvd ?_
  have e : D * (x * d - n) = d * (x * D - N) := by grind
  rw [e]
  exact Int.dvd_mul_of_dvd_right hx
theorem mul_ne {p a b : Int} (hp : Pri p) (ha : a % p ≠ 0) (hb : b % p ≠ 0) : a * b % p ≠ 0 := fun h => hb (Pri_mul hp h ha)
theorem lowD_ne {p N D : Int} (hp : Pri p) (hD : D % p ≠ 0) : lowD N D % p ≠ 0 := by
  intro h
  apply hD
  have := (low_mul N D).2
  rw [← this, Int.mul_emod, h, Int.zero_mul, Int.zero_emod]
theorem red_dvd {n d p : Int} (hp : Pri p) (hd : d % p ≠ 0) : p ∣ red n d p * d - n := dvd_of_emod (red_mul hp hd)
theorem red_sum {p an ad bn bd : Int} (hp : Pri p) (ha : ad % p ≠ 0) (hb : bd % p ≠ 0) : red (lowN (an * bd + bn * ad) (ad * bd)) (lowD (an * bd + bn * ad) (ad * bd)) p = (red an ad p + red bn bd p) % p := by
  have hD := mul_ne hp ha hb
  refine red_of hp hD (lowD_ne hp hD) ?_ (low_cross _ _)
  have e : (red an ad p + red bn bd p) * (ad * bd) - (an * bd + bn * ad) = bd * (red an ad p * ad - an) + ad * (red bn bd p * bd - bn) := by grind
  rw [e]
  exact Int.dvd_add (Int.dvd_mul_of_dvd_right (red_dvd hp ha)) (Int.dvd_mul_of_dvd_right (red_dvd hp hb))
theorem red_prod {p an ad bn bd : Int} (hp : Pri p) (ha : ad % p ≠ 0) (hb : bd % p ≠ 0) : red (lowN (an * bn) (ad * bd)) (lowD (an * bn) (ad * bd)) p = red an ad p * red bn bd p % p := by
  have hD := mul_ne hp ha hb
  refine red_of hp hD (lowD_ne hp hD) ?_ (low_cross _ _)
  have e : red an ad p * red bn bd p * (ad * bd) - an * bn = red bn bd p * bd * (red an ad p * ad - an) + an * (red bn bd p * bd - bn) := by grind
  rw [e]
  exact Int.dvd_add (Int.dvd_mul_of_dvd_right (red_dvd hp ha)) (Int.dvd_mul_of_dvd_right (red_dvd hp hb))
end Go.Refl.S3
/-
  Plain law: the algorithm rebuilds a fraction exactly where there is one, and it is the only one.
-/
set_option linter.unusedVariables false
set_option linter.unusedSimpArgs false
set_option maxRecDepth 100000
namespace Go.Refl.S3
open Go Go.Refl Go.Proofs

theorem bounded_mul {a c b : Int} (hb : 0 ≤ b) (h1 : -b ≤ a) (h2 : a ≤ b) (h3 : -b ≤ c) (h4 : c ≤ b) : -(b * b) ≤ a * c ∧ a * c ≤ b * b := by
  have := mul_abs (a := a) (b := c) (A := b) (B := b) (by omega) (by omega)
  omega

/-- At the first rest that is small enough, a solution is that rest with its cofactor, or their opposites. -/
theorem rb_core {m b u n0 d0 x s r t e : Int} (hm : 0 < m) (hb : 0 ≤ b) (h2b : 2 * (b * b) ≤ m - 1) (hn1 : -b ≤ n0) (hn2 : n0 ≤ b) (hd1 : 1 ≤ d0) (hd2 : d0 ≤ b) (hmod : m ∣ n0 - u * d0) (hg : Int.gcd n0 d0 = 1)
    (hr0 : 0 ≤ r) (hrb : r ≤ b) (hbx : b < x) (he : e = 1 ∨ e = -1) (ht : 0 ≤ e * t) (hs : 0 ≤ -e * s) (h : e * t * x + -e * s * r = m) (hx : m ∣ x - s * u) (hr : m ∣ r - t * u) : (n0 = r ∧ d0 = t) ∨ (n0 = -r ∧ d0 = -t) := by
  have hA : m ∣ r * d0 - n0 * t := by
    have e1 : r * d0 - n0 * t = d0 * (r - t * u) - t * (n0 - u * d0) := by grind
    rw [e1]
    exact Int.dvd_sub (Int.dvd_mul_of_dvd_right hr) (Int.dvd_mul_of_dvd_right hmod)
  have hB : m ∣ x * d0 - n0 * s := by
    have e1 : x * d0 - n0 * s = d0 * (x - s * u) - s * (n0 - u * d0) := by grind
    rw [e1]
    exact Int.dvd_sub (Int.dvd_mul_of_dvd_right hx) (Int.dvd_mul_of_dvd_right hmod)
  obtain ⟨α, hα⟩ := hA
  obtain ⟨β, hβ⟩ := hB
  have hee : e * e = 1 := by rcases he with rfl | rfl <;> rfl
  have hd : d0 = e * t * β + -e * s * α := by
    have e1 : m * d0 = m * (e * t * β + -e * s * α) := by
      have e2 : m * (e * t * β + -e * s * α) = e * t * (m * β) + -e * s * (m * α) := by grind
      rw [e2, ← hα, ← hβ, ← h]
      grind
    exact Int.eq_of_mul_eq_mul_left (by omega) e1
  have hn : e * n0 = r * β - x * α := by
    have e1 : m * (e * n0) = m * (r * β - x * α) := by
      have e2 : m * (r * β - x * α) = r * (m * β) - x * (m * α) := by grind
      have e3 : m * (e * n0) = (e * e) * n0 * (t * x - s * r) := by
        rw [← h]
        grind
      rw [e2, ← hα, ← hβ, e3, hee]
      grind
    exact Int.eq_of_mul_eq_mul_left (by omega) e1
  have hα0 : α = 0 := by
    apply Classical.byContradiction
    intro hc
    rcases Int.lt_or_gt_of_ne hc with hneg | hpos
    · have h1 : x * α ≤ x * (-1) := Int.mul_le_mul_of_nonneg_left (by omega) (by omega)
      by_cases hβ0 : 0 ≤ β
      · have h2 : 0 ≤ r * β := Int.mul_nonneg hr0 hβ0
        rcases he with rfl | rfl <;> omega
      · have h2 : e * t * β ≤ 0 := Int.mul_nonpos_of_nonneg_of_nonpos ht (by omega)
        have h3 : -e * s * α ≤ 0 := Int.mul_nonpos_of_nonneg_of_nonpos hs (by omega)
        omega
    · have h1 : x * 1 ≤ x * α := Int.mul_le_mul_of_nonneg_left (by omega) (by omega)
      by_cases hβ0 : β ≤ 0
      · have h2 : r * β ≤ 0 := Int.mul_nonpos_of_nonneg_of_nonpos hr0 hβ0
        rcases he with rfl | rfl <;> omega
      · have h2 : e * t * 1 ≤ e * t * β := Int.mul_le_mul_of_nonneg_left (by omega) ht
        have h3 : 0 ≤ -e * s * α := Int.mul_nonneg hs (by omega)
        have ht1 : -b ≤ t ∧ t ≤ b := by rcases he with rfl | rfl <;> omega
        have h4 := bounded_mul hb hn1 hn2 ht1.1 ht1.2
        have h5 := bounded_mul hb (show -b ≤ r by omega) hrb (show -b ≤ d0 by omega) hd2
        have h6 : m * 1 ≤ m * α := Int.mul_le_mul_of_nonneg_left (by omega) (by omega)
        omega
  subst hα0
  rw [Int.mul_zero, Int.add_zero] at hd
  rw [Int.mul_zero, Int.sub_zero] at hn
  have hβ1 : 0 < β := by
    apply Classical.byContradiction
    intro hc
    have : e * t * β ≤ 0 := Int.mul_nonpos_of_nonneg_of_nonpos ht (by omega)
    omega
  have hβd : β ∣ ((Int.gcd n0 d0 : Nat) : Int) := by
    refine Int.dvd_coe_gcd ?_ ?_
    · have e1 : n0 = e * (r * β) := by rw [← hn, ← Int.mul_assoc, hee, Int.one_mul]
      exact ⟨e * r, by rw [e1]; grind⟩
    · exact ⟨e * t, by rw [hd]; grind⟩
  rw [hg] at hβd
  have hβe : β = 1 := by
    have := Int.le_of_dvd (by decide) hβd
    have e1 : ((1 : Nat) : Int) = 1 := rfl
    omega
  subst hβe
  rw [Int.mul_one] at hd hn
  rcases he with rfl | rfl
  · exact .inl ⟨by omega, by omega⟩
  · exact .inr ⟨by omega, by omega⟩

theorem rbl_find {m b u n0 d0 : Int} (hm : 0 < m) (hb : 0 ≤ b) (h2b : 2 * (b * b) ≤ m - 1) (hn1 : -b ≤ n0) (hn2 : n0 ≤ b) (hd1 : 1 ≤ d0) (hd2 : d0 ≤ b) (hmod : m ∣ n0 - u * d0) (hg : Int.gcd n0 d0 = 1) (hgm : Int.gcd d0 m = 1) :
    ∀ k : Nat, ∀ x s r t e : Int, r.toNat < k → 0 ≤ r → r < x → b < x → (e = 1 ∨ e = -1) → 0 ≤ e * t → 0 ≤ -e * s → e * t * x + -e * s * r = m → m ∣ x - s * u → m ∣ r - t * u → rbl m b k x s r t = some (n0, d0) := by
  intro k
  induction k with
  | zero => intro x s r t e hk; omega
  | succ k ih =>
    intro x s r t e hk hr0 hrx hbx he ht hs h hx hr
    simp only [rbl]
    by_cases h0 : r > b
    · rw [if_pos h0]
      obtain ⟨q0, q1, m0, m1⟩ := quot_le (a := x) (b := r) (by omega) (by omega)
      have me := Int.mul_ediv_add_emod x r
      have e3 : x % r = x - r * (x / r) := by omega
      refine ih r t (x % r) (s - x / r * t) (-e) (by omega) m0 m1 h0 (by rcases he with rfl | rfl <;> simp) ?_ (by rw [Int.neg_neg]; exact ht) ?_ hr ?_
      · have h1 : 0 ≤ x / r * (e * t) := Int.mul_nonneg q0 ht
        have e2 : (-e) * (s - x / r * t) = -e * s + x / r * (e * t) := by grind
        omega
      · rw [e3]
        clear ih hx hr e3 me m0 m1 q0 q1 hmod hg hgm
        grind
      · have e4 : x % r - (s - x / r * t) * u = (x - s * u) - x / r * (r - t * u) := by rw [e3]; grind
        rw [e4]
        exact Int.dvd_sub hx (Int.dvd_mul_of_dvd_right hr)
    · rw [if_neg h0]
      unfold rbEnd
      rcases rb_core hm hb h2b hn1 hn2 hd1 hd2 hmod hg hr0 (by omega) hbx he ht hs h hx hr with ⟨e1, e2⟩ | ⟨e1, e2⟩
      · rw [if_neg (by omega), if_neg (by rw [← e2]; omega), e1, e2]
      · rw [if_pos (by omega), if_neg (by rw [← e2]; omega), e1, e2]

theorem rbl_sound {m b u n0 d0 : Int} (hm : 0 < m) (hb : 0 ≤ b) :
    ∀ k : Nat, ∀ x s r t e : Int, 0 ≤ r → r < x → (e = 1 ∨ e = -1) → e * t * x + -e * s * r = m → m ∣ x - s * u → m ∣ r - t * u → rbl m b k x s r t = some (n0, d0) → 1 ≤ d0 ∧ d0 ≤ b ∧ -b ≤ n0 ∧ n0 ≤ b ∧ m ∣ n0 - u * d0 ∧ Int.gcd d0 m = 1 ∧ Int.gcd n0 d0 = 1 := by
  intro k
  induction k with
  | zero => intro x s r t e hr0 hrx he h hx hr hk; cases hk
  | succ k ih =>
    intro x s r t e hr0 hrx he h hx hr hk
    simp only [rbl] at hk
    by_cases h0 : r > b
    · rw [if_pos h0] at hk
      by_cases hr00 : r = 0
      · omega
      · obtain ⟨q0, q1, m0, m1⟩ := quot_le (a := x) (b := r) (by omega) (by omega)
        have me := Int.mul_ediv_add_emod x r
        have e3 : x % r = x - r * (x / r) := by omega
        refine ih r t (x % r) (s - x / r * t) (-e) m0 m1 (by rcases he with rfl | rfl <;> simp) ?_ hr ?_ hk
        · rw [e3]
          clear ih hx hr e3 me m0 m1 q0 q1 hk
          grind
        · have e4 : x % r - (s - x / r * t) * u = (x - s * u) - x / r * (r - t * u) := by rw [e3]; grind
          rw [e4]
          exact Int.dvd_sub hx (Int.dvd_mul_of_dvd_right hr)
    · rw [if_neg h0] at hk
      have hgr : ∀ σ : Int, (σ = 1 ∨ σ = -1) → Int.gcd (σ * t) m = 1 → Int.gcd (σ * r) (σ * t) = 1 := by
        intro σ hσ hgm
        have h1 : ((Int.gcd (σ * r) (σ * t) : Nat) : Int) ∣ σ * r := Int.gcd_dvd_left ..
        have h2 : ((Int.gcd (σ * r) (σ * t) : Nat) : Int) ∣ σ * t := Int.gcd_dvd_right ..
        have hσσ : σ * σ = 1 := by rcases hσ with rfl | rfl <;> rfl
        have h3 : ((Int.gcd (σ * r) (σ * t) : Nat) : Int) ∣ m := by
          have e1 : m = (e * x * σ) * (σ * t) + (-e * s * σ) * (σ * r) := by
            have e2 : (e * x * σ) * (σ * t) + (-e * s * σ) * (σ * r) = (σ * σ) * (e * t * x + -e * s * r) := by grind
            rw [e2, hσσ, h, Int.one_mul]
          rw [e1]
          exact Int.dvd_add (Int.dvd_mul_of_dvd_right h2) (Int.dvd_mul_of_dvd_right h1)
        have h4 := Int.dvd_coe_gcd h2 h3
        rw [hgm] at h4
        have h5 := Int.le_of_dvd (by decide) h4
        have h6 : Int.gcd (σ * r) (σ * t) ≠ 0 := by
          intro h6
          rw [h6] at h4
          obtain ⟨c, hc⟩ := h4
          simp at hc
        have e1 : ((1 : Nat) : Int) = 1 := rfl
        omega
      unfold rbEnd at hk
      by_cases h1 : t < 0
      · rw [if_pos h1] at hk
        split at hk
        · cases hk
        · rename_i hc
          injection hk with hk
          injection hk with e1 e2
          subst e1; subst e2
          have hgm : Int.gcd (-t) m = 1 := Classical.byContradiction fun h => hc (.inr (.inr h))
          have hg := hgr (-1) (.inr rfl) (by rw [Int.neg_one_mul]; exact hgm)
          rw [Int.neg_one_mul, Int.neg_one_mul] at hg
          refine ⟨?_, ?_, by omega, by omega, ?_, hgm, hg⟩
          · apply Classical.byContradiction
            intro h
            exact hc (.inl (by omega))
          · apply Classical.byContradiction
            intro h
            exact hc (.inr (.inl (by omega)))
          · have e3 : -r - u * -t = -(r - t * u) := by grind
            rw [e3]
            exact Int.dvd_neg.2 hr
      · rw [if_neg h1] at hk
        split at hk
        · cases hk
        · rename_i hc
          injection hk with hk
          injection hk with e1 e2
          subst e1; subst e2
          have hgm : Int.gcd t m = 1 := Classical.byContradiction fun h => hc (.inr (.inr h))
          have hg := hgr 1 (.inl rfl) (by rw [Int.one_mul]; exact hgm)
          rw [Int.one_mul, Int.one_mul] at hg
          refine ⟨?_, ?_, by omega, by omega, ?_, hgm, hg⟩
          · apply Classical.byContradiction
            intro h
            exact hc (.inl (by omega))
          · apply Classical.byContradiction
            intro h
            exact hc (.inr (.inl (by omega)))
          · rw [Int.mul_comm u]
            exact hr

/-- What makes a fraction one of a residue. -/
structure Fits (u m n d : Int) : Prop where
  d1 : 1 ≤ d
  d2 : 2 * (d * d) ≤ m - 1
  n2 : 2 * (n * n) ≤ m - 1
  mod : m ∣ n - u * d
  gm : Int.gcd d m = 1
  g : Int.gcd n d = 1
theorem le_root {m d : Int} (hm : 0 < m) (h0 : 0 ≤ d) : d ≤ isq ((m - 1) / 2) ↔ 2 * (d * d) ≤ m - 1 := by
  obtain ⟨i0, i1, i2⟩ := isq_spec (show 0 ≤ (m - 1) / 2 by omega)
  constructor
  · intro h
    have := sq_mono h0 h
    omega
  · intro h
    apply Classical.byContradiction
    intro hc
    have := sq_mono (show 0 ≤ isq ((m - 1) / 2) + 1 by omega) (show isq ((m - 1) / 2) + 1 ≤ d by omega)
    omega
theorem rb_iff {u m n d : Int} (hm : 0 < m) : rb u m = some (n, d) ↔ Fits u m n d := by
  obtain ⟨i0, i1, i2⟩ := isq_spec (show 0 ≤ (m - 1) / 2 by omega)
  have m0 := Int.emod_nonneg u (show m ≠ 0 by omega)
  have m1 := Int.emod_lt_of_pos u hm
  have hbm : isq ((m - 1) / 2) < m := by have := isq_le (show 0 ≤ (m - 1) / 2 by omega); omega
  have hx : m ∣ m - 0 * u := ⟨1, by omega⟩
  have hr : m ∣ u % m - 1 * u := dvd_of_emod (by rw [Int.one_mul, Int.emod_emod])
  have hneg : ∀ z : Int, z * z = -z * -z := fun z => (Int.neg_mul_neg z z).symm
  unfold rb
  rw [if_neg (by omega)]
  constructor
  · intro h
    obtain ⟨c1, c2, c3, c4, c5, c6, c7⟩ := rbl_sound (u := u) hm i0 _ m 0 (u % m) 1 1 m0 m1 (.inl rfl) (by omega) hx hr h
    refine ⟨c1, (le_root hm (by omega)).1 c2, ?_, c5, c6, c7⟩
    rcases Int.le_total 0 n with h0 | h0
    · exact (le_root hm h0).1 c4
    · rw [hneg n]
      exact (le_root hm (by omega)).1 (by omega)
  · intro h
    have hd := (le_root hm (show 0 ≤ d by have := h.d1; omega)).2 h.d2
    have hn : -isq ((m - 1) / 2) ≤ n ∧ n ≤ isq ((m - 1) / 2) := by
      rcases Int.le_total 0 n with h0 | h0
      · have := (le_root hm h0).2 h.n2
        omega
      · have := (le_root hm (show 0 ≤ -n by omega)).2 (by rw [← hneg n]; exact h.n2)
        omega
    exact rbl_find hm i0 (by omega) hn.1 hn.2 h.d1 hd h.mod h.g h.gm _ m 0 (u % m) 1 1 (by omega) m0 m1 hbm (.inl rfl) (by omega) (by omega) (by omega) hx hr
end Go.Refl.S3
/-
  What the reference's roots and powers compute: definitions.
-/
set_option linter.unusedVariables false
set_option linter.unusedSimpArgs false
set_option maxRecDepth 100000
namespace Go.Refl.S3
open Go Go.Refl Go.Proofs

/-- A power, of an exponent below N. -/
noncomputable def h80N (N : Nat) : DL [tInt, .int .i64] → Option (DL [tInt]) := fun (x : DInt × Int × Unit) => when (Is x.1 ∧ 0 ≤ x.2.1 ∧ x.2.1 < N ∧ x.2.1 ≤ 4096 ∧ dec x.1 ≠ 0 ∧ (dec x.1).natAbs ^ x.2.1.toNat < Bg 100000) (enc (dec x.1 ^ x.2.1.toNat), ())
noncomputable def h80 : DL [tInt, .int .i64] → Option (DL [tInt]) := h80N 5000
end Go.Refl.S3
/-
  Powers and roots in the reference.
-/
set_option linter.unusedVariables false
set_option linter.unusedSimpArgs false
set_option maxRecDepth 100000
namespace Go.Refl.S3
open Go Go.Refl Go.Proofs

noncomputable def cx80 (N : Nat) : Cx := { types := T, sigs := [(27, ⟨[(.int .i64)], [tInt], h27⟩), (28, ⟨[tInt, tInt], [tInt], h28⟩), (80, ⟨[tInt, .int .i64], [tInt], h80N N⟩)] }
def an80 : List (Nat × Ann) := []
noncomputable def g80 (N : Nat) : DL [tInt, (.int .i64)] → Option (DL [tInt]) := Fn (cx80 N) an80 Try.f80 [tInt, (.int .i64)] [tInt]
theorem g80_eq (N : Nat) (a : (Bool × ((List Int) × Unit))) (b : Int) : g80 N (a, b, ()) =
  if (b == 0) = true then
    Option.bind (h27 (1, ())) fun (y0 : ((Bool × ((List Int) × Unit)) × Unit)) =>
    some ((y0.1.1, (y0.1.2.1, ())), ())
  else Option.bind (h80N N ((a.1, (a.2.1, ())), ((IntKind.wrap .i64 (Int.tdiv b 2)), ()))) fun (y1 : ((Bool × ((List Int) × Unit)) × Unit)) =>
  Option.bind (h28 ((y1.1.1, (y1.1.2.1, ())), ((y1.1.1, (y1.1.2.1, ())), ()))) fun (y2 : ((Bool × ((List Int) × Unit)) × Unit)) =>
  if ((Int.tmod b 2) == 1) = true then
    Option.bind (h28 ((y2.1.1, (y2.1.2.1, ())), ((a.1, (a.2.1, ())), ()))) fun (y3 : ((Bool × ((List Int) × Unit)) × Unit)) =>
    some ((y3.1.1, (y3.1.2.1, ())), ())
  else some ((y2.1.1, (y2.1.2.1, ())), ()) := (Fn_eq rfl).trans (by kernel_rfl)
theorem in80 (N : Nat) : ∀ f p, look (cx80 N).inl f = some p → Try.prog.funcs[f]? = some p.1 ∧ (p.1.name == "runtime.NumGoroutine") = false := lookAll_nil
theorem e80N {N : Nat} {a n : Int} (ha : Sm a) (h0 : 0 ≤ n) (h1 : n < N) (h2 : n ≤ 4096) (h3 : a ≠ 0) (h4 : a.natAbs ^ n.toNat < Bg 100000) : h80N N (enc a, (n, ())) = some (enc (a ^ n.toNat), ()) := by
  show when (Is (enc a) ∧ 0 ≤ n ∧ n < N ∧ n ≤ 4096 ∧ dec (enc a) ≠ 0 ∧ (dec (enc a)).natAbs ^ n.toNat < Bg 100000) (enc (dec (enc a) ^ n.toNat), ()) = _
  rw [dec_enc, when_pos ⟨Is.enc ha, h0, h1, h2, h3, h4⟩]
theorem Sm.bg {z : Int} (h : z.natAbs < Bg 100000) : Sm z := Sm.of (k := 100000) (by have := Bg_P 100000; omega) (by omega)
theorem abs_pow (a : Int) (n : Nat) : (a ^ n).natAbs = a.natAbs ^ n := Int.natAbs_pow a n
theorem s80N : ∀ N : Nat, SigOk Try.prog 80 ⟨[tInt, .int .i64], [tInt], h80N N⟩
  | 0 => ⟨⟨Try.f80, rfl, rfl, rfl⟩, fun Fr xs r vs w h => by
      obtain ⟨⟨_, h1, h2, _⟩, _⟩ := when_some (show h80N 0 xs = some r from h)
      omega⟩
  | N + 1 => (Fn_ok (cx := cx80 N) (anns := an80) mixed T_ok ⟨(lookAll_cons s27 (lookAll_cons s28 (lookAll_cons (s80N N) lookAll_nil))), lookAll_nil, lookAll_nil⟩ (in80 N) (f := 80) (fn := Try.f80) rfl rfl rfl [tInt, (.int .i64)] [tInt]).weaken fun (x : DInt × Int × Unit) r h => by
      obtain ⟨⟨⟨a, hx, ha⟩, h0, h1, h2, h3, h4⟩, rfl⟩ := when_some h
      obtain ⟨xa, n, u⟩ := x
      replace hx : xa = enc a := hx
      subst hx
      replace h0 : 0 ≤ n := h0
      replace h1 : n < ((N + 1 : Nat) : Int) := h1
      replace h2 : n ≤ 4096 := h2
      simp only [dec_enc] at h3 h4
      show g80 N (enc a, n, ()) = some (enc (dec (enc a) ^ n.toNat), ())
      rw [dec_enc, g80_eq]
      by_cases hz : n = 0
      · subst hz
        rw [ife_t rfl, e27 (by omega), Option.bind_some, Int.toNat_zero, Int.pow_zero]
      · obtain ⟨m, rfl⟩ : ∃ m : Nat, n = m := ⟨n.toNat, by omega⟩
        rw [Int.toNat_natCast] at h4 ⊢
        have hm : m = m / 2 + m / 2 + m % 2 := by omega
        have ha1 : 1 ≤ a.natAbs := by omega
        have hb1 : a.natAbs ^ (m / 2) < Bg 100000 := Nat.lt_of_le_of_lt (Nat.pow_le_pow_right ha1 (by omega)) h4
        have hb2 : (a ^ (m / 2) * a ^ (m / 2)).natAbs < Bg 100000 := by
          rw [← Int.pow_add, abs_pow]
          exact Nat.lt_of_le_of_lt (Nat.pow_le_pow_right ha1 (by omega)) h4
        have E1 : h80N N (((enc a).1, ((enc a).2.1, ())), (((m / 2 : Nat) : Int), ())) = some (enc (a ^ (m / 2)), ()) := by
          have := e80N (N := N) (n := ((m / 2 : Nat) : Int)) ha (by omega) (by omega) (by omega) h3 (by rw [Int.toNat_natCast]; exact hb1)
          rw [Int.toNat_natCast] at this
          exact this
        have S1 : Sm (a ^ (m / 2)) := Sm.bg (by rw [abs_pow]; exact hb1)
        have E2 : h28 (((enc (a ^ (m / 2))).1, ((enc (a ^ (m / 2))).2.1, ())), (((enc (a ^ (m / 2))).1, ((enc (a ^ (m / 2))).2.1, ())), ())) = some (enc (a ^ (m / 2) * a ^ (m / 2)), ()) := HI2_eq S1 S1
        have E3 : h28 (((enc (a ^ (m / 2) * a ^ (m / 2))).1, ((enc (a ^ (m / 2) * a ^ (m / 2))).2.1, ())), (((enc a).1, ((enc a).2.1, ())), ())) = some (enc (a ^ (m / 2) * a ^ (m / 2) * a), ()) := HI2_eq (Sm.bg hb2) ha
        rw [ife_f hz, show Int.tdiv (m : Int) 2 = ((m / 2 : Nat) : Int) from rfl, show Int.tmod (m : Int) 2 = ((m % 2 : Nat) : Int) from rfl, wi64 (x := ((m / 2 : Nat) : Int)) (by omega) (by omega), E1, Option.bind_some]
        dsimp only
        rw [E2, Option.bind_some]
        dsimp only
        by_cases ho : m % 2 = 1
        · rw [ife_t (by omega), E3, Option.bind_some]
          have : a ^ m = a ^ (m / 2) * a ^ (m / 2) * a := by
            rw [← Int.pow_add, ← Int.pow_succ]
            congr 1
            omega
          rw [this]
        · rw [ife_f (by omega)]
          have : a ^ m = a ^ (m / 2) * a ^ (m / 2) := by
            rw [← Int.pow_add]
            congr 1
            omega
          rw [this]
theorem s80 : SigOk Try.prog 80 ⟨[tInt, .int .i64], [tInt], h80⟩ := s80N 5000
theorem e80 {a n : Int} (ha : Sm a) (h0 : 0 ≤ n) (h2 : n ≤ 4096) (h3 : a ≠ 0) (h4 : a.natAbs ^ n.toNat < Bg 100000) : h80 (enc a, (n, ())) = some (enc (a ^ n.toNat), ()) := e80N ha h0 (by omega) h2 h3 h4
end Go.Refl.S3
