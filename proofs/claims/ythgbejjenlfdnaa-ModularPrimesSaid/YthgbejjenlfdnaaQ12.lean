/-
  Square roots: what the program's function computes; a reduction of the reference.
-/
import Derived.Test.YthgbejjenlfdnaaP8
set_option linter.unusedVariables false
set_option linter.unusedSimpArgs false
set_option maxRecDepth 100000
namespace Go.Refl.S3
open Go Go.Refl Go.Proofs

/-! ### Square roots, rounded down -/
theorem sq_ex (n : Nat) : ∃ r : Int, 0 ≤ r ∧ r * r ≤ n ∧ (n : Int) < (r + 1) * (r + 1) := by
  induction n with
  | zero => exact ⟨0, by omega, by omega, by omega⟩
  | succ n ih =>
    obtain ⟨r, h0, h1, h2⟩ := ih
    by_cases h : (r + 1) * (r + 1) ≤ ((n + 1 : Nat) : Int)
    · refine ⟨r + 1, by omega, h, ?_⟩
      have : (r + 1 + 1) * (r + 1 + 1) = (r + 1) * (r + 1) + 2 * (r + 1) + 1 := by grind
      omega
    · exact ⟨r, h0, by omega, by omega⟩
open Classical in
noncomputable def isq (a : Int) : Int := if h : ∃ r : Int, 0 ≤ r ∧ r * r ≤ a ∧ a < (r + 1) * (r + 1) then Classical.choose h else 0
theorem sq_mono {r s : Int} (h0 : 0 ≤ r) (h : r ≤ s) : r * r ≤ s * s := Int.mul_le_mul h h h0 (by omega)
theorem isq_spec {a : Int} (h : 0 ≤ a) : 0 ≤ isq a ∧ isq a * isq a ≤ a ∧ a < (isq a + 1) * (isq a + 1) := by
  have hx : ∃ r : Int, 0 ≤ r ∧ r * r ≤ a ∧ a < (r + 1) * (r + 1) := by
    obtain ⟨r, h1, h2, h3⟩ := sq_ex a.toNat
    exact ⟨r, h1, by omega, by omega⟩
  unfold isq
  rw [dif_pos hx]
  exact Classical.choose_spec hx
theorem isq_eq {a r : Int} (h0 : 0 ≤ r) (h1 : r * r ≤ a) (h2 : a < (r + 1) * (r + 1)) : isq a = r := by
  have ha : 0 ≤ a := Int.le_trans (Int.mul_nonneg h0 h0) h1
  obtain ⟨e0, e1, e2⟩ := isq_spec ha
  apply Classical.byContradiction
  intro hc
  rcases Int.lt_or_gt_of_ne hc with hlt | hgt
  · have := sq_mono (show 0 ≤ isq a + 1 by omega) (show isq a + 1 ≤ r by omega)
    omega
  · have := sq_mono (show 0 ≤ r + 1 by omega) (show r + 1 ≤ isq a by omega)
    omega
theorem isq_le {a : Int} (h : 0 ≤ a) : isq a ≤ a := by
  obtain ⟨e0, e1, e2⟩ := isq_spec h
  by_cases h1 : isq a = 0
  · omega
  · have : isq a * 1 ≤ isq a * isq a := Int.mul_le_mul_of_nonneg_left (by omega) e0
    omega
/-- A step of Newton's doesn't fall below the root. -/
theorem newton_ge {a r : Int} (ha : 0 ≤ a) (hr : 1 ≤ r) : isq a ≤ (r + a / r) / 2 := by
  obtain ⟨e0, e1, e2⟩ := isq_spec ha
  have h1 : 2 * isq a - r ≤ a / r := by
    refine (Int.le_ediv_iff_mul_le (by omega)).2 ?_
    have h2 : 0 ≤ (r - isq a) * (r - isq a) := by
      rcases Int.le_total 0 (r - isq a) with h | h
      · exact Int.mul_nonneg h h
      · exact Int.mul_nonneg_of_nonpos_of_nonpos h h
    have h3 : (r - isq a) * (r - isq a) = isq a * isq a - (2 * isq a - r) * r := by grind
    omega
  omega
/-- Where a step doesn't go down, the root is found. -/
theorem newton_stop {a r : Int} (ha : 0 ≤ a) (hr : 1 ≤ r) (hge : isq a ≤ r) (h : (r + a / r) / 2 ≥ r) : isq a = r := by
  have h1 : r ≤ a / r := by omega
  have h2 : r * r ≤ a := (Int.le_ediv_iff_mul_le (by omega)).1 h1
  obtain ⟨e0, e1, e2⟩ := isq_spec ha
  apply Classical.byContradiction
  intro hc
  have := sq_mono (show 0 ≤ isq a + 1 by omega) (show isq a + 1 ≤ r by omega)
  omega

theorem Bg_mono {a b : Nat} (h : a ≤ b) : Bg a ≤ Bg b := Nat.pow_le_pow_right (by omega) h
theorem Bg_two (k : Nat) : Bg k = 2 ^ (32 * k) := by
  unfold Bg
  rw [Nat.pow_mul]
theorem Bg_P (k : Nat) : ((Bg k : Nat) : Int) = P k := by
  unfold Bg P
  simp

theorem pow_lt_Bg {e k : Nat} (h : e < 32 * k) : 2 ^ e < Bg k := by
  rw [Bg_two]
  exact Nat.pow_lt_pow_right (by omega) h
theorem e77 {l : List Int} {n : Int} (h : Nt l) (h1 : 1 ≤ V l) (h2 : 0 ≤ n) (h3 : n < 9223372036854775808) (h4 : (V l).toNat ^ n.toNat < Bg 4000000) : h77 (l, (n, ())) = some (dg ((V l).toNat ^ n.toNat), ()) := when_pos ⟨h, h1, h2, h3, h4⟩
theorem e76 {z : Int} (h : Sm z) : h76 (enc z, ()) = some ((bl z.natAbs : Int), ()) := by
  show when (Is (enc z)) ((bl (dec (enc z)).natAbs : Int), ()) = _
  rw [when_pos (Is.enc h), dec_enc]

noncomputable def h54 : DL [tInt, .int .i64] → Option (DL [tInt, .int .i64]) := fun (x : DInt × Int × Unit) => when (Is x.1 ∧ x.2.1 = 2 ∧ 0 ≤ dec x.1 ∧ dec x.1 < P 100) (enc (isq (dec x.1)), (0, ()))
theorem e54 {z : Int} (h0 : 0 ≤ z) (h1 : z < P 100) : h54 (enc z, (2, ())) = some (enc (isq z), (0, ())) := by
  show when (Is (enc z) ∧ (2 : Int) = 2 ∧ 0 ≤ dec (enc z) ∧ dec (enc z) < P 100) (enc (isq (dec (enc z))), (0, ())) = _
  rw [dec_enc, when_pos ⟨Is.enc (Sm.of (k := 100) (by omega) (by omega)), rfl, h0, h1⟩]

theorem L54 (a : Int) (ha : 0 ≤ a) (ha1 : a < P 100) (b : Bool) (l : List Int) : ∀ k : Nat, ∀ r : Int, r.toNat ≤ k → 1 ≤ r → isq a ≤ r → r < P 101 → 1 ≤ isq a → g54_L7 2 (D a) (D r) b l = some (enc (isq a), (0, ())) := by
  intro k
  induction k with
  | zero => intro r h1 h2; omega
  | succ k ih =>
    intro r hk hr hge hr1 hpos
    have hP1 : P 101 = 4294967296 * P 100 := P_succ 100
    have hP2 : P 102 = 4294967296 * P 101 := P_succ 101
    have hPp := P_pos 100
    obtain ⟨q0, q1, m0, m1⟩ := quot_le (a := a) (b := r) ha (by omega)
    have hs0 : 0 ≤ (r + a / r) / 2 := by omega
    have c1 : IntKind.wrap .i64 (2 - 1) = 1 := by decide
    have c2 : IntKind.wrap .u64 1 = 1 := by decide
    have c3 : IntKind.wrap .u64 2 = 2 := by decide
    have hVr : V (D r) = r := V_D (by omega)
    have hnr : Nt (D r) := Nt_D hr1 (by omega)
    have h77' : h77 (D r, (1, ())) = some (D r, ()) := by
      rw [e77 hnr (by omega) (by omega) (by omega) (by
        rw [hVr, show (1 : Int).toNat = 1 from rfl, Nat.pow_one]
        have h1 := Bg_mono (show 101 ≤ 4000000 by omega)
        have h2 := Bg_P 101
        omega), hVr, show (1 : Int).toNat = 1 from rfl, Nat.pow_one]
      rfl
    rw [g54_L7_eq, c1, c2, c3, h77', Option.bind_some]
    dsimp only
    rw [e75 (Nt_D ha1 (by omega)) hnr (by omega), Option.bind_some, e68 (by omega), Option.bind_some, V_D ha, hVr]
    dsimp only
    rw [e73 hnr.wl (Wl_D64 (by omega)), Option.bind_some, hVr, V_D (z := 1) (by omega), Int.mul_one]
    dsimp only
    rw [e70 hnr.wl (Wl_D (k := 101) (by omega) (by omega)), Option.bind_some, e68 (by omega), Option.bind_some, hVr, V_D q0]
    dsimp only
    rw [e75 (Nt_D (k := 102) (by omega) (by omega)) (Nt_D (k := 100) (by have := P_le (show 1 ≤ 100 by omega); have e1 : P 1 = 4294967296 := rfl; omega) (by omega)) (by rw [V_D (by omega)]; omega), Option.bind_some, V_D (by omega), V_D (z := 2) (by omega)]
    dsimp only
    rw [e71 (Nt_D (k := 102) (by omega) (by omega)) hnr, Option.bind_some, V_D hs0, hVr]
    dsimp only
    have hn := newton_ge ha hr
    by_cases h : (r + a / r) / 2 ≥ r
    · have hst := newton_stop ha hr hge h
      rw [ifd_t (by unfold cmpI; rw [if_neg (by omega)]; split <;> omega), e69 hnr.wl, Option.bind_some, hVr, sg_false, hst]
    · rw [ifd_f (by unfold cmpI; rw [if_pos (by omega)]; omega)]
      exact ih _ (by omega) (by omega) hn (by omega) hpos
theorem s54 : SigOk Try.prog 54 ⟨[tInt, .int .i64], [tInt, .int .i64], h54⟩ := ok54 fun (x : DInt × Int × Unit) r h => by
  obtain ⟨⟨⟨z, hz, hs⟩, hk, h0, h1⟩, rfl⟩ := when_some h
  obtain ⟨a, k, u⟩ := x
  replace hz : a = enc z := hz
  replace hk : k = 2 := hk
  subst hz; subst hk
  replace h0 : 0 ≤ dec (enc z) := h0
  replace h1 : dec (enc z) < P 100 := h1
  show g54 (enc z, 2, ()) = some (enc (isq (dec (enc z))), (0, ()))
  rw [dec_enc] at h0 h1 ⊢
  have e1 : h76 (((enc z).1, ((enc z).2.1, ())), ()) = some ((bl z.natAbs : Int), ()) := e76 hs
  have e2 : h51 (((enc z).1, ((enc z).2.1, ())), ()) = some (sgn z, ()) := e51 hs
  rw [g54_eq, e1, e2, enc_1 z, enc_2 z, ifb_f (by simpa using h0), ifd_f (by omega)]
  simp only [Option.bind_some]
  have hlt := bl_lt z.natAbs
  by_cases hb : (2 : Int) ≥ (bl z.natAbs : Int)
  · have hz4 : z < 4 := by
      have : 2 ^ bl z.natAbs ≤ 2 ^ 2 := Nat.pow_le_pow_right (by omega) (by omega)
      omega
    have hsg : 0 ≤ sgn z ∧ sgn z < 18446744073709551616 := by unfold sgn; rw [if_neg (by omega)]; split <;> omega
    rw [ifd_t hb, wu64 hsg.1 hsg.2, e68 hsg, Option.bind_some]
    dsimp only
    rw [e69 (Wl_D64 hsg.2), Option.bind_some, V_D hsg.1, sg_false]
    have : isq z = sgn z := by
      refine isq_eq hsg.1 ?_ ?_ <;> unfold sgn <;> rw [if_neg (by omega)] <;> split <;> omega
    rw [this]
  · have hz0 : z.natAbs ≠ 0 := by
      intro h
      rw [h] at hb
      simp [bl] at hb
    have hle := bl_le hz0
    have hbits : bl z.natAbs ≤ 3200 := by
      refine bl_small 3200 ?_
      have e3 := Bg_P 100
      have e4 := Bg_two 100
      rw [show 32 * 100 = 3200 from rfl] at e4
      omega
    generalize bl z.natAbs = B at *
    have hz4 : 4 ≤ z := by
      have : 2 ^ 2 ≤ 2 ^ (B - 1) := Nat.pow_le_pow_right (by omega) (by omega)
      omega
    have hexp : IntKind.wrap .i64 (Int.tdiv (IntKind.wrap .i64 (IntKind.wrap .i64 ((B : Int) + 2) - 1)) 2) = (((B + 1) / 2 : Nat) : Int) := by
      rw [wi64 (x := (B : Int) + 2) (by omega) (by omega), wi64 (x := (B : Int) + 2 - 1) (by omega) (by omega), td (by omega), wi64 (by omega) (by omega)]
      omega
    have hV2 : V (D 2) = 2 := V_D (by omega)
    have hpw : 2 ^ ((B + 1) / 2) < Bg 101 := pow_lt_Bg (by omega)
    rw [ifd_f hb, e68 (by omega), Option.bind_some, ife_f (by omega), hexp]
    dsimp only
    rw [e77 (Nt_D (k := 1) (by have e1 : P 1 = 4294967296 := rfl; omega) (by omega)) (by omega) (by omega) (by omega) (by
      rw [hV2, Int.toNat_natCast]
      exact Nat.lt_of_lt_of_le hpw (Bg_mono (by omega))), Option.bind_some, hV2, Int.toNat_natCast]
    dsimp only
    rw [show (2 : Int).toNat = 2 from rfl, ← D_nat (2 ^ ((B + 1) / 2)), dg_D z, show (z.natAbs : Int) = z by omega]
    obtain ⟨i0, i1, i2⟩ := isq_spec h0
    have hpos := Nat.two_pow_pos ((B + 1) / 2)
    have hB101 := Bg_P 101
    refine L54 z h0 h1 _ _ _ _ (Nat.le_refl _) (by omega) ?_ (by omega) ?_
    · apply Classical.byContradiction
      intro hc
      have h3 := sq_mono (r := ((2 ^ ((B + 1) / 2) : Nat) : Int)) (s := isq z) (by omega) (by omega)
      have h4 : ((2 ^ ((B + 1) / 2) : Nat) : Int) * ((2 ^ ((B + 1) / 2) : Nat) : Int) = ((2 ^ ((B + 1) / 2 + (B + 1) / 2) : Nat) : Int) := by rw [← Int.natCast_mul, ← Nat.pow_add]
      have h5 : 2 ^ B ≤ 2 ^ ((B + 1) / 2 + (B + 1) / 2) := Nat.pow_le_pow_right (by omega) (by omega)
      omega
    · apply Classical.byContradiction
      intro hc
      have : isq z = 0 := by omega
      rw [this] at i2
      omega

/-! ### A reduction of the reference -/
theorem s19 : SigOk Try.prog 19 ⟨[tRat, .int .u64], [.int .u64, .int .i64], h19⟩ := ok19 fun (x : DRat × Int × Unit) r h => by
  obtain ⟨⟨⟨n, hn, hsn⟩, ⟨d, hd, hsd⟩, p0, p1⟩, rfl⟩ := when_some h
  obtain ⟨⟨a, b, u⟩, p, u'⟩ := x
  replace hn : a = enc n := hn
  replace hd : b = enc d := hd
  simp only at p0 p1
  subst hn; subst hd
  show g19 ((enc n, enc d, ()), p, ()) = some (open Classical in if dec (enc d) % p = 0 then (0, (30, ())) else (dec (enc n) % p * ((dec (enc d) % p) ^ (p - 2).toNat % p) % p, (0, ())))
  have e1 : h22 (((enc d).1, ((enc d).2.1, ())), (p, ())) = some (d % p, ()) := e22 hsd (by omega)
  have e2 : h22 (((enc n).1, ((enc n).2.1, ())), (p, ())) = some (n % p, ()) := e22 hsn (by omega)
  have m0 := Int.emod_nonneg d (show p ≠ 0 by omega)
  have m1 := Int.emod_lt_of_pos d (show 0 < p by omega)
  have n0 := Int.emod_nonneg n (show p ≠ 0 by omega)
  have n1 := Int.emod_lt_of_pos n (show 0 < p by omega)
  have i0 := Int.emod_nonneg ((d % p) ^ (p - 2).toNat) (show p ≠ 0 by omega)
  have i1 := Int.emod_lt_of_pos ((d % p) ^ (p - 2).toNat) (show 0 < p by omega)
  have hm := mul_lt64 n0 (by omega) i0 (by omega)
  rw [g19_eq, dec_enc, dec_enc]
  dsimp only
  rw [e1, Option.bind_some]
  dsimp only
  by_cases h0 : d % p = 0
  · rw [ife_t h0, if_pos h0]
  · rw [ife_f h0, if_neg h0, e17 ⟨m0, by omega⟩ ⟨p0, by omega⟩, Option.bind_some, Int.emod_emod, if_neg h0, e2, Option.bind_some, ife_f (by omega)]
    dsimp only
    rw [wu64 hm.1 hm.2, tm hm.1]

end Go.Refl.S3
