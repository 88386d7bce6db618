/-
  Residues, reductions, greatest common divisors, powers of rows, and the Chinese remainders: what the functions compute.
-/
import Derived.Test.YthgbejjenlfdnaaP7
set_option linter.unusedVariables false
set_option linter.unusedSimpArgs false
set_option maxRecDepth 100000
namespace Go.Refl.S3
open Go Go.Refl Go.Proofs

theorem s22 : SigOk Try.prog 22 ⟨[tInt, .int .u64], [.int .u64], h22⟩ := ok22 fun (x : DInt × Int × Unit) r h => by
  obtain ⟨⟨⟨z, hz, hs⟩, p0, p1⟩, rfl⟩ := when_some h
  obtain ⟨a, p, u⟩ := x
  replace hz : a = enc z := hz
  simp only at p0 p1
  subst hz
  show g22 (enc z, p, ()) = some (dec (enc z) % p, ())
  have m0 := Int.emod_nonneg z (show p ≠ 0 by omega)
  have m1 := Int.emod_lt_of_pos z (show 0 < p by omega)
  have e1 : h42 (((enc z).1, ((enc z).2.1, ())), (enc p, ())) = some (qr z p) := e42 hs (Sm.small (by omega))
  have e2 : h43 (((enc (z % p)).1, ((enc (z % p)).2.1, ())), ()) = some (z % p, (true, ())) := e43 (Sm.small (by omega)) (by omega)
  rw [g22_eq, dec_enc, wi64 (by omega) (by omega), e27 (by omega), Option.bind_some]
  dsimp only
  rw [e1, Option.bind_some, qr_of (by omega)]
  dsimp only
  rw [e2, Option.bind_some]
  dsimp only
  rw [wu64 (by omega) (by omega)]

/-! ### Reductions -/
abbrev tRat : Ty := .pair tInt (.pair tInt .unit)
abbrev DRat : Type := DInt × DInt × Unit
def encR (n d : Int) : DRat := (enc n, enc d, ())
theorem inv_emod (a p : Int) : inv (a % p) p = inv a p := by unfold inv; rw [Int.emod_emod]
theorem inv_range {a p : Int} (hp : 0 < p) : 0 ≤ inv a p ∧ inv a p < p := ⟨Int.emod_nonneg _ (by omega), Int.emod_lt_of_pos _ hp⟩
theorem e16 {a p : Int} (ha : 0 ≤ a ∧ a < 18446744073709551616) (hp : 1 ≤ p ∧ p < 2147483648) : h16 (a, (p, ())) = some (if a % p = 0 then (0, (10, ())) else (inv a p, (0, ()))) := when_pos ⟨ha, hp⟩
theorem e17 {a p : Int} (ha : 0 ≤ a ∧ a < 18446744073709551616) (hp : 2 ≤ p ∧ p < 4294967296) : h17 (a, (p, ())) = some (if a % p = 0 then (0, (10, ())) else (a ^ (p - 2).toNat % p, (0, ()))) := when_pos ⟨ha, hp⟩
noncomputable def h18 : DL [tRat, .int .u64] → Option (DL [.int .u64, .int .i64]) := fun (x : DRat × Int × Unit) => when (Is x.1.1 ∧ Is x.1.2.1 ∧ 1 ≤ x.2.1 ∧ x.2.1 < 2147483648)
  (open Classical in if dec x.1.2.1 % x.2.1 = 0 then (0, (30, ())) else (dec x.1.1 % x.2.1 * inv (dec x.1.2.1) x.2.1 % x.2.1, (0, ())))
theorem e18 {n d p : Int} (hn : Sm n) (hd : Sm d) (hp : 1 ≤ p ∧ p < 2147483648) : h18 (encR n d, (p, ())) = some (open Classical in if d % p = 0 then (0, (30, ())) else (n % p * inv d p % p, (0, ()))) := by
  show when (Is (enc n) ∧ Is (enc d) ∧ 1 ≤ p ∧ p < 2147483648) (open Classical in if dec (enc d) % p = 0 then (0, (30, ())) else (dec (enc n) % p * inv (dec (enc d)) p % p, (0, ()))) = _
  rw [when_pos ⟨Is.enc hn, Is.enc hd, hp⟩, dec_enc, dec_enc]
theorem s18 : SigOk Try.prog 18 ⟨[tRat, .int .u64], [.int .u64, .int .i64], h18⟩ := ok18 fun (x : DRat × Int × Unit) r h => by
  obtain ⟨⟨⟨n, hn, hsn⟩, ⟨d, hd, hsd⟩, p0, p1⟩, rfl⟩ := when_some h
  obtain ⟨⟨a, b, u⟩, p, u'⟩ := x
  replace hn : a = enc n := hn
  replace hd : b = enc d := hd
  simp only at p0 p1
  subst hn; subst hd
  show g18 ((enc n, enc d, ()), p, ()) = some (open Classical in if dec (enc d) % p = 0 then (0, (30, ())) else (dec (enc n) % p * inv (dec (enc d)) p % p, (0, ())))
  have e1 : h41 (((enc d).1, ((enc d).2.1, ())), (p, ())) = some (d % p, ()) := e41 hsd (by omega)
  have e2 : h41 (((enc n).1, ((enc n).2.1, ())), (p, ())) = some (n % p, ()) := e41 hsn (by omega)
  have m0 := Int.emod_nonneg d (show p ≠ 0 by omega)
  have m1 := Int.emod_lt_of_pos d (show 0 < p by omega)
  have n0 := Int.emod_nonneg n (show p ≠ 0 by omega)
  have n1 := Int.emod_lt_of_pos n (show 0 < p by omega)
  have hi := inv_range (a := d) (p := p) (by omega)
  have hm := mul_lt64 n0 (by omega) hi.1 (by omega)
  rw [g18_eq, dec_enc, dec_enc]
  dsimp only
  rw [e1, Option.bind_some]
  dsimp only
  rw [e16 ⟨m0, by omega⟩ ⟨p0, p1⟩, Option.bind_some, Int.emod_emod, inv_emod]
  by_cases h0 : d % p = 0
  · rw [if_pos h0, if_pos h0]
    rfl
  · rw [if_neg h0, if_neg h0]
    dsimp only
    rw [ifn_f rfl, e2, Option.bind_some, ife_f (by omega)]
    dsimp only
    rw [wu64 hm.1 hm.2, tm hm.1]

noncomputable def h19 : DL [tRat, .int .u64] → Option (DL [.int .u64, .int .i64]) := fun (x : DRat × Int × Unit) => when (Is x.1.1 ∧ Is x.1.2.1 ∧ 2 ≤ x.2.1 ∧ x.2.1 < 2147483648)
  (open Classical in if dec x.1.2.1 % x.2.1 = 0 then (0, (30, ())) else (dec x.1.1 % x.2.1 * ((dec x.1.2.1 % x.2.1) ^ (x.2.1 - 2).toNat % x.2.1) % x.2.1, (0, ())))
theorem e19 {n d p : Int} (hn : Sm n) (hd : Sm d) (hp : 2 ≤ p ∧ p < 2147483648) : h19 (encR n d, (p, ())) = some (open Classical in if d % p = 0 then (0, (30, ())) else (n % p * ((d % p) ^ (p - 2).toNat % p) % p, (0, ()))) := by
  show when (Is (enc n) ∧ Is (enc d) ∧ 2 ≤ p ∧ p < 2147483648) (open Classical in if dec (enc d) % p = 0 then (0, (30, ())) else (dec (enc n) % p * ((dec (enc d) % p) ^ (p - 2).toNat % p) % p, (0, ()))) = _
  rw [when_pos ⟨Is.enc hn, Is.enc hd, hp⟩, dec_enc, dec_enc]
/-! ### Greatest common divisors -/
theorem e81 {a b : List Int} (ha : Nt a) (hb : Nt b) : h81 (a, (b, ())) = some (D ((Int.gcd (V a) (V b) : Nat) : Int), ()) := when_pos ⟨ha, hb⟩
noncomputable def h61 : DL [tInt, tInt] → Option (DL [tInt]) := HI2 (rts := [tInt]) fun y z => (enc (Int.gcd y z : Nat), ())
theorem gcd_bound {y z : Int} (hy : Sm y) (hz : Sm z) : ((Int.gcd y z : Nat) : Int) < P 1048577 := by
  have h1 := abs_lt hy
  have h2 := abs_lt hz
  by_cases h0 : z = 0
  · subst h0
    rw [Int.gcd_zero_right]
    exact h1
  · have := Nat.le_of_dvd (show 0 < z.natAbs by omega) (Nat.gcd_dvd_right y.natAbs z.natAbs)
    unfold Int.gcd
    omega
theorem s61 : SigOk Try.prog 61 ⟨[tInt, tInt], [tInt], h61⟩ := ok61 (hi2 fun y z hy hz => by
  have hg : Int.gcd (V (dg y.natAbs)) (V (dg z.natAbs)) = Int.gcd y z := by
    rw [V_dg, V_dg]
    simp only [Int.gcd, Int.natAbs_natCast]
  rw [g61_eq, enc_2 y, enc_2 z, e81 hy.nt hz.nt, Option.bind_some, hg]
  dsimp only
  rw [e47 (Wl_D (gcd_bound hy hz) (by omega)), Option.bind_some, V_D (by omega), sg_false])

/-! ### Powers of rows -/
theorem D_nat (n : Nat) : D ((n : Nat) : Int) = dg n := rfl
theorem D_mul (a b : Nat) : D ((a : Int) * (b : Int)) = dg (a * b) := by rw [← Int.natCast_mul, D_nat]
/-- A bound. -/
def Bg (k : Nat) : Nat := 4294967296 ^ k
theorem Wl_dg {n k : Nat} (h : n < Bg k) (hk : k < 4194304) : Wl (dg n) := ⟨dg_W _, by have := dg_length h; omega⟩
theorem bl_pos {n : Nat} (h : n ≠ 0) : 1 ≤ bl n := by
  unfold bl
  rw [if_neg h]
  omega
noncomputable def h77 : DL [.sl (.int .u32), .int .i64] → Option (DL [.sl (.int .u32)]) := fun (x : List Int × Int × Unit) =>
  when (Nt x.1 ∧ 1 ≤ V x.1 ∧ 0 ≤ x.2.1 ∧ x.2.1 < 9223372036854775808 ∧ (V x.1).toNat ^ x.2.1.toNat < Bg 4000000) (dg ((V x.1).toNat ^ x.2.1.toNat), ())

theorem L77 (X N : Nat) (hX : 1 ≤ X) (hN : N < 9223372036854775808) (hb : X ^ N < Bg 4000000) : ∀ k i : Nat, i + k = bl N → ∀ T : List Int, (i < bl N → T = dg (X ^ 2 ^ i)) → g77_L3 T (N : Int) (dg (X ^ (N % 2 ^ i))) (bl N : Int) (i : Int) = some (dg (X ^ N), ()) := by
  have hbl : bl N ≤ 63 := bl_small 63 (by omega)
  intro k
  induction k with
  | zero =>
    intro i hi T hT
    have : i = bl N := by omega
    subst this
    rw [g77_L3_eq, ifd_f (by omega), Nat.mod_eq_of_lt (bl_lt N)]
  | succ k ih =>
    intro i hi T hT
    rw [hT (by omega)]
    have hN0 : N ≠ 0 := by
      intro h
      subst h
      simp [bl] at hi
    have h2i := Nat.two_pow_pos i
    have hle := bl_le hN0
    have hpow : 2 ^ i ≤ N := Nat.le_trans (Nat.pow_le_pow_right (by omega) (by omega)) hle
    have hsplit : N % 2 ^ (i + 1) = N % 2 ^ i + 2 ^ i * (N / 2 ^ i % 2) := by rw [Nat.pow_succ, Nat.mod_mul]
    have e : Int.fdiv (N : Int) (2 ^ (min (Int.toNat (i : Int)) 64)) = ((N / 2 ^ i : Nat) : Int) := by
      rw [Int.toNat_natCast, Nat.min_eq_left (by omega), fd (Int.pow_nonneg (by omega)), Int.natCast_ediv]
      simp
    have hM64 : N / 2 ^ i < 9223372036854775808 := Nat.lt_of_le_of_lt (Nat.div_le_self _ _) hN
    have hM2 : 2 ^ (i + 1) ≤ N → 2 ≤ N / 2 ^ i := fun h => (Nat.le_div_iff_mul_le h2i).2 (by rw [Nat.pow_succ] at h; omega)
    generalize N / 2 ^ i = M at *
    have hmono : ∀ m, m ≤ N → X ^ m < Bg 4000000 := fun m hm => Nat.lt_of_le_of_lt (Nat.pow_le_pow_right hX hm) hb
    have w1 : Wl (dg (X ^ (N % 2 ^ i))) := Wl_dg (hmono _ (Nat.mod_le _ _)) (by omega)
    have w2 : Wl (dg (X ^ 2 ^ i)) := Wl_dg (hmono _ hpow) (by omega)
    have hsq : ∀ O : List Int, O = dg (X ^ (N % 2 ^ (i + 1))) → (if (decide ((i : Int) < 0)) = true then none else if (decide ((Int.fdiv (N : Int) (2 ^ (min (Int.toNat (i : Int)) 64))) > 1)) = true then
        Option.bind (h73 (dg (X ^ 2 ^ i), (dg (X ^ 2 ^ i), ()))) fun (y : List Int × Unit) => g77_L3 y.1 (N : Int) O (bl N : Int) (IntKind.wrap .i64 ((i : Int) + 1))
      else g77_L3 (dg (X ^ 2 ^ i)) (N : Int) O (bl N : Int) (IntKind.wrap .i64 ((i : Int) + 1))) = some (dg (X ^ N), ()) := by
      intro O hO
      rw [ifd_f (by omega), e, wi64 (by omega) (by omega), show (i : Int) + 1 = ((i + 1 : Nat) : Int) by omega, hO]
      by_cases h1 : ((M : Nat) : Int) > 1
      · have h3 : X ^ 2 ^ i * X ^ 2 ^ i = X ^ 2 ^ (i + 1) := by rw [← Nat.pow_add, Nat.pow_succ]; congr 1; omega
        rw [ifd_t h1, e73 w2 w2, Option.bind_some, V_dg, D_mul, h3]
        exact ih (i + 1) (by omega) _ fun _ => rfl
      · rw [ifd_f h1]
        refine ih (i + 1) (by omega) _ fun h => ?_
        exfalso
        have : 2 ^ (i + 1) ≤ N := Nat.le_trans (Nat.pow_le_pow_right (by omega) (by omega)) hle
        have h4 := hM2 this
        omega
    have hbit : IntKind.wrap .i64 (((BitVec.toNat ((BitVec.ofInt 64 ((M : Nat) : Int)) &&& (BitVec.ofInt 64 1))) : Nat) : Int) = ((M % 2 : Nat) : Int) := by
      rw [and_one64 (by omega), wi64 (by omega) (by omega)]
      omega
    rw [g77_L3_eq, ifd_t (by omega), ifd_f (by omega)]
    conv => lhs; arg 1; lhs; lhs; rw [e, hbit]
    by_cases h1 : M % 2 = 1
    · rw [ife_t (by omega), e73 w1 w2, Option.bind_some, V_dg, V_dg, D_mul, ← Nat.pow_add]
      refine hsq _ ?_
      rw [hsplit, h1, Nat.mul_one]
    · rw [ife_f (by omega)]
      refine hsq _ ?_
      rw [hsplit, show M % 2 = 0 by omega, Nat.mul_zero, Nat.add_zero]
theorem e99 {a : Int} (h : 0 ≤ a ∧ a < 18446744073709551616) : h99 (a, ()) = some ((bl a.toNat : Int), ()) := when_pos h
theorem s77 : SigOk Try.prog 77 ⟨[.sl (.int .u32), .int .i64], [.sl (.int .u32)], h77⟩ := ok77 fun (x : List Int × Int × Unit) r h => by
  obtain ⟨⟨hx, hx1, n0, n1, hb⟩, rfl⟩ := when_some h
  obtain ⟨l, n, u⟩ := x
  simp only at hx hx1 n0 n1 hb
  show g77 (l, n, ()) = some (dg ((V l).toNat ^ n.toNat), ())
  have hl : l = dg ((V l).toNat ^ 2 ^ 0) := by rw [Nat.pow_zero, Nat.pow_one]; exact (D_V hx.1 hx.2.1).symm
  have := L77 (V l).toNat n.toNat (by omega) (by omega) hb (bl n.toNat) 0 (Nat.zero_add _) l fun _ => hl
  rw [g77_eq, e68 (by omega), Option.bind_some, wu64 (by omega) (by omega), e99 ⟨n0, by omega⟩, Option.bind_some]
  dsimp only
  rw [Nat.pow_zero, Nat.mod_one, Nat.pow_zero, show ((n.toNat : Nat) : Int) = n by omega] at this
  exact this

/-! ### Chinese remainders -/
def chi : List Int → List Int → Int → Int → Option (Int × Int)
  | a :: l, q :: p, u, m => if mr q = false then none else if m % q = 0 then none else chi l p (u + m * ((a % q + q - u % q) % q * inv (m % q) q % q)) (m * q)
  | _, _, u, m => some (u, m)
noncomputable def chiR (r : Option (Int × Int)) : DL [tInt, tInt, .int .i64] := match r with
  | some (u, m) => (enc u, (enc m, (0, ())))
  | none => (enc 0, (enc 0, (1, ())))
def WU (l : List Int) : Prop := ∀ w ∈ l, 0 ≤ w ∧ w < 18446744073709551616
theorem WU.getD {l : List Int} (h : WU l) (i : Nat) : 0 ≤ l.getD i 0 ∧ l.getD i 0 < 18446744073709551616 := by
  rw [List.getD_eq_getElem?_getD]
  cases hi : l[i]? with
  | none => simp
  | some w => exact h w (List.mem_of_getElem? hi)
noncomputable def h26 : DL [.sl (.int .u64), .sl (.int .u64)] → Option (DL [tInt, tInt, .int .i64]) := fun (x : List Int × List Int × Unit) =>
  when (WU x.1 ∧ WU x.2.1 ∧ x.2.1.length < 1000) (open Classical in if x.1.length ≠ x.2.1.length then chiR none else chiR (chi x.1 x.2.1 0 1))
theorem mr_range {n : Int} (h : mr n = true) : 2 ≤ n ∧ n < 2147483648 := by
  unfold mr at h
  split at h
  · cases h
  · omega
theorem enc_zero : enc 0 = (false, ([] : List Int), ()) := by unfold enc; simp [dg_zero]
theorem L26 (a p : List Int) (ha : WU a) (hp : WU p) (hl : a.length = p.length) (hs : p.length < 1000) (b1 b2 : Bool) (x1 x2 : List Int) : ∀ k i : Nat, i + k = p.length → ∀ u m : Int, 0 ≤ u → u < m → m ≤ P i →
    g26_L5 a p (p.length : Int) (i : Int) b1 x1 b2 x2 (enc u).1 (enc u).2.1 (enc m).1 (enc m).2.1 = some (chiR (chi (a.drop i) (p.drop i) u m)) := by
  intro k
  induction k with
  | zero =>
    intro i hi u m u0 um hm
    rw [g26_L5_eq, ifd_f (by omega), List.drop_eq_nil_of_le (by omega), List.drop_eq_nil_of_le (by omega)]
    rfl
  | succ k ih =>
    intro i hi u m u0 um hm
    have hpi := hp.getD i
    have hai := ha.getD i
    have hda : a.drop i = a.getD i 0 :: a.drop (i + 1) := by rw [List.drop_eq_getElem_cons (by omega), List.getD_eq_getElem?_getD, List.getElem?_eq_getElem (by omega)]; rfl
    have hdp : p.drop i = p.getD i 0 :: p.drop (i + 1) := by rw [List.drop_eq_getElem_cons (by omega), List.getD_eq_getElem?_getD, List.getElem?_eq_getElem (by omega)]; rfl
    have hPi := P_pos i
    have hsm : Sm m := Sm.of (k := i + 1) (by rw [P_succ]; omega) (by omega)
    have hsu : Sm u := Sm.of (k := i + 1) (by rw [P_succ]; omega) (by omega)
    rw [hda, hdp]
    simp only [chi]
    rw [g26_L5_eq, ifd_t (by omega), ifdd_t (by omega) (by omega), Int.toNat_natCast, e13 hpi, Option.bind_some]
    dsimp only
    generalize p.getD i 0 = q at *
    generalize a.getD i 0 = w at *
    by_cases h1 : mr q = true
    · obtain ⟨q2, q3⟩ := mr_range h1
      have hq := h1
      have e1 : h41 (((enc m).1, ((enc m).2.1, ())), (q, ())) = some (m % q, ()) := e41 hsm (by omega)
      have e2 : h41 (((enc u).1, ((enc u).2.1, ())), (q, ())) = some (u % q, ()) := e41 hsu (by omega)
      have m0 := Int.emod_nonneg m (show q ≠ 0 by omega)
      have m1 := Int.emod_lt_of_pos m (show 0 < q by omega)
      have n0 := Int.emod_nonneg u (show q ≠ 0 by omega)
      have n1 := Int.emod_lt_of_pos u (show 0 < q by omega)
      have w0 := Int.emod_nonneg w (show q ≠ 0 by omega)
      have w1 := Int.emod_lt_of_pos w (show 0 < q by omega)
      rw [ifnot_f h1, if_neg (show ¬ mr q = false by simp [h1]), ifdd_t (by omega) (by omega), e1, Option.bind_some]
      dsimp only
      by_cases h2 : m % q = 0
      · rw [ife_t h2, if_pos h2]
        unfold chiR
        rw [enc_zero]
      · have hi1 := inv_range (a := m % q) (p := q) (by omega)
        have t0 := Int.emod_nonneg (w % q + q - u % q) (show q ≠ 0 by omega)
        have t1 := Int.emod_lt_of_pos (w % q + q - u % q) (show 0 < q by omega)
        have hm2 := mul_lt64 t0 (by omega) hi1.1 (by omega)
        have s0 := Int.emod_nonneg ((w % q + q - u % q) % q * inv (m % q) q) (show q ≠ 0 by omega)
        have s1 := Int.emod_lt_of_pos ((w % q + q - u % q) % q * inv (m % q) q) (show 0 < q by omega)
        rw [ife_f h2, if_neg h2, ifdd_t (by omega) (by omega), Option.bind_some, ifdd_t (by omega) (by omega), e16 ⟨m0, by omega⟩ (by omega), Option.bind_some, ifdd_t (by omega) (by omega), ifdd_t (by omega) (by omega), ife_f (by omega), ifdd_t (by omega) (by omega), ifdd_t (by omega) (by omega), e2, Option.bind_some, ifdd_t (by omega) (by omega), ife_f (by omega), ifdd_t (by omega) (by omega), ife_f (by omega), Int.emod_emod, if_neg h2]
        dsimp only
        rw [tm hai.1, wu64 (x := w % q + q) (by omega) (by omega), wu64 (x := w % q + q - u % q) (by omega) (by omega), tm (a := w % q + q - u % q) (by omega), wu64 hm2.1 hm2.2, tm hm2.1, wi64 (by omega) (by omega), e44 (by omega), Option.bind_some]
        dsimp only
        generalize ht : (w % q + q - u % q) % q * inv (m % q) q % q = t at *
        have hst : Sm t := Sm.small (by omega)
        have e3 : h46 (((enc m).1, ((enc m).2.1, ())), (enc t, ())) = some (enc (m * t), ()) := HI2_eq hsm hst
        have hmt0 : 0 ≤ m * t := Int.mul_nonneg (by omega) s0
        have hmt : m * t + m ≤ m * q := by
          have : m * (t + 1) ≤ m * q := Int.mul_le_mul_of_nonneg_left (by omega) (by omega)
          rw [Int.mul_add] at this
          omega
        have hmq : m * q ≤ P (i + 1) := by
          have : m * q ≤ P i * 4294967296 := Int.mul_le_mul hm (by omega) (by omega) (by omega)
          rw [P_succ]
          omega
        have hPi2 : P (i + 2) = 4294967296 * P (i + 1) := P_succ (i + 1)
        have hPi3 := P_pos (i + 1)
        have hsmt : Sm (m * t) := Sm.of (k := i + 2) (by omega) (by omega)
        have e4 : h45 (((enc u).1, ((enc u).2.1, ())), (enc (m * t), ())) = some (enc (u + m * t), ()) := HI2_eq hsu hsmt
        have e5 : h46 (((enc m).1, ((enc m).2.1, ())), (enc q, ())) = some (enc (m * q), ()) := HI2_eq hsm (Sm.small (by omega))
        rw [e3, Option.bind_some]
        dsimp only
        rw [e4, Option.bind_some, ifdd_t (by omega) (by omega), wi64 (x := q) (by omega) (by omega), e44 (by omega), Option.bind_some]
        dsimp only
        rw [e5, Option.bind_some, wi64 (x := (i : Int) + 1) (by omega) (by omega)]
        exact ih (i + 1) (by omega) (u + m * t) (m * q) (by omega) (by omega) hmq
    · have hf : mr q = false := by simpa using h1
      rw [ifnot_t hf, if_pos hf]
      unfold chiR
      rw [enc_zero]
theorem s26 : SigOk Try.prog 26 ⟨[.sl (.int .u64), .sl (.int .u64)], [tInt, tInt, .int .i64], h26⟩ := ok26 fun (x : List Int × List Int × Unit) r h => by
  obtain ⟨⟨ha, hp, hs⟩, rfl⟩ := when_some h
  obtain ⟨a, p, u⟩ := x
  simp only at ha hp hs
  show g26 (a, p, ()) = some (open Classical in if a.length ≠ p.length then chiR none else chiR (chi a p 0 1))
  rw [g26_eq]
  by_cases hl : a.length = p.length
  · rw [ifn_f (by omega), if_neg (by simpa using hl), e44 (by omega), Option.bind_some, e44 (by omega), Option.bind_some]
    exact L26 a p ha hp hl hs _ _ _ _ p.length 0 (Nat.zero_add _) 0 1 (by omega) (by omega) (by rw [P_zero]; omega)
  · rw [ifn_t (by omega), if_pos (by simpa using hl)]
    unfold chiR
    rw [enc_zero]
end Go.Refl.S3
