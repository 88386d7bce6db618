/-
  Division of whole numbers in the reference, residues, the next prime by the test, greatest common divisors of rows, chosen primes.
-/
import Derived.Test.YthgbejjenlfdnaaP6
set_option linter.unusedVariables false
set_option linter.unusedSimpArgs false
set_option maxRecDepth 100000
namespace Go.Refl.S3
open Go Go.Refl Go.Proofs

noncomputable def h42 : DL [tInt, tInt] → Option (DL [tInt, tInt, .int .i64]) := HI2 (rts := [tInt, tInt, .int .i64]) qr
theorem one_row : (List.set (List.replicate 1 (0 : Int)) 0 1) = [1] := rfl
theorem s42 : SigOk Try.prog 42 ⟨[tInt, tInt], [tInt, tInt, .int .i64], h42⟩ := ok42 (hi2 fun y z hy hz => by
  rw [g42_eq, enc_2 y, enc_2 z, enc_1 y, enc_1 z]
  unfold qr
  by_cases h0 : z = 0
  · rw [ife_t (dg_len_zero.2 h0), if_pos h0]
    simp [enc, dg_zero]
  · have hzp : 0 < (z.natAbs : Int) := by omega
    obtain ⟨q0, q1, m0, m1⟩ := quot_le (a := (y.natAbs : Int)) (b := (z.natAbs : Int)) (by omega) hzp
    have hyl := abs_lt hy
    have hzl := abs_lt hz
    have hyl' := hy.lt
    have hP : P 1048577 = 4294967296 * P 1048576 := P_succ 1048576
    have hPp := P_pos 1048576
    rw [ife_f (fun h => h0 (dg_len_zero.1 h)), if_neg h0, e66 hy.nt hz.nt (by rw [V_dg]; omega), Option.bind_some, V_dg, V_dg]
    dsimp only
    have hD := D_len_pos m0
    have w1 : Wl [1] := ⟨W.cons (by omega) (by omega) W.nil, by simp⟩
    by_cases hn : y < 0
    · rw [ifb_t (by simpa using hn)]
      by_cases hr : (y.natAbs : Int) % (z.natAbs : Int) ≠ 0
      · obtain ⟨e1, e2⟩ := qr_neg h0 hn hr
        rw [ifd_t (hD.2 hr), one_row, e62 (Wl_D (k := 1048577) (by omega) (by omega)) w1, Option.bind_some, V_D q0, show V [1] = 1 from rfl]
        dsimp only
        rw [e63 hz.wl (Wl_D (k := 1048577) (by omega) (by omega)) (by rw [V_dg, V_D m0]; omega), Option.bind_some, V_dg, V_D m0]
        dsimp only
        rw [e47 (Wl_D (k := 1048577) (by omega) (by omega)), Option.bind_some, e47 (Wl_D (k := 1048577) (by omega) (by omega)), Option.bind_some, V_D (by omega), V_D (by omega), e1, e2, sg_false]
      · obtain ⟨e1, e2⟩ := qr_pos (a := y) h0 (.inr (by omega))
        rw [ifd_f (fun h => hr (hD.1 h)), e47 (Wl_D (k := 1048577) (by omega) (by omega)), Option.bind_some, e47 (Wl_D (k := 1048577) (by omega) (by omega)), Option.bind_some, V_D q0, V_D m0, e1, e2, sg_false]
    · obtain ⟨e1, e2⟩ := qr_pos (a := y) h0 (.inl hn)
      rw [ifb_f (by simpa using hn), e47 (Wl_D (k := 1048577) (by omega) (by omega)), Option.bind_some, e47 (Wl_D (k := 1048577) (by omega) (by omega)), Option.bind_some, V_D q0, V_D m0, e1, e2, sg_false])

/-! ### Numbers that are small -/
theorem Sm.small {z : Int} (h : (z.natAbs : Int) < 79228162514264337593543950336) : Sm z := Sm.of (k := 3) (by rw [P_three]; exact h) (by omega)
theorem e52 {y z : Int} (hy : Sm y) (hz : Sm z) : h52 (enc y, (enc z, ())) = some (qr y z) := HI2_eq hy hz
theorem e42 {y z : Int} (hy : Sm y) (hz : Sm z) : h42 (enc y, (enc z, ())) = some (qr y z) := HI2_eq hy hz
theorem qr_of {y z : Int} (h : z ≠ 0) : qr y z = (enc (y / z), (enc (y % z), (0, ()))) := by unfold qr; rw [if_neg h]
theorem e65 {z : Int} (h : Sm z) (h1 : -9223372036854775808 ≤ z ∧ z < 9223372036854775808) : h65 (enc z, ()) = some (z, (true, ())) := by
  show when (Is (enc z)) (if -9223372036854775808 ≤ dec (enc z) ∧ dec (enc z) < 9223372036854775808 then (dec (enc z), (true, ())) else (0, (false, ()))) = _
  rw [when_pos (Is.enc h), dec_enc, if_pos h1]
theorem e43 {z : Int} (h : Sm z) (h1 : -9223372036854775808 ≤ z ∧ z < 9223372036854775808) : h43 (enc z, ()) = some (z, (true, ())) := e65 h h1

/-! ### Residues -/
noncomputable def h41 : DL [tInt, .int .u64] → Option (DL [.int .u64]) := fun (x : DInt × Int × Unit) => when (Is x.1 ∧ 1 ≤ x.2.1 ∧ x.2.1 < 4294967296) (dec x.1 % x.2.1, ())
noncomputable def h22 : DL [tInt, .int .u64] → Option (DL [.int .u64]) := h41
theorem e41 {z p : Int} (h : Sm z) (h1 : 1 ≤ p ∧ p < 4294967296) : h41 (enc z, (p, ())) = some (z % p, ()) := by
  show when (Is (enc z) ∧ 1 ≤ p ∧ p < 4294967296) (dec (enc z) % p, ()) = _
  rw [when_pos ⟨Is.enc h, h1⟩, dec_enc]
theorem e22 {z p : Int} (h : Sm z) (h1 : 1 ≤ p ∧ p < 4294967296) : h22 (enc z, (p, ())) = some (z % p, ()) := e41 h h1
theorem s41 : SigOk Try.prog 41 ⟨[tInt, .int .u64], [.int .u64], h41⟩ := ok41 fun (x : DInt × Int × Unit) r h => by
  obtain ⟨⟨⟨z, hz, hs⟩, p0, p1⟩, rfl⟩ := when_some h
  obtain ⟨a, p, u⟩ := x
  replace hz : a = enc z := hz
  simp only at p0 p1
  subst hz
  show g41 (enc z, p, ()) = some (dec (enc z) % p, ())
  have m0 := Int.emod_nonneg z (show p ≠ 0 by omega)
  have m1 := Int.emod_lt_of_pos z (show 0 < p by omega)
  have e1 : h52 (((enc z).1, ((enc z).2.1, ())), (enc p, ())) = some (qr z p) := e52 hs (Sm.small (by omega))
  have e2 : h65 (((enc (z % p)).1, ((enc (z % p)).2.1, ())), ()) = some (z % p, (true, ())) := e65 (Sm.small (by omega)) (by omega)
  rw [g41_eq, dec_enc, wi64 (by omega) (by omega), e44 (by omega), Option.bind_some]
  dsimp only
  rw [e1, Option.bind_some, qr_of (by omega)]
  dsimp only
  rw [e2, Option.bind_some]
  dsimp only
  rw [wu64 (by omega) (by omega)]

/-! ### The next prime by the test -/
noncomputable def h11 : DL [.int .u64] → Option (DL [.int .u64, .int .i64]) := fun (x : Int × Unit) => when ((0 ≤ x.1 ∧ x.1 < 18446744073709551616) ∧ (x.1 < 2147483647 → ∃ m, x.1 < m ∧ m ≤ 2147483647 ∧ mr m = true)) (open Classical in if x.1 ≥ 2147483647 then (0, (1, ())) else (nxt (fun m => mr m = true) x.1, (0, ())))
theorem e13 {n : Int} (h : 0 ≤ n ∧ n < 18446744073709551616) : h13 (n, ()) = some (mr n, ()) := when_pos h
theorem L11 (m : Int) (hm : mr m = true) (hm1 : m ≤ 2147483647) : ∀ k : Nat, ∀ t : Int, 0 ≤ t → t + k = m → (∀ j, t ≤ j → j < m → ¬ mr j = true) → g11_L4 t = some (m, (0, ())) := by
  intro k
  induction k with
  | zero =>
    intro t h0 h1 h2
    have : t = m := by omega
    subst this
    rw [g11_L4_eq, e13 (by omega), Option.bind_some]
    dsimp only
    rw [ifnot_f hm]
  | succ k ih =>
    intro t h0 h1 h2
    rw [g11_L4_eq, e13 (by omega), Option.bind_some]
    dsimp only
    have hp := h2 t (Int.le_refl _) (by omega)
    rw [ifnot_t (by simpa using hp), wu64 (by omega) (by omega)]
    exact ih (t + 1) (by omega) (by omega) fun j h3 h4 => h2 j (by omega) h4
theorem s11 : SigOk Try.prog 11 ⟨[.int .u64], [.int .u64, .int .i64], h11⟩ := ok11 fun (x : Int × Unit) r h => by
  obtain ⟨⟨⟨a0, a1⟩, hx⟩, rfl⟩ := when_some h
  obtain ⟨n, u⟩ := x
  simp only at a0 a1 hx
  show g11 (n, ()) = some (open Classical in if n ≥ 2147483647 then (0, (1, ())) else (nxt (fun m => mr m = true) n, (0, ())))
  rw [g11_eq]
  by_cases h1 : n ≥ 2147483647
  · rw [ifd_t h1, if_pos h1]
  · obtain ⟨m, hm1, hm2, hm3⟩ := hx (by omega)
    obtain ⟨e1, e2, e3⟩ := nxt_spec (p := fun m => mr m = true) ⟨m, hm1, hm3⟩
    have hle : nxt (fun m => mr m = true) n ≤ m := by
      apply Classical.byContradiction
      intro hc
      exact e3 m hm1 (by omega) hm3
    rw [ifd_f h1, if_neg h1, wu64 (by omega) (by omega)]
    exact L11 _ e2 (by omega) (nxt (fun m => mr m = true) n - (n + 1)).toNat (n + 1) (by omega) (by omega) fun j h3 h4 => e3 j (by omega) h4

/-! ### Greatest common divisors of rows -/
noncomputable def h81 : DL [.sl (.int .u32), .sl (.int .u32)] → Option (DL [.sl (.int .u32)]) := fun (x : List Int × List Int × Unit) => when (Nt x.1 ∧ Nt x.2.1) (D ((Int.gcd (V x.1) (V x.2.1) : Nat) : Int), ())
theorem e101 {a b : Int} (ha : 0 ≤ a ∧ a < 18446744073709551616) (hb : 0 ≤ b ∧ b < 18446744073709551616) : h101 (a, (b, ())) = some (((Int.gcd a b : Nat) : Int), ()) := when_pos ⟨ha, hb⟩
theorem V_lt_two {l : List Int} (h : W l) (hl : l.length ≤ 2) : V l < 18446744073709551616 := by
  have h1 := V_two hl
  have h2 := h.getD 0
  have h3 := h.getD 1
  omega
theorem L81 : ∀ k : Nat, ∀ a b : List Int, Nt a → Nt b → (V b).toNat ≤ k → g81_L1 a b = some (D ((Int.gcd (V a) (V b) : Nat) : Int), ()) := by
  intro k
  induction k with
  | zero =>
    intro a b ha hb hk
    have h0 := V_nonneg hb.1
    have hz : V b = 0 := by omega
    have hbn : b = [] := by rw [← D_V hb.1 hb.2.1, hz, D_zero]
    subst hbn
    have ha0 := V_nonneg ha.1
    rw [g81_L1_eq, ifd_f (by simp), hz, Int.gcd_zero_right, show ((V a).natAbs : Int) = V a by omega, D_V ha.1 ha.2.1]
  | succ k ih =>
    intro a b ha hb hk
    have h0 := V_nonneg hb.1
    have ha0 := V_nonneg ha.1
    rw [g81_L1_eq]
    by_cases hz : V b = 0
    · have hbn : b = [] := by rw [← D_V hb.1 hb.2.1, hz, D_zero]
      subst hbn
      rw [ifd_f (by simp), hz, Int.gcd_zero_right, show ((V a).natAbs : Int) = V a by omega, D_V ha.1 ha.2.1]
    · have hbl : 0 < b.length := by
        apply List.length_pos_iff.2
        intro h
        subst h
        exact hz rfl
      obtain ⟨q0, q1, m0, m1⟩ := quot_le (a := V a) (b := V b) ha0 (by omega)
      have hb1 := V_lt hb.1
      have hlen := hb.2.2
      have hrec : Option.bind (h66 (a, (b, ()))) (fun (y : List Int × List Int × Unit) => g81_L1 b y.2.1) = some (D ((Int.gcd (V a) (V b) : Nat) : Int), ()) := by
        rw [e66 ha hb hz, Option.bind_some]
        dsimp only
        have := ih b (D (V a % V b)) hb (Nt_D (k := b.length) (by omega) hlen) (by rw [V_D m0]; omega)
        rw [V_D m0, gcd_step ha0 (by omega)] at this
        exact this
      rw [ifd_t (by omega)]
      by_cases h1 : (a.length : Int) ≤ 2
      · rw [ifd_t h1]
        by_cases h2 : (b.length : Int) ≤ 2
        · have hga : ((Int.gcd (V a) (V b) : Nat) : Int) ≤ V b := by
            have := Nat.le_of_dvd (show 0 < (V b).natAbs by omega) (Nat.gcd_dvd_right (V a).natAbs (V b).natAbs)
            unfold Int.gcd
            omega
          have hv2 := V_lt_two hb.1 (by omega)
          rw [ifd_t h2, e67 ha.1 (by omega), Option.bind_some, e67 hb.1 (by omega), Option.bind_some]
          dsimp only
          rw [e101 ⟨ha0, V_lt_two ha.1 (by omega)⟩ ⟨h0, hv2⟩, Option.bind_some]
          dsimp only
          rw [e48 ⟨by omega, by omega⟩, Option.bind_some]
        · rw [ifd_f h2]
          exact hrec
      · rw [ifd_f h1]
        exact hrec
theorem s81 : SigOk Try.prog 81 ⟨[.sl (.int .u32), .sl (.int .u32)], [.sl (.int .u32)], h81⟩ := ok81 fun (x : List Int × List Int × Unit) r h => by
  obtain ⟨⟨ha, hb⟩, rfl⟩ := when_some h
  obtain ⟨a, b, u⟩ := x
  show g81 (a, b, ()) = _
  rw [g81_eq]
  exact L81 _ a b ha hb (Nat.le_refl _)

/-! ### Chosen primes -/
noncomputable def chs : Nat → Int → List Int
  | 0, _ => []
  | k + 1, p => nxt Pri p :: chs k (nxt Pri p)
/-- There are k primes above p. -/
def Room : Nat → Int → Prop
  | 0, _ => True
  | k + 1, p => 0 ≤ p ∧ p < 2147483647 ∧ Room k (nxt Pri p)
noncomputable def h25 : DL [.int .u32, .int .i64] → Option (DL [.sl (.int .u64)]) := fun (x : Int × Int × Unit) => when (0 ≤ x.1 ∧ 0 ≤ x.2.1 ∧ x.2.1 < 1000 ∧ Room x.2.1.toNat (x.1 % 2147000000)) (chs x.2.1.toNat (x.1 % 2147000000), ())
theorem e12 {n : Int} (h : 0 ≤ n) (h1 : n < 2147483647) : h12 (n, ()) = some (nxt Pri n, (0, ())) := by
  show when (0 ≤ n ∧ n < 18446744073709551616) (open Classical in if n ≥ 2147483647 then (0, (1, ())) else (nxt Pri n, (0, ()))) = _
  rw [when_pos ⟨h, by omega⟩, if_neg (by omega)]
theorem L25 (m : Nat) (hm : m < 1000) : ∀ k i : Nat, i + k = m → ∀ (p : Int) (r : List Int), r.length = i → Room k p → g25_L4 (m : Int) p (i : Int) r = some (r ++ chs k p, ()) := by
  intro k
  induction k with
  | zero =>
    intro i hi p r hr hp
    rw [g25_L4_eq, ifd_f (by omega), chs, List.append_nil]
  | succ k ih =>
    intro i hi p r hr hp
    obtain ⟨h0, h1, h2⟩ := hp
    rw [g25_L4_eq, ifd_t (by omega), e12 h0 h1, Option.bind_some]
    dsimp only
    rw [show List.set (List.replicate 1 (0 : Int)) 0 (nxt Pri p) = [nxt Pri p] from rfl, ifd_t (by simp only [List.length_cons, List.length_nil]; omega), wi64 (by omega) (by omega)]
    have := ih (i + 1) (by omega) (nxt Pri p) (r ++ [nxt Pri p]) (by simp [hr]) h2
    rw [List.append_assoc] at this
    exact this
theorem s25 : SigOk Try.prog 25 ⟨[.int .u32, .int .i64], [.sl (.int .u64)], h25⟩ := ok25 fun (x : Int × Int × Unit) r h => by
  obtain ⟨⟨a0, m0, m1, hr⟩, rfl⟩ := when_some h
  obtain ⟨a, m, u⟩ := x
  simp only at a0 m0 m1 hr
  show g25 (a, m, ()) = some (chs m.toNat (a % 2147000000), ())
  rw [g25_eq, tm a0, wu64 (by omega) (by omega)]
  have := L25 m.toNat (by omega) m.toNat 0 (Nat.zero_add _) (a % 2147000000) [] rfl hr
  rw [show ((m.toNat : Nat) : Int) = m by omega] at this
  exact this
end Go.Refl.S3
