/-
  ModularMatchesReference: the function answers true.
-/
import Derived.Test.YthgbejjenlfdnaaP19
set_option linter.unusedVariables false
set_option linter.unusedSimpArgs false
set_option maxRecDepth 100000
namespace Go.Refl.S3
open Go Go.Refl Go.Proofs

theorem mr_not_great {n : Int} (h : 2147483648 ≤ n) : mr n = false := by
  cases hm : mr n with
  | false => rfl
  | true =>
    have := mr_range hm
    omega
theorem mr_iff (n : Int) : mr n = (open Classical in decide (Pri n ∧ n ≤ 2147483647)) := by
  classical
  cases hm : mr n with
  | true =>
    have h1 := mr_is hm
    have h2 := mr_range hm
    symm
    exact decide_eq_true ⟨h1, by omega⟩
  | false =>
    symm
    refine decide_eq_false fun h => ?_
    have := mr_pri h.1 (by omega)
    rw [hm] at this
    cases this
theorem nxt_mr {n : Int} (h : n < 2147483647) : nxt (fun m => mr m = true) n = nxt Pri n := by
  obtain ⟨h1, h2, h3, h4⟩ := nxt_Pri h
  exact nxt_eq h1 (mr_pri h2 (by omega)) fun k a b c => h4 k a b (mr_is c)
theorem e11p {n : Int} (h : 0 ≤ n ∧ n < 2147483647) : h11 (n, ()) = some (nxt Pri n, (0, ())) := by
  obtain ⟨h1, h2, h3, h4⟩ := nxt_Pri h.2
  rw [e11 h ⟨_, h1, h3, mr_pri h2 (by omega)⟩, nxt_mr h.2]
theorem e11g {n : Int} (h : 2147483647 ≤ n ∧ n < 18446744073709551616) : h11 (n, ()) = some (0, (1, ())) := by
  show when ((0 ≤ n ∧ n < 18446744073709551616) ∧ (n < 2147483647 → ∃ m, n < m ∧ m ≤ 2147483647 ∧ mr m = true)) (open Classical in if n ≥ 2147483647 then (0, (1, ())) else (nxt (fun m => mr m = true) n, (0, ()))) = _
  rw [when_pos ⟨by omega, fun hc => by omega⟩, if_pos (by omega)]
theorem e12g {n : Int} (h : 2147483647 ≤ n ∧ n < 18446744073709551616) : h12 (n, ()) = some (0, (1, ())) := by
  show when (0 ≤ n ∧ n < 18446744073709551616) (open Classical in if n ≥ 2147483647 then (0, (1, ())) else (nxt Pri n, (0, ()))) = _
  rw [when_pos (by omega), if_pos (by omega)]
theorem inv_pow {p a : Int} (hp : Pri p) (h : a % p ≠ 0) : inv a p = a ^ (p - 2).toNat % p := by
  have h2 := hp.1
  have hf : a ^ (p - 2).toNat % p * a % p = 1 % p := by
    rw [Int.mul_emod, Int.emod_emod, ← Int.mul_emod, ← Int.pow_succ, show (p - 2).toNat.succ = (p - 1).toNat by omega, fermat hp h, Int.emod_eq_of_lt (by omega) (by omega)]
  have he := inv_unique (i := inv a p) (by rw [inv_mul hp h, Int.emod_eq_of_lt (by omega) (by omega)]) hf
  obtain ⟨r0, r1⟩ := inv_range (a := a) (p := p) (by omega)
  rw [Int.emod_eq_of_lt r0 r1, Int.emod_emod] at he
  exact he
theorem red_rdv {n d p : Int} (hp : Pri p) (hd : d % p ≠ 0) : red n d p = rdv n d p := by
  obtain ⟨r0, r1⟩ := rdv_range (n := n) (d := d) hp.1
  refine red_unique hp hd ?_ r0 r1
  have := rdv_dvd (n := n) hp hd
  exact (Int.emod_emod_of_dvd n (Int.dvd_refl p) ▸ (Int.emod_eq_emod_iff_emod_sub_eq_zero.2 (Int.emod_eq_zero_of_dvd this)).symm)
theorem or_great (b : Int) : 2147483648 ≤ ((BitVec.toNat ((BitVec.ofInt 64 b) ||| (BitVec.ofInt 64 2147483648)) : Nat) : Int) ∧ ((BitVec.toNat ((BitVec.ofInt 64 b) ||| (BitVec.ofInt 64 2147483648)) : Nat) : Int) < 18446744073709551616 := by
  have h1 := (BitVec.ofInt 64 b ||| BitVec.ofInt 64 2147483648).isLt
  have h2 : (BitVec.ofInt 64 2147483648).toNat ≤ (BitVec.ofInt 64 b ||| BitVec.ofInt 64 2147483648).toNat := by
    rw [BitVec.toNat_or]
    exact Nat.right_le_or
  have h3 : (BitVec.ofInt 64 2147483648).toNat = 2147483648 := by decide
  omega
theorem md_bounds' {x : DRaw} (h : OkRaw x) : ((mdN x).natAbs : Int) < P 20 ∧ ((mdD x).natAbs : Int) < P 20 := by
  obtain ⟨r1, r2, _⟩ := rw_bounds h
  obtain ⟨l1, l2⟩ := low_abs (rwN x) (rwD x)
  have hP := P_le (show 10 ≤ 20 by omega)
  rw [P_ten] at hP
  unfold mdN mdD
  omega
noncomputable def h3 : DL [.int .u32, .int .u64, tRaw] → Option (DL [.bool]) := fun (x : Int × Int × DRaw × Unit) => when ((0 ≤ x.1 ∧ x.1 < 4294967296) ∧ (0 ≤ x.2.1 ∧ x.2.1 < 18446744073709551616) ∧ OkRaw x.2.2.1) (true, ())
theorem s3 : SigOk Try.prog 3 ⟨[.int .u32, .int .u64, tRaw], [.bool], h3⟩ := ok3 fun (x : Int × Int × DRaw × Unit) r h => by
  obtain ⟨⟨hn, hb, hx⟩, rfl⟩ := when_some h
  obtain ⟨a, b, c, u⟩ := x
  simp only at hn hb hx
  show g3 (a, b, c, ()) = some (true, ())
  have hv := or_great b
  rw [g3_eq, e10, Option.bind_some, ifnot_f rfl, wu64 (x := a) (by omega) (by omega)]
  generalize ((BitVec.toNat ((BitVec.ofInt 64 b) ||| (BitVec.ofInt 64 2147483648)) : Nat) : Int) = v at hv ⊢
  have C15 : h15 ((c.1, (c.2.1, (c.2.2.1, ()))), ()) = some (encR (mdN c) (mdD c), ()) := e15 hx
  obtain ⟨a1, a2⟩ := md_bounds' hx
  have T : ∀ z : Int, (z.natAbs : Int) < P 20 → Sm z := fun z hz => Sm.of (k := 20) hz (by omega)
  by_cases ha : a < 2147483647
  · obtain ⟨k1, k2, k3, k4⟩ := nxt_Pri ha
    rw [e11p ⟨hn.1, ha⟩, Option.bind_some, e12 hn.1 ha, Option.bind_some, wu64 (x := v) (by omega) (by omega), e11g ⟨by omega, by omega⟩, Option.bind_some, e13 (by omega), Option.bind_some, e14 (by omega), Option.bind_some]
    dsimp only
    generalize nxt Pri a = p at *
    have p2 := k2.1
    rw [← mr_iff a, ifnot_f (by simp), e13 (by omega), Option.bind_some, mr_not_great (by omega), if_neg (by simp), ifn_f rfl, ifn_f rfl, ifn_f rfl, ifn_f rfl, C15, Option.bind_some, e16 hb (by omega), Option.bind_some, e17 hb (by omega), Option.bind_some]
    generalize mdN c = an at *
    generalize mdD c = ad at *
    have A1 : h18 ((((encR an ad).1.1, ((encR an ad).1.2.1, ())), (((encR an ad).2.1.1, ((encR an ad).2.1.2.1, ())), ())), (p, ())) = some (open Classical in if ad % p = 0 then (0, (30, ())) else (red an ad p, (0, ()))) := e18 (T _ a1) (T _ a2) (by omega)
    have A2 : h19 ((((encR an ad).1.1, ((encR an ad).1.2.1, ())), (((encR an ad).2.1.1, ((encR an ad).2.1.2.1, ())), ())), (p, ())) = some (if ad % p = 0 then (0, (30, ())) else (rdv an ad p, (0, ()))) := e19r (T _ a1) (T _ a2) (by omega)
    dsimp only
    rw [A1, Option.bind_some, A2, Option.bind_some, e20 hb (by omega) (by omega), Option.bind_some, e21 hb (by omega) (by omega), Option.bind_some, ife_t rfl]
    have E1 : (if b % p = 0 then ((0 : Int), ((10 : Int), ())) else (inv b p, (0, ()))) = (if b % p = 0 then (0, (10, ())) else (b ^ (p - 2).toNat % p, (0, ()))) := by
      by_cases h0 : b % p = 0
      · rw [if_pos h0, if_pos h0]
      · rw [if_neg h0, if_neg h0, inv_pow k2 h0]
    have E2 : (if ad % p = 0 then ((0 : Int), ((30 : Int), ())) else (red an ad p, (0, ()))) = (if ad % p = 0 then (0, (30, ())) else (rdv an ad p, (0, ()))) := by
      by_cases h0 : ad % p = 0
      · rw [if_pos h0, if_pos h0]
      · rw [if_neg h0, if_neg h0, red_rdv k2 h0]
    rw [E1, ife_t rfl, ife_t rfl]
    by_cases h0 : ad % p = 0
    · rw [if_pos h0, if_pos h0, ife_t rfl, ife_t rfl]
    · rw [if_neg h0, if_neg h0, red_rdv k2 h0, ife_t rfl, ife_t rfl]
  · rw [e11g ⟨by omega, by omega⟩, Option.bind_some, e12g ⟨by omega, by omega⟩, Option.bind_some, wu64 (x := v) (by omega) (by omega), e11g ⟨by omega, by omega⟩, Option.bind_some, e13 (by omega), Option.bind_some, e14 (by omega), Option.bind_some]
    dsimp only
    rw [← mr_iff a, ifnot_f (by simp), e13 (by omega), Option.bind_some, mr_not_great (by omega), if_neg (by simp), ifn_f rfl, ifn_f rfl, ifn_f rfl, ifn_t (by omega)]
end Go.Refl.S3
