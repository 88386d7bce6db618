/-
  ModularReduces: the function answers true.
-/
import Derived.Test.YthgbejjenlfdnaaP13
set_option linter.unusedVariables false
set_option linter.unusedSimpArgs false
set_option maxRecDepth 100000
namespace Go.Refl.S3
open Go Go.Refl Go.Proofs

theorem md_bounds {x : DRaw} (h : OkRaw x) : ((mdN x).natAbs : Int) < P 20 ∧ ((mdD x).natAbs : Int) < P 20 := by
  obtain ⟨r1, r2, _⟩ := rw_bounds h
  obtain ⟨l1, l2⟩ := low_abs (rwN x) (rwD x)
  have hP := P_le (show 10 ≤ 20 by omega)
  rw [P_ten] at hP
  unfold mdN mdD
  omega
theorem e18r {n d p : Int} (hn : Sm n) (hd : Sm d) (hp : 1 ≤ p ∧ p < 2147483648) : h18 (encR n d, (p, ())) = some (open Classical in if d % p = 0 then (0, (30, ())) else (red n d p, (0, ()))) := e18 hn hd hp
noncomputable def h6 : DL [.int .u32, tRaw, tRaw] → Option (DL [.bool]) := fun (x : Int × DRaw × DRaw × Unit) => when ((0 ≤ x.1 ∧ x.1 < 4294967296) ∧ OkRaw x.2.1 ∧ OkRaw x.2.2.1) (true, ())
theorem s6 : SigOk Try.prog 6 ⟨[.int .u32, tRaw, tRaw], [.bool], h6⟩ := ok6 fun (x : Int × DRaw × DRaw × Unit) r h => by
  obtain ⟨⟨hn, hx, hy⟩, rfl⟩ := when_some h
  obtain ⟨n, x, y, u⟩ := x
  simp only at hn hx hy
  show g6 (n, x, y, ()) = some (true, ())
  have hk : 0 ≤ n % 2147483647 ∧ n % 2147483647 < 2147483647 := by omega
  obtain ⟨k1, k2, k3, k4⟩ := nxt_Pri hk.2
  have X15 : h15 ((x.1, (x.2.1, (x.2.2.1, ()))), ()) = some (encR (mdN x) (mdD x), ()) := e15 hx
  have Y15 : h15 ((y.1, (y.2.1, (y.2.2.1, ()))), ()) = some (encR (mdN y) (mdD y), ()) := e15 hy
  obtain ⟨a1, a2⟩ := md_bounds hx
  obtain ⟨b1, b2⟩ := md_bounds hy
  have T : ∀ z : Int, (z.natAbs : Int) < P 20 → Sm z := fun z hz => Sm.of (k := 20) hz (by omega)
  rw [g6_eq, e10, Option.bind_some, ifnot_f rfl, tm hn.1, wu64 (by omega) (by omega), e12 hk.1 hk.2, Option.bind_some]
  dsimp only
  generalize nxt Pri (n % 2147483647) = p at *
  have hp := k2
  have p2 := hp.1
  rw [X15, Option.bind_some, Y15, Option.bind_some]
  generalize mdN x = an at *
  generalize mdD x = ad at *
  generalize mdN y = bn at *
  generalize mdD y = bd at *
  have sa := T _ a1
  have sd := T _ a2
  have sb := T _ b1
  have sc := T _ b2
  have A1 : h18 ((((encR an ad).1.1, ((encR an ad).1.2.1, ())), (((encR an ad).2.1.1, ((encR an ad).2.1.2.1, ())), ())), (p, ())) = some (open Classical in if ad % p = 0 then (0, (30, ())) else (red an ad p, (0, ()))) := e18r sa sd (by omega)
  have A2 : h18 ((((encR bn bd).1.1, ((encR bn bd).1.2.1, ())), (((encR bn bd).2.1.1, ((encR bn bd).2.1.2.1, ())), ())), (p, ())) = some (open Classical in if bd % p = 0 then (0, (30, ())) else (red bn bd p, (0, ()))) := e18r sb sc (by omega)
  have A3 : h22 (((encR an ad).2.1.1, ((encR an ad).2.1.2.1, ())), (p, ())) = some (ad % p, ()) := e22 sd (by omega)
  have A4 : h22 (((encR an ad).1.1, ((encR an ad).1.2.1, ())), (p, ())) = some (an % p, ()) := e22 sa (by omega)
  have A5 : h23 ((((encR an ad).1.1, ((encR an ad).1.2.1, ())), (((encR an ad).2.1.1, ((encR an ad).2.1.2.1, ())), ())), ((((encR bn bd).1.1, ((encR bn bd).1.2.1, ())), (((encR bn bd).2.1.1, ((encR bn bd).2.1.2.1, ())), ())), ())) = some (encR (lowN (an * bd + bn * ad) (ad * bd)) (lowD (an * bd + bn * ad) (ad * bd)), ()) := e23 a1 a2 b1 b2
  have A6 : h24 ((((encR an ad).1.1, ((encR an ad).1.2.1, ())), (((encR an ad).2.1.1, ((encR an ad).2.1.2.1, ())), ())), ((((encR bn bd).1.1, ((encR bn bd).1.2.1, ())), (((encR bn bd).2.1.1, ((encR bn bd).2.1.2.1, ())), ())), ())) = some (encR (lowN (an * bn) (ad * bd)) (lowD (an * bn) (ad * bd)), ()) := e24 a1 a2 b1 b2
  dsimp only
  rw [A1, Option.bind_some, A2, Option.bind_some, A3, Option.bind_some]
  by_cases hA : ad % p = 0
  · rw [if_pos hA]
    dsimp only
    rw [ifnot_f (by simp [hA]), ifn_t (by omega), ifn_f rfl, ifn_f rfl, ifn_t (by omega)]
  · rw [if_neg hA]
    dsimp only
    rw [ifnot_f (by simp [hA]), ifn_f rfl, ifn_f rfl]
    by_cases hB : bd % p = 0
    · rw [if_pos hB]
      dsimp only
      rw [ifn_t (by omega)]
    · rw [if_neg hB]
      dsimp only
      have hD := mul_ne hp hA hB
      have q1 := P20_mul a1 b2
      have q2 := P20_mul b1 a2
      have q3 := P20_mul a2 b2
      have q4 := P20_mul a1 b1
      have hP : P 41 = 4294967296 * P 40 := P_succ 40
      obtain ⟨l1, l2⟩ := low_abs (an * bd + bn * ad) (ad * bd)
      obtain ⟨l3, l4⟩ := low_abs (an * bn) (ad * bd)
      have T2 : ∀ z : Int, (z.natAbs : Int) < P 41 → Sm z := fun z hz => Sm.of (k := 41) hz (by omega)
      obtain ⟨u0, u1⟩ := red_range (n := an) (d := ad) (p := p) (by omega)
      obtain ⟨v0, v1⟩ := red_range (n := bn) (d := bd) (p := p) (by omega)
      have m1 := mul_lt64 u0 (by omega) v0 (by omega)
      have d0 := Int.emod_nonneg ad (show p ≠ 0 by omega)
      have d1 := Int.emod_lt_of_pos ad (show 0 < p by omega)
      have m2 := mul_lt64 d0 (by omega) u0 (by omega)
      rw [ifn_f rfl, A5, Option.bind_some]
      dsimp only
      rw [e18r (T2 _ (by omega)) (T2 _ (by omega)) (by omega), if_neg (lowD_ne hp hD), red_sum hp hA hB, Option.bind_some, A6, Option.bind_some]
      dsimp only
      rw [e18r (T2 _ (by omega)) (T2 _ (by omega)) (by omega), if_neg (lowD_ne hp hD), red_prod hp hA hB, Option.bind_some, Option.bind_some]
      dsimp only
      rw [ife_f (by omega), ifd_t u1, ife_t rfl, ife_t rfl, ife_f (by omega), wu64 (x := red an ad p + red bn bd p) (by omega) (by omega), tm (by omega), ife_t rfl, ife_f (by omega), wu64 m1.1 m1.2, tm m1.1, ife_t rfl, A4, Option.bind_some]
      dsimp only
      rw [wu64 m2.1 m2.2, tm m2.1, ife_t (by rw [Int.mul_comm, Int.mul_emod, Int.emod_emod, ← Int.mul_emod]; exact red_mul hp hA)]
end Go.Refl.S3
