/-
  Fractions in the reference: lowest terms, numbers made, sums, products.
-/
import Derived.Test.YthgbejjenlfdnaaP12
set_option linter.unusedVariables false
set_option linter.unusedSimpArgs false
set_option maxRecDepth 100000
namespace Go.Refl.S3
open Go Go.Refl Go.Proofs

theorem so64 : SigsOk Try.prog cx64 := ⟨(lookAll_cons s42 lookAll_nil), lookAll_nil, lookAll_nil⟩
theorem in64 : ∀ f p, look cx64.inl f = some p → Try.prog.funcs[f]? = some p.1 ∧ (p.1.name == "runtime.NumGoroutine") = false := lookAll_nil
theorem ok64 {h : DL [(.pair .bool (.pair (.sl (.int .u32)) .unit)), (.pair .bool (.pair (.sl (.int .u32)) .unit))] → Option (DL [(.pair .bool (.pair (.sl (.int .u32)) .unit))])} (hw : ∀ x r, h x = some r → g64 x = some r) : SigOk Try.prog 64 ⟨[(.pair .bool (.pair (.sl (.int .u32)) .unit)), (.pair .bool (.pair (.sl (.int .u32)) .unit))], [(.pair .bool (.pair (.sl (.int .u32)) .unit))], h⟩ := (Fn_ok (anns := an64) mixed T_ok so64 in64 (f := 64) (fn := Try.f64) rfl rfl rfl [(.pair .bool (.pair (.sl (.int .u32)) .unit)), (.pair .bool (.pair (.sl (.int .u32)) .unit))] [(.pair .bool (.pair (.sl (.int .u32)) .unit))]).weaken hw
theorem e28 {y z : Int} (hy : Sm y) (hz : Sm z) : h28 (enc y, (enc z, ())) = some (enc (y * z), ()) := HI2_eq hy hz
theorem e39 {y z : Int} (hy : Sm y) (hz : Sm z) : h39 (enc y, (enc z, ())) = some (enc (y + z), ()) := HI2_eq hy hz
theorem e61 {y z : Int} (hy : Sm y) (hz : Sm z) : h61 (enc y, (enc z, ())) = some (enc (Int.gcd y z : Nat), ()) := HI2_eq hy hz
theorem e35 {z : Int} (h : Sm z) : h35 (enc z, ()) = some (enc (-z), ()) := HI1_eq h
theorem e64 {y z : Int} (hy : Sm y) (hz : Sm z) : h64 (enc y, (enc z, ())) = some (enc (y / z), ()) := HI2_eq hy hz
theorem e40 {y z : Int} (hy : Sm y) (hz : Sm z) : h40 (enc y, (enc z, ())) = some (encR (lowN y z) (lowD y z), ()) := HI2_eq hy hz
theorem s64 : SigOk Try.prog 64 ⟨[tInt, tInt], [tInt], h64⟩ := ok64 (hi2 fun y z hy hz => by
  have E1 : h42 (((enc y).1, ((enc y).2.1, ())), (((enc z).1, ((enc z).2.1, ())), ())) = some (qr y z) := e42 hy hz
  rw [g64_eq, E1, Option.bind_some]
  by_cases h0 : z = 0
  · subst h0
    unfold qr
    rw [if_pos rfl, Int.ediv_zero]
  · rw [qr_of h0])
theorem so40 : SigsOk Try.prog cx40 := ⟨(lookAll_cons s31 (lookAll_cons s35 (lookAll_cons s61 (lookAll_cons s64 lookAll_nil)))), lookAll_nil, lookAll_nil⟩
theorem in40 : ∀ f p, look cx40.inl f = some p → Try.prog.funcs[f]? = some p.1 ∧ (p.1.name == "runtime.NumGoroutine") = false := lookAll_nil
theorem ok40 {h : DL [(.pair .bool (.pair (.sl (.int .u32)) .unit)), (.pair .bool (.pair (.sl (.int .u32)) .unit))] → Option (DL [(.pair (.pair .bool (.pair (.sl (.int .u32)) .unit)) (.pair (.pair .bool (.pair (.sl (.int .u32)) .unit)) .unit))])} (hw : ∀ x r, h x = some r → g40 x = some r) : SigOk Try.prog 40 ⟨[(.pair .bool (.pair (.sl (.int .u32)) .unit)), (.pair .bool (.pair (.sl (.int .u32)) .unit))], [(.pair (.pair .bool (.pair (.sl (.int .u32)) .unit)) (.pair (.pair .bool (.pair (.sl (.int .u32)) .unit)) .unit))], h⟩ := (Fn_ok (anns := an40) mixed T_ok so40 in40 (f := 40) (fn := Try.f40) rfl rfl rfl [(.pair .bool (.pair (.sl (.int .u32)) .unit)), (.pair .bool (.pair (.sl (.int .u32)) .unit))] [(.pair (.pair .bool (.pair (.sl (.int .u32)) .unit)) (.pair (.pair .bool (.pair (.sl (.int .u32)) .unit)) .unit))]).weaken hw
theorem lowG_abs (n d : Int) : (lowG n d).natAbs = Int.gcd n d := by
  unfold lowG
  split <;> omega
theorem Sm.gcd {y z : Int} (hy : Sm y) (hz : Sm z) : Sm ((Int.gcd y z : Nat) : Int) := by
  unfold Sm at *
  rw [Int.natAbs_natCast]
  by_cases h0 : z = 0
  · subst h0
    rw [Int.gcd_zero_right]
    exact hy
  · have hle := Nat.le_of_dvd (show 0 < z.natAbs by omega) (Nat.gcd_dvd_right y.natAbs z.natAbs)
    have h1 := V_lt (dg_W z.natAbs)
    rw [V_dg] at h1
    have h2 : D ((Int.gcd y z : Nat) : Int) = dg (Int.gcd y z) := rfl
    have h3 := D_length (z := ((Int.gcd y z : Nat) : Int)) (k := (dg z.natAbs).length) (by unfold Int.gcd; omega)
    rw [h2] at h3
    omega
theorem s40 : SigOk Try.prog 40 ⟨[tInt, tInt], [tRat], h40⟩ := ok40 (hi2 fun y z hy hz => by
  have E1 : h61 (((enc y).1, ((enc y).2.1, ())), (((enc z).1, ((enc z).2.1, ())), ())) = some (enc (Int.gcd y z : Nat), ()) := e61 hy hz
  have E2 : h31 (((enc z).1, ((enc z).2.1, ())), ()) = some (sgn z, ()) := e31 hz
  have hg := Sm.gcd hy hz
  have E3 : h35 (((enc (Int.gcd y z : Nat)).1, ((enc (Int.gcd y z : Nat)).2.1, ())), ()) = some (enc (-((Int.gcd y z : Nat) : Int)), ()) := e35 hg
  have E4 : ∀ g, Sm g → h64 (((enc y).1, ((enc y).2.1, ())), (((enc g).1, ((enc g).2.1, ())), ())) = some (enc (y / g), ()) := fun g hg => e64 hy hg
  have E5 : ∀ g, Sm g → h64 (((enc z).1, ((enc z).2.1, ())), (((enc g).1, ((enc g).2.1, ())), ())) = some (enc (z / g), ()) := fun g hg => e64 hz hg
  rw [g40_eq, E1, Option.bind_some, E2, Option.bind_some]
  dsimp only
  unfold lowN lowD lowG
  by_cases h0 : z < 0
  · rw [ifd_t (sgn_neg.2 h0), E3, Option.bind_some, if_pos h0]
    dsimp only
    rw [E4 _ hg.neg, Option.bind_some, E5 _ hg.neg, Option.bind_some]
    rfl
  · rw [ifd_f (fun h => h0 (sgn_neg.1 h)), if_neg h0, E4 _ hg, Option.bind_some, E5 _ hg, Option.bind_some]
    rfl)
theorem so15 : SigsOk Try.prog cx15 := ⟨(lookAll_cons s27 (lookAll_cons s28 (lookAll_cons s39 (lookAll_cons s40 lookAll_nil)))), lookAll_nil, lookAll_nil⟩
theorem in15 : ∀ f p, look cx15.inl f = some p → Try.prog.funcs[f]? = some p.1 ∧ (p.1.name == "runtime.NumGoroutine") = false := lookAll_nil
theorem ok15 {h : DL [(.pair (.int .i8) (.pair (.int .i8) (.pair (.int .u8) .unit)))] → Option (DL [(.pair (.pair .bool (.pair (.sl (.int .u32)) .unit)) (.pair (.pair .bool (.pair (.sl (.int .u32)) .unit)) .unit))])} (hw : ∀ x r, h x = some r → g15 x = some r) : SigOk Try.prog 15 ⟨[(.pair (.int .i8) (.pair (.int .i8) (.pair (.int .u8) .unit)))], [(.pair (.pair .bool (.pair (.sl (.int .u32)) .unit)) (.pair (.pair .bool (.pair (.sl (.int .u32)) .unit)) .unit))], h⟩ := (Fn_ok (anns := an15) mixed T_ok so15 in15 (f := 15) (fn := Try.f15) rfl rfl rfl [(.pair (.int .i8) (.pair (.int .i8) (.pair (.int .u8) .unit)))] [(.pair (.pair .bool (.pair (.sl (.int .u32)) .unit)) (.pair (.pair .bool (.pair (.sl (.int .u32)) .unit)) .unit))]).weaken hw
theorem P_ten : P 10 = 2135987035920910082395021706169552114602704522356652769947041607822219725780640550022962086936576 := rfl
theorem Sm.ten {z : Int} (h : (z.natAbs : Int) < P 10) : Sm z := Sm.of (k := 10) h (by omega)
theorem mul_abs {a b A B : Int} (ha : (a.natAbs : Int) ≤ A) (hb : (b.natAbs : Int) ≤ B) : ((a * b).natAbs : Int) ≤ A * B := by
  rw [Int.natAbs_mul, Int.natCast_mul]
  exact Int.mul_le_mul ha hb (by omega) (by omega)
theorem rw_bounds {x : DRaw} (h : OkRaw x) : ((rwN x).natAbs : Int) < 3000000000000000000000000000000000000000000 ∧ ((rwD x).natAbs : Int) < 3000000000000000000000000000000000000000000 ∧ rwD x ≠ 0 ∧ ((x.1 * (4611686018427387904 + x.2.2.1)).natAbs : Int) < 3000000000000000000000000000000000000000000 ∧ ((x.1 * (4611686018427387904 + x.2.2.1) * (4611686018427387904 + x.2.2.1)).natAbs : Int) < 3000000000000000000000000000000000000000000 ∧ ((rwD0 x * (4611686018427387904 + x.2.2.1)).natAbs : Int) < 3000000000000000000000000000000000000000000 := by
  obtain ⟨⟨a1, a2⟩, ⟨b1, b2⟩, c1, c2⟩ := h
  have hb : ((4611686018427387904 + x.2.2.1).natAbs : Int) ≤ 4611686018427388159 := by omega
  have h1 := mul_abs (a := x.1) (A := 128) (by omega) hb
  have h2 := mul_abs h1 hb
  have hd0 : ((rwD0 x).natAbs : Int) ≤ 128 ∧ rwD0 x ≠ 0 := by
    unfold rwD0
    split <;> omega
  have h3 := mul_abs hd0.1 hb
  have h4 := mul_abs h3 hb
  refine ⟨?_, ?_, ?_, by omega, by omega, by omega⟩
  · unfold rwN
    split <;> omega
  · unfold rwD
    split <;> omega
  · unfold rwD
    split
    · intro h
      rcases Int.mul_eq_zero.1 h with h | h
      · rcases Int.mul_eq_zero.1 h with h | h
        · exact hd0.2 h
        · omega
      · omega
    · exact hd0.2
theorem s15 : SigOk Try.prog 15 ⟨[tRaw], [tRat], h15⟩ := ok15 fun (x : DRaw × Unit) r h => by
  obtain ⟨hok, rfl⟩ := when_some h
  obtain ⟨x, u⟩ := x
  replace hok : OkRaw x := hok
  show g15 (x, ()) = some (encR (mdN x) (mdD x), ())
  obtain ⟨r1, r2, r3, r4, r5, r6⟩ := rw_bounds hok
  obtain ⟨⟨a1, a2⟩, ⟨b1, b2⟩, c1, c2⟩ := hok
  have T : ∀ z : Int, (z.natAbs : Int) < 3000000000000000000000000000000000000000000 → Sm z := fun z hz => Sm.ten (by rw [P_ten]; omega)
  have hbig : Sm (4611686018427387904 + x.2.2.1) := T _ (by omega)
  have M1 : h28 (((enc x.1).1, ((enc x.1).2.1, ())), (((enc (4611686018427387904 + x.2.2.1)).1, ((enc (4611686018427387904 + x.2.2.1)).2.1, ())), ())) = some (enc (x.1 * (4611686018427387904 + x.2.2.1)), ()) := e28 (T _ (by omega)) hbig
  have M2 : h28 (enc (x.1 * (4611686018427387904 + x.2.2.1)), (((enc (4611686018427387904 + x.2.2.1)).1, ((enc (4611686018427387904 + x.2.2.1)).2.1, ())), ())) = some (enc (x.1 * (4611686018427387904 + x.2.2.1) * (4611686018427387904 + x.2.2.1)), ()) := e28 (T _ r4) hbig
  have M3 : h39 (enc (x.1 * (4611686018427387904 + x.2.2.1) * (4611686018427387904 + x.2.2.1)), (enc x.2.2.1, ())) = some (enc (x.1 * (4611686018427387904 + x.2.2.1) * (4611686018427387904 + x.2.2.1) + x.2.2.1), ()) := e39 (T _ r5) (T _ (by omega))
  have M4 : ∀ z, ((z * (4611686018427387904 + x.2.2.1)).natAbs : Int) < 3000000000000000000000000000000000000000000 → (z.natAbs : Int) ≤ 128 → h28 (((enc z).1, ((enc z).2.1, ())), (((enc (4611686018427387904 + x.2.2.1)).1, ((enc (4611686018427387904 + x.2.2.1)).2.1, ())), ())) = some (enc (z * (4611686018427387904 + x.2.2.1)), ()) := fun z _ hz => e28 (T _ (by omega)) hbig
  have M5 : ∀ z, ((z * (4611686018427387904 + x.2.2.1)).natAbs : Int) < 3000000000000000000000000000000000000000000 → h28 (enc (z * (4611686018427387904 + x.2.2.1)), (((enc (4611686018427387904 + x.2.2.1)).1, ((enc (4611686018427387904 + x.2.2.1)).2.1, ())), ())) = some (enc (z * (4611686018427387904 + x.2.2.1) * (4611686018427387904 + x.2.2.1)), ()) := fun z hz => e28 (T _ hz) hbig
  have L : ∀ n d, Sm n → Sm d → h40 (((enc n).1, ((enc n).2.1, ())), (((enc d).1, ((enc d).2.1, ())), ())) = some (encR (lowN n d) (lowD n d), ()) := fun n d hn hd => e40 hn hd
  have hN := T _ r1
  have hD := T _ r2
  unfold mdN mdD
  rw [g15_eq, wi64 (x := x.1) (by omega) (by omega), wi64 (x := x.2.1) (by omega) (by omega), wi64 (x := x.2.2.1) (by omega) (by omega), wi64 (x := 4611686018427387904 + x.2.2.1) (by omega) (by omega), e27 (by omega), Option.bind_some, e27 (by omega), Option.bind_some, tm c1]
  dsimp only
  by_cases hd : x.2.1 = 0
  · have e0 : rwD0 x = 1 := by unfold rwD0; rw [if_pos hd]
    rw [ife_t hd, e27 (by omega), Option.bind_some, e27 (by omega), Option.bind_some]
    dsimp only
    by_cases k7 : x.2.2.1 % 8 = 7
    · have eN : rwN x = x.1 * (4611686018427387904 + x.2.2.1) * (4611686018427387904 + x.2.2.1) + x.2.2.1 := by unfold rwN; rw [if_pos k7]
      have eD : rwD x = 1 := by unfold rwD; rw [if_neg (by omega), e0]
      rw [eN] at hN ⊢
      rw [eD] at hD ⊢
      rw [ife_t k7, M1, Option.bind_some]
      dsimp only
      rw [M2, Option.bind_some, e27 (by omega), Option.bind_some]
      dsimp only
      rw [M3, Option.bind_some, ife_f (by omega)]
      dsimp only
      rw [L _ _ hN hD, Option.bind_some]
    · have eN : rwN x = x.1 := by unfold rwN; rw [if_neg k7]
      rw [eN] at hN ⊢
      rw [ife_f k7]
      by_cases k6 : x.2.2.1 % 8 = 6
      · have eD : rwD x = 1 * (4611686018427387904 + x.2.2.1) * (4611686018427387904 + x.2.2.1) := by unfold rwD; rw [if_pos k6, e0]
        rw [e0] at r6
        rw [eD] at hD ⊢
        rw [ife_t k6, M4 1 r6 (by omega), Option.bind_some]
        dsimp only
        rw [M5 1 r6, Option.bind_some]
        dsimp only
        rw [L _ _ hN hD, Option.bind_some]
      · have eD : rwD x = 1 := by unfold rwD; rw [if_neg k6, e0]
        rw [eD] at hD ⊢
        rw [ife_f k6, L _ _ hN hD, Option.bind_some]
  · have e0 : rwD0 x = x.2.1 := by unfold rwD0; rw [if_neg hd]
    rw [ife_f hd, e27 (by omega), Option.bind_some]
    dsimp only
    by_cases k7 : x.2.2.1 % 8 = 7
    · have eN : rwN x = x.1 * (4611686018427387904 + x.2.2.1) * (4611686018427387904 + x.2.2.1) + x.2.2.1 := by unfold rwN; rw [if_pos k7]
      have eD : rwD x = x.2.1 := by unfold rwD; rw [if_neg (by omega), e0]
      rw [eN] at hN ⊢
      rw [eD] at hD ⊢
      rw [ife_t k7, M1, Option.bind_some]
      dsimp only
      rw [M2, Option.bind_some, e27 (by omega), Option.bind_some]
      dsimp only
      rw [M3, Option.bind_some, ife_f (by omega)]
      dsimp only
      rw [L _ _ hN hD, Option.bind_some]
    · have eN : rwN x = x.1 := by unfold rwN; rw [if_neg k7]
      rw [eN] at hN ⊢
      rw [ife_f k7]
      by_cases k6 : x.2.2.1 % 8 = 6
      · have eD : rwD x = x.2.1 * (4611686018427387904 + x.2.2.1) * (4611686018427387904 + x.2.2.1) := by unfold rwD; rw [if_pos k6, e0]
        rw [e0] at r6
        rw [eD] at hD ⊢
        rw [ife_t k6, M4 x.2.1 r6 (by omega), Option.bind_some]
        dsimp only
        rw [M5 x.2.1 r6, Option.bind_some]
        dsimp only
        rw [L _ _ hN hD, Option.bind_some]
      · have eD : rwD x = x.2.1 := by unfold rwD; rw [if_neg k6, e0]
        rw [eD] at hD ⊢
        rw [ife_f k6, L _ _ hN hD, Option.bind_some]
theorem e15 {x : DRaw} (h : OkRaw x) : h15 (x, ()) = some (encR (mdN x) (mdD x), ()) := when_pos h

theorem so23 : SigsOk Try.prog cx23 := ⟨(lookAll_cons s28 (lookAll_cons s39 (lookAll_cons s40 lookAll_nil))), lookAll_nil, lookAll_nil⟩
theorem in23 : ∀ f p, look cx23.inl f = some p → Try.prog.funcs[f]? = some p.1 ∧ (p.1.name == "runtime.NumGoroutine") = false := lookAll_nil
theorem ok23 {h : DL [(.pair (.pair .bool (.pair (.sl (.int .u32)) .unit)) (.pair (.pair .bool (.pair (.sl (.int .u32)) .unit)) .unit)), (.pair (.pair .bool (.pair (.sl (.int .u32)) .unit)) (.pair (.pair .bool (.pair (.sl (.int .u32)) .unit)) .unit))] → Option (DL [(.pair (.pair .bool (.pair (.sl (.int .u32)) .unit)) (.pair (.pair .bool (.pair (.sl (.int .u32)) .unit)) .unit))])} (hw : ∀ x r, h x = some r → g23 x = some r) : SigOk Try.prog 23 ⟨[(.pair (.pair .bool (.pair (.sl (.int .u32)) .unit)) (.pair (.pair .bool (.pair (.sl (.int .u32)) .unit)) .unit)), (.pair (.pair .bool (.pair (.sl (.int .u32)) .unit)) (.pair (.pair .bool (.pair (.sl (.int .u32)) .unit)) .unit))], [(.pair (.pair .bool (.pair (.sl (.int .u32)) .unit)) (.pair (.pair .bool (.pair (.sl (.int .u32)) .unit)) .unit))], h⟩ := (Fn_ok (anns := an23) mixed T_ok so23 in23 (f := 23) (fn := Try.f23) rfl rfl rfl [(.pair (.pair .bool (.pair (.sl (.int .u32)) .unit)) (.pair (.pair .bool (.pair (.sl (.int .u32)) .unit)) .unit)), (.pair (.pair .bool (.pair (.sl (.int .u32)) .unit)) (.pair (.pair .bool (.pair (.sl (.int .u32)) .unit)) .unit))] [(.pair (.pair .bool (.pair (.sl (.int .u32)) .unit)) (.pair (.pair .bool (.pair (.sl (.int .u32)) .unit)) .unit))]).weaken hw
theorem so24 : SigsOk Try.prog cx24 := ⟨(lookAll_cons s28 (lookAll_cons s40 lookAll_nil)), lookAll_nil, lookAll_nil⟩
theorem in24 : ∀ f p, look cx24.inl f = some p → Try.prog.funcs[f]? = some p.1 ∧ (p.1.name == "runtime.NumGoroutine") = false := lookAll_nil
theorem ok24 {h : DL [(.pair (.pair .bool (.pair (.sl (.int .u32)) .unit)) (.pair (.pair .bool (.pair (.sl (.int .u32)) .unit)) .unit)), (.pair (.pair .bool (.pair (.sl (.int .u32)) .unit)) (.pair (.pair .bool (.pair (.sl (.int .u32)) .unit)) .unit))] → Option (DL [(.pair (.pair .bool (.pair (.sl (.int .u32)) .unit)) (.pair (.pair .bool (.pair (.sl (.int .u32)) .unit)) .unit))])} (hw : ∀ x r, h x = some r → g24 x = some r) : SigOk Try.prog 24 ⟨[(.pair (.pair .bool (.pair (.sl (.int .u32)) .unit)) (.pair (.pair .bool (.pair (.sl (.int .u32)) .unit)) .unit)), (.pair (.pair .bool (.pair (.sl (.int .u32)) .unit)) (.pair (.pair .bool (.pair (.sl (.int .u32)) .unit)) .unit))], [(.pair (.pair .bool (.pair (.sl (.int .u32)) .unit)) (.pair (.pair .bool (.pair (.sl (.int .u32)) .unit)) .unit))], h⟩ := (Fn_ok (anns := an24) mixed T_ok so24 in24 (f := 24) (fn := Try.f24) rfl rfl rfl [(.pair (.pair .bool (.pair (.sl (.int .u32)) .unit)) (.pair (.pair .bool (.pair (.sl (.int .u32)) .unit)) .unit)), (.pair (.pair .bool (.pair (.sl (.int .u32)) .unit)) (.pair (.pair .bool (.pair (.sl (.int .u32)) .unit)) .unit))] [(.pair (.pair .bool (.pair (.sl (.int .u32)) .unit)) (.pair (.pair .bool (.pair (.sl (.int .u32)) .unit)) .unit))]).weaken hw
theorem P20_mul {a b : Int} (ha : (a.natAbs : Int) < P 20) (hb : (b.natAbs : Int) < P 20) : ((a * b).natAbs : Int) < P 40 := by
  have h1 := mul_abs (A := P 20) (B := P 20) (a := a) (b := b) (by omega) (by omega)
  rw [Int.natAbs_mul, Int.natCast_mul]
  have hp := P_pos 20
  have h3 : (a.natAbs : Int) * (b.natAbs : Int) ≤ (a.natAbs : Int) * P 20 := Int.mul_le_mul_of_nonneg_left (by omega) (by omega)
  have h4 : (a.natAbs : Int) * P 20 < P 20 * P 20 := Int.mul_lt_mul_of_pos_right ha hp
  have h5 : P 40 = P 20 * P 20 := P_add 20 20
  omega
theorem s23 : SigOk Try.prog 23 ⟨[tRat, tRat], [tRat], h23⟩ := ok23 fun (x : DRat × DRat × Unit) r h => by
  obtain ⟨⟨⟨⟨an, ha, _⟩, ⟨ad, hb, _⟩, ha20, hb20⟩, ⟨bn, hc, _⟩, ⟨bd, hd, _⟩, hc20, hd20⟩, rfl⟩ := when_some h
  obtain ⟨⟨xa, xb, u1⟩, ⟨xc, xd, u2⟩, u⟩ := x
  replace ha : xa = enc an := ha
  replace hb : xb = enc ad := hb
  replace hc : xc = enc bn := hc
  replace hd : xd = enc bd := hd
  subst ha; subst hb; subst hc; subst hd
  simp only [dec_enc] at ha20 hb20 hc20 hd20
  show g23 ((enc an, enc ad, ()), (enc bn, enc bd, ()), ()) = some (encR (lowN (dec (enc an) * dec (enc bd) + dec (enc bn) * dec (enc ad)) (dec (enc ad) * dec (enc bd))) (lowD (dec (enc an) * dec (enc bd) + dec (enc bn) * dec (enc ad)) (dec (enc ad) * dec (enc bd))), ())
  rw [dec_enc, dec_enc, dec_enc, dec_enc]
  have T : ∀ z : Int, (z.natAbs : Int) < P 20 → Sm z := fun z hz => Sm.of (k := 20) hz (by omega)
  have T2 : ∀ z : Int, (z.natAbs : Int) < P 40 → Sm z := fun z hz => Sm.of (k := 40) hz (by omega)
  have p1 := P20_mul ha20 hd20
  have p2 := P20_mul hc20 hb20
  have p3 := P20_mul hb20 hd20
  have hP : P 41 = 4294967296 * P 40 := P_succ 40
  have A1 : h28 (((enc an).1, ((enc an).2.1, ())), (((enc bd).1, ((enc bd).2.1, ())), ())) = some (enc (an * bd), ()) := e28 (T _ ha20) (T _ hd20)
  have A2 : h28 (((enc bn).1, ((enc bn).2.1, ())), (((enc ad).1, ((enc ad).2.1, ())), ())) = some (enc (bn * ad), ()) := e28 (T _ hc20) (T _ hb20)
  have A3 : h28 (((enc ad).1, ((enc ad).2.1, ())), (((enc bd).1, ((enc bd).2.1, ())), ())) = some (enc (ad * bd), ()) := e28 (T _ hb20) (T _ hd20)
  have hs : Sm (an * bd + bn * ad) := Sm.of (k := 41) (by omega) (by omega)
  rw [g23_eq]
  dsimp only
  rw [A1, Option.bind_some, A2, Option.bind_some]
  dsimp only
  rw [e39 (T2 _ p1) (T2 _ p2), Option.bind_some, A3, Option.bind_some]
  dsimp only
  rw [e40 hs (T2 _ p3), Option.bind_some]
theorem s24 : SigOk Try.prog 24 ⟨[tRat, tRat], [tRat], h24⟩ := ok24 fun (x : DRat × DRat × Unit) r h => by
  obtain ⟨⟨⟨⟨an, ha, _⟩, ⟨ad, hb, _⟩, ha20, hb20⟩, ⟨bn, hc, _⟩, ⟨bd, hd, _⟩, hc20, hd20⟩, rfl⟩ := when_some h
  obtain ⟨⟨xa, xb, u1⟩, ⟨xc, xd, u2⟩, u⟩ := x
  replace ha : xa = enc an := ha
  replace hb : xb = enc ad := hb
  replace hc : xc = enc bn := hc
  replace hd : xd = enc bd := hd
  subst ha; subst hb; subst hc; subst hd
  simp only [dec_enc] at ha20 hb20 hc20 hd20
  show g24 ((enc an, enc ad, ()), (enc bn, enc bd, ()), ()) = some (encR (lowN (dec (enc an) * dec (enc bn)) (dec (enc ad) * dec (enc bd))) (lowD (dec (enc an) * dec (enc bn)) (dec (enc ad) * dec (enc bd))), ())
  rw [dec_enc, dec_enc, dec_enc, dec_enc]
  have T : ∀ z : Int, (z.natAbs : Int) < P 20 → Sm z := fun z hz => Sm.of (k := 20) hz (by omega)
  have T2 : ∀ z : Int, (z.natAbs : Int) < P 40 → Sm z := fun z hz => Sm.of (k := 40) hz (by omega)
  have A1 : h28 (((enc an).1, ((enc an).2.1, ())), (((enc bn).1, ((enc bn).2.1, ())), ())) = some (enc (an * bn), ()) := e28 (T _ ha20) (T _ hc20)
  have A3 : h28 (((enc ad).1, ((enc ad).2.1, ())), (((enc bd).1, ((enc bd).2.1, ())), ())) = some (enc (ad * bd), ()) := e28 (T _ hb20) (T _ hd20)
  rw [g24_eq]
  dsimp only
  rw [A1, Option.bind_some, A3, Option.bind_some]
  dsimp only
  rw [e40 (T2 _ (P20_mul ha20 hc20)) (T2 _ (P20_mul hb20 hd20)), Option.bind_some]
theorem e23 {an ad bn bd : Int} (h1 : (an.natAbs : Int) < P 20) (h2 : (ad.natAbs : Int) < P 20) (h3 : (bn.natAbs : Int) < P 20) (h4 : (bd.natAbs : Int) < P 20) : h23 (encR an ad, (encR bn bd, ())) = some (encR (lowN (an * bd + bn * ad) (ad * bd)) (lowD (an * bd + bn * ad) (ad * bd)), ()) := by
  have T : ∀ z : Int, (z.natAbs : Int) < P 20 → Is (enc z) := fun z hz => Is.enc (Sm.of (k := 20) hz (by omega))
  show when (Mod20 (encR an ad) ∧ Mod20 (encR bn bd)) (encR (lowN (dec (enc an) * dec (enc bd) + dec (enc bn) * dec (enc ad)) (dec (enc ad) * dec (enc bd))) (lowD (dec (enc an) * dec (enc bd) + dec (enc bn) * dec (enc ad)) (dec (enc ad) * dec (enc bd))), ()) = _
  rw [dec_enc, dec_enc, dec_enc, dec_enc, when_pos]
  exact ⟨⟨T _ h1, T _ h2, by show ((dec (enc an)).natAbs : Int) < _; rw [dec_enc]; exact h1, by show ((dec (enc ad)).natAbs : Int) < _; rw [dec_enc]; exact h2⟩, T _ h3, T _ h4, by show ((dec (enc bn)).natAbs : Int) < _; rw [dec_enc]; exact h3, by show ((dec (enc bd)).natAbs : Int) < _; rw [dec_enc]; exact h4⟩
theorem e24 {an ad bn bd : Int} (h1 : (an.natAbs : Int) < P 20) (h2 : (ad.natAbs : Int) < P 20) (h3 : (bn.natAbs : Int) < P 20) (h4 : (bd.natAbs : Int) < P 20) : h24 (encR an ad, (encR bn bd, ())) = some (encR (lowN (an * bn) (ad * bd)) (lowD (an * bn) (ad * bd)), ()) := by
  have T : ∀ z : Int, (z.natAbs : Int) < P 20 → Is (enc z) := fun z hz => Is.enc (Sm.of (k := 20) hz (by omega))
  show when (Mod20 (encR an ad) ∧ Mod20 (encR bn bd)) (encR (lowN (dec (enc an) * dec (enc bn)) (dec (enc ad) * dec (enc bd))) (lowD (dec (enc an) * dec (enc bn)) (dec (enc ad) * dec (enc bd))), ()) = _
  rw [dec_enc, dec_enc, dec_enc, dec_enc, when_pos]
  exact ⟨⟨T _ h1, T _ h2, by show ((dec (enc an)).natAbs : Int) < _; rw [dec_enc]; exact h1, by show ((dec (enc ad)).natAbs : Int) < _; rw [dec_enc]; exact h2⟩, T _ h3, T _ h4, by show ((dec (enc bn)).natAbs : Int) < _; rw [dec_enc]; exact h3, by show ((dec (enc bd)).natAbs : Int) < _; rw [dec_enc]; exact h4⟩
end Go.Refl.S3
