import Derived.Test.YthgbejjenlfdnaaQ16
import Derived.KernelRfl
/-
  PRINTED BY PROGRAM: what the bodies of some functions compute, loop by loop; each equation is checked by the kernel.
-/
set_option linter.unusedVariables false
set_option maxRecDepth 100000
namespace Go.Refl.S3
open Go Go.Refl Go.Proofs

noncomputable def cx60 : Cx := { types := T, sigs := [(27, ⟨[(.int .i64)], [(.pair .bool (.pair (.sl (.int .u32)) .unit))], h27⟩), (32, ⟨[(.pair .bool (.pair (.sl (.int .u32)) .unit)), (.pair .bool (.pair (.sl (.int .u32)) .unit))], [(.int .i64)], h32⟩), (39, ⟨[(.pair .bool (.pair (.sl (.int .u32)) .unit)), (.pair .bool (.pair (.sl (.int .u32)) .unit))], [(.pair .bool (.pair (.sl (.int .u32)) .unit))], h39⟩), (79, ⟨[(.pair .bool (.pair (.sl (.int .u32)) .unit))], [(.int .i64)], h79⟩), (80, ⟨[(.pair .bool (.pair (.sl (.int .u32)) .unit)), (.int .i64)], [(.pair .bool (.pair (.sl (.int .u32)) .unit))], h80⟩)], muts := [] }
def an60 : List (Nat × Ann) := [(10, { keep := 406 })]
noncomputable def g60 : DL [(.pair .bool (.pair (.sl (.int .u32)) .unit)), (.int .i64)] → Option (DL [(.pair .bool (.pair (.sl (.int .u32)) .unit)), (.int .i64)]) := Fn cx60 an60 Try.f60 [(.pair .bool (.pair (.sl (.int .u32)) .unit)), (.int .i64)] [(.pair .bool (.pair (.sl (.int .u32)) .unit)), (.int .i64)]
noncomputable def g60_L10 (t1 : Int) (t8 : Int) (v0 : Bool) (v0_1 : (List Int)) (v1 : Bool) (v1_1 : (List Int)) (v8193 : Bool) (v8193_1 : (List Int)) : Option (DL [(.pair .bool (.pair (.sl (.int .u32)) .unit)), (.int .i64)]) := Lp cx60 an60 Try.f60 [(.pair .bool (.pair (.sl (.int .u32)) .unit)), (.int .i64)] [true, true, true, true, true, true, false, true, false] ⟨[.undef, .val (.int .i64) t1, .ptr 0 [], .undef, .ptr 1 [], .undef, .undef, .ptr 8193 [], .val (.int .i64) t8, .undef, .undef, .undef, .undef, .undef, .undef, .undef, .undef, .undef, .undef, .undef, .undef, .undef, .undef, .undef, .undef, .undef, .undef, .undef, .undef, .undef, .undef, .undef, .undef, .undef, .undef, .undef, .undef, .undef, .undef, .undef, .undef, .undef, .undef, .undef, .undef, .undef, .undef, .undef, .undef, .undef, .undef, .undef, .undef], ofL [(0, (.var (.pair .bool (.pair (.sl (.int .u32)) .unit)) (.pr (.val .bool v0) (.pr (.val (.sl (.int .u32)) v0_1) (.un))), false)), (1, (.var (.pair .bool (.pair (.sl (.int .u32)) .unit)) (.pr (.val .bool v1) (.pr (.val (.sl (.int .u32)) v1_1) (.un))), false)), (8193, (.var (.pair .bool (.pair (.sl (.int .u32)) .unit)) (.pr (.val .bool v8193) (.pr (.val (.sl (.int .u32)) v8193_1) (.un))), false))], [0, 1, 8193], []⟩
theorem g60_L10_eq (t1 : Int) (t8 : Int) (v0 : Bool) (v0_1 : (List Int)) (v1 : Bool) (v1_1 : (List Int)) (v8193 : Bool) (v8193_1 : (List Int)) : g60_L10 t1 t8 v0 v0_1 v1 v1_1 v8193 v8193_1 =
  if (decide (t8 ≥ 0)) = true then
    Option.bind (h27 (2, ())) fun (y2 : ((Bool × ((List Int) × Unit)) × Unit)) =>
    Option.bind (h80 (y2.1, (t8, ()))) fun (y3 : ((Bool × ((List Int) × Unit)) × Unit)) =>
    Option.bind (h39 ((v8193, (v8193_1, ())), (y3.1, ()))) fun (y4 : ((Bool × ((List Int) × Unit)) × Unit)) =>
    Option.bind (h80 ((y4.1.1, (y4.1.2.1, ())), (t1, ()))) fun (y5 : ((Bool × ((List Int) × Unit)) × Unit)) =>
    Option.bind (h32 (y5.1, ((v0, (v0_1, ())), ()))) fun (y6 : (Int × Unit)) =>
    if (decide (y6.1 ≤ 0)) = true then
      (g60_L10 t1 (IntKind.wrap .i64 (t8 - 1)) v0 v0_1 v1 v1_1 y4.1.1 y4.1.2.1)
    else (g60_L10 t1 (IntKind.wrap .i64 (t8 - 1)) v0 v0_1 v1 v1_1 v8193 v8193_1)
  else some ((v8193, (v8193_1, ())), (0, ())) := (Lp_eq cx60 an60 Try.f60 [(.pair .bool (.pair (.sl (.int .u32)) .unit)), (.int .i64)] [true, true, true, true, true, true, false, true, false] _).trans (by kernel_rfl)
theorem g60_eq (a : (Bool × ((List Int) × Unit))) (b : Int) : g60 (a, b, ()) =
  if a.1 = true then
    some ((false, ([], ())), (1, ()))
  else if (decide (b < 1)) = true then
    some ((false, ([], ())), (1, ()))
  else if (b == 1) = true then
    some ((a.1, (a.2.1, ())), (0, ()))
  else if (((List.length a.2.1) : Int) == 0) = true then
    some ((a.1, (a.2.1, ())), (0, ()))
  else Option.bind (h79 ((a.1, (a.2.1, ())), ())) fun (y0 : (Int × Unit)) =>
  if (decide (b ≥ y0.1)) = true then
    Option.bind (h27 (1, ())) fun (y1 : ((Bool × ((List Int) × Unit)) × Unit)) =>
    some ((y1.1.1, (y1.1.2.1, ())), (0, ()))
  else if (b == 0) = true then
    none
  else (g60_L10 b (IntKind.wrap .i64 (Int.tdiv y0.1 b)) a.1 a.2.1 false [] false []) := (Fn_eq rfl).trans (by kernel_rfl)


end Go.Refl.S3
/-
  The reference's root, the bound of a reconstruction.
-/
set_option linter.unusedVariables false
set_option linter.unusedSimpArgs false
set_option maxRecDepth 100000
namespace Go.Refl.S3
open Go Go.Refl Go.Proofs

theorem so60 : SigsOk Try.prog cx60 := ⟨(lookAll_cons s27 (lookAll_cons s32 (lookAll_cons s39 (lookAll_cons s79 (lookAll_cons s80 lookAll_nil))))), lookAll_nil, lookAll_nil⟩
theorem in60 : ∀ f p, look cx60.inl f = some p → Try.prog.funcs[f]? = some p.1 ∧ (p.1.name == "runtime.NumGoroutine") = false := lookAll_nil
theorem ok60 {h : DL [(.pair .bool (.pair (.sl (.int .u32)) .unit)), (.int .i64)] → Option (DL [(.pair .bool (.pair (.sl (.int .u32)) .unit)), (.int .i64)])} (hw : ∀ x r, h x = some r → g60 x = some r) : SigOk Try.prog 60 ⟨[(.pair .bool (.pair (.sl (.int .u32)) .unit)), (.int .i64)], [(.pair .bool (.pair (.sl (.int .u32)) .unit)), (.int .i64)], h⟩ := (Fn_ok (anns := an60) mixed T_ok so60 in60 (f := 60) (fn := Try.f60) rfl rfl rfl [(.pair .bool (.pair (.sl (.int .u32)) .unit)), (.int .i64)] [(.pair .bool (.pair (.sl (.int .u32)) .unit)), (.int .i64)]).weaken hw

theorem e79 {z : Int} (h : Sm z) : h79 (enc z, ()) = some ((bl z.natAbs : Int), ()) := e76 h
theorem e59 {y z : Int} (hy : Sm y) (hz : Sm z) : h59 (enc y, (enc z, ())) = some (enc (y - z), ()) := HI2_eq hy hz
theorem cmpI_le {a b : Int} : (cmpI a b ≤ 0) ↔ a ≤ b := by
  unfold cmpI
  split
  · omega
  · split <;> omega
theorem e32 {y z : Int} (hy : Sm y) (hz : Sm z) : h32 (enc y, (enc z, ())) = some (cmpI y z, ()) := by
  show when (Is (enc y) ∧ Is (enc z)) (cmpI (dec (enc y)) (dec (enc z)), ()) = _
  rw [when_pos ⟨Is.enc hy, Is.enc hz⟩, dec_enc, dec_enc]
theorem L60 (z : Int) (hz : 0 ≤ z) (hz1 : z < P 100) (v1 : Bool) (l1 : List Int) : ∀ k : Nat, k ≤ 1700 → ∀ r : Int, 0 ≤ r → r * r ≤ z → z < (r + ((2 ^ k : Nat) : Int)) * (r + ((2 ^ k : Nat) : Int)) →
    g60_L10 2 ((k : Int) - 1) (enc z).1 (enc z).2.1 v1 l1 (enc r).1 (enc r).2.1 = some (enc (isq z), (0, ())) := by
  have hP1 : P 101 = 4294967296 * P 100 := P_succ 100
  have hPp := P_pos 100
  have hP2 : P 202 = P 101 * P 101 := P_add 101 101
  have hsz : Sm z := Sm.of (k := 100) (by omega) (by omega)
  intro k
  induction k with
  | zero =>
    intro hk r hr h1 h2
    rw [g60_L10_eq, ifd_f (by omega)]
    have : isq z = r := isq_eq hr h1 (by simpa using h2)
    rw [this]
  | succ k ih =>
    intro hk r hr h1 h2
    have hrz : r ≤ z := by
      by_cases h : r = 0
      · omega
      · have : r * 1 ≤ r * r := Int.mul_le_mul_of_nonneg_left (by omega) hr
        omega
    have hw := pow_lt_Bg (e := k) (k := 60) (by omega)
    have hB := Bg_P 60
    have hB2 := P_le (show 60 ≤ 100 by omega)
    have hk2 : (2 : Nat) ^ (k + 1) = 2 ^ k * 2 := Nat.pow_succ 2 k
    have hpos := Nat.two_pow_pos k
    have E1 : h80 (((enc 2).1, ((enc 2).2.1, ())), (((k + 1 : Nat) : Int) - 1, ())) = some (enc ((2 ^ k : Nat) : Int), ()) := by
      have := e80 (a := 2) (n := ((k + 1 : Nat) : Int) - 1) (Sm.small (by omega)) (by omega) (by omega) (by omega) (by
        rw [show (((k + 1 : Nat) : Int) - 1).toNat = k by omega]
        exact Nat.lt_of_lt_of_le hw (Bg_mono (by omega)))
      rw [show (((k + 1 : Nat) : Int) - 1).toNat = k by omega] at this
      rw [Int.natCast_pow]
      exact this
    generalize (2 ^ k : Nat) = w at *
    have E2 : h39 (((enc r).1, ((enc r).2.1, ())), (enc (w : Int), ())) = some (enc (r + w), ()) := HI2_eq (Sm.of (k := 100) (by omega) (by omega)) (Sm.of (k := 100) (by omega) (by omega))
    have hy2 : (r + w) * (r + w) < P 202 := by
      have h3 := sq_mono (r := r + w) (s := P 101 - 1) (by omega) (by omega)
      have h4 : (P 101 - 1) * (P 101 - 1) = P 101 * P 101 - 2 * P 101 + 1 := by grind
      omega
    have hpow : (r + w : Int) ^ (2 : Int).toNat = (r + w) * (r + w) := by
      rw [show (2 : Int).toNat = 2 from rfl, Int.pow_succ, Int.pow_succ, Int.pow_zero, Int.one_mul]
    have hnn : 0 ≤ (r + w : Int) * (r + w) := Int.mul_nonneg (by omega) (by omega)
    have E3 : h80 (((enc (r + w)).1, ((enc (r + w)).2.1, ())), (2, ())) = some (enc ((r + w) * (r + w)), ()) := by
      have := e80 (a := r + w) (n := 2) (Sm.of (k := 101) (by omega) (by omega)) (by omega) (by omega) (by omega) (by
        rw [show (2 : Int).toNat = 2 from rfl, ← abs_pow]
        rw [show (2 : Int).toNat = 2 from rfl] at hpow
        rw [hpow]
        have h5 := Bg_P 202
        have h6 := Bg_mono (show 202 ≤ 100000 by omega)
        omega)
      rw [hpow] at this
      exact this
    have E4 : h32 (enc ((r + w) * (r + w)), (((enc z).1, ((enc z).2.1, ())), ())) = some (cmpI ((r + w) * (r + w)) z, ()) := e32 (Sm.of (k := 202) (by omega) (by omega)) hsz
    rw [g60_L10_eq, ifd_t (by omega), e27 (by omega), Option.bind_some]
    dsimp only
    rw [show h80 (enc 2, (((k + 1 : Nat) : Int) - 1, ())) = _ from E1, Option.bind_some, E2, Option.bind_some]
    dsimp only
    rw [E3, Option.bind_some]
    dsimp only
    rw [E4, Option.bind_some, wi64 (by omega) (by omega), show ((k + 1 : Nat) : Int) - 1 - 1 = (k : Int) - 1 by omega]
    dsimp only
    by_cases hc : (r + w) * (r + w) ≤ z
    · rw [ifd_t (cmpI_le.2 hc)]
      refine ih (by omega) (r + w) (by omega) hc ?_
      rw [hk2, Int.natCast_mul] at h2
      rw [show r + w + w = r + (w : Int) * ((2 : Nat) : Int) by omega]
      exact h2
    · rw [ifd_f (fun h => hc (cmpI_le.1 h))]
      exact ih (by omega) r hr h1 (by omega)
theorem s60 : SigOk Try.prog 60 ⟨[tInt, .int .i64], [tInt, .int .i64], h60⟩ := ok60 fun (x : DInt × Int × Unit) r h => by
  obtain ⟨⟨⟨z, hz, hs⟩, hk, h0, h1⟩, rfl⟩ := when_some h
  obtain ⟨a, k, u⟩ := x
  replace hz : a = enc z := hz
  replace hk : k = 2 := hk
  subst hz; subst hk
  replace h0 : 0 ≤ dec (enc z) := h0
  replace h1 : dec (enc z) < P 100 := h1
  show g60 (enc z, 2, ()) = some (enc (isq (dec (enc z))), (0, ()))
  rw [dec_enc] at h0 h1 ⊢
  have E1 : h79 (((enc z).1, ((enc z).2.1, ())), ()) = some ((bl z.natAbs : Int), ()) := e79 hs
  rw [g60_eq, ifb_f (by rw [enc_1]; simpa using h0), ifd_f (by omega), ife_f (by omega)]
  by_cases hz0 : z = 0
  · subst hz0
    rw [ife_t (show ((List.length (enc 0).2.1 : Nat) : Int) = 0 by rw [enc_2]; rw [show (0 : Int).natAbs = 0 from rfl, dg_zero]; rfl)]
    have : isq 0 = 0 := isq_eq (by omega) (by omega) (by omega)
    rw [this]
  have hlen : ((List.length (enc z).2.1 : Nat) : Int) ≠ 0 := by
    have := (D_len_pos h0).2 hz0
    rw [enc_2, dg_D z, show (z.natAbs : Int) = z by omega]
    omega
  rw [ife_f hlen, E1, Option.bind_some]
  dsimp only
  have hlt := bl_lt z.natAbs
  by_cases hb : (2 : Int) ≥ (bl z.natAbs : Int)
  · have hz4 : z < 4 := by
      have : 2 ^ bl z.natAbs ≤ 2 ^ 2 := Nat.pow_le_pow_right (by omega) (by omega)
      omega
    rw [ifd_t hb, e27 (by omega), Option.bind_some]
    have : isq z = 1 := isq_eq (by omega) (by omega) (by omega)
    rw [this]
  · have hbits : bl z.natAbs ≤ 3200 := by
      refine bl_small 3200 ?_
      have e3 := Bg_P 100
      have e4 := Bg_two 100
      rw [show 32 * 100 = 3200 from rfl] at e4
      omega
    generalize bl z.natAbs = B at *
    rw [ifd_f hb, ife_f (by omega), td (by omega), wi64 (by omega) (by omega), show (B : Int) / 2 = ((B / 2 + 1 : Nat) : Int) - 1 by omega]
    have e00 : enc 0 = (false, [], ()) := by
      show (decide ((0 : Int) < 0), dg (0 : Int).natAbs, ()) = _
      rw [show (0 : Int).natAbs = 0 from rfl, dg_zero]
      rfl
    have hL := L60 z h0 h1 false [] (B / 2 + 1) (by omega) 0 (by omega) (by omega)
    rw [e00] at hL
    refine hL ?_
    have h4 : ((2 ^ (B / 2 + 1) : Nat) : Int) * ((2 ^ (B / 2 + 1) : Nat) : Int) = ((2 ^ (B / 2 + 1 + (B / 2 + 1)) : Nat) : Int) := by rw [← Int.natCast_mul, ← Nat.pow_add]
    have h5 : 2 ^ B ≤ 2 ^ (B / 2 + 1 + (B / 2 + 1)) := Nat.pow_le_pow_right (by omega) (by omega)
    rw [Int.zero_add, h4]
    omega
theorem e60 {z : Int} (h0 : 0 ≤ z) (h1 : z < P 100) : h60 (enc z, (2, ())) = some (enc (isq z), (0, ())) := e54 h0 h1

theorem so34 : SigsOk Try.prog cx34 := ⟨(lookAll_cons s27 (lookAll_cons s42 (lookAll_cons s59 (lookAll_cons s60 lookAll_nil)))), lookAll_nil, lookAll_nil⟩
theorem in34 : ∀ f p, look cx34.inl f = some p → Try.prog.funcs[f]? = some p.1 ∧ (p.1.name == "runtime.NumGoroutine") = false := lookAll_nil
theorem ok34 {h : DL [(.pair .bool (.pair (.sl (.int .u32)) .unit))] → Option (DL [(.pair .bool (.pair (.sl (.int .u32)) .unit))])} (hw : ∀ x r, h x = some r → g34 x = some r) : SigOk Try.prog 34 ⟨[(.pair .bool (.pair (.sl (.int .u32)) .unit))], [(.pair .bool (.pair (.sl (.int .u32)) .unit))], h⟩ := (Fn_ok (anns := an34) mixed T_ok so34 in34 (f := 34) (fn := Try.f34) rfl rfl rfl [(.pair .bool (.pair (.sl (.int .u32)) .unit))] [(.pair .bool (.pair (.sl (.int .u32)) .unit))]).weaken hw

theorem s34 : SigOk Try.prog 34 ⟨[tInt], [tInt], h34⟩ := ok34 fun (x : DInt × Unit) r h => by
  obtain ⟨⟨⟨m, hm, hs⟩, h0, h1⟩, rfl⟩ := when_some h
  obtain ⟨a, u⟩ := x
  replace hm : a = enc m := hm
  subst hm
  replace h0 : 1 ≤ dec (enc m) := h0
  replace h1 : dec (enc m) < P 99 := h1
  rw [dec_enc] at h0 h1
  show g34 (enc m, ()) = some (enc (isq ((dec (enc m) - 1) / 2)), ())
  rw [dec_enc]
  have hP : P 100 = 4294967296 * P 99 := P_succ 99
  have hPp := P_pos 99
  have E1 : h59 (((enc m).1, ((enc m).2.1, ())), (enc 1, ())) = some (enc (m - 1), ()) := e59 hs (Sm.small (by omega))
  have E2 : h42 (enc (m - 1), (enc 2, ())) = some (qr (m - 1) 2) := e42 (Sm.of (k := 100) (by omega) (by omega)) (Sm.small (by omega))
  have E3 : h60 (((enc ((m - 1) / 2)).1, ((enc ((m - 1) / 2)).2.1, ())), (2, ())) = some (enc (isq ((m - 1) / 2)), (0, ())) := e60 (by omega) (by omega)
  rw [g34_eq, e27 (by omega), Option.bind_some]
  dsimp only
  rw [E1, Option.bind_some, e27 (by omega), Option.bind_some]
  dsimp only
  rw [E2, Option.bind_some, qr_of (by omega)]
  dsimp only
  rw [E3, Option.bind_some]
theorem e34 {m : Int} (h0 : 1 ≤ m) (h1 : m < P 99) : h34 (enc m, ()) = some (enc (isq ((m - 1) / 2)), ()) := by
  show when (Is (enc m) ∧ 1 ≤ dec (enc m) ∧ dec (enc m) < P 99) (enc (isq ((dec (enc m) - 1) / 2)), ()) = _
  rw [dec_enc, when_pos ⟨Is.enc (Sm.of (k := 99) (by omega) (by omega)), h0, h1⟩]
theorem so36 : SigsOk Try.prog cx36 := ⟨(lookAll_cons s27 (lookAll_cons s28 (lookAll_cons s31 (lookAll_cons s32 (lookAll_cons s34 (lookAll_cons s35 (lookAll_cons s42 (lookAll_cons s59 (lookAll_cons s61 lookAll_nil))))))))), lookAll_nil, lookAll_nil⟩
theorem in36 : ∀ f p, look cx36.inl f = some p → Try.prog.funcs[f]? = some p.1 ∧ (p.1.name == "runtime.NumGoroutine") = false := lookAll_nil
theorem ok36 {h : DL [(.pair .bool (.pair (.sl (.int .u32)) .unit)), (.pair .bool (.pair (.sl (.int .u32)) .unit))] → Option (DL [(.pair (.pair .bool (.pair (.sl (.int .u32)) .unit)) (.pair (.pair .bool (.pair (.sl (.int .u32)) .unit)) .unit)), .bool])} (hw : ∀ x r, h x = some r → g36 x = some r) : SigOk Try.prog 36 ⟨[(.pair .bool (.pair (.sl (.int .u32)) .unit)), (.pair .bool (.pair (.sl (.int .u32)) .unit))], [(.pair (.pair .bool (.pair (.sl (.int .u32)) .unit)) (.pair (.pair .bool (.pair (.sl (.int .u32)) .unit)) .unit)), .bool], h⟩ := (Fn_ok (anns := an36) mixed T_ok so36 in36 (f := 36) (fn := Try.f36) rfl rfl rfl [(.pair .bool (.pair (.sl (.int .u32)) .unit)), (.pair .bool (.pair (.sl (.int .u32)) .unit))] [(.pair (.pair .bool (.pair (.sl (.int .u32)) .unit)) (.pair (.pair .bool (.pair (.sl (.int .u32)) .unit)) .unit)), .bool]).weaken hw

theorem sgn_zero {z : Int} : (sgn z = 0) ↔ z = 0 := by
  unfold sgn
  split
  · omega
  · split <;> omega
theorem L36 (m b : Int) (hm : 0 < m) (hm1 : m < P 99) (hb0 : 0 ≤ b) (hbm : b ≤ m) (b2 b3 : Bool) (x2 x3 : List Int) : ∀ k : Nat, ∀ x s r t e : Int, r.toNat < k → 0 ≤ r → r < x → x ≤ m → (e = 1 ∨ e = -1) → 0 ≤ e * t → 0 ≤ -e * s → e * t * x + -e * s * r = m → -e * s ≤ m →
    g36_L6 (enc m).1 (enc m).2.1 b2 x2 b3 x3 (enc b).1 (enc b).2.1 (enc r).1 (enc r).2.1 (enc x).1 (enc x).2.1 (enc s).1 (enc s).2.1 (enc t).1 (enc t).2.1 = some (rbR (rbl m b k x s r t)) := by
  have hP : P 100 = 4294967296 * P 99 := P_succ 99
  have hP1 : P 99 = 4294967296 * P 98 := P_succ 98
  have hPp := P_pos 98
  have S : ∀ z : Int, (z.natAbs : Int) < P 100 → Sm z := fun z hz => Sm.of (k := 100) hz (by omega)
  intro k
  induction k with
  | zero => intro x s r t e h; omega
  | succ k ih =>
    intro x s r t e hk hr hrx hxm he ht hs h hsb
    obtain ⟨c1, c2, c3, c4⟩ := eiv_bound hm he (by omega) hr ht hs h hsb
    have sm : Sm m := S m (by omega)
    have sb : Sm b := S b (by omega)
    have sx : Sm x := S x (by omega)
    have ss : Sm s := S s (by omega)
    have sr : Sm r := S r (by omega)
    have st : Sm t := S t (by omega)
    have s1 : Sm 1 := Sm.small (by omega)
    have E1 : h32 (((enc r).1, ((enc r).2.1, ())), (((enc b).1, ((enc b).2.1, ())), ())) = some (cmpI r b, ()) := e32 sr sb
    rw [g36_L6_eq, E1, Option.bind_some]
    dsimp only
    simp only [rbl]
    by_cases h0 : r > b
    · rw [ifd_t (cmpI_pos.2 h0), if_pos h0]
      have hr0 : 0 < r := by omega
      have E2 : h42 (((enc x).1, ((enc x).2.1, ())), (((enc r).1, ((enc r).2.1, ())), ())) = some (qr x r) := e42 sx sr
      obtain ⟨q0, q1, m0, m1⟩ := quot_le (a := x) (b := r) (by omega) hr0
      have me := Int.mul_ediv_add_emod x r
      have sq : Sm (x / r) := S _ (by omega)
      have E3 : h28 (((enc (x / r)).1, ((enc (x / r)).2.1, ())), (((enc t).1, ((enc t).2.1, ())), ())) = some (enc (x / r * t), ()) := e28 sq st
      have ht' : 0 ≤ (-e) * (s - x / r * t) := by
        have : 0 ≤ x / r * (e * t) := Int.mul_nonneg q0 ht
        have e2 : (-e) * (s - x / r * t) = -e * s + x / r * (e * t) := by grind
        omega
      have hs' : 0 ≤ - -e * t := by rw [Int.neg_neg]; exact ht
      have hsum : (-e) * (s - x / r * t) * r + - -e * t * (x % r) = m := by
        have e3 : x % r = x - r * (x / r) := by omega
        rw [e3]
        clear ih ht' hs' me m0 m1 q0 q1 E1 E2 E3 sq sm sb sx ss sr st c1 c2 c3 c4 hsb hs ht hrx hxm e3 S
        grind
      have hsb' : - -e * t ≤ m := by
        rw [Int.neg_neg]
        rcases he with rfl | rfl <;> omega
      obtain ⟨d1, d2, d3, d4⟩ := eiv_bound hm (e := -e) (by rcases he with rfl | rfl <;> simp) (by omega) m0 ht' hs' hsum hsb'
      have sqt : Sm (x / r * t) := S _ (by omega)
      have E4 : h59 (((enc s).1, ((enc s).2.1, ())), (enc (x / r * t), ())) = some (enc (s - x / r * t), ()) := e59 ss sqt
      rw [E2, Option.bind_some, qr_of (by omega)]
      dsimp only
      rw [E3, Option.bind_some]
      dsimp only
      rw [E4, Option.bind_some]
      dsimp only
      exact ih r t (x % r) (s - x / r * t) (-e) (by omega) m0 m1 (by omega) (by rcases he with rfl | rfl <;> simp) ht' hs' hsum hsb'
    · rw [ifd_f (fun h => h0 (cmpI_pos.1 h)), if_neg h0]
      have E2 : h31 (((enc t).1, ((enc t).2.1, ())), ()) = some (sgn t, ()) := e31 st
      rw [E2, Option.bind_some]
      dsimp only
      unfold rbEnd
      have hz : rbR none = (((false, ([], ())), ((false, ([], ())), ())), (false, ())) := by
        unfold rbR encR
        rw [enc_zero]
      by_cases h1 : t < 0
      · rw [ifd_t (sgn_neg.2 h1), if_pos h1]
        have E3 : h35 (((enc r).1, ((enc r).2.1, ())), ()) = some (enc (-r), ()) := e35 sr
        have E4 : h35 (((enc t).1, ((enc t).2.1, ())), ()) = some (enc (-t), ()) := e35 st
        have E5 : h31 (((enc (-t)).1, ((enc (-t)).2.1, ())), ()) = some (sgn (-t), ()) := e31 st.neg
        have E6 : h32 (((enc (-t)).1, ((enc (-t)).2.1, ())), (((enc b).1, ((enc b).2.1, ())), ())) = some (cmpI (-t) b, ()) := e32 st.neg sb
        have E7 : h61 (((enc (-t)).1, ((enc (-t)).2.1, ())), (((enc m).1, ((enc m).2.1, ())), ())) = some (enc (Int.gcd (-t) m : Nat), ()) := e61 st.neg sm
        have hg := gcd_le (a := -t) hm
        have E8 : h32 (enc (Int.gcd (-t) m : Nat), (enc 1, ())) = some (cmpI (Int.gcd (-t) m : Nat) 1, ()) := e32 (S _ (by omega)) s1
        rw [E3, Option.bind_some, E4, Option.bind_some]
        dsimp only
        rw [E5, Option.bind_some]
        dsimp only
        have g1 : ¬ -t < 1 := by omega
        rw [ife_f (fun h => by have := sgn_zero.1 h; omega), E6, Option.bind_some]
        dsimp only
        by_cases g2 : -t > b
        · rw [ifd_t (cmpI_pos.2 g2), if_pos (.inr (.inl g2)), hz]
        · rw [ifd_f (fun h => g2 (cmpI_pos.1 h)), E7, Option.bind_some, e27 (by omega), Option.bind_some]
          dsimp only
          rw [E8, Option.bind_some]
          dsimp only
          by_cases g3 : Int.gcd (-t) m ≠ 1
          · rw [ifn_t (fun h => g3 (by have := cmpI_zero.1 h; omega)), if_pos (.inr (.inr g3)), hz]
          · rw [ifn_f (cmpI_zero.2 (by omega)), if_neg (fun h => h.elim g1 fun h => h.elim g2 g3)]
            rfl
      · rw [ifd_f (fun h => h1 (sgn_neg.1 h)), if_neg h1, Option.bind_some]
        have E6 : h32 (((enc t).1, ((enc t).2.1, ())), (((enc b).1, ((enc b).2.1, ())), ())) = some (cmpI t b, ()) := e32 st sb
        have E7 : h61 (((enc t).1, ((enc t).2.1, ())), (((enc m).1, ((enc m).2.1, ())), ())) = some (enc (Int.gcd t m : Nat), ()) := e61 st sm
        have hg := gcd_le (a := t) hm
        have E8 : h32 (enc (Int.gcd t m : Nat), (enc 1, ())) = some (cmpI (Int.gcd t m : Nat) 1, ()) := e32 (S _ (by omega)) s1
        dsimp only
        by_cases g1 : t < 1
        · rw [ife_t (sgn_zero.2 (by omega)), if_pos (.inl g1), hz]
        · rw [ife_f (fun h => by have := sgn_zero.1 h; omega), E6, Option.bind_some]
          dsimp only
          by_cases g2 : t > b
          · rw [ifd_t (cmpI_pos.2 g2), if_pos (.inr (.inl g2)), hz]
          · rw [ifd_f (fun h => g2 (cmpI_pos.1 h)), E7, Option.bind_some, e27 (by omega), Option.bind_some]
            dsimp only
            rw [E8, Option.bind_some]
            dsimp only
            by_cases g3 : Int.gcd t m ≠ 1
            · rw [ifn_t (fun h => g3 (by have := cmpI_zero.1 h; omega)), if_pos (.inr (.inr g3)), hz]
            · rw [ifn_f (cmpI_zero.2 (by omega)), if_neg (fun h => h.elim g1 fun h => h.elim g2 g3)]
              rfl
theorem s36 : SigOk Try.prog 36 ⟨[tInt, tInt], [tRat, .bool], h36⟩ := ok36 fun (x : DInt × DInt × Unit) r h => by
  obtain ⟨⟨⟨u, hu, hsu⟩, ⟨m, hm, hsm⟩, hm1⟩, rfl⟩ := when_some h
  obtain ⟨a, b, u'⟩ := x
  replace hu : a = enc u := hu
  replace hm : b = enc m := hm
  subst hu; subst hm
  replace hm1 : dec (enc m) < P 99 := hm1
  rw [dec_enc] at hm1
  show g36 (enc u, enc m, ()) = some (rbR (rb (dec (enc u)) (dec (enc m))))
  rw [dec_enc, dec_enc]
  have hP : P 100 = 4294967296 * P 99 := P_succ 99
  have hPp := P_pos 99
  have E1 : h31 (((enc m).1, ((enc m).2.1, ())), ()) = some (sgn m, ()) := e31 hsm
  unfold rb
  rw [g36_eq, E1, Option.bind_some]
  dsimp only
  by_cases h0 : m ≤ 0
  · rw [ifd_t (sgn_le.2 h0), if_pos h0]
    unfold rbR encR
    rw [enc_zero]
  · have h2 : 0 ≤ (m - 1) / 2 := by omega
    have E4 : h34 (((enc m).1, ((enc m).2.1, ())), ()) = some (enc (isq ((m - 1) / 2)), ()) := e34 (by omega) hm1
    have E5 : h42 (((enc u).1, ((enc u).2.1, ())), (((enc m).1, ((enc m).2.1, ())), ())) = some (qr u m) := e42 hsu hsm
    have hi := isq_spec h2
    have hil := isq_le h2
    have m0 := Int.emod_nonneg u (show m ≠ 0 by omega)
    have m1 := Int.emod_lt_of_pos u (show 0 < m by omega)
    rw [ifd_f (fun h => h0 (sgn_le.1 h)), if_neg h0, E4, Option.bind_some]
    dsimp only
    rw [E5, Option.bind_some, qr_of (by omega), e27 (by omega), Option.bind_some, e27 (by omega), Option.bind_some]
    exact L36 m (isq ((m - 1) / 2)) (by omega) hm1 hi.1 (by omega) _ _ _ _ ((u % m).toNat + 1) m 0 (u % m) 1 1 (by omega) m0 m1 (Int.le_refl _) (.inl rfl) (by omega) (by omega) (by omega) (by omega)
end Go.Refl.S3
