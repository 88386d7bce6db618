/-
  Chinese where its first argument is a row of its caller's: the results do not lead into that row.
-/
import Derived.Test.YthgbejjenlfdnaaN8
import Derived.KernelRfl
set_option linter.unusedVariables false
set_option linter.unusedSimpArgs false
set_option maxRecDepth 100000
namespace Go.Refl.S3
open Go Go.Refl Go.Proofs

noncomputable def g26m : List Int → Nat → Nat → DL [(.sl (.int .u64))] → Option (DL [(.pair .bool (.pair (.sl (.int .u32)) .unit)), (.pair .bool (.pair (.sl (.int .u32)) .unit)), (.int .i64)] × List Int) := FnM cx26 an26 Try.f26 (.int .u64) 23 [(.sl (.int .u64))] [(.pair .bool (.pair (.sl (.int .u32)) .unit)), (.pair .bool (.pair (.sl (.int .u32)) .unit)), (.int .i64)]
noncomputable def g26m_L5 (t0lo : Nat) (t0n : Nat) (t1 : (List Int)) (t23 : Int) (t24 : Int) (r0 : List Int) (v1 : Bool) (v1_1 : (List Int)) (v2 : Bool) (v2_1 : (List Int)) (v3075 : Bool) (v3075_1 : (List Int)) (v3076 : Bool) (v3076_1 : (List Int)) : Option (DL [(.pair .bool (.pair (.sl (.int .u32)) .unit)), (.pair .bool (.pair (.sl (.int .u32)) .unit)), (.int .i64)] × List Int) := LpM cx26 an26 Try.f26 (.int .u64) 23 [(.pair .bool (.pair (.sl (.int .u32)) .unit)), (.pair .bool (.pair (.sl (.int .u32)) .unit)), (.int .i64)] [true, true, true, false, true, false] ⟨[.sub 0 0 t0lo t0n, .val (.sl (.int .u64)) t1, .undef, .undef, .ptr 1 [], .ptr 2 [], .undef, .ptr 3075 [], .ptr 3076 [], .undef, .undef, .undef, .undef, .undef, .undef, .undef, .undef, .undef, .undef, .undef, .undef, .undef, .undef, .val (.int .i64) t23, .val (.int .i64) t24, .undef, .undef, .undef, .undef, .undef, .undef, .undef, .undef, .undef, .undef, .undef, .undef, .undef, .undef, .undef, .undef, .undef, .undef, .undef, .undef, .undef, .undef, .undef, .undef, .undef, .undef, .undef, .undef, .undef, .undef, .undef, .undef, .undef, .undef, .undef, .undef, .undef, .undef, .undef, .undef, .undef, .undef, .undef, .undef, .undef, .undef, .undef, .undef, .undef, .undef, .undef, .undef, .undef, .undef, .undef, .undef, .undef, .undef, .undef, .undef, .undef, .undef, .undef, .undef, .undef, .undef, .undef, .undef, .undef, .undef, .undef, .undef, .undef, .undef, .undef, .undef, .undef, .undef, .undef, .undef, .undef, .undef, .undef, .undef], ofL [(0, (.row 23 (.int .u64) r0 0, false)), (1, (.var (.pair .bool (.pair (.sl (.int .u32)) .unit)) (.pr (.val .bool v1) (.pr (.val (.sl (.int .u32)) v1_1) (.un))), false)), (2, (.var (.pair .bool (.pair (.sl (.int .u32)) .unit)) (.pr (.val .bool v2) (.pr (.val (.sl (.int .u32)) v2_1) (.un))), false)), (3075, (.var (.pair .bool (.pair (.sl (.int .u32)) .unit)) (.pr (.val .bool v3075) (.pr (.val (.sl (.int .u32)) v3075_1) (.un))), false)), (3076, (.var (.pair .bool (.pair (.sl (.int .u32)) .unit)) (.pr (.val .bool v3076) (.pr (.val (.sl (.int .u32)) v3076_1) (.un))), false))], [0, 1, 2, 3075, 3076], []⟩
theorem g26m_L5_eq (t0lo : Nat) (t0n : Nat) (t1 : (List Int)) (t23 : Int) (t24 : Int) (r0 : List Int) (v1 : Bool) (v1_1 : (List Int)) (v2 : Bool) (v2_1 : (List Int)) (v3075 : Bool) (v3075_1 : (List Int)) (v3076 : Bool) (v3076_1 : (List Int)) : g26m_L5 t0lo t0n t1 t23 t24 r0 v1 v1_1 v2 v2_1 v3075 v3075_1 v3076 v3076_1 =
  if (decide (t24 < t23)) = true then
    if ((decide (0 ≤ t24)) && (decide (t24 < ((List.length t1) : Int)))) = true then
      Option.bind (h13 ((List.getD t1 (Int.toNat t24) 0), ())) fun (y2 : (Bool × Unit)) =>
      if (!y2.1) = true then
        some (((false, ([], ())), ((false, ([], ())), (1, ()))), r0)
      else if ((decide (0 ≤ t24)) && (decide (t24 < ((List.length t1) : Int)))) = true then
        Option.bind (h41 ((v3076, (v3076_1, ())), ((List.getD t1 (Int.toNat t24) 0), ()))) fun (y3 : (Int × Unit)) =>
        if (y3.1 == 0) = true then
          some (((false, ([], ())), ((false, ([], ())), (1, ()))), r0)
        else if ((decide (0 ≤ t24)) && (decide (t24 < ((List.length t1) : Int)))) = true then
          Option.bind (h41 ((v3076, (v3076_1, ())), ((List.getD t1 (Int.toNat t24) 0), ()))) fun (y4 : (Int × Unit)) =>
          if ((decide (0 ≤ t24)) && (decide (t24 < ((List.length t1) : Int)))) = true then
            Option.bind (h16 (y4.1, ((List.getD t1 (Int.toNat t24) 0), ()))) fun (y5 : (Int × (Int × Unit))) =>
            if ((decide (0 ≤ t24)) && (decide (t24 < (t0n : Int)))) = true then
              if ((decide (0 ≤ t24)) && (decide (t24 < ((List.length t1) : Int)))) = true then
                if ((List.getD t1 (Int.toNat t24) 0) == 0) = true then
                  none
                else if ((decide (0 ≤ t24)) && (decide (t24 < ((List.length t1) : Int)))) = true then
                  if ((decide (0 ≤ t24)) && (decide (t24 < ((List.length t1) : Int)))) = true then
                    Option.bind (h41 ((v3075, (v3075_1, ())), ((List.getD t1 (Int.toNat t24) 0), ()))) fun (y6 : (Int × Unit)) =>
                    if ((decide (0 ≤ t24)) && (decide (t24 < ((List.length t1) : Int)))) = true then
                      if ((List.getD t1 (Int.toNat t24) 0) == 0) = true then
                        none
                      else if ((decide (0 ≤ t24)) && (decide (t24 < ((List.length t1) : Int)))) = true then
                        if ((List.getD t1 (Int.toNat t24) 0) == 0) = true then
                          none
                        else Option.bind (h44 ((IntKind.wrap .i64 (Int.tmod (IntKind.wrap .u64 ((Int.tmod (IntKind.wrap .u64 ((IntKind.wrap .u64 ((Int.tmod (List.getD r0 (t0lo + (Int.toNat t24)) 0) (List.getD t1 (Int.toNat t24) 0)) + (List.getD t1 (Int.toNat t24) 0))) - y6.1)) (List.getD t1 (Int.toNat t24) 0)) * y5.1)) (List.getD t1 (Int.toNat t24) 0))), ())) fun (y7 : ((Bool × ((List Int) × Unit)) × Unit)) =>
                        Option.bind (h46 ((v3076, (v3076_1, ())), (y7.1, ()))) fun (y8 : ((Bool × ((List Int) × Unit)) × Unit)) =>
                        Option.bind (h45 ((v3075, (v3075_1, ())), (y8.1, ()))) fun (y9 : ((Bool × ((List Int) × Unit)) × Unit)) =>
                        if ((decide (0 ≤ t24)) && (decide (t24 < ((List.length t1) : Int)))) = true then
                          Option.bind (h44 ((IntKind.wrap .i64 (List.getD t1 (Int.toNat t24) 0)), ())) fun (y10 : ((Bool × ((List Int) × Unit)) × Unit)) =>
                          Option.bind (h46 ((v3076, (v3076_1, ())), (y10.1, ()))) fun (y11 : ((Bool × ((List Int) × Unit)) × Unit)) =>
                          (g26m_L5 t0lo t0n t1 t23 (IntKind.wrap .i64 (t24 + 1)) r0 v1 v1_1 v2 v2_1 y9.1.1 y9.1.2.1 y11.1.1 y11.1.2.1)
                        else none
                      else none
                    else none
                  else none
                else none
              else none
            else none
          else none
        else none
      else none
    else none
  else some (((v3075, (v3075_1, ())), ((v3076, (v3076_1, ())), (0, ()))), r0) := (LpM_eq cx26 an26 Try.f26 (.int .u64) 23 [(.pair .bool (.pair (.sl (.int .u32)) .unit)), (.pair .bool (.pair (.sl (.int .u32)) .unit)), (.int .i64)] [true, true, true, false, true, false] _).trans (by kernel_rfl)
theorem g26m_eq (xs : List Int) (lo n : Nat) (v : (List Int)) : g26m xs lo n (v, ()) =
  if ((n : Int) != ((List.length v) : Int)) = true then
    some (((false, ([], ())), ((false, ([], ())), (1, ()))), xs)
  else Option.bind (h44 (0, ())) fun (y0 : ((Bool × ((List Int) × Unit)) × Unit)) =>
  Option.bind (h44 (1, ())) fun (y1 : ((Bool × ((List Int) × Unit)) × Unit)) =>
  (g26m_L5 lo n v ((List.length v) : Int) 0 xs false [] false [] y0.1.1 y0.1.2.1 y1.1.1 y1.1.2.1) := by kernel_rfl


theorem L26m (a p : List Int) (ha : WU a) (hp : WU p) (hl : a.length = p.length) (hs : p.length < 1000) (b1 b2 : Bool) (x1 x2 : List Int) : ∀ k i : Nat, i + k = p.length → ∀ u m : Int, 0 ≤ u → u < m → m ≤ P i →
    g26m_L5 0 a.length p (p.length : Int) (i : Int) a b1 x1 b2 x2 (enc u).1 (enc u).2.1 (enc m).1 (enc m).2.1 = some (chiR (chi (a.drop i) (p.drop i) u m), a) := by
  intro k
  induction k with
  | zero =>
    intro i hi u m u0 um hm
    rw [g26m_L5_eq, ifd_f (by omega), List.drop_eq_nil_of_le (by omega), List.drop_eq_nil_of_le (by omega)]
    rfl
  | succ k ih =>
    intro i hi u m u0 um hm
    have hpi := hp.getD i
    have hai := ha.getD i
    have hda : a.drop i = a.getD i 0 :: a.drop (i + 1) := by rw [List.drop_eq_getElem_cons (by omega), List.getD_eq_getElem?_getD, List.getElem?_eq_getElem (by omega)]; rfl
    have hdp : p.drop i = p.getD i 0 :: p.drop (i + 1) := by rw [List.drop_eq_getElem_cons (by omega), List.getD_eq_getElem?_getD, List.getElem?_eq_getElem (by omega)]; rfl
    have hPi := P_pos i
    have hsm : Sm m := Sm.of (k := i + 1) (by rw [P_succ]; omega) (by omega)
    have hsu : Sm u := Sm.of (k := i + 1) (by rw [P_succ]; omega) (by omega)
    rw [hda, hdp]
    simp only [chi]
    rw [g26m_L5_eq, ifd_t (by omega), ifdd_t (by omega) (by omega), Int.toNat_natCast, Nat.zero_add, e13 hpi, Option.bind_some]
    dsimp only
    generalize p.getD i 0 = q at *
    generalize a.getD i 0 = w at *
    by_cases h1 : mr q = true
    · obtain ⟨q2, q3⟩ := mr_range h1
      have hq := h1
      have e1 : h41 (((enc m).1, ((enc m).2.1, ())), (q, ())) = some (m % q, ()) := e41 hsm (by omega)
      have e2 : h41 (((enc u).1, ((enc u).2.1, ())), (q, ())) = some (u % q, ()) := e41 hsu (by omega)
      have m0 := Int.emod_nonneg m (show q ≠ 0 by omega)
      have m1 := Int.emod_lt_of_pos m (show 0 < q by omega)
      have n0 := Int.emod_nonneg u (show q ≠ 0 by omega)
      have n1 := Int.emod_lt_of_pos u (show 0 < q by omega)
      have w0 := Int.emod_nonneg w (show q ≠ 0 by omega)
      have w1 := Int.emod_lt_of_pos w (show 0 < q by omega)
      rw [ifnot_f h1, if_neg (show ¬ mr q = false by simp [h1]), ifdd_t (by omega) (by omega), e1, Option.bind_some]
      dsimp only
      by_cases h2 : m % q = 0
      · rw [ife_t h2, if_pos h2]
        unfold chiR
        rw [enc_zero]
      · have hi1 := inv_range (a := m % q) (p := q) (by omega)
        have t0 := Int.emod_nonneg (w % q + q - u % q) (show q ≠ 0 by omega)
        have t1 := Int.emod_lt_of_pos (w % q + q - u % q) (show 0 < q by omega)
        have hm2 := mul_lt64 t0 (by omega) hi1.1 (by omega)
        have s0 := Int.emod_nonneg ((w % q + q - u % q) % q * inv (m % q) q) (show q ≠ 0 by omega)
        have s1 := Int.emod_lt_of_pos ((w % q + q - u % q) % q * inv (m % q) q) (show 0 < q by omega)
        rw [ife_f h2, if_neg h2, ifdd_t (by omega) (by omega), Option.bind_some, ifdd_t (by omega) (by omega), e16 ⟨m0, by omega⟩ (by omega), Option.bind_some, ifdd_t (by omega) (by omega), ifdd_t (by omega) (by omega), ife_f (by omega), ifdd_t (by omega) (by omega), ifdd_t (by omega) (by omega), e2, Option.bind_some, ifdd_t (by omega) (by omega), ife_f (by omega), ifdd_t (by omega) (by omega), ife_f (by omega), Int.emod_emod, if_neg h2]
        dsimp only
        rw [tm hai.1, wu64 (x := w % q + q) (by omega) (by omega), wu64 (x := w % q + q - u % q) (by omega) (by omega), tm (a := w % q + q - u % q) (by omega), wu64 hm2.1 hm2.2, tm hm2.1, wi64 (by omega) (by omega), e44 (by omega), Option.bind_some]
        dsimp only
        generalize ht : (w % q + q - u % q) % q * inv (m % q) q % q = t at *
        have hst : Sm t := Sm.small (by omega)
        have e3 : h46 (((enc m).1, ((enc m).2.1, ())), (enc t, ())) = some (enc (m * t), ()) := HI2_eq hsm hst
        have hmt0 : 0 ≤ m * t := Int.mul_nonneg (by omega) s0
        have hmt : m * t + m ≤ m * q := by
          have : m * (t + 1) ≤ m * q := Int.mul_le_mul_of_nonneg_left (by omega) (by omega)
          rw [Int.mul_add] at this
          omega
        have hmq : m * q ≤ P (i + 1) := by
          have : m * q ≤ P i * 4294967296 := Int.mul_le_mul hm (by omega) (by omega) (by omega)
          rw [P_succ]
          omega
        have hPi2 : P (i + 2) = 4294967296 * P (i + 1) := P_succ (i + 1)
        have hPi3 := P_pos (i + 1)
        have hsmt : Sm (m * t) := Sm.of (k := i + 2) (by omega) (by omega)
        have e4 : h45 (((enc u).1, ((enc u).2.1, ())), (enc (m * t), ())) = some (enc (u + m * t), ()) := HI2_eq hsu hsmt
        have e5 : h46 (((enc m).1, ((enc m).2.1, ())), (enc q, ())) = some (enc (m * q), ()) := HI2_eq hsm (Sm.small (by omega))
        rw [e3, Option.bind_some]
        dsimp only
        rw [e4, Option.bind_some, ifdd_t (by omega) (by omega), wi64 (x := q) (by omega) (by omega), e44 (by omega), Option.bind_some]
        dsimp only
        rw [e5, Option.bind_some, wi64 (x := (i : Int) + 1) (by omega) (by omega)]
        exact ih (i + 1) (by omega) (u + m * t) (m * q) (by omega) (by omega) hmq
    · have hf : mr q = false := by simpa using h1
      rw [ifnot_t hf, if_pos hf]
      unfold chiR
      rw [enc_zero]
noncomputable def h26m : List Int → Nat → Nat → DL [.sl (.int .u64)] → Option (DL [tInt, tInt, .int .i64] × List Int) := fun xs lo n (x : List Int × Unit) =>
  when (lo = 0 ∧ n = xs.length ∧ WU xs ∧ WU x.1 ∧ x.1.length < 1000) ((open Classical in if xs.length ≠ x.1.length then chiR none else chiR (chi xs x.1 0 1)), xs)
theorem s26m : SigMOk Try.prog 26 ⟨.int .u64, 23, [.sl (.int .u64)], [tInt, tInt, .int .i64], h26m⟩ :=
  (FnM_ok (anns := an26) mixed T_ok so26 in26 (f := 26) (fn := Try.f26) rfl rfl rfl (.int .u64) 23 [.sl (.int .u64)] [tInt, tInt, .int .i64] rfl (by decide)).weaken fun xs lo n (x : List Int × Unit) r h => by
    obtain ⟨⟨h0, hn, ha, hp, hs⟩, rfl⟩ := when_some h
    obtain ⟨p, u⟩ := x
    subst h0; subst hn
    simp only at hp hs
    show g26m xs 0 xs.length (p, ()) = some ((open Classical in if xs.length ≠ p.length then chiR none else chiR (chi xs p 0 1)), xs)
    rw [g26m_eq]
    by_cases hl : xs.length = p.length
    · rw [ifn_f (by omega), if_neg (by simpa using hl), e44 (by omega), Option.bind_some, e44 (by omega), Option.bind_some]
      exact L26m xs p ha hp hl hs _ _ _ _ p.length 0 (Nat.zero_add _) 0 1 (by omega) (by omega) (by rw [P_zero]; omega)
    · rw [ifn_t (by omega), if_pos (by simpa using hl)]
      unfold chiR
      rw [enc_zero]
theorem e26m {a p : List Int} (ha : WU a) (hp : WU p) (hs : p.length < 1000) (hl : a.length = p.length) : h26m a 0 a.length (p, ()) = some (chiR (chi a p 0 1), a) := by
  show when (0 = 0 ∧ a.length = a.length ∧ WU a ∧ WU p ∧ p.length < 1000) ((open Classical in if a.length ≠ p.length then chiR none else chiR (chi a p 0 1)), a) = _
  rw [when_pos ⟨rfl, rfl, ha, hp, hs⟩, if_neg (by simpa using hl)]
end Go.Refl.S3
