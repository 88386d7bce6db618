/-
  What the functions on rows of words compute: shifts, sums and comparing of whole numbers.
-/
import Derived.Test.YthgbejjenlfdnaaQ4
set_option linter.unusedVariables false
set_option linter.unusedSimpArgs false
set_option maxRecDepth 100000
namespace Go.Refl.S3
open Go Go.Refl Go.Proofs

/-- A power of two that a word holds. -/
def p2 (s : Int) : Int := 2 ^ s.toNat
theorem p2_pos (s : Int) : 0 < p2 s := by unfold p2; exact Int.pow_pos (by omega)
theorem p2_mul {s : Int} (h0 : 0 ≤ s) (h1 : s < 32) : p2 s * p2 (32 - s) = 4294967296 := by
  unfold p2
  rw [← Int.pow_add, show s.toNat + (32 - s).toNat = 32 by omega]
  rfl
theorem p2_le {s : Int} (h0 : 0 ≤ s) (h1 : s < 32) : p2 s ≤ 2147483648 := by
  unfold p2
  have h2 : 2 ^ s.toNat ≤ 2 ^ 31 := Nat.pow_le_pow_right (by omega) (by omega)
  have e : (2 : Int) ^ s.toNat = ((2 ^ s.toNat : Nat) : Int) := by simp
  rw [e]
  omega
theorem p2_min {s : Int} (h1 : s < 32) : (2 : Int) ^ (min s.toNat 64) = p2 s := by
  unfold p2
  rw [Nat.min_eq_left (by omega)]

/-! ### To the left -/
theorem or_add {a b s : Nat} (ha : a < 2 ^ s) (hs : s ≤ 32) (hab : b * 2 ^ s < 4294967296) : ((BitVec.toNat ((BitVec.ofInt 32 (a : Int)) ||| (BitVec.ofInt 32 ((b * 2 ^ s : Nat) : Int))) : Nat) : Int) = (a + b * 2 ^ s : Nat) := by
  have h1 : 2 ^ s ≤ 2 ^ 32 := Nat.pow_le_pow_right (by omega) hs
  have e1 : (BitVec.ofInt 32 (a : Int)).toNat = a := by
    rw [BitVec.toNat_ofInt]
    omega
  have e2 : (BitVec.ofInt 32 ((b * 2 ^ s : Nat) : Int)).toNat = b * 2 ^ s := by
    rw [BitVec.toNat_ofInt]
    omega
  rw [BitVec.toNat_or, e1, e2, Nat.or_comm, ← Nat.shiftLeft_eq, ← Nat.shiftLeft_add_eq_or_of_lt ha, Nat.add_comm]
theorem or_addI {a b s : Int} (h0 : 0 ≤ s) (h1 : s < 32) (ha : 0 ≤ a ∧ a < p2 s) (hb : 0 ≤ b) (hab : b * p2 s < 4294967296) : ((BitVec.toNat ((BitVec.ofInt 32 a) ||| (BitVec.ofInt 32 (b * p2 s))) : Nat) : Int) = a + b * p2 s := by
  have e : p2 s = ((2 ^ s.toNat : Nat) : Int) := by unfold p2; simp
  obtain ⟨m, rfl⟩ : ∃ m : Nat, a = m := ⟨a.toNat, by omega⟩
  obtain ⟨n, rfl⟩ : ∃ n : Nat, b = n := ⟨b.toNat, by omega⟩
  rw [e] at ha hab ⊢
  have := or_add (a := m) (b := n) (s := s.toNat) (by omega) (by omega) (by rw [← Int.natCast_mul] at hab; omega)
  rw [← Int.natCast_mul, this]
  simp

noncomputable def h95 : DL [.sl (.int .u32), .int .i64] → Option (List Int) := fun (x : List Int × Int × Unit) => when (Wl x.1 ∧ 0 ≤ x.2.1 ∧ x.2.1 < 32) (Dn (x.1.length + 1) (V x.1 * p2 x.2.1))
theorem shl_step {a S T : Int} (hST : S * T = 4294967296) (a0 : 0 ≤ a) (a1 : a < 4294967296) (S0 : 0 < S) : (a * S) % 4294967296 = (a % T) * S ∧ 0 ≤ (a * S) / 4294967296 ∧ (a * S) / 4294967296 < S ∧ 0 ≤ a % T ∧ (a % T) * S + S ≤ 4294967296 := by
  have hT : 0 < T := by
    apply Classical.byContradiction
    intro hc
    have : S * T ≤ S * 0 := Int.mul_le_mul_of_nonneg_left (by omega) (by omega)
    omega
  have h1 : 0 ≤ a * S := Int.mul_nonneg a0 (by omega)
  have h2 : a * S < 4294967296 * S := Int.mul_lt_mul_of_pos_right a1 S0
  have h3 := Int.emod_nonneg a (show T ≠ 0 by omega)
  have h4 := Int.emod_lt_of_pos a hT
  have h5 : (a % T) * S + S ≤ T * S := by
    have : (a % T + 1) * S ≤ T * S := Int.mul_le_mul_of_nonneg_right (by omega) (by omega)
    rw [Int.add_mul] at this
    omega
  have h5' : T * S = 4294967296 := by rw [Int.mul_comm]; exact hST
  have h6 : a * S = (a % T) * S + 4294967296 * (a / T) := by
    have h7 := Int.emod_add_mul_ediv a T
    have h8 : a * S = (a % T + T * (a / T)) * S := by rw [h7]
    rw [h8, Int.add_mul, ← hST]
    grind
  have h9 : 0 ≤ (a % T) * S := Int.mul_nonneg h3 (by omega)
  refine ⟨by omega, by omega, by omega, h3, by omega⟩

theorem L95 (x : List Int) (s : Int) (hx : W x) (hl : x.length < 4194304) (s0 : 0 ≤ s) (s1 : s < 32) : ∀ k i : Nat, i + k = x.length → ∀ r : List Int, W r → r.length = x.length + 1 → (∀ j, i < j → r.getD j 0 = 0) → r.getD i 0 < p2 s → V r = V (x.take i) * p2 s → g95_L3 s x (x.length : Int) (i : Int) r = some (Dn (x.length + 1) (V x * p2 s)) := by
  intro k
  induction k with
  | zero =>
    intro i hi r hr hrl hz hlt he
    have : i = x.length := by omega
    subst this
    rw [List.take_length] at he
    rw [g95_L3_eq, ifd_f (by omega), ← he, ← hrl, Dn_V hr]
  | succ k ih =>
    intro i hi r hr hrl hz hlt he
    have hxi := hx.getD i
    have hri := hr.getD i
    have hS := p2_pos s
    have hS2 := p2_le s0 s1
    obtain ⟨t1, t2, t3, t4, t5⟩ := shl_step (p2_mul s0 s1) hxi.1 hxi.2 hS
    have hm : 0 ≤ x.getD i 0 * p2 s ∧ x.getD i 0 * p2 s < 18446744073709551616 := mul_lt64 hxi.1 hxi.2 (by omega) (by omega)
    rw [g95_L3_eq, ifd_t (by omega), ifdd_t (by omega) (by omega), ifd_f (by omega), ifdd_t (by omega) (by omega), ifdd_t (by omega) (by omega), wi64 (x := (i : Int) + 1) (by omega) (by omega), Int.toNat_natCast, List.length_set, ifdd_t (by omega) (by omega), p2_min s1]
    rw [wu64 (x := x.getD i 0) (by omega) (by omega), wu64 hm.1 hm.2, fd (by omega), IntKind.wrap_u32 (x.getD i 0 * p2 s), t1, or_addI s0 s1 ⟨hri.1, hlt⟩ t4 (by omega), wu32 (x := x.getD i 0 * p2 s / 4294967296) (by omega) (by omega)]
    have hn : 0 ≤ x.getD i 0 % p2 (32 - s) * p2 s := Int.mul_nonneg t4 (by omega)
    rw [wu32 (x := r.getD i 0 + x.getD i 0 % p2 (32 - s) * p2 s) (by omega) (by omega), show Int.toNat ((i : Int) + 1) = i + 1 by omega]
    refine ih (i + 1) (by omega) _ ((hr.set (by omega) (by omega)).set (by omega) (by omega)) (by simp [hrl]) (fun j hj => ?_) ?_ ?_
    · rw [getD_set_ne (by omega), getD_set_ne (by omega)]
      exact hz j (by omega)
    · rw [getD_set_eq (by simp; omega)]
      exact t3
    · rw [V_set (by simp; omega), V_set (by omega), getD_set_ne (by omega), hz (i + 1) (by omega), V_take_succ, P_succ, he]
      have e : (x.getD i 0 % p2 (32 - s) * p2 s) + 4294967296 * (x.getD i 0 * p2 s / 4294967296) = x.getD i 0 * p2 s := by omega
      generalize x.getD i 0 % p2 (32 - s) * p2 s = lo at *
      generalize x.getD i 0 * p2 s / 4294967296 = hi at *
      generalize x.getD i 0 = xi at *
      generalize r.getD i 0 = ri at *
      generalize V (x.take i) = vx at *
      generalize P i = pi at *
      generalize p2 s = S at *
      clear ih hz he hx hr hrl hri hxi hm
      grind
theorem s95 : SigNOk Try.prog 95 ⟨.int .u32, 22, [.sl (.int .u32), .int .i64], h95⟩ := ok95 fun (x : List Int × Int × Unit) r h => by
  obtain ⟨⟨⟨wa, la⟩, s0, s1⟩, rfl⟩ := when_some h
  obtain ⟨a, s, u⟩ := x
  simp only at wa la s0 s1
  show g95 (a, s, ()) = some (Dn (a.length + 1) (V a * p2 s))
  rw [g95_eq, wi64 (by omega) (by omega), ifddd_t (by omega) (by omega) (by omega), show Int.toNat ((a.length : Int) + 1) = a.length + 1 by omega]
  exact L95 a s wa la s0 s1 _ 0 (Nat.zero_add _) _ (W.replicate _) (by simp) (fun j _ => getD_replicate _ _) (by rw [getD_replicate]; exact p2_pos s) (by simp [V_replicate, V])

/-! ### To the right -/
noncomputable def h97 : DL [.sl (.int .u32), .int .i64] → Option (DL [.sl (.int .u32)]) := fun (x : List Int × Int × Unit) => when (Wl x.1 ∧ 0 ≤ x.2.1 ∧ x.2.1 < 32) (D (V x.1 / p2 x.2.1), ())
theorem shr_step {a b S T : Int} (hST : S * T = 4294967296) (S0 : 0 < S) (b0 : 0 ≤ b) (b1 : b < 4294967296) (a0 : 0 ≤ a) (a1 : a < 4294967296) : S * (((a * 4294967296 + b) / S) % 4294967296) = b - b % S + 4294967296 * (a % S) := by
  have hT : 0 < T := by
    apply Classical.byContradiction
    intro hc
    have : S * T ≤ S * 0 := Int.mul_le_mul_of_nonneg_left (by omega) (by omega)
    omega
  have e1 : (a * 4294967296 + b) / S = a * T + b / S := by
    rw [← hST, show a * (S * T) + b = b + S * (a * T) by grind, Int.add_mul_ediv_left _ _ (by omega)]
    omega
  have h1 := Int.emod_add_mul_ediv a S
  have h2 := Int.emod_add_mul_ediv b S
  have h3 := Int.emod_nonneg a (show S ≠ 0 by omega)
  have h4 := Int.emod_lt_of_pos a S0
  have h5 := Int.emod_nonneg b (show S ≠ 0 by omega)
  have hb : 0 ≤ b / S := Int.ediv_nonneg b0 (by omega)
  have hb1 : b / S < T := Int.ediv_lt_of_lt_mul S0 (by rw [Int.mul_comm, hST]; exact b1)
  have h6 : 0 ≤ (a % S) * T := Int.mul_nonneg h3 (by omega)
  have h7 : (a % S) * T + T ≤ S * T := by
    have : (a % S + 1) * T ≤ S * T := Int.mul_le_mul_of_nonneg_right (by omega) (by omega)
    rw [Int.add_mul] at this
    omega
  have e2 : a * T + b / S = ((a % S) * T + b / S) + 4294967296 * (a / S) := by
    have h8 : a * T = (a % S + S * (a / S)) * T := by rw [h1]
    rw [h8, Int.add_mul, ← hST]
    grind
  have e3 : (a * T + b / S) % 4294967296 = (a % S) * T + b / S := by omega
  rw [e1, e3, Int.mul_add, show S * (a % S * T) = S * T * (a % S) by grind, hST]
  omega

theorem L97 (x : List Int) (s : Int) (hx : W x) (hl : x.length < 4194304) (s0 : 0 ≤ s) (s1 : s < 32) : ∀ k i : Nat, i + k = x.length → ∀ r : List Int, W r → r.length = x.length → (∀ j, i ≤ j → r.getD j 0 = 0) → p2 s * V r = V (x.take i) - x.getD 0 0 % p2 s + (x.getD i 0 % p2 s) * P i → g97_L3 x s (x.length : Int) (i : Int) r = some (D (V x / p2 s), ()) := by
  intro k
  induction k with
  | zero =>
    intro i hi r hr hrl hz he
    have : i = x.length := by omega
    subst this
    have hS := p2_pos s
    rw [List.take_length, getD_out (Nat.le_refl _), Int.zero_emod, Int.zero_mul, Int.add_zero] at he
    rw [g97_L3_eq, ifd_f (by omega), e88 hr (by omega), Option.bind_some]
    have h1 := Int.emod_nonneg (x.getD 0 0) (show p2 s ≠ 0 by omega)
    have h2 := Int.emod_lt_of_pos (x.getD 0 0) hS
    rw [(div_end (v := V x) (d := p2 s) (q := V r) (r := x.getD 0 0 % p2 s) (by omega) h1 h2).1]
  | succ k ih =>
    intro i hi r hr hrl hz he
    have hxi := hx.getD i
    have hxj := hx.getD (i + 1)
    have hS := p2_pos s
    have hst := shr_step (p2_mul s0 s1) hS hxi.1 hxi.2 hxj.1 hxj.2
    rw [g97_L3_eq, ifd_t (by omega), wi64 (x := (i : Int) + 1) (by omega) (by omega), e83 hx (by omega), Option.bind_some]
    dsimp only
    rw [ifdd_t (by omega) (by omega), ifd_f (by omega), ifdd_t (by omega) (by omega), p2_min s1, Int.toNat_natCast, show Int.toNat ((i : Int) + 1) = i + 1 by omega]
    rw [wu64 (x := x.getD (i + 1) 0) (by omega) (by omega), wu64 (x := x.getD i 0) (by omega) (by omega), wu64 (x := x.getD (i + 1) 0 * 4294967296) (by omega) (by omega), or_words hxj.1 hxj.2 hxi.1 hxi.2, wu64 (by omega) (by omega), fd (by omega), IntKind.wrap_u32]
    refine ih (i + 1) (by omega) _ (hr.set (by omega) (by omega)) (by simp [hrl]) (fun j hj => ?_) ?_
    · rw [getD_set_ne (by omega)]
      exact hz j (by omega)
    · rw [V_set (by omega), hz i (by omega), V_take_succ, P_succ]
      generalize (x.getD (i + 1) 0 * 4294967296 + x.getD i 0) / p2 s % 4294967296 = w at *
      generalize x.getD i 0 % p2 s = u at *
      generalize x.getD (i + 1) 0 % p2 s = u' at *
      generalize x.getD 0 0 % p2 s = u0 at *
      generalize x.getD i 0 = xi at *
      generalize x.getD (i + 1) 0 = xj at *
      generalize V (x.take i) = vx at *
      generalize P i = pi at *
      generalize p2 s = S at *
      generalize V r = vr at *
      clear ih hz hx hr hrl hxi hxj
      grind
theorem s97 : SigOk Try.prog 97 ⟨[.sl (.int .u32), .int .i64], [.sl (.int .u32)], h97⟩ := ok97 fun (x : List Int × Int × Unit) r h => by
  obtain ⟨⟨⟨wa, la⟩, s0, s1⟩, rfl⟩ := when_some h
  obtain ⟨a, s, u⟩ := x
  simp only at wa la s0 s1
  show g97 (a, s, ()) = some (D (V a / p2 s), ())
  rw [g97_eq, ifddd_t (by omega) (by omega) (by omega), Int.toNat_natCast]
  exact L97 a s wa la s0 s1 _ 0 (Nat.zero_add _) _ (W.replicate _) (by simp) (fun j _ => getD_replicate _ _) (by simp [V_replicate, V, P_zero]; omega)

/-! ### Sums and comparing of whole numbers -/
noncomputable def h45 : DL [tInt, tInt] → Option (DL [tInt]) := HI2 (rts := [tInt]) fun y z => (enc (y + z), ())
theorem s45 : SigOk Try.prog 45 ⟨[tInt, tInt], [tInt], h45⟩ := ok45 (hi2 fun y z hy hz => by
  have hps := P_sum hy hz
  rw [g45_eq, enc_2 y, enc_2 z, enc_1 y, enc_1 z]
  by_cases hs : decide (y < 0) = decide (z < 0)
  · rw [ifb_t (by simpa using hs), e70 hy.wl hz.wl, Option.bind_some, V_dg, V_dg]
    dsimp only
    rw [e69 (Wl_D hps (by omega)), Option.bind_some, V_D (by omega)]
    have : sg (decide (y < 0)) ((y.natAbs : Int) + (z.natAbs : Int)) = y + z := by
      have hs' := decide_eq_decide.1 hs
      unfold sg
      by_cases h1 : y < 0
      · have h2 := hs'.1 h1
        simp [h1]; omega
      · have h2 : ¬ z < 0 := fun h => h1 (hs'.2 h)
        simp [h1]; omega
    rw [this]
  · have hs' : (y < 0) ≠ (z < 0) := fun h => hs (by simp [h])
    rw [ifb_f (by simpa using hs), e71 hy.nt hz.nt, Option.bind_some, V_dg, V_dg]
    dsimp only
    by_cases hc : cmpI (y.natAbs : Int) (z.natAbs : Int) < 0
    · have hlt := cmpI_neg.1 hc
      rw [ifd_t hc, e72 hz.wl hy.wl (by rw [V_dg, V_dg]; omega), Option.bind_some, V_dg, V_dg]
      dsimp only
      rw [e69 (Wl_D (k := 1048577) (by omega) (by omega)), Option.bind_some, V_D (by omega)]
      have : sg (decide (z < 0)) ((z.natAbs : Int) - (y.natAbs : Int)) = y + z := by
        unfold sg
        by_cases h1 : z < 0
        · have h2 : ¬ y < 0 := fun h => hs' (by simp [h, h1])
          simp [h1]; omega
        · have h2 : y < 0 := Classical.byContradiction fun h => hs' (by simp [h, h1])
          simp [h1]; omega
      rw [this]
    · have hlt : ¬ (y.natAbs : Int) < (z.natAbs : Int) := fun h => hc (cmpI_neg.2 h)
      rw [ifd_f hc, e72 hy.wl hz.wl (by rw [V_dg, V_dg]; omega), Option.bind_some, V_dg, V_dg]
      dsimp only
      rw [e69 (Wl_D (k := 1048577) (by omega) (by omega)), Option.bind_some, V_D (by omega)]
      have : sg (decide (y < 0)) ((y.natAbs : Int) - (z.natAbs : Int)) = y + z := by
        unfold sg
        by_cases h1 : y < 0
        · have h2 : ¬ z < 0 := fun h => hs' (by simp [h, h1])
          simp [h1]; omega
        · have h2 : z < 0 := Classical.byContradiction fun h => hs' (by simp [h, h1])
          simp [h1]; omega
      rw [this])
theorem e51 {z : Int} (h : Sm z) : h51 (enc z, ()) = some (sgn z, ()) := by
  show when (Is (enc z)) (sgn (dec (enc z)), ()) = _
  rw [when_pos (Is.enc h), dec_enc]
theorem e31 {z : Int} (h : Sm z) : h31 (enc z, ()) = some (sgn z, ()) := e51 h
noncomputable def h56 : DL [tInt, tInt] → Option (DL [.int .i64]) := HI2 (rts := [.int .i64]) fun y z => (cmpI y z, ())
theorem s56 : SigOk Try.prog 56 ⟨[tInt, tInt], [.int .i64], h56⟩ := ok56 (hi2 fun y z hy hz => by
  rw [g56_eq]
  have e1 : h51 (((enc y).1, ((enc y).2.1, ())), ()) = some (sgn y, ()) := e51 hy
  have e2 : h51 (((enc z).1, ((enc z).2.1, ())), ()) = some (sgn z, ()) := e51 hz
  rw [e1, e2, enc_2 y, enc_2 z, enc_1 y, enc_1 z]
  simp only [Option.bind_some, h78, e71 hy.nt hz.nt, e71 hz.nt hy.nt, V_dg]
  by_cases h1 : y < 0 <;> by_cases h2 : z < 0 <;> simp [h1, h2, cmpI, sgn] <;> (repeat' split) <;> omega)
end Go.Refl.S3
