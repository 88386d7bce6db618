/-
  What the functions on rows of words compute: sums and differences, signs, comparing, few words.
-/
import Derived.Test.YthgbejjenlfdnaaP1
set_option linter.unusedVariables false
set_option linter.unusedSimpArgs false
set_option maxRecDepth 100000
namespace Go.Refl.S3
open Go Go.Refl Go.Proofs

/-- A row of words of a length that isn't too great. -/
def Wl (l : List Int) : Prop := W l ∧ l.length < 4194304
theorem Nt.wl {l : List Int} (h : Nt l) : Wl l := ⟨h.1, h.2.2⟩
theorem Sm.nt {z : Int} (h : Sm z) : Nt (dg z.natAbs) := ⟨dg_W _, dg_Cn _, by unfold Sm at h; omega⟩
theorem Sm.wl {z : Int} (h : Sm z) : Wl (dg z.natAbs) := h.nt.wl

/-! ### What was proved of callees, as equations -/
theorem e74 {l : List Int} (h : W l) (hl : l.length < 4611686018427387904) : h74 (l, ()) = some (D (V l), ()) := when_pos ⟨h, hl⟩
theorem e88 {l : List Int} (h : W l) (hl : l.length < 4611686018427387904) : h88 (l, ()) = some (D (V l), ()) := when_pos ⟨h, hl⟩
theorem e82 {l : List Int} {i : Int} (h : W l) (hi : 0 ≤ i) : h82 (l, (i, ())) = some (l.getD i.toNat 0, ()) := when_pos ⟨h, hi⟩
theorem e83 {l : List Int} {i : Int} (h : W l) (hi : 0 ≤ i) : h83 (l, (i, ())) = some (l.getD i.toNat 0, ()) := when_pos ⟨h, hi⟩
theorem e89 {l : List Int} (hl : l.length < 17592186044416) : h89 (l, ()) = some (l, ()) := when_pos (p := l.length < 17592186044416) hl
theorem e90 {a b c : Int} (ha : 0 ≤ a ∧ a < 4294967296) (hb : 0 ≤ b ∧ b < 4294967296) (hc : 0 ≤ c ∧ c < 4294967296) : h90 (a, (b, (c, ()))) = some ((a + b + c) % 4294967296, ((a + b + c) / 4294967296, ())) := when_pos ⟨ha, hb, hc⟩
theorem e92 {a b c : Int} (ha : 0 ≤ a ∧ a < 4294967296) (hb : 0 ≤ b ∧ b < 4294967296) (hc : 0 ≤ c ∧ c ≤ 1) : h92 (a, (b, (c, ()))) = some ((a - b - c) % 4294967296, ((if a < b + c then 1 else 0), ())) := when_pos ⟨ha, hb, hc⟩
theorem e98 {a : Int} (h : 0 ≤ a ∧ a < 4294967296) : h98 (a, ()) = some ((bl a.toNat : Int), ()) := when_pos h
theorem e104 {a : Int} (h : 0 ≤ a ∧ a < 18446744073709551616) : h104 (a, ()) = some ((bl a.toNat : Int), ()) := when_pos h
theorem e50 {a b : List Int} (ha : Nt a) (hb : Nt b) : h50 (a, (b, ())) = some (cmpI (V a) (V b), ()) := when_pos ⟨ha, hb⟩
theorem e21 {a n p : Int} (ha : 0 ≤ a ∧ a < 18446744073709551616) (hn : 0 ≤ n ∧ n < 18446744073709551616) (hp : 0 < p ∧ p < 4294967296) : h21 (a, (n, (p, ()))) = some (a ^ n.toNat % p, ()) := when_pos ⟨ha, hn, hp⟩
theorem e103 {a b c : Int} (ha : 0 ≤ a ∧ a < c) (hb : 0 ≤ b ∧ b < 4294967296) (hc : c < 4294967296) : h103 (a, (b, (c, ()))) = some ((a * 4294967296 + b) / c, ((a * 4294967296 + b) % c, ())) := when_pos ⟨ha, hb, hc⟩

/-! ### Comparing numbers -/
noncomputable def h78 : DL [.int .i64, .int .i64] → Option (DL [.int .i64]) := fun (x : Int × Int × Unit) => some (cmpI x.1 x.2.1, ())
noncomputable def h91 : DL [.int .u32, .int .u32] → Option (DL [.int .i64]) := fun (x : Int × Int × Unit) => some (cmpI x.1 x.2.1, ())
theorem s78 : SigOk Try.prog 78 ⟨[.int .i64, .int .i64], [.int .i64], h78⟩ := ok78 fun (x : Int × Int × Unit) r h => by
  obtain ⟨a, b, u⟩ := x
  rw [← h]
  show g78 (a, b, ()) = some (cmpI a b, ())
  rw [g78_eq]
  simp only [h100, Option.bind_some, Bool.false_eq_true, if_false, cmpI]
  by_cases h1 : a < b
  · rw [ifd_t h1, if_pos h1]
  · rw [ifd_f h1, if_neg h1]
    by_cases h2 : a > b
    · rw [ifd_t h2, if_neg (by omega)]
    · rw [ifd_f h2, if_pos (by omega)]
theorem s91 : SigOk Try.prog 91 ⟨[.int .u32, .int .u32], [.int .i64], h91⟩ := ok91 fun (x : Int × Int × Unit) r h => by
  obtain ⟨a, b, u⟩ := x
  rw [← h]
  show g91 (a, b, ()) = some (cmpI a b, ())
  rw [g91_eq]
  simp only [h102, Option.bind_some, Bool.false_eq_true, if_false, cmpI]
  by_cases h1 : a < b
  · rw [ifd_t h1, if_pos h1]
  · rw [ifd_f h1, if_neg h1]
    by_cases h2 : a > b
    · rw [ifd_t h2, if_neg (by omega)]
    · rw [ifd_f h2, if_pos (by omega)]

/-! ### Bits -/
noncomputable def h94 : DL [.int .u32] → Option (DL [.int .i64]) := fun (x : Int × Unit) => when (0 ≤ x.1 ∧ x.1 < 4294967296) (32 - (bl x.1.toNat : Int), ())
theorem s94 : SigOk Try.prog 94 ⟨[.int .u32], [.int .i64], h94⟩ := ok94 fun (x : Int × Unit) r h => by
  obtain ⟨hx, rfl⟩ := when_some h
  obtain ⟨a, u⟩ := x
  show g94 (a, ()) = some (32 - (bl a.toNat : Int), ())
  have hb : bl a.toNat ≤ 32 := bl_small 32 (by simp only at hx; omega)
  rw [g94_eq, e98 hx, Option.bind_some]
  dsimp only
  rw [wi64 (by omega) (by omega)]
noncomputable def h99 : DL [.int .u64] → Option (DL [.int .i64]) := fun (x : Int × Unit) => when (0 ≤ x.1 ∧ x.1 < 18446744073709551616) ((bl x.1.toNat : Int), ())
theorem s99 : SigOk Try.prog 99 ⟨[.int .u64], [.int .i64], h99⟩ := ok99 fun (x : Int × Unit) r h => by
  obtain ⟨hx, rfl⟩ := when_some h
  obtain ⟨a, u⟩ := x
  show g99 (a, ()) = some ((bl a.toNat : Int), ())
  rw [g99_eq, e104 hx, Option.bind_some]

/-! ### Few words -/
theorem two_words {n : Int} (h0 : 0 ≤ n) (h1 : n < 18446744073709551616) : W [n % 4294967296, n / 4294967296] ∧ V [n % 4294967296, n / 4294967296] = n := by
  refine ⟨W.cons (by omega) (by omega) (W.cons (by omega) (by omega) W.nil), ?_⟩
  simp only [V]
  omega
noncomputable def h68 : DL [.int .u64] → Option (DL [.sl (.int .u32)]) := fun (x : Int × Unit) => when (0 ≤ x.1 ∧ x.1 < 18446744073709551616) (D x.1, ())
noncomputable def h48 : DL [.int .u64] → Option (DL [.sl (.int .u32)]) := h68
theorem s68 : SigOk Try.prog 68 ⟨[.int .u64], [.sl (.int .u32)], h68⟩ := ok68 fun (x : Int × Unit) r h => by
  obtain ⟨⟨a0, a1⟩, rfl⟩ := when_some h
  obtain ⟨a, u⟩ := x
  simp only at a0 a1
  show g68 (a, ()) = some (D a, ())
  obtain ⟨t1, t2⟩ := two_words a0 a1
  have e : List.set (List.set (List.replicate 2 (0 : Int)) 0 (IntKind.wrap .u32 a)) 1 (IntKind.wrap .u32 (Int.fdiv a 4294967296)) = [a % 4294967296, a / 4294967296] := by
    rw [IntKind.wrap_u32, fd (by omega), wu32 (x := a / 4294967296) (by omega) (by omega)]
    rfl
  rw [g68_eq, e, e88 t1 (by simp), Option.bind_some, t2]
theorem s48 : SigOk Try.prog 48 ⟨[.int .u64], [.sl (.int .u32)], h48⟩ := ok48 fun (x : Int × Unit) r h => by
  obtain ⟨⟨a0, a1⟩, rfl⟩ := when_some h
  obtain ⟨a, u⟩ := x
  simp only at a0 a1
  show g48 (a, ()) = some (D a, ())
  obtain ⟨t1, t2⟩ := two_words a0 a1
  have e : List.set (List.set (List.replicate 2 (0 : Int)) 0 (IntKind.wrap .u32 (Int.tmod a 4294967296))) 1 (IntKind.wrap .u32 (IntKind.wrap .u64 (Int.tdiv a 4294967296))) = [a % 4294967296, a / 4294967296] := by
    rw [tm a0, td a0, wu32 (x := a % 4294967296) (by omega) (by omega), wu64 (x := a / 4294967296) (by omega) (by omega), wu32 (x := a / 4294967296) (by omega) (by omega)]
    rfl
  rw [g48_eq, e, e74 t1 (by simp), Option.bind_some, t2]
noncomputable def h67 : DL [.sl (.int .u32)] → Option (DL [.int .u64]) := fun (x : List Int × Unit) => when (W x.1 ∧ x.1.length ≤ 2) (V x.1, ())
theorem V_two {l : List Int} (h : l.length ≤ 2) : V l = l.getD 1 0 * 4294967296 + l.getD 0 0 := by
  match l, h with
  | [], _ => rfl
  | [a], _ => simp [V]
  | [a, b], _ => simp [V]; omega
theorem s67 : SigOk Try.prog 67 ⟨[.sl (.int .u32)], [.int .u64], h67⟩ := ok67 fun (x : List Int × Unit) r h => by
  obtain ⟨⟨hw, hl⟩, rfl⟩ := when_some h
  obtain ⟨l, u⟩ := x
  simp only at hw hl
  show g67 (l, ()) = some (V l, ())
  have h0 := hw.getD 0
  have h1 := hw.getD 1
  rw [g67_eq, e82 hw (by omega), e82 hw (by omega), Option.bind_some, Option.bind_some]
  simp only [show Int.toNat 1 = 1 from rfl, show Int.toNat 0 = 0 from rfl]
  rw [wu64 (x := l.getD 1 0 * 4294967296) (by omega) (by omega), wu64 (by omega) (by omega), V_two hl]

/-! ### Signs -/
def sg (b : Bool) (z : Int) : Int := if b = true then -z else z
theorem enc_sg {b : Bool} {z : Int} (hz : 0 ≤ z) : enc (sg b z) = (b && decide (z ≠ 0), D z, ()) := by
  unfold enc sg D
  cases b
  · simp only [Bool.false_eq_true, if_false, Bool.false_and]
    rw [show z.natAbs = z.toNat by omega]
    simp; omega
  · simp only [if_true, Bool.true_and]
    rw [show (-z).natAbs = z.toNat by omega]
    congr 1
    simp only [decide_eq_decide]
    omega
theorem D_len_pos {z : Int} (h : 0 ≤ z) : (((D z).length : Int) > 0) ↔ z ≠ 0 := by
  constructor
  · intro h1 h2
    subst h2
    simp [D_zero] at h1
  · intro h1
    have := dg_length_pos (n := z.toNat) (by omega)
    unfold D
    omega
noncomputable def h69 : DL [.sl (.int .u32), .bool] → Option (DL [tInt]) := fun (x : List Int × Bool × Unit) => when (Wl x.1) (enc (sg x.2.1 (V x.1)), ())
noncomputable def h47 : DL [.bool, .sl (.int .u32)] → Option (DL [tInt]) := fun (x : Bool × List Int × Unit) => when (Wl x.2.1) (enc (sg x.1 (V x.2.1)), ())
theorem D_V_length {l : List Int} (h : W l) : (D (V l)).length ≤ l.length := D_length (V_lt h)
theorem s69 : SigOk Try.prog 69 ⟨[.sl (.int .u32), .bool], [tInt], h69⟩ := ok69 fun (x : List Int × Bool × Unit) r h => by
  obtain ⟨⟨hw, hl⟩, rfl⟩ := when_some h
  obtain ⟨l, b, u⟩ := x
  simp only at hw hl
  show g69 (l, b, ()) = some (enc (sg b (V l)), ())
  have hn := V_nonneg hw
  have h1 := D_V_length hw
  rw [g69_eq, e88 hw (by omega), Option.bind_some, enc_sg hn]
  dsimp only
  cases b
  · rw [ifb_f rfl, e89 (by omega), Option.bind_some, Bool.false_and]
  · rw [ifb_t rfl, e89 (by omega), Option.bind_some, Bool.true_and, decide_eq_decide.2 (D_len_pos hn)]
theorem s47 : SigOk Try.prog 47 ⟨[.bool, .sl (.int .u32)], [tInt], h47⟩ := ok47 fun (x : Bool × List Int × Unit) r h => by
  obtain ⟨⟨hw, hl⟩, rfl⟩ := when_some h
  obtain ⟨b, l, u⟩ := x
  simp only at hw hl
  show g47 (b, l, ()) = some (enc (sg b (V l)), ())
  have hn := V_nonneg hw
  have h1 := D_V_length hw
  rw [g47_eq, e74 hw (by omega), Option.bind_some, enc_sg hn]
  cases b
  · rw [ifb_f rfl, Bool.false_and]
  · rw [ifb_t rfl, Bool.true_and, decide_eq_decide.2 (D_len_pos hn)]

/-! ### Comparing with signs -/
noncomputable def h32 : DL [tInt, tInt] → Option (DL [.int .i64]) := fun (x : DInt × DInt × Unit) => when (Is x.1 ∧ Is x.2.1) (cmpI (dec x.1) (dec x.2.1), ())
theorem enc_1 (z : Int) : (enc z).1 = decide (z < 0) := rfl
theorem enc_2 (z : Int) : (enc z).2.1 = dg z.natAbs := rfl
theorem V_enc (z : Int) : V (enc z).2.1 = (z.natAbs : Int) := V_dg _
theorem s32 : SigOk Try.prog 32 ⟨[tInt, tInt], [.int .i64], h32⟩ := ok32 fun (x : DInt × DInt × Unit) r h => by
  obtain ⟨⟨⟨y, hy, hsy⟩, z, hz, hsz⟩, rfl⟩ := when_some h
  obtain ⟨a, b, u⟩ := x
  replace hy : a = enc y := hy
  replace hz : b = enc z := hz
  subst hy; subst hz
  show g32 (enc y, enc z, ()) = some (cmpI (dec (enc y)) (dec (enc z)), ())
  rw [g32_eq, dec_enc, dec_enc, enc_2, enc_2, enc_1, enc_1]
  simp only [e50 hsy.nt hsz.nt, e50 hsz.nt hsy.nt, Option.bind_some, V_dg]
  by_cases h1 : y < 0 <;> by_cases h2 : z < 0 <;> simp [h1, h2, cmpI] <;> (repeat' split) <;> omega

/-! ### An inverse by a power -/
noncomputable def h17 : DL [.int .u64, .int .u64] → Option (DL [.int .u64, .int .i64]) := fun (x : Int × Int × Unit) =>
  when ((0 ≤ x.1 ∧ x.1 < 18446744073709551616) ∧ 2 ≤ x.2.1 ∧ x.2.1 < 4294967296) (if x.1 % x.2.1 = 0 then (0, (10, ())) else (x.1 ^ (x.2.1 - 2).toNat % x.2.1, (0, ())))
theorem s17 : SigOk Try.prog 17 ⟨[.int .u64, .int .u64], [.int .u64, .int .i64], h17⟩ := ok17 fun (x : Int × Int × Unit) r h => by
  obtain ⟨⟨ha, p0, p1⟩, rfl⟩ := when_some h
  obtain ⟨a, p, u⟩ := x
  simp only at ha p0 p1
  show g17 (a, p, ()) = some (if a % p = 0 then (0, (10, ())) else (a ^ (p - 2).toNat % p, (0, ())))
  rw [g17_eq, ife_f (by omega), tm ha.1]
  by_cases h0 : a % p = 0
  · rw [ife_t h0, if_pos h0]
  · rw [ife_f h0, if_neg h0, wu64 (x := p - 2) (by omega) (by omega), e21 ha (by omega) (by omega), Option.bind_some]

/-! ### Small numbers -/
noncomputable def h65 : DL [tInt] → Option (DL [.int .i64, .bool]) := fun (x : DInt × Unit) => when (Is x.1) (if -9223372036854775808 ≤ dec x.1 ∧ dec x.1 < 9223372036854775808 then (dec x.1, (true, ())) else (0, (false, ())))
theorem len_gt_two {z : Int} (h : ¬ (dg z.natAbs).length ≤ 2) : ¬ (-9223372036854775808 ≤ z ∧ z < 9223372036854775808) := by
  intro hc
  exact h (dg_length (k := 2) (by omega))
theorem s65 : SigOk Try.prog 65 ⟨[tInt], [.int .i64, .bool], h65⟩ := ok65 fun (x : DInt × Unit) r h => by
  obtain ⟨⟨z, hz, hs⟩, rfl⟩ := when_some h
  obtain ⟨a, u⟩ := x
  replace hz : a = enc z := hz
  subst hz
  show g65 (enc z, ()) = some (if -9223372036854775808 ≤ dec (enc z) ∧ dec (enc z) < 9223372036854775808 then (dec (enc z), (true, ())) else (0, (false, ())))
  have hw := dg_W z.natAbs
  have h0 := hw.getD 0
  have h1 := hw.getD 1
  rw [g65_eq, dec_enc, enc_2, enc_1, e83 hw (by omega), e83 hw (by omega), Option.bind_some, Option.bind_some]
  simp only [show Int.toNat 1 = 1 from rfl, show Int.toNat 0 = 0 from rfl]
  by_cases hl : (dg z.natAbs).length ≤ 2
  · have hv := V_two hl
    rw [V_dg] at hv
    rw [ifd_f (by omega), wu64 (x := (dg z.natAbs).getD 1 0) (by omega) (by omega), wu64 (x := (dg z.natAbs).getD 0 0) (by omega) (by omega), wu64 (x := (dg z.natAbs).getD 1 0 * 4294967296) (by omega) (by omega), or_words h1.1 h1.2 h0.1 h0.2, ← hv, wu64 (x := (z.natAbs : Int)) (by omega) (by omega)]
    by_cases hz : z < 0
    · rw [ifb_t (by simpa using hz), ifnot_f (by simpa using hz)]
      by_cases hb : (z.natAbs : Int) ≤ 9223372036854775808
      · rw [ifd_t hb, if_pos (by omega)]
        have : IntKind.wrap .i64 (IntKind.wrap .u64 (0 - (z.natAbs : Int))) = z := by
          rw [IntKind.wrap_u64, IntKind.wrap_i64]
          omega
        rw [this]
      · rw [ifd_f hb, if_neg (by omega)]
    · rw [ifb_f (by simpa using hz), ifnot_t (by simpa using hz)]
      by_cases hb : (z.natAbs : Int) < 9223372036854775808
      · rw [ifd_t hb, if_pos (by omega), wi64 (by omega) (by omega), show (z.natAbs : Int) = z by omega]
      · rw [ifd_f hb, if_neg (by omega)]
  · rw [ifd_t (by omega), if_neg (len_gt_two hl)]

/-! ### The number of bits -/
noncomputable def h76 : DL [tInt] → Option (DL [.int .i64]) := fun (x : DInt × Unit) => when (Is x.1) ((bl (dec x.1).natAbs : Int), ())
noncomputable def h79 : DL [tInt] → Option (DL [.int .i64]) := h76
theorem bl_top (n : Nat) (h : n ≠ 0) : bl n = 32 * ((dg n).length - 1) + bl ((dg n).getD ((dg n).length - 1) 0).toNat := by
  induction n using Nat.strongRecOn with
  | _ n ih =>
    rw [dg_pos h]
    by_cases h1 : n / 4294967296 = 0
    · rw [h1, dg_zero]
      simp only [List.length_cons, List.length_nil, Nat.zero_add, Nat.sub_self, Nat.mul_zero, List.getD_cons_zero, Int.toNat_natCast]
      rw [show n % 4294967296 = n by omega]
    · have hp := dg_length_pos h1
      have := ih (n / 4294967296) (by omega) h1
      rw [bl_shift 32 (by omega), show 2 ^ 32 = 4294967296 from rfl, this]
      simp only [List.length_cons]
      rw [show (dg (n / 4294967296)).length + 1 - 1 = ((dg (n / 4294967296)).length - 1) + 1 by omega, List.getD_cons_succ]
      omega
theorem s76 : SigOk Try.prog 76 ⟨[tInt], [.int .i64], h76⟩ := ok76 fun (x : DInt × Unit) r h => by
  obtain ⟨⟨z, hz, hs⟩, rfl⟩ := when_some h
  obtain ⟨a, u⟩ := x
  replace hz : a = enc z := hz
  subst hz
  show g76 (enc z, ()) = some ((bl (dec (enc z)).natAbs : Int), ())
  rw [g76_eq, dec_enc, enc_2]
  unfold Sm at hs
  by_cases h0 : z = 0
  · subst h0
    rw [ife_t (by simp [dg_zero])]
    rfl
  · have hp := dg_length_pos (n := z.natAbs) (by omega)
    have ht := bl_top z.natAbs (by omega)
    have hg := (dg_W z.natAbs).getD ((dg z.natAbs).length - 1)
    have hb : bl ((dg z.natAbs).getD ((dg z.natAbs).length - 1) 0).toNat ≤ 32 := bl_small 32 (by omega)
    rw [ife_f (by omega), wi64 (x := ((dg z.natAbs).length : Int) - 1) (by omega) (by omega), ifdd_t (by omega) (by omega), show Int.toNat (((dg z.natAbs).length : Int) - 1) = (dg z.natAbs).length - 1 by omega, e98 hg, Option.bind_some]
    rw [wi64 (x := 32 * (((dg z.natAbs).length : Int) - 1)) (by omega) (by omega), wi64 (by omega) (by omega), ht]
    congr 2
    omega
theorem bl_half {n : Nat} (h : n ≠ 0) : bl n = 1 + bl (n / 2) := by
  by_cases h1 : n = 1
  · subst h1; decide
  · exact bl_shift 1 (by omega)
theorem L79 : ∀ k : Nat, ∀ c t : Int, 0 ≤ c → c + k < 9223372036854775807 → 0 ≤ t → t < 4294967296 → bl t.toNat ≤ k → g79_L6 c t = some (c + (bl t.toNat : Int), ()) := by
  intro k
  induction k with
  | zero =>
    intro c t c0 c1 t0 t1 hk
    have : t = 0 := by
      have h1 := bl_lt t.toNat
      rw [show bl t.toNat = 0 by omega] at h1
      omega
    subst this
    rw [g79_L6_eq, ifd_f (by omega)]
    simp [bl]
  | succ k ih =>
    intro c t c0 c1 t0 t1 hk
    rw [g79_L6_eq]
    by_cases ht : t > 0
    · rw [ifd_t ht, wi64 (by omega) (by omega), td t0, wu32 (by omega) (by omega)]
      have hs := bl_half (n := t.toNat) (by omega)
      rw [show t.toNat / 2 = (t / 2).toNat by omega] at hs
      rw [ih (c + 1) (t / 2) (by omega) (by omega) (by omega) (by omega) (by omega), hs]
      congr 2
      omega
    · have : t = 0 := by omega
      subst this
      rw [ifd_f (by omega)]
      simp [bl]
theorem s79 : SigOk Try.prog 79 ⟨[tInt], [.int .i64], h79⟩ := leaf (an := an79) Try.func79 rfl rfl fun (x : DInt × Unit) r h => by
  obtain ⟨⟨z, hz, hs⟩, rfl⟩ := when_some h
  obtain ⟨a, u⟩ := x
  replace hz : a = enc z := hz
  subst hz
  show g79 (enc z, ()) = some ((bl (dec (enc z)).natAbs : Int), ())
  rw [g79_eq, dec_enc, enc_2]
  unfold Sm at hs
  by_cases h0 : z = 0
  · subst h0
    rw [ife_t (by simp [dg_zero])]
    rfl
  · have hp := dg_length_pos (n := z.natAbs) (by omega)
    have ht := bl_top z.natAbs (by omega)
    have hg := (dg_W z.natAbs).getD ((dg z.natAbs).length - 1)
    have hb : bl ((dg z.natAbs).getD ((dg z.natAbs).length - 1) 0).toNat ≤ 32 := bl_small 32 (by omega)
    rw [ife_f (by omega), wi64 (x := ((dg z.natAbs).length : Int) - 1) (by omega) (by omega), ifdd_t (by omega) (by omega), show Int.toNat (((dg z.natAbs).length : Int) - 1) = (dg z.natAbs).length - 1 by omega]
    rw [wi64 (x := 32 * (((dg z.natAbs).length : Int) - 1)) (by omega) (by omega), L79 32 _ _ (by omega) (by omega) hg.1 hg.2 hb, ht]
    congr 2
    omega
end Go.Refl.S3
