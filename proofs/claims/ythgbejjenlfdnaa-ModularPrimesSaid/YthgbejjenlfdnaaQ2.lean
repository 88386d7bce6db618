import Derived.Test.YthgbejjenlfdnaaP1
/-
  What the functions on rows of words compute: sums and differences, signs, comparing, few words.
-/
set_option linter.unusedVariables false
set_option linter.unusedSimpArgs false
set_option maxRecDepth 100000
namespace Go.Refl.S3
open Go Go.Refl Go.Proofs

/-- A row of words of a length that isn't too great. -/
def Wl (l : List Int) : Prop := W l ∧ l.length < 4194304
theorem Nt.wl {l : List Int} (h : Nt l) : Wl l := ⟨h.1, h.2.2⟩
theorem Sm.nt {z : Int} (h : Sm z) : Nt (dg z.natAbs) := ⟨dg_W _, dg_Cn _, by unfold Sm at h; omega⟩
theorem Sm.wl {z : Int} (h : Sm z) : Wl (dg z.natAbs) := h.nt.wl

/-! ### What was proved of callees, as equations -/
theorem e74 {l : List Int} (h : W l) (hl : l.length < 4611686018427387904) : h74 (l, ()) = some (D (V l), ()) := when_pos ⟨h, hl⟩
theorem e88 {l : List Int} (h : W l) (hl : l.length < 4611686018427387904) : h88 (l, ()) = some (D (V l), ()) := when_pos ⟨h, hl⟩
theorem e82 {l : List Int} {i : Int} (h : W l) (hi : 0 ≤ i) : h82 (l, (i, ())) = some (l.getD i.toNat 0, ()) := when_pos ⟨h, hi⟩
theorem e83 {l : List Int} {i : Int} (h : W l) (hi : 0 ≤ i) : h83 (l, (i, ())) = some (l.getD i.toNat 0, ()) := when_pos ⟨h, hi⟩
theorem e89 {l : List Int} (hl : l.length < 17592186044416) : h89 (l, ()) = some (l, ()) := when_pos (p := l.length < 17592186044416) hl
theorem e90 {a b c : Int} (ha : 0 ≤ a ∧ a < 4294967296) (hb : 0 ≤ b ∧ b < 4294967296) (hc : 0 ≤ c ∧ c < 4294967296) : h90 (a, (b, (c, ()))) = some ((a + b + c) % 4294967296, ((a + b + c) / 4294967296, ())) := when_pos ⟨ha, hb, hc⟩
theorem e92 {a b c : Int} (ha : 0 ≤ a ∧ a < 4294967296) (hb : 0 ≤ b ∧ b < 4294967296) (hc : 0 ≤ c ∧ c ≤ 1) : h92 (a, (b, (c, ()))) = some ((a - b - c) % 4294967296, ((if a < b + c then 1 else 0), ())) := when_pos ⟨ha, hb, hc⟩
theorem e98 {a : Int} (h : 0 ≤ a ∧ a < 4294967296) : h98 (a, ()) = some ((bl a.toNat : Int), ()) := when_pos h
theorem e104 {a : Int} (h : 0 ≤ a ∧ a < 18446744073709551616) : h104 (a, ()) = some ((bl a.toNat : Int), ()) := when_pos h
theorem e50 {a b : List Int} (ha : Nt a) (hb : Nt b) : h50 (a, (b, ())) = some (cmpI (V a) (V b), ()) := when_pos ⟨ha, hb⟩
theorem e21 {a n p : Int} (ha : 0 ≤ a ∧ a < 18446744073709551616) (hn : 0 ≤ n ∧ n < 18446744073709551616) (hp : 0 < p ∧ p < 4294967296) : h21 (a, (n, (p, ()))) = some (a ^ n.toNat % p, ()) := when_pos ⟨ha, hn, hp⟩
theorem e103 {a b c : Int} (ha : 0 ≤ a ∧ a < c) (hb : 0 ≤ b ∧ b < 4294967296) (hc : c < 4294967296) : h103 (a, (b, (c, ()))) = some ((a * 4294967296 + b) / c, ((a * 4294967296 + b) % c, ())) := when_pos ⟨ha, hb, hc⟩

/-! ### Comparing numbers -/
noncomputable def h78 : DL [.int .i64, .int .i64] → Option (DL [.int .i64]) := fun (x : Int × Int × Unit) => some (cmpI x.1 x.2.1, ())
noncomputable def h91 : DL [.int .u32, .int .u32] → Option (DL [.int .i64]) := fun (x : Int × Int × Unit) => some (cmpI x.1 x.2.1, ())
theorem s78 : SigOk Try.prog 78 ⟨[.int .i64, .int .i64], [.int .i64], h78⟩ := ok78 fun (x : Int × Int × Unit) r h => by
  obtain ⟨a, b, u⟩ := x
  rw [← h]
  show g78 (a, b, ()) = some (cmpI a b, ())
  rw [g78_eq]
  simp only [h100, Option.bind_some, Bool.false_eq_true, if_false, cmpI]
  by_cases h1 : a < b
  · rw [ifd_t h1, if_pos h1]
  · rw [ifd_f h1, if_neg h1]
    by_cases h2 : a > b
    · rw [ifd_t h2, if_neg (by omega)]
    · rw [ifd_f h2, if_pos (by omega)]
theorem s91 : SigOk Try.prog 91 ⟨[.int .u32, .int .u32], [.int .i64], h91⟩ := ok91 fun (x : Int × Int × Unit) r h => by
  obtain ⟨a, b, u⟩ := x
  rw [← h]
  show g91 (a, b, ()) = some (cmpI a b, ())
  rw [g91_eq]
  simp only [h102, Option.bind_some, Bool.false_eq_true, if_false, cmpI]
  by_cases h1 : a < b
  · rw [ifd_t h1, if_pos h1]
  · rw [ifd_f h1, if_neg h1]
    by_cases h2 : a > b
    · rw [ifd_t h2, if_neg (by omega)]
    · rw [ifd_f h2, if_pos (by omega)]

/-! ### Bits -/
noncomputable def h94 : DL [.int .u32] → Option (DL [.int .i64]) := fun (x : Int × Unit) => when (0 ≤ x.1 ∧ x.1 < 4294967296) (32 - (bl x.1.toNat : Int), ())
theorem s94 : SigOk Try.prog 94 ⟨[.int .u32], [.int .i64], h94⟩ := ok94 fun (x : Int × Unit) r h => by
  obtain ⟨hx, rfl⟩ := when_some h
  obtain ⟨a, u⟩ := x
  show g94 (a, ()) = some (32 - (bl a.toNat : Int), ())
  have hb : bl a.toNat ≤ 32 := bl_small 32 (by simp only at hx; omega)
  rw [g94_eq, e98 hx, Option.bind_some]
  dsimp only
  rw [wi64 (by omega) (by omega)]
noncomputable def h99 : DL [.int .u64] → Option (DL [.int .i64]) := fun (x : Int × Unit) => when (0 ≤ x.1 ∧ x.1 < 18446744073709551616) ((bl x.1.toNat : Int), ())
theorem s99 : SigOk Try.prog 99 ⟨[.int .u64], [.int .i64], h99⟩ := ok99 fun (x : Int × Unit) r h => by
  obtain ⟨hx, rfl⟩ := when_some h
  obtain ⟨a, u⟩ := x
  show g99 (a, ()) = some ((bl a.toNat : Int), ())
  rw [g99_eq, e104 hx, Option.bind_some]

/-! ### Few words -/
theorem two_words {n : Int} (h0 : 0 ≤ n) (h1 : n < 18446744073709551616) : W [n % 4294967296, n / 4294967296] ∧ V [n % 4294967296, n / 4294967296] = n := by
  refine ⟨W.cons (by omega) (by omega) (W.cons (by omega) (by omega) W.nil), ?_⟩
  simp only [V]
  omega
noncomputable def h68 : DL [.int .u64] → Option (DL [.sl (.int .u32)]) := fun (x : Int × Unit) => when (0 ≤ x.1 ∧ x.1 < 18446744073709551616) (D x.1, ())
noncomputable def h48 : DL [.int .u64] → Option (DL [.sl (.int .u32)]) := h68
theorem s68 : SigOk Try.prog 68 ⟨[.int .u64], [.sl (.int .u32)], h68⟩ := ok68 fun (x : Int × Unit) r h => by
  obtain ⟨⟨a0, a1⟩, rfl⟩ := when_some h
  obtain ⟨a, u⟩ := x
  simp only at a0 a1
  show g68 (a, ()) = some (D a, ())
  obtain ⟨t1, t2⟩ := two_words a0 a1
  have e : List.set (List.set (List.replicate 2 (0 : Int)) 0 (IntKind.wrap .u32 a)) 1 (IntKind.wrap .u32 (Int.fdiv a 4294967296)) = [a % 4294967296, a / 4294967296] := by
    rw [IntKind.wrap_u32, fd (by omega), wu32 (x := a / 4294967296) (by omega) (by omega)]
    rfl
  rw [g68_eq, e, e88 t1 (by simp), Option.bind_some, t2]
theorem s48 : SigOk Try.prog 48 ⟨[.int .u64], [.sl (.int .u32)], h48⟩ := ok48 fun (x : Int × Unit) r h => by
  obtain ⟨⟨a0, a1⟩, rfl⟩ := when_some h
  obtain ⟨a, u⟩ := x
  simp only at a0 a1
  show g48 (a, ()) = some (D a, ())
  obtain ⟨t1, t2⟩ := two_words a0 a1
  have e : List.set (List.set (List.replicate 2 (0 : Int)) 0 (IntKind.wrap .u32 (Int.tmod a 4294967296))) 1 (IntKind.wrap .u32 (IntKind.wrap .u64 (Int.tdiv a 4294967296))) = [a % 4294967296, a / 4294967296] := by
    rw [tm a0, td a0, wu32 (x := a % 4294967296) (by omega) (by omega), wu64 (x := a / 4294967296) (by omega) (by omega), wu32 (x := a / 4294967296) (by omega) (by omega)]
    rfl
  rw [g48_eq, e, e74 t1 (by simp), Option.bind_some, t2]
noncomputable def h67 : DL [.sl (.int .u32)] → Option (DL [.int .u64]) := fun (x : List Int × Unit) => when (W x.1 ∧ x.1.length ≤ 2) (V x.1, ())
theorem V_two {l : List Int} (h : l.length ≤ 2) : V l = l.getD 1 0 * 4294967296 + l.getD 0 0 := by
  match l, h with
  | [], _ => rfl
  | [a], _ => simp [V]
  | [a, b], _ => simp [V]; omega
theorem s67 : SigOk Try.prog 67 ⟨[.sl (.int .u32)], [.int .u64], h67⟩ := ok67 fun (x : List Int × Unit) r h => by
  obtain ⟨⟨hw, hl⟩, rfl⟩ := when_some h
  obtain ⟨l, u⟩ := x
  simp only at hw hl
  show g67 (l, ()) = some (V l, ())
  have h0 := hw.getD 0
  have h1 := hw.getD 1
  rw [g67_eq, e82 hw (by omega), e82 hw (by omega), Option.bind_some, Option.bind_some]
  simp only [show Int.toNat 1 = 1 from rfl, show Int.toNat 0 = 0 from rfl]
  rw [wu64 (x := l.getD 1 0 * 4294967296) (by omega) (by omega), wu64 (by omega) (by omega), V_two hl]

/-! ### Signs -/
def sg (b : Bool) (z : Int) : Int := if b = true then -z else z
theorem enc_sg {b : Bool} {z : Int} (hz : 0 ≤ z) : enc (sg b z) = (b && decide (z ≠ 0), D z, ()) := by
  unfold enc sg D
  cases b
  · simp only [Bool.false_eq_true, if_false, Bool.false_and]
    rw [show z.natAbs = z.toNat by omega]
    simp; omega
  · simp only [if_true, Bool.true_and]
    rw [show (-z).natAbs = z.toNat by omega]
    congr 1
    simp only [decide_eq_decide]
    omega
theorem D_len_pos {z : Int} (h : 0 ≤ z) : (((D z).length : Int) > 0) ↔ z ≠ 0 := by
  constructor
  · intro h1 h2
    subst h2
    simp [D_zero] at h1
  · intro h1
    have := dg_length_pos (n := z.toNat) (by omega)
    unfold D
    omega
noncomputable def h69 : DL [.sl (.int .u32), .bool] → Option (DL [tInt]) := fun (x : List Int × Bool × Unit) => when (Wl x.1) (enc (sg x.2.1 (V x.1)), ())
noncomputable def h47 : DL [.bool, .sl (.int .u32)] → Option (DL [tInt]) := fun (x : Bool × List Int × Unit) => when (Wl x.2.1) (enc (sg x.1 (V x.2.1)), ())
theorem D_V_length {l : List Int} (h : W l) : (D (V l)).length ≤ l.length := D_length (V_lt h)
theorem s69 : SigOk Try.prog 69 ⟨[.sl (.int .u32), .bool], [tInt], h69⟩ := ok69 fun (x : List Int × Bool × Unit) r h => by
  obtain ⟨⟨hw, hl⟩, rfl⟩ := when_some h
  obtain ⟨l, b, u⟩ := x
  simp only at hw hl
  show g69 (l, b, ()) = some (enc (sg b (V l)), ())
  have hn := V_nonneg hw
  have h1 := D_V_length hw
  rw [g69_eq, e88 hw (by omega), Option.bind_some, enc_sg hn]
  dsimp only
  cases b
  · rw [ifb_f rfl, e89 (by omega), Option.bind_some, Bool.false_and]
  · rw [ifb_t rfl, e89 (by omega), Option.bind_some, Bool.true_and, decide_eq_decide.2 (D_len_pos hn)]
theorem s47 : SigOk Try.prog 47 ⟨[.bool, .sl (.int .u32)], [tInt], h47⟩ := ok47 fun (x : Bool × List Int × Unit) r h => by
  obtain ⟨⟨hw, hl⟩, rfl⟩ := when_some h
  obtain ⟨b, l, u⟩ := x
  simp only at hw hl
  show g47 (b, l, ()) = some (enc (sg b (V l)), ())
  have hn := V_nonneg hw
  have h1 := D_V_length hw
  rw [g47_eq, e74 hw (by omega), Option.bind_some, enc_sg hn]
  cases b
  · rw [ifb_f rfl, Bool.false_and]
  · rw [ifb_t rfl, Bool.true_and, decide_eq_decide.2 (D_len_pos hn)]

/-! ### Comparing with signs -/
noncomputable def h32 : DL [tInt, tInt] → Option (DL [.int .i64]) := fun (x : DInt × DInt × Unit) => when (Is x.1 ∧ Is x.2.1) (cmpI (dec x.1) (dec x.2.1), ())
theorem enc_1 (z : Int) : (enc z).1 = decide (z < 0) := rfl
theorem enc_2 (z : Int) : (enc z).2.1 = dg z.natAbs := rfl
theorem V_enc (z : Int) : V (enc z).2.1 = (z.natAbs : Int) := V_dg _
theorem s32 : SigOk Try.prog 32 ⟨[tInt, tInt], [.int .i64], h32⟩ := ok32 fun (x : DInt × DInt × Unit) r h => by
  obtain ⟨⟨⟨y, hy, hsy⟩, z, hz, hsz⟩, rfl⟩ := when_some h
  obtain ⟨a, b, u⟩ := x
  replace hy : a = enc y := hy
  replace hz : b = enc z := hz
  subst hy; subst hz
  show g32 (enc y, enc z, ()) = some (cmpI (dec (enc y)) (dec (enc z)), ())
  rw [g32_eq, dec_enc, dec_enc, enc_2, enc_2, enc_1, enc_1]
  simp only [e50 hsy.nt hsz.nt, e50 hsz.nt hsy.nt, Option.bind_some, V_dg]
  by_cases h1 : y < 0 <;> by_cases h2 : z < 0 <;> simp [h1, h2, cmpI] <;> (repeat' split) <;> omega

/-! ### An inverse by a power -/
noncomputable def h17 : DL [.int .u64, .int .u64] → Option (DL [.int .u64, .int .i64]) := fun (x : Int × Int × Unit) =>
  when ((0 ≤ x.1 ∧ x.1 < 18446744073709551616) ∧ 2 ≤ x.2.1 ∧ x.2.1 < 4294967296) (if x.1 % x.2.1 = 0 then (0, (10, ())) else (x.1 ^ (x.2.1 - 2).toNat % x.2.1, (0, ())))
theorem s17 : SigOk Try.prog 17 ⟨[.int .u64, .int .u64], [.int .u64, .int .i64], h17⟩ := ok17 fun (x : Int × Int × Unit) r h => by
  obtain ⟨⟨ha, p0, p1⟩, rfl⟩ := when_some h
  obtain ⟨a, p, u⟩ := x
  simp only at ha p0 p1
  show g17 (a, p, ()) = some (if a % p = 0 then (0, (10, ())) else (a ^ (p - 2).toNat % p, (0, ())))
  rw [g17_eq, ife_f (by omega), tm ha.1]
  by_cases h0 : a % p = 0
  · rw [ife_t h0, if_pos h0]
  · rw [ife_f h0, if_neg h0, wu64 (x := p - 2) (by omega) (by omega), e21 ha (by omega) (by omega), Option.bind_some]

/-! ### Small numbers -/
noncomputable def h65 : DL [tInt] → Option (DL [.int .i64, .bool]) := fun (x : DInt × Unit) => when (Is x.1) (if -9223372036854775808 ≤ dec x.1 ∧ dec x.1 < 9223372036854775808 then (dec x.1, (true, ())) else (0, (false, ())))
theorem len_gt_two {z : Int} (h : ¬ (dg z.natAbs).length ≤ 2) : ¬ (-9223372036854775808 ≤ z ∧ z < 9223372036854775808) := by
  intro hc
  exact h (dg_length (k := 2) (by omega))
theorem s65 : SigOk Try.prog 65 ⟨[tInt], [.int .i64, .bool], h65⟩ := ok65 fun (x : DInt × Unit) r h => by
  obtain ⟨⟨z, hz, hs⟩, rfl⟩ := when_some h
  obtain ⟨a, u⟩ := x
  replace hz : a = enc z := hz
  subst hz
  show g65 (enc z, ()) = some (if -9223372036854775808 ≤ dec (enc z) ∧ dec (enc z) < 9223372036854775808 then (dec (enc z), (true, ())) else (0, (false, ())))
  have hw := dg_W z.natAbs
  have h0 := hw.getD 0
  have h1 := hw.getD 1
  rw [g65_eq, dec_enc, enc_2, enc_1, e83 hw (by omega), e83 hw (by omega), Option.bind_some, Option.bind_some]
  simp only [show Int.toNat 1 = 1 from rfl, show Int.toNat 0 = 0 from rfl]
  by_cases hl : (dg z.natAbs).length ≤ 2
  · have hv := V_two hl
    rw [V_dg] at hv
    rw [ifd_f (by omega), wu64 (x := (dg z.natAbs).getD 1 0) (by omega) (by omega), wu64 (x := (dg z.natAbs).getD 0 0) (by omega) (by omega), wu64 (x := (dg z.natAbs).getD 1 0 * 4294967296) (by omega) (by omega), or_words h1.1 h1.2 h0.1 h0.2, ← hv, wu64 (x := (z.natAbs : Int)) (by omega) (by omega)]
    by_cases hz : z < 0
    · rw [ifb_t (by simpa using hz), ifnot_f (by simpa using hz)]
      by_cases hb : (z.natAbs : Int) ≤ 9223372036854775808
      · rw [ifd_t hb, if_pos (by omega)]
        have : IntKind.wrap .i64 (IntKind.wrap .u64 (0 - (z.natAbs : Int))) = z := by
          rw [IntKind.wrap_u64, IntKind.wrap_i64]
          omega
        rw [this]
      · rw [ifd_f hb, if_neg (by omega)]
    · rw [ifb_f (by simpa using hz), ifnot_t (by simpa using hz)]
      by_cases hb : (z.natAbs : Int) < 9223372036854775808
      · rw [ifd_t hb, if_pos (by omega), wi64 (by omega) (by omega), show (z.natAbs : Int) = z by omega]
      · rw [ifd_f hb, if_neg (by omega)]
  · rw [ifd_t (by omega), if_neg (len_gt_two hl)]

/-! ### The number of bits -/
noncomputable def h76 : DL [tInt] → Option (DL [.int .i64]) := fun (x : DInt × Unit) => when (Is x.1) ((bl (dec x.1).natAbs : Int), ())
noncomputable def h79 : DL [tInt] → Option (DL [.int .i64]) := h76
theorem bl_top (n : Nat) (h : n ≠ 0) : bl n = 32 * ((dg n).length - 1) + bl ((dg n).getD ((dg n).length - 1) 0).toNat := by
  induction n using Nat.strongRecOn with
  | _ n ih =>
    rw [dg_pos h]
    by_cases h1 : n / 4294967296 = 0
    · rw [h1, dg_zero]
      simp only [List.length_cons, List.length_nil, Nat.zero_add, Nat.sub_self, Nat.mul_zero, List.getD_cons_zero, Int.toNat_natCast]
      rw [show n % 4294967296 = n by omega]
    · have hp := dg_length_pos h1
      have := ih (n / 4294967296) (by omega) h1
      rw [bl_shift 32 (by omega), show 2 ^ 32 = 4294967296 from rfl, this]
      simp only [List.length_cons]
      rw [show (dg (n / 4294967296)).length + 1 - 1 = ((dg (n / 4294967296)).length - 1) + 1 by omega, List.getD_cons_succ]
      omega
theorem s76 : SigOk Try.prog 76 ⟨[tInt], [.int .i64], h76⟩ := ok76 fun (x : DInt × Unit) r h => by
  obtain ⟨⟨z, hz, hs⟩, rfl⟩ := when_some h
  obtain ⟨a, u⟩ := x
  replace hz : a = enc z := hz
  subst hz
  show g76 (enc z, ()) = some ((bl (dec (enc z)).natAbs : Int), ())
  rw [g76_eq, dec_enc, enc_2]
  unfold Sm at hs
  by_cases h0 : z = 0
  · subst h0
    rw [ife_t (by simp [dg_zero])]
    rfl
  · have hp := dg_length_pos (n := z.natAbs) (by omega)
    have ht := bl_top z.natAbs (by omega)
    have hg := (dg_W z.natAbs).getD ((dg z.natAbs).length - 1)
    have hb : bl ((dg z.natAbs).getD ((dg z.natAbs).length - 1) 0).toNat ≤ 32 := bl_small 32 (by omega)
    rw [ife_f (by omega), wi64 (x := ((dg z.natAbs).length : Int) - 1) (by omega) (by omega), ifdd_t (by omega) (by omega), show Int.toNat (((dg z.natAbs).length : Int) - 1) = (dg z.natAbs).length - 1 by omega, e98 hg, Option.bind_some]
    rw [wi64 (x := 32 * (((dg z.natAbs).length : Int) - 1)) (by omega) (by omega), wi64 (by omega) (by omega), ht]
    congr 2
    omega
theorem bl_half {n : Nat} (h : n ≠ 0) : bl n = 1 + bl (n / 2) := by
  by_cases h1 : n = 1
  · subst h1; decide
  · exact bl_shift 1 (by omega)
theorem L79 : ∀ k : Nat, ∀ c t : Int, 0 ≤ c → c + k < 9223372036854775807 → 0 ≤ t → t < 4294967296 → bl t.toNat ≤ k → g79_L6 c t = some (c + (bl t.toNat : Int), ()) := by
  intro k
  induction k with
  | zero =>
    intro c t c0 c1 t0 t1 hk
    have : t = 0 := by
      have h1 := bl_lt t.toNat
      rw [show bl t.toNat = 0 by omega] at h1
      omega
    subst this
    rw [g79_L6_eq, ifd_f (by omega)]
    simp [bl]
  | succ k ih =>
    intro c t c0 c1 t0 t1 hk
    rw [g79_L6_eq]
    by_cases ht : t > 0
    · rw [ifd_t ht, wi64 (by omega) (by omega), td t0, wu32 (by omega) (by omega)]
      have hs := bl_half (n := t.toNat) (by omega)
      rw [show t.toNat / 2 = (t / 2).toNat by omega] at hs
      rw [ih (c + 1) (t / 2) (by omega) (by omega) (by omega) (by omega) (by omega), hs]
      congr 2
      omega
    · have : t = 0 := by omega
      subst this
      rw [ifd_f (by omega)]
      simp [bl]
theorem s79 : SigOk Try.prog 79 ⟨[tInt], [.int .i64], h79⟩ := leaf (an := an79) Try.func79 rfl rfl fun (x : DInt × Unit) r h => by
  obtain ⟨⟨z, hz, hs⟩, rfl⟩ := when_some h
  obtain ⟨a, u⟩ := x
  replace hz : a = enc z := hz
  subst hz
  show g79 (enc z, ()) = some ((bl (dec (enc z)).natAbs : Int), ())
  rw [g79_eq, dec_enc, enc_2]
  unfold Sm at hs
  by_cases h0 : z = 0
  · subst h0
    rw [ife_t (by simp [dg_zero])]
    rfl
  · have hp := dg_length_pos (n := z.natAbs) (by omega)
    have ht := bl_top z.natAbs (by omega)
    have hg := (dg_W z.natAbs).getD ((dg z.natAbs).length - 1)
    have hb : bl ((dg z.natAbs).getD ((dg z.natAbs).length - 1) 0).toNat ≤ 32 := bl_small 32 (by omega)
    rw [ife_f (by omega), wi64 (x := ((dg z.natAbs).length : Int) - 1) (by omega) (by omega), ifdd_t (by omega) (by omega), show Int.toNat (((dg z.natAbs).length : Int) - 1) = (dg z.natAbs).length - 1 by omega]
    rw [wi64 (x := 32 * (((dg z.natAbs).length : Int) - 1)) (by omega) (by omega), L79 32 _ _ (by omega) (by omega) hg.1 hg.2 hb, ht]
    congr 2
    omega
end Go.Refl.S3
/-
  What the functions on rows of words compute: sums, differences, products, division by one word.
-/
set_option linter.unusedVariables false
set_option linter.unusedSimpArgs false
set_option maxRecDepth 100000
namespace Go.Refl.S3
open Go Go.Refl Go.Proofs

theorem V_take_succ (l : List Int) (i : Nat) : V (l.take (i + 1)) = V (l.take i) + P i * l.getD i 0 := by
  by_cases h : i < l.length
  · exact V_succ_take h
  · rw [List.take_of_length_le (by omega), List.take_of_length_le (by omega), getD_out (by omega), Int.mul_zero, Int.add_zero]
theorem getD_set_ne {l : List Int} {i j : Nat} {w : Int} (h : i ≠ j) : (l.set i w).getD j 0 = l.getD j 0 := by
  rw [List.getD_eq_getElem?_getD, List.getD_eq_getElem?_getD, List.getElem?_set_ne h]
theorem getD_set_eq {l : List Int} {i : Nat} {w : Int} (h : i < l.length) : (l.set i w).getD i 0 = w := by
  rw [List.getD_eq_getElem?_getD, List.getElem?_set_self h]
  rfl
theorem getD_replicate (n i : Nat) : (List.replicate n (0 : Int)).getD i 0 = 0 := by
  rw [List.getD_eq_getElem?_getD, List.getElem?_replicate]
  split <;> rfl
theorem P_ge_one (n : Nat) : 1 ≤ P n := P_pos n
theorem P_le {m n : Nat} (h : m ≤ n) : P m ≤ P n := by
  obtain ⟨k, rfl⟩ : ∃ k, n = m + k := ⟨n - m, by omega⟩
  rw [P_add]
  have h1 := P_pos m
  have : P m * 1 ≤ P m * P k := Int.mul_le_mul_of_nonneg_left (P_ge_one k) (by omega)
  omega
theorem maxlen (a b : List Int) : (if (true = true) then (if ((b.length : Int) > (a.length : Int)) then (b.length : Int) else (a.length : Int)) else (if ((b.length : Int) < (a.length : Int)) then (b.length : Int) else (a.length : Int))) = ((max a.length b.length : Nat) : Int) := by
  rw [if_pos rfl]
  split <;> omega

/-! ### Sums -/
noncomputable def h70 : DL [.sl (.int .u32), .sl (.int .u32)] → Option (DL [.sl (.int .u32)]) := fun (x : List Int × List Int × Unit) => when (Wl x.1 ∧ Wl x.2.1) (D (V x.1 + V x.2.1), ())
noncomputable def h62 : DL [.sl (.int .u32), .sl (.int .u32)] → Option (DL [.sl (.int .u32)]) := h70

theorem carry_step {x y c s c' Vr A B p : Int} (h : Vr + p * c = A + B) (e1 : s = (x + y + c) % 4294967296) (e2 : c' = (x + y + c) / 4294967296) : Vr + (s - 0) * p + 4294967296 * p * c' = A + p * x + (B + p * y) := by
  have e : s + 4294967296 * c' = x + y + c := by omega
  clear e1 e2
  grind

theorem L70 (x y : List Int) (hx : W x) (hy : W y) (n : Nat) (hnx : x.length ≤ n) (hny : y.length ≤ n) (hn : n < 4194304) : ∀ k i : Nat, i + k = n → ∀ (r : List Int) (c : Int), W r → r.length = n + 1 → (∀ j, i ≤ j → r.getD j 0 = 0) → 0 ≤ c → c ≤ 1 → V r + P i * c = V (x.take i) + V (y.take i) → g70_L5 x y (n : Int) c (n : Int) (i : Int) r = some (D (V x + V y), ()) := by
  intro k
  induction k with
  | zero =>
    intro i hi r c hr hl hz c0 c1 he
    have : i = n := by omega
    subst this
    rw [g70_L5_eq, ifd_f (by omega), ifdd_t (by omega) (by omega), Int.toNat_natCast, e88 (hr.set c0 (by omega)) (by simp; omega), Option.bind_some, V_set (by omega), hz i (by omega)]
    rw [List.take_of_length_le hnx, List.take_of_length_le hny] at he
    congr 3
    rw [← he, Int.sub_zero, Int.mul_comm]
  | succ k ih =>
    intro i hi r c hr hl hz c0 c1 he
    have hxi := hx.getD i
    have hyi := hy.getD i
    rw [g70_L5_eq, ifd_t (by omega), e83 hx (by omega), e83 hy (by omega), Option.bind_some, Option.bind_some]
    dsimp only
    rw [Int.toNat_natCast, e90 hxi hyi (by omega), Option.bind_some, ifdd_t (by omega) (by omega), wi64 (by omega) (by omega)]
    dsimp only
    refine ih (i + 1) (by omega) _ _ (hr.set (by omega) (by omega)) (by simp [hl]) (fun j hj => ?_) (by omega) (by omega) ?_
    · rw [getD_set_ne (by omega)]
      exact hz j (by omega)
    · rw [V_set (by omega), hz i (by omega), V_take_succ, V_take_succ, P_succ]
      exact carry_step he rfl rfl
theorem s70 : SigOk Try.prog 70 ⟨[.sl (.int .u32), .sl (.int .u32)], [.sl (.int .u32)], h70⟩ := ok70 fun (x : List Int × List Int × Unit) r h => by
  obtain ⟨⟨⟨wa, la⟩, wb, lb⟩, rfl⟩ := when_some h
  obtain ⟨a, b, u⟩ := x
  simp only at wa la wb lb
  show g70 (a, b, ()) = some (D (V a + V b), ())
  rw [g70_eq, maxlen, wi64 (by omega) (by omega), ifddd_t (by omega) (by omega) (by omega)]
  rw [show Int.toNat (((max a.length b.length : Nat) : Int) + 1) = max a.length b.length + 1 by omega]
  exact L70 a b wa wb _ (by omega) (by omega) (by omega) _ 0 (Nat.zero_add _) _ 0 (W.replicate _) (by simp) (fun j _ => getD_replicate _ _) (by omega) (by omega) (by simp [V_replicate, V])

theorem L62 (x y : List Int) (hx : W x) (hy : W y) (n : Nat) (hnx : x.length + 1 ≤ n) (hny : y.length + 1 ≤ n) (hn : n < 4194306) : ∀ k i : Nat, i + k = n → ∀ (r : List Int) (c : Int), W r → r.length = n → (∀ j, i ≤ j → r.getD j 0 = 0) → 0 ≤ c → c ≤ 1 → V r + P i * c = V (x.take i) + V (y.take i) → g62_L5 x y (n : Int) c (i : Int) r = some (D (V x + V y), ()) := by
  intro k
  induction k with
  | zero =>
    intro i hi r c hr hl hz c0 c1 he
    have : i = n := by omega
    subst this
    rw [g62_L5_eq, ifd_f (by omega), e74 hr (by omega), Option.bind_some]
    rw [List.take_of_length_le (by omega), List.take_of_length_le (by omega)] at he
    have hc : c = 0 := by
      apply Classical.byContradiction
      intro hc
      have : c = 1 := by omega
      subst this
      have h1 := V_lt hx
      have h2 := V_lt hy
      have h3 := P_le (show x.length ≤ i - 1 by omega)
      have h4 := P_le (show y.length ≤ i - 1 by omega)
      have h5 := P_succ (i - 1)
      rw [show i - 1 + 1 = i by omega] at h5
      have h6 := V_nonneg hr
      have h7 := P_pos (i - 1)
      omega
    subst hc
    rw [← he, Int.mul_zero, Int.add_zero]
  | succ k ih =>
    intro i hi r c hr hl hz c0 c1 he
    have hxi := hx.getD i
    have hyi := hy.getD i
    rw [g62_L5_eq, ifd_t (by omega), e82 hx (by omega), e82 hy (by omega), Option.bind_some, Option.bind_some]
    dsimp only
    rw [Int.toNat_natCast, ifdd_t (by omega) (by omega), wi64 (by omega) (by omega), wu64 (x := x.getD i 0 + y.getD i 0) (by omega) (by omega), wu64 (x := x.getD i 0 + y.getD i 0 + c) (by omega) (by omega), tm (by omega), td (by omega), wu64 (by omega) (by omega), wu32 (by omega) (by omega)]
    refine ih (i + 1) (by omega) _ _ (hr.set (by omega) (by omega)) (by simp [hl]) (fun j hj => ?_) (by omega) (by omega) ?_
    · rw [getD_set_ne (by omega)]
      exact hz j (by omega)
    · rw [V_set (by omega), hz i (by omega), V_take_succ, V_take_succ, P_succ]
      exact carry_step he rfl rfl
theorem s62 : SigOk Try.prog 62 ⟨[.sl (.int .u32), .sl (.int .u32)], [.sl (.int .u32)], h62⟩ := ok62 fun (x : List Int × List Int × Unit) r h => by
  obtain ⟨⟨⟨wa, la⟩, wb, lb⟩, rfl⟩ := when_some h
  obtain ⟨a, b, u⟩ := x
  simp only at wa la wb lb
  show g62 (a, b, ()) = some (D (V a + V b), ())
  rw [g62_eq, maxlen, wi64 (by omega) (by omega), ifddd_t (by omega) (by omega) (by omega)]
  rw [show Int.toNat (((max a.length b.length : Nat) : Int) + 1) = max a.length b.length + 1 by omega, show ((max a.length b.length : Nat) : Int) + 1 = ((max a.length b.length + 1 : Nat) : Int) by omega]
  exact L62 a b wa wb _ (by omega) (by omega) (by omega) _ 0 (Nat.zero_add _) _ 0 (W.replicate _) (by simp) (fun j _ => getD_replicate _ _) (by omega) (by omega) (by simp [V_replicate, V])

/-! ### Differences -/
noncomputable def h72 : DL [.sl (.int .u32), .sl (.int .u32)] → Option (DL [.sl (.int .u32)]) := fun (x : List Int × List Int × Unit) => when (Wl x.1 ∧ Wl x.2.1 ∧ V x.2.1 ≤ V x.1) (D (V x.1 - V x.2.1), ())
noncomputable def h63 : DL [.sl (.int .u32), .sl (.int .u32)] → Option (DL [.sl (.int .u32)]) := h72

theorem borrow_step {x y b s b' Vr A B p : Int} (h : Vr - p * b = A - B) (e : s - 4294967296 * b' = x - y - b) : Vr + (s - 0) * p - 4294967296 * p * b' = A + p * x - (B + p * y) := by grind
theorem V_take_of_le {x y : List Int} (hx : W x) (hy : W y) (h : V y ≤ V x) : V (y.take x.length) = V y := by
  have h1 := V_lt hx
  have h2 := V_take_drop y x.length
  by_cases hl : x.length ≤ y.length
  · rw [Nat.min_eq_left hl] at h2
    have h3 := V_nonneg (hy.drop x.length)
    have h4 := V_nonneg (hy.take x.length)
    have hp := P_pos x.length
    have : V (y.drop x.length) = 0 := by
      apply Classical.byContradiction
      intro hc
      have : P x.length * 1 ≤ P x.length * V (y.drop x.length) := Int.mul_le_mul_of_nonneg_left (by omega) (by omega)
      omega
    rw [this] at h2
    omega
  · rw [List.take_of_length_le (by omega)]
theorem borrow_end {x y r : List Int} {b : Int} (hx : W x) (hy : W y) (hr : W r) (hl : r.length = x.length) (h : V y ≤ V x) (b0 : 0 ≤ b) (b1 : b ≤ 1) (he : V r - P x.length * b = V x - V (y.take x.length)) : V r = V x - V y := by
  rw [V_take_of_le hx hy h] at he
  have h1 := V_lt hr
  rw [hl] at h1
  have : b = 0 := by
    apply Classical.byContradiction
    intro hc
    have : b = 1 := by omega
    subst this
    omega
  subst this
  omega

theorem L72 (x y : List Int) (hx : W x) (hy : W y) (hxy : V y ≤ V x) (hn : x.length < 4194304) : ∀ k i : Nat, i + k = x.length → ∀ (r : List Int) (c : Int), W r → r.length = x.length → (∀ j, i ≤ j → r.getD j 0 = 0) → 0 ≤ c → c ≤ 1 → V r - P i * c = V (x.take i) - V (y.take i) → g72_L4 x y c (x.length : Int) (i : Int) r = some (D (V x - V y), ()) := by
  intro k
  induction k with
  | zero =>
    intro i hi r c hr hl hz c0 c1 he
    have : i = x.length := by omega
    subst this
    rw [List.take_length] at he
    rw [g72_L4_eq, ifd_f (by omega), e88 hr (by omega), Option.bind_some, borrow_end hx hy hr hl hxy c0 c1 he]
  | succ k ih =>
    intro i hi r c hr hl hz c0 c1 he
    have hxi := hx.getD i
    have hyi := hy.getD i
    rw [g72_L4_eq, ifd_t (by omega), ifdd_t (by omega) (by omega), e83 hy (by omega), Option.bind_some]
    dsimp only
    rw [Int.toNat_natCast, e92 hxi hyi ⟨c0, c1⟩, Option.bind_some, ifdd_t (by omega) (by omega), wi64 (by omega) (by omega)]
    refine ih (i + 1) (by omega) _ _ (hr.set (by omega) (by omega)) (by simp [hl]) (fun j hj => ?_) (by dsimp only; split <;> omega) (by dsimp only; split <;> omega) ?_
    · rw [getD_set_ne (by omega)]
      exact hz j (by omega)
    · rw [V_set (by omega), hz i (by omega), V_take_succ, V_take_succ, P_succ]
      exact borrow_step he (by dsimp only; split <;> omega)
theorem s72 : SigOk Try.prog 72 ⟨[.sl (.int .u32), .sl (.int .u32)], [.sl (.int .u32)], h72⟩ := ok72 fun (x : List Int × List Int × Unit) r h => by
  obtain ⟨⟨⟨wa, la⟩, ⟨wb, lb⟩, hab⟩, rfl⟩ := when_some h
  obtain ⟨a, b, u⟩ := x
  simp only at wa la wb lb hab
  show g72 (a, b, ()) = some (D (V a - V b), ())
  rw [g72_eq, ifddd_t (by omega) (by omega) (by omega), List.length_replicate, Int.toNat_natCast]
  exact L72 a b wa wb hab la _ 0 (Nat.zero_add _) _ 0 (W.replicate _) (by simp) (fun j _ => getD_replicate _ _) (by omega) (by omega) (by simp [V_replicate, V])

theorem L63 (x y : List Int) (hx : W x) (hy : W y) (hxy : V y ≤ V x) (hn : x.length < 4194304) : ∀ k i : Nat, i + k = x.length → ∀ (r : List Int) (c : Int), W r → r.length = x.length → (∀ j, i ≤ j → r.getD j 0 = 0) → 0 ≤ c → c ≤ 1 → V r - P i * c = V (x.take i) - V (y.take i) → g63_L4 x y c (i : Int) r = some (D (V x - V y), ()) := by
  intro k
  induction k with
  | zero =>
    intro i hi r c hr hl hz c0 c1 he
    have : i = x.length := by omega
    subst this
    rw [List.take_length] at he
    rw [g63_L4_eq, ifd_f (by omega), e74 hr (by omega), Option.bind_some, borrow_end hx hy hr hl hxy c0 c1 he]
  | succ k ih =>
    intro i hi r c hr hl hz c0 c1 he
    have hxi := hx.getD i
    have hyi := hy.getD i
    rw [g63_L4_eq, ifd_t (by omega), ifdd_t (by omega) (by omega), e82 hy (by omega), Option.bind_some]
    dsimp only
    rw [Int.toNat_natCast, ifdd_t (by omega) (by omega), wi64 (by omega) (by omega), wu64 (x := x.getD i 0) (by omega) (by omega), wu64 (x := 4294967296 + x.getD i 0) (by omega) (by omega), wu64 (x := 4294967296 + x.getD i 0 - y.getD i 0) (by omega) (by omega), wu64 (x := 4294967296 + x.getD i 0 - y.getD i 0 - c) (by omega) (by omega), tm (by omega), td (by omega), wu64 (x := (4294967296 + x.getD i 0 - y.getD i 0 - c) / 4294967296) (by omega) (by omega), wu64 (by omega) (by omega), wu32 (by omega) (by omega)]
    refine ih (i + 1) (by omega) _ _ (hr.set (by omega) (by omega)) (by simp [hl]) (fun j hj => ?_) (by omega) (by omega) ?_
    · rw [getD_set_ne (by omega)]
      exact hz j (by omega)
    · rw [V_set (by omega), hz i (by omega), V_take_succ, V_take_succ, P_succ]
      exact borrow_step he (by omega)
theorem s63 : SigOk Try.prog 63 ⟨[.sl (.int .u32), .sl (.int .u32)], [.sl (.int .u32)], h63⟩ := ok63 fun (x : List Int × List Int × Unit) r h => by
  obtain ⟨⟨⟨wa, la⟩, ⟨wb, lb⟩, hab⟩, rfl⟩ := when_some h
  obtain ⟨a, b, u⟩ := x
  simp only at wa la wb lb hab
  show g63 (a, b, ()) = some (D (V a - V b), ())
  rw [g63_eq, ifddd_t (by omega) (by omega) (by omega), Int.toNat_natCast]
  exact L63 a b wa wb hab la _ 0 (Nat.zero_add _) _ 0 (W.replicate _) (by simp) (fun j _ => getD_replicate _ _) (by omega) (by omega) (by simp [V_replicate, V])

/-! ### Products -/
noncomputable def h73 : DL [.sl (.int .u32), .sl (.int .u32)] → Option (DL [.sl (.int .u32)]) := fun (x : List Int × List Int × Unit) => when (Wl x.1 ∧ Wl x.2.1) (D (V x.1 * V x.2.1), ())
noncomputable def h49 : DL [.sl (.int .u32), .sl (.int .u32)] → Option (DL [.sl (.int .u32)]) := h73

theorem mul_lt32 {a b : Int} (h1 : 0 ≤ a) (h2 : a < 4294967296) (h3 : 0 ≤ b) (h4 : b < 4294967296) : 0 ≤ a * b ∧ a * b ≤ 18446744065119617025 := by
  have h5 := Int.mul_nonneg h1 h3
  have h6 : a * b ≤ 4294967295 * 4294967295 := Int.mul_le_mul (by omega) (by omega) h3 (by omega)
  omega
theorem mul_step {a b c r t q Vr A B p pk : Int} (h : Vr + p * pk * c = A + a * p * B) (e : t + 4294967296 * q = c + a * b + r) : Vr + (t - r) * (p * pk) + p * (4294967296 * pk) * q = A + a * p * (B + pk * b) := by grind

theorem L73 (x y : List Int) (hx : W x) (hy : W y) (hlx : x.length < 4194304) (hly : y.length < 4194304) : ∀ m i : Nat, i + m = x.length → ∀ r : List Int, W r → r.length = x.length + y.length → (∀ j, i + y.length ≤ j → r.getD j 0 = 0) → V r = V (x.take i) * V y → g73_L3 y x (x.length : Int) (i : Int) r = some (D (V x * V y), ()) := by
  intro m
  induction m with
  | zero =>
    intro i hi r hr hl hz he
    have : i = x.length := by omega
    subst this
    rw [List.take_length] at he
    rw [g73_L3_eq, ifd_f (by omega), e88 hr (by omega), Option.bind_some, he]
  | succ m ih =>
    intro i hi r hr hl hz he
    have hxi := hx.getD i
    rw [g73_L3_eq, ifd_t (by omega), ifdd_t (by omega) (by omega), Int.toNat_natCast]
    have inner : ∀ k j : Nat, j + k = y.length → ∀ (r : List Int) (c : Int), W r → r.length = x.length + y.length → (∀ l, i + y.length ≤ l → r.getD l 0 = 0) → 0 ≤ c → c < 4294967296 → V r + P (i + j) * c = V (x.take i) * V y + x.getD i 0 * P i * V (y.take j) → g73_L7 y (i : Int) (x.getD i 0) c x (x.length : Int) (i : Int) y (y.length : Int) (j : Int) r = some (D (V x * V y), ()) := by
      intro k
      induction k with
      | zero =>
        intro j hj r c hr hl hz c0 c1 he
        have : j = y.length := by omega
        subst this
        rw [List.take_length] at he
        rw [g73_L7_eq, ifd_f (by omega), wi64 (x := (i : Int) + (y.length : Int)) (by omega) (by omega), ifdd_t (by omega) (by omega), wi64 (by omega) (by omega), wu32 c0 c1]
        rw [show Int.toNat ((i : Int) + (y.length : Int)) = i + y.length by omega]
        refine ih (i + 1) (by omega) _ (hr.set c0 c1) (by simp [hl]) (fun l hl' => ?_) ?_
        · rw [getD_set_ne (by omega)]
          exact hz l (by omega)
        · rw [V_set (by omega), hz _ (by omega), V_take_succ, P_add]
          rw [P_add] at he
          clear ih hz hr hxi
          grind
      | succ k ih2 =>
        intro j hj r c hr hl hz c0 c1 he
        have hyj := hy.getD j
        have hrj := hr.getD (i + j)
        have hm := mul_lt32 hxi.1 hxi.2 hyj.1 hyj.2
        rw [g73_L7_eq, ifd_t (by omega), ifdd_t (by omega) (by omega), wi64 (x := (i : Int) + (j : Int)) (by omega) (by omega), ifdd_t (by omega) (by omega), ifdd_t (by omega) (by omega), wi64 (x := (j : Int) + 1) (by omega) (by omega)]
        rw [show Int.toNat ((i : Int) + (j : Int)) = i + j by omega, Int.toNat_natCast, wu64 (x := x.getD i 0) (by omega) (by omega), wu64 (x := y.getD j 0) (by omega) (by omega), wu64 (x := r.getD (i + j) 0) (by omega) (by omega), wu64 (x := x.getD i 0 * y.getD j 0) (by omega) (by omega), wu64 (x := x.getD i 0 * y.getD j 0 + r.getD (i + j) 0) (by omega) (by omega), wu64 (x := c + (x.getD i 0 * y.getD j 0 + r.getD (i + j) 0)) (by omega) (by omega), fd (by omega), IntKind.wrap_u32]
        refine ih2 (j + 1) (by omega) _ _ (hr.set (by omega) (by omega)) (by simp [hl]) (fun l hl' => ?_) (by omega) (by omega) ?_
        · rw [getD_set_ne (by omega)]
          exact hz l (by omega)
        · rw [V_set (by omega), V_take_succ, ← Nat.add_assoc, P_succ, P_add, Int.mul_left_comm 4294967296, Int.mul_assoc (P i)]
          rw [P_add] at he
          have := mul_step he (show (c + (x.getD i 0 * y.getD j 0 + r.getD (i + j) 0)) % 4294967296 + 4294967296 * ((c + (x.getD i 0 * y.getD j 0 + r.getD (i + j) 0)) / 4294967296) = c + x.getD i 0 * y.getD j 0 + r.getD (i + j) 0 by omega)
          rw [Int.mul_assoc (P i)] at this
          exact this
    exact inner _ 0 (Nat.zero_add _) r 0 hr hl (fun l hl' => hz l (by omega)) (by omega) (by omega) (by simp [V, he])
theorem s73 : SigOk Try.prog 73 ⟨[.sl (.int .u32), .sl (.int .u32)], [.sl (.int .u32)], h73⟩ := ok73 fun (x : List Int × List Int × Unit) r h => by
  obtain ⟨⟨⟨wa, la⟩, wb, lb⟩, rfl⟩ := when_some h
  obtain ⟨a, b, u⟩ := x
  simp only at wa la wb lb
  show g73 (a, b, ()) = some (D (V a * V b), ())
  rw [g73_eq, wi64 (by omega) (by omega), ifddd_t (by omega) (by omega) (by omega), show Int.toNat ((a.length : Int) + (b.length : Int)) = a.length + b.length by omega]
  exact L73 a b wa wb la lb _ 0 (Nat.zero_add _) _ (W.replicate _) (by simp) (fun j _ => getD_replicate _ _) (by simp [V_replicate, V])

theorem L49 (x y : List Int) (hx : W x) (hy : W y) (hlx : x.length < 4194304) (hly : y.length < 4194304) : ∀ m i : Nat, i + m = x.length → ∀ r : List Int, W r → r.length = x.length + y.length → (∀ j, i + y.length ≤ j → r.getD j 0 = 0) → V r = V (x.take i) * V y → g49_L3 x y (i : Int) r = some (D (V x * V y), ()) := by
  intro m
  induction m with
  | zero =>
    intro i hi r hr hl hz he
    have : i = x.length := by omega
    subst this
    rw [List.take_length] at he
    rw [g49_L3_eq, ifd_f (by omega), e74 hr (by omega), Option.bind_some, he]
  | succ m ih =>
    intro i hi r hr hl hz he
    have hxi := hx.getD i
    rw [g49_L3_eq, ifd_t (by omega)]
    have inner : ∀ k j : Nat, j + k = y.length → ∀ (r : List Int) (c : Int), W r → r.length = x.length + y.length → (∀ l, i + y.length ≤ l → r.getD l 0 = 0) → 0 ≤ c → c < 4294967296 → V r + P (i + j) * c = V (x.take i) * V y + x.getD i 0 * P i * V (y.take j) → g49_L7 x y (i : Int) c (j : Int) r = some (D (V x * V y), ()) := by
      intro k
      induction k with
      | zero =>
        intro j hj r c hr hl hz c0 c1 he
        have : j = y.length := by omega
        subst this
        rw [List.take_length] at he
        rw [g49_L7_eq, ifd_f (by omega), wi64 (x := (i : Int) + (y.length : Int)) (by omega) (by omega), ifdd_t (by omega) (by omega), wi64 (by omega) (by omega), wu32 c0 c1]
        rw [show Int.toNat ((i : Int) + (y.length : Int)) = i + y.length by omega]
        refine ih (i + 1) (by omega) _ (hr.set c0 c1) (by simp [hl]) (fun l hl' => ?_) ?_
        · rw [getD_set_ne (by omega)]
          exact hz l (by omega)
        · rw [V_set (by omega), hz _ (by omega), V_take_succ, P_add]
          rw [P_add] at he
          clear ih hz hr hxi
          grind
      | succ k ih2 =>
        intro j hj r c hr hl hz c0 c1 he
        have hyj := hy.getD j
        have hrj := hr.getD (i + j)
        have hm := mul_lt32 hxi.1 hxi.2 hyj.1 hyj.2
        rw [g49_L7_eq, ifd_t (by omega), ifdd_t (by omega) (by omega), ifdd_t (by omega) (by omega), wi64 (x := (i : Int) + (j : Int)) (by omega) (by omega), ifdd_t (by omega) (by omega), ifdd_t (by omega) (by omega), wi64 (x := (j : Int) + 1) (by omega) (by omega)]
        rw [show Int.toNat ((i : Int) + (j : Int)) = i + j by omega, Int.toNat_natCast, Int.toNat_natCast, wu64 (x := x.getD i 0) (by omega) (by omega), wu64 (x := y.getD j 0) (by omega) (by omega), wu64 (x := r.getD (i + j) 0) (by omega) (by omega), wu64 (x := x.getD i 0 * y.getD j 0) (by omega) (by omega), wu64 (x := x.getD i 0 * y.getD j 0 + r.getD (i + j) 0) (by omega) (by omega), wu64 (x := x.getD i 0 * y.getD j 0 + r.getD (i + j) 0 + c) (by omega) (by omega), tm (by omega), td (by omega), wu64 (by omega) (by omega), wu32 (by omega) (by omega)]
        refine ih2 (j + 1) (by omega) _ _ (hr.set (by omega) (by omega)) (by simp [hl]) (fun l hl' => ?_) (by omega) (by omega) ?_
        · rw [getD_set_ne (by omega)]
          exact hz l (by omega)
        · rw [V_set (by omega), V_take_succ, ← Nat.add_assoc, P_succ, P_add, Int.mul_left_comm 4294967296, Int.mul_assoc (P i)]
          rw [P_add] at he
          have := mul_step he (show (x.getD i 0 * y.getD j 0 + r.getD (i + j) 0 + c) % 4294967296 + 4294967296 * ((x.getD i 0 * y.getD j 0 + r.getD (i + j) 0 + c) / 4294967296) = c + x.getD i 0 * y.getD j 0 + r.getD (i + j) 0 by omega)
          rw [Int.mul_assoc (P i)] at this
          exact this
    exact inner _ 0 (Nat.zero_add _) r 0 hr hl (fun l hl' => hz l (by omega)) (by omega) (by omega) (by simp [V, he])
theorem s49 : SigOk Try.prog 49 ⟨[.sl (.int .u32), .sl (.int .u32)], [.sl (.int .u32)], h49⟩ := ok49 fun (x : List Int × List Int × Unit) r h => by
  obtain ⟨⟨⟨wa, la⟩, wb, lb⟩, rfl⟩ := when_some h
  obtain ⟨a, b, u⟩ := x
  simp only at wa la wb lb
  show g49 (a, b, ()) = some (D (V a * V b), ())
  rw [g49_eq, wi64 (by omega) (by omega), ifddd_t (by omega) (by omega) (by omega), show Int.toNat ((a.length : Int) + (b.length : Int)) = a.length + b.length by omega]
  exact L49 a b wa wb la lb _ 0 (Nat.zero_add _) _ (W.replicate _) (by simp) (fun j _ => getD_replicate _ _) (by simp [V_replicate, V])

/-! ### Division by one word -/
theorem drop_set_self {l : List Int} {i : Nat} {w : Int} (h : i < l.length) : V ((l.set i w).drop i) = w + 4294967296 * V (l.drop (i + 1)) := by
  rw [V_drop (by simpa using h), getD_set_eq h, List.drop_set_of_lt (by omega)]
theorem div_end {v d q r : Int} (h : v = d * q + r) (h0 : 0 ≤ r) (h1 : r < d) : v / d = q ∧ v % d = r := by
  have := Int.ediv_emod_unique (a := v) (b := d) (r := r) (q := q) (by omega)
  exact this.2 ⟨by rw [h]; omega, h0, h1⟩
theorem word_step {a d q r A Q t : Int} (h : A = d * Q + r) (e : t = r * 4294967296 + a) (hq : q = t / d) : a + 4294967296 * A = d * (q + 4294967296 * Q) + t % d := by
  have := Int.mul_ediv_add_emod t d
  rw [← hq] at this
  clear hq
  grind

noncomputable def h84 : DL [.sl (.int .u32), .int .u64] → Option (DL [.sl (.int .u32), .int .u64]) := fun (x : List Int × Int × Unit) => when (Wl x.1 ∧ 0 < x.2.1 ∧ x.2.1 < 4294967296) (D (V x.1 / x.2.1), (V x.1 % x.2.1, ()))
noncomputable def h93 : DL [.sl (.int .u32), .int .u32] → Option (DL [.sl (.int .u32), .int .u32]) := fun (x : List Int × Int × Unit) => when (Wl x.1 ∧ 0 < x.2.1 ∧ x.2.1 < 4294967296) (D (V x.1 / x.2.1), (V x.1 % x.2.1, ()))

theorem quot_word {r a d : Int} (r0 : 0 ≤ r) (r1 : r < d) (a0 : 0 ≤ a) (a1 : a < 4294967296) : 0 ≤ (r * 4294967296 + a) / d ∧ (r * 4294967296 + a) / d < 4294967296 ∧ 0 ≤ (r * 4294967296 + a) % d ∧ (r * 4294967296 + a) % d < d :=
  ⟨Int.ediv_nonneg (by omega) (by omega), Int.ediv_lt_of_lt_mul (by omega) (by omega), Int.emod_nonneg _ (by omega), Int.emod_lt_of_pos _ (by omega)⟩

theorem L84 (x : List Int) (d : Int) (hx : W x) (hl : x.length < 4194304) (d0 : 0 < d) (d1 : d < 4294967296) : ∀ i : Nat, i ≤ x.length → ∀ (r : List Int) (c : Int), W r → r.length = x.length → 0 ≤ c → c < d → V (x.drop i) = d * V (r.drop i) + c → g84_L4 x d c ((i : Int) - 1) r = some (D (V x / d), (V x % d, ())) := by
  intro i
  induction i with
  | zero =>
    intro hi r c hr hrl c0 c1 he
    simp only [List.drop_zero] at he
    obtain ⟨e1, e2⟩ := div_end he c0 c1
    rw [g84_L4_eq, ifd_f (by omega), e74 hr (by omega), Option.bind_some, e1, e2]
  | succ i ih =>
    intro hi r c hr hrl c0 c1 he
    have hxi := hx.getD i
    have hq := quot_word c0 c1 hxi.1 hxi.2
    rw [show ((i + 1 : Nat) : Int) - 1 = (i : Int) by omega, g84_L4_eq, ifd_t (by omega), ifdd_t (by omega) (by omega), ife_f (by omega), ifdd_t (by omega) (by omega), ife_f (by omega), Int.toNat_natCast]
    rw [wu64 (x := c * 4294967296) (by omega) (by omega), wu64 (x := x.getD i 0) (by omega) (by omega), wu64 (x := c * 4294967296 + x.getD i 0) (by omega) (by omega), td (by omega), tm (by omega), wu64 hq.1 (by omega), wu32 hq.1 hq.2.1, wi64 (by omega) (by omega)]
    refine ih (by omega) _ _ (hr.set hq.1 hq.2.1) (by simp [hrl]) hq.2.2.1 hq.2.2.2 ?_
    rw [drop_set_self (by omega), V_drop (by omega)]
    exact word_step he rfl rfl
theorem s84 : SigOk Try.prog 84 ⟨[.sl (.int .u32), .int .u64], [.sl (.int .u32), .int .u64], h84⟩ := ok84 fun (x : List Int × Int × Unit) r h => by
  obtain ⟨⟨⟨wa, la⟩, d0, d1⟩, rfl⟩ := when_some h
  obtain ⟨a, d, u⟩ := x
  simp only at wa la d0 d1
  show g84 (a, d, ()) = some (D (V a / d), (V a % d, ()))
  rw [g84_eq, ifddd_t (by omega) (by omega) (by omega), Int.toNat_natCast, wi64 (by omega) (by omega)]
  exact L84 a d wa la d0 d1 _ (Nat.le_refl _) _ 0 (W.replicate _) (by simp) (by omega) d0 (by simp [V])

theorem L93 (x : List Int) (d : Int) (hx : W x) (hl : x.length < 4194304) (d0 : 0 < d) (d1 : d < 4294967296) : ∀ i : Nat, i ≤ x.length → ∀ (r : List Int) (c : Int), W r → r.length = x.length → 0 ≤ c → c < d → V (x.drop i) = d * V (r.drop i) + c → g93_L4 x d c (x.length : Int) (x.length - i : Int) r = some (D (V x / d), (V x % d, ())) := by
  intro i
  induction i with
  | zero =>
    intro hi r c hr hrl c0 c1 he
    simp only [List.drop_zero] at he
    obtain ⟨e1, e2⟩ := div_end he c0 c1
    rw [g93_L4_eq, ifd_f (by omega), e88 hr (by omega), Option.bind_some, e1, e2]
  | succ i ih =>
    intro hi r c hr hrl c0 c1 he
    have hxi := hx.getD i
    have hq := quot_word c0 c1 hxi.1 hxi.2
    have ei : IntKind.wrap .i64 (IntKind.wrap .i64 ((x.length : Int) - 1) - ((x.length : Int) - ((i + 1 : Nat) : Int))) = (i : Int) := by
      rw [wi64 (x := (x.length : Int) - 1) (by omega) (by omega), wi64 (by omega) (by omega)]
      omega
    rw [g93_L4_eq, ei, ifd_t (by omega), ifdd_t (by omega) (by omega), Int.toNat_natCast, e103 ⟨c0, c1⟩ hxi d1, Option.bind_some, ifdd_t (by omega) (by omega), wi64 (by omega) (by omega)]
    have := ih (by omega) (r.set i ((c * 4294967296 + x.getD i 0) / d)) ((c * 4294967296 + x.getD i 0) % d) (hr.set hq.1 hq.2.1) (by simp [hrl]) hq.2.2.1 hq.2.2.2 (by
      rw [drop_set_self (by omega), V_drop (by omega)]
      exact word_step he rfl rfl)
    rw [show (x.length : Int) - ((i + 1 : Nat) : Int) + 1 = (x.length : Int) - (i : Int) by omega]
    exact this
theorem s93 : SigOk Try.prog 93 ⟨[.sl (.int .u32), .int .u32], [.sl (.int .u32), .int .u32], h93⟩ := ok93 fun (x : List Int × Int × Unit) r h => by
  obtain ⟨⟨⟨wa, la⟩, d0, d1⟩, rfl⟩ := when_some h
  obtain ⟨a, d, u⟩ := x
  simp only at wa la d0 d1
  show g93 (a, d, ()) = some (D (V a / d), (V a % d, ()))
  rw [g93_eq, ifddd_t (by omega) (by omega) (by omega), Int.toNat_natCast]
  have := L93 a d wa la d0 d1 _ (Nat.le_refl _) (List.replicate a.length 0) 0 (W.replicate _) (by simp) (by omega) d0 (by simp [V])
  rw [show (a.length : Int) - (a.length : Int) = 0 by omega] at this
  exact this
end Go.Refl.S3
