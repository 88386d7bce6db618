/-
  What the functions on whole numbers compute: numbers made, sums, products, opposites, comparing.
-/
import Derived.Test.YthgbejjenlfdnaaP2
set_option linter.unusedVariables false
set_option linter.unusedSimpArgs false
set_option maxRecDepth 100000
namespace Go.Refl.S3
open Go Go.Refl Go.Proofs

/-! ### Contracts of functions on whole numbers -/
noncomputable def HI1 {rts : List Ty} (F : Int → DL rts) : DL [tInt] → Option (DL rts) := fun (x : DInt × Unit) => when (Is x.1) (F (dec x.1))
noncomputable def HI2 {rts : List Ty} (F : Int → Int → DL rts) : DL [tInt, tInt] → Option (DL rts) := fun (x : DInt × DInt × Unit) => when (Is x.1 ∧ Is x.2.1) (F (dec x.1) (dec x.2.1))
theorem hi1 {rts : List Ty} {F : Int → DL rts} {g : DL [tInt] → Option (DL rts)} (H : ∀ z, Sm z → g (enc z, ()) = some (F z)) : ∀ x r, HI1 F x = some r → g x = some r := fun (x : DInt × Unit) r h => by
  obtain ⟨⟨z, hz, hs⟩, rfl⟩ := when_some h
  obtain ⟨a, u⟩ := x
  replace hz : a = enc z := hz
  subst hz
  show g (enc z, ()) = some (F (dec (enc z)))
  rw [dec_enc]
  exact H z hs
theorem hi2 {rts : List Ty} {F : Int → Int → DL rts} {g : DL [tInt, tInt] → Option (DL rts)} (H : ∀ y z, Sm y → Sm z → g (enc y, enc z, ()) = some (F y z)) : ∀ x r, HI2 F x = some r → g x = some r := fun (x : DInt × DInt × Unit) r h => by
  obtain ⟨⟨⟨y, hy, hsy⟩, z, hz, hsz⟩, rfl⟩ := when_some h
  obtain ⟨a, b, u⟩ := x
  replace hy : a = enc y := hy
  replace hz : b = enc z := hz
  subst hy; subst hz
  show g (enc y, enc z, ()) = some (F (dec (enc y)) (dec (enc z)))
  rw [dec_enc, dec_enc]
  exact H y z hsy hsz
theorem HI1_eq {rts : List Ty} {F : Int → DL rts} {z : Int} (h : Sm z) : HI1 F (enc z, ()) = some (F z) := by
  show when (Is (enc z)) (F (dec (enc z))) = _
  rw [when_pos (Is.enc h), dec_enc]
theorem HI2_eq {rts : List Ty} {F : Int → Int → DL rts} {y z : Int} (hy : Sm y) (hz : Sm z) : HI2 F (enc y, (enc z, ())) = some (F y z) := by
  show when (Is (enc y) ∧ Is (enc z)) (F (dec (enc y)) (dec (enc z))) = _
  rw [when_pos ⟨Is.enc hy, Is.enc hz⟩, dec_enc, dec_enc]

theorem Sm.lt {z : Int} (h : Sm z) : (z.natAbs : Int) < P 1048576 := by
  have h1 := V_lt (dg_W z.natAbs)
  rw [V_dg] at h1
  have h2 := P_le (show (dg z.natAbs).length ≤ 1048576 by unfold Sm at h; omega)
  omega
theorem Wl_D {z : Int} {k : Nat} (h : z < P k) (hk : k < 4194304) : Wl (D z) := ⟨D_W _, by have := D_length h; omega⟩
theorem Sm.of {z : Int} {k : Nat} (h : (z.natAbs : Int) < P k) (hk : k < 1048576) : Sm z := by
  unfold Sm
  have := D_length (z := (z.natAbs : Int)) h
  rw [D, Int.toNat_natCast] at this
  omega
theorem Sm.ofV {l : List Int} (hw : W l) (hl : l.length < 1048576) (b : Bool) : Sm (sg b (V l)) := by
  have h1 := V_lt hw
  have h2 := V_nonneg hw
  refine Sm.of (k := l.length) ?_ hl
  unfold sg
  split <;> omega
theorem sg_dec {z : Int} : sg (decide (z < 0)) (z.natAbs : Int) = z := by
  unfold sg
  by_cases h : z < 0 <;> simp [h] <;> omega
theorem dg_D (z : Int) : dg z.natAbs = D (z.natAbs : Int) := rfl

theorem e48 {n : Int} (h : 0 ≤ n ∧ n < 18446744073709551616) : h48 (n, ()) = some (D n, ()) := when_pos h
theorem e68 {n : Int} (h : 0 ≤ n ∧ n < 18446744073709551616) : h68 (n, ()) = some (D n, ()) := when_pos h
theorem e47 {b : Bool} {l : List Int} (h : Wl l) : h47 (b, (l, ())) = some (enc (sg b (V l)), ()) := when_pos h
theorem e69 {b : Bool} {l : List Int} (h : Wl l) : h69 (l, (b, ())) = some (enc (sg b (V l)), ()) := when_pos h
theorem e49 {a b : List Int} (ha : Wl a) (hb : Wl b) : h49 (a, (b, ())) = some (D (V a * V b), ()) := when_pos ⟨ha, hb⟩
theorem e73 {a b : List Int} (ha : Wl a) (hb : Wl b) : h73 (a, (b, ())) = some (D (V a * V b), ()) := when_pos ⟨ha, hb⟩
theorem e62 {a b : List Int} (ha : Wl a) (hb : Wl b) : h62 (a, (b, ())) = some (D (V a + V b), ()) := when_pos ⟨ha, hb⟩
theorem e70 {a b : List Int} (ha : Wl a) (hb : Wl b) : h70 (a, (b, ())) = some (D (V a + V b), ()) := when_pos ⟨ha, hb⟩
theorem e63 {a b : List Int} (ha : Wl a) (hb : Wl b) (h : V b ≤ V a) : h63 (a, (b, ())) = some (D (V a - V b), ()) := when_pos ⟨ha, hb, h⟩
theorem e72 {a b : List Int} (ha : Wl a) (hb : Wl b) (h : V b ≤ V a) : h72 (a, (b, ())) = some (D (V a - V b), ()) := when_pos ⟨ha, hb, h⟩
theorem e67 {l : List Int} (h : W l) (hl : l.length ≤ 2) : h67 (l, ()) = some (V l, ()) := when_pos ⟨h, hl⟩
theorem e84 {l : List Int} {d : Int} (h : Wl l) (h0 : 0 < d) (h1 : d < 4294967296) : h84 (l, (d, ())) = some (D (V l / d), (V l % d, ())) := when_pos ⟨h, h0, h1⟩
theorem e93 {l : List Int} {d : Int} (h : Wl l) (h0 : 0 < d) (h1 : d < 4294967296) : h93 (l, (d, ())) = some (D (V l / d), (V l % d, ())) := when_pos ⟨h, h0, h1⟩

/-! ### Numbers made -/
noncomputable def h27 : DL [.int .i64] → Option (DL [tInt]) := fun (x : Int × Unit) => when (-9223372036854775808 ≤ x.1 ∧ x.1 < 9223372036854775808) (enc x.1, ())
noncomputable def h44 : DL [.int .i64] → Option (DL [tInt]) := h27
theorem P_three : P 3 = 79228162514264337593543950336 := rfl
theorem Wl_D64 {n : Int} (h : n < 18446744073709551616) : Wl (D n) := Wl_D (k := 3) (by rw [P_three]; omega) (by omega)
theorem e27 {n : Int} (h : -9223372036854775808 ≤ n ∧ n < 9223372036854775808) : h27 (n, ()) = some (enc n, ()) := when_pos h
theorem e44 {n : Int} (h : -9223372036854775808 ≤ n ∧ n < 9223372036854775808) : h44 (n, ()) = some (enc n, ()) := when_pos h
theorem s27 : SigOk Try.prog 27 ⟨[.int .i64], [tInt], h27⟩ := ok27 fun (x : Int × Unit) r h => by
  obtain ⟨⟨a0, a1⟩, rfl⟩ := when_some h
  obtain ⟨a, u⟩ := x
  simp only at a0 a1
  show g27 (a, ()) = some (enc a, ())
  rw [g27_eq]
  by_cases hn : a < 0
  · rw [ifd_t hn, wi64 (x := a + 1) (by omega) (by omega), wi64 (x := 0 - (a + 1)) (by omega) (by omega), wu64 (x := 0 - (a + 1)) (by omega) (by omega), wu64 (by omega) (by omega), e48 (by omega), Option.bind_some]
    dsimp only
    rw [e47 (Wl_D64 (by omega)), Option.bind_some, V_D (by omega), show sg true (0 - (a + 1) + 1) = a by simp only [sg, if_true]; omega]
  · rw [ifd_f hn, wu64 (by omega) (by omega), e48 (by omega), Option.bind_some]
    dsimp only
    rw [e47 (Wl_D64 (by omega)), Option.bind_some, V_D (by omega)]
    rfl
theorem s44 : SigOk Try.prog 44 ⟨[.int .i64], [tInt], h44⟩ := ok44 fun (x : Int × Unit) r h => by
  obtain ⟨⟨a0, a1⟩, rfl⟩ := when_some h
  obtain ⟨a, u⟩ := x
  simp only at a0 a1
  show g44 (a, ()) = some (enc a, ())
  rw [g44_eq]
  by_cases hn : a < 0
  · have e : IntKind.wrap .u64 (0 - IntKind.wrap .u64 a) = -a := by
      rw [IntKind.wrap_u64, IntKind.wrap_u64]
      omega
    rw [ifd_t hn, e, e68 (by omega), Option.bind_some]
    dsimp only
    rw [e69 (Wl_D64 (by omega)), Option.bind_some, V_D (by omega), show sg true (-a) = a by simp only [sg, if_true]; omega]
  · rw [ifd_f hn, wu64 (by omega) (by omega), e68 (by omega), Option.bind_some]
    dsimp only
    rw [e69 (Wl_D64 (by omega)), Option.bind_some, V_D (by omega)]
    rfl

/-! ### Products -/
theorem P_prod {y z : Int} (hy : Sm y) (hz : Sm z) : (y.natAbs : Int) * (z.natAbs : Int) < P 2097152 := by
  have h1 := hy.lt
  have h2 := hz.lt
  have hp := P_pos 1048576
  have h3 : (y.natAbs : Int) * (z.natAbs : Int) ≤ (y.natAbs : Int) * P 1048576 := Int.mul_le_mul_of_nonneg_left (by omega) (by omega)
  have h4 : (y.natAbs : Int) * P 1048576 < P 1048576 * P 1048576 := Int.mul_lt_mul_of_pos_right h1 hp
  have h5 : P 2097152 = P 1048576 * P 1048576 := P_add 1048576 1048576
  omega
theorem sg_mul (y z : Int) : sg (!(decide (y < 0) == decide (z < 0))) ((y.natAbs : Int) * (z.natAbs : Int)) = y * z := by
  unfold sg
  by_cases h1 : y < 0 <;> by_cases h2 : z < 0
  · rw [show (y.natAbs : Int) = -y by omega, show (z.natAbs : Int) = -z by omega]; simp [h1, h2]; grind
  · rw [show (y.natAbs : Int) = -y by omega, show (z.natAbs : Int) = z by omega]; simp [h1, h2]; grind
  · rw [show (y.natAbs : Int) = y by omega, show (z.natAbs : Int) = -z by omega]; simp [h1, h2]; grind
  · rw [show (y.natAbs : Int) = y by omega, show (z.natAbs : Int) = z by omega]; simp [h1, h2]
noncomputable def h28 : DL [tInt, tInt] → Option (DL [tInt]) := HI2 (rts := [tInt]) fun y z => (enc (y * z), ())
noncomputable def h46 : DL [tInt, tInt] → Option (DL [tInt]) := HI2 (rts := [tInt]) fun y z => (enc (y * z), ())
theorem s28 : SigOk Try.prog 28 ⟨[tInt, tInt], [tInt], h28⟩ := ok28 (hi2 fun y z hy hz => by
  have hm : 0 ≤ (y.natAbs : Int) * (z.natAbs : Int) := Int.mul_nonneg (by omega) (by omega)
  rw [g28_eq, enc_2 y, enc_2 z, enc_1 y, enc_1 z, e49 hy.wl hz.wl, Option.bind_some, V_dg, V_dg]
  dsimp only
  rw [e47 (Wl_D (P_prod hy hz) (by omega)), Option.bind_some, V_D hm, sg_mul])
theorem s46 : SigOk Try.prog 46 ⟨[tInt, tInt], [tInt], h46⟩ := ok46 (hi2 fun y z hy hz => by
  have hm : 0 ≤ (y.natAbs : Int) * (z.natAbs : Int) := Int.mul_nonneg (by omega) (by omega)
  rw [g46_eq, enc_2 y, enc_2 z, enc_1 y, enc_1 z, e73 hy.wl hz.wl, Option.bind_some, V_dg, V_dg]
  dsimp only
  rw [e69 (Wl_D (P_prod hy hz) (by omega)), Option.bind_some, V_D hm, sg_mul])

/-! ### Opposites -/
theorem sg_neg (z : Int) : sg (!(decide (z < 0))) (z.natAbs : Int) = -z := by
  unfold sg
  by_cases h : z < 0 <;> simp [h] <;> omega
noncomputable def h35 : DL [tInt] → Option (DL [tInt]) := HI1 (rts := [tInt]) fun z => (enc (-z), ())
noncomputable def h57 : DL [tInt] → Option (DL [tInt]) := HI1 (rts := [tInt]) fun z => (enc (-z), ())
theorem s35 : SigOk Try.prog 35 ⟨[tInt], [tInt], h35⟩ := ok35 (hi1 fun z hz => by
  rw [g35_eq, enc_2 z, enc_1 z, e47 hz.wl, Option.bind_some, V_dg, sg_neg])
theorem s57 : SigOk Try.prog 57 ⟨[tInt], [tInt], h57⟩ := ok57 (hi1 fun z hz => by
  rw [g57_eq, enc_2 z, enc_1 z, e69 hz.wl, Option.bind_some, V_dg, sg_neg])

/-! ### Sums -/
theorem P_sum {y z : Int} (hy : Sm y) (hz : Sm z) : (y.natAbs : Int) + (z.natAbs : Int) < P 1048577 := by
  have h1 := hy.lt
  have h2 := hz.lt
  have hp := P_pos 1048576
  have h5 : P 1048577 = 4294967296 * P 1048576 := P_succ 1048576
  omega
theorem cmpI_neg {a b : Int} : (cmpI a b < 0) ↔ a < b := by
  unfold cmpI
  split
  · constructor <;> intro <;> omega
  · split <;> constructor <;> intro <;> omega
noncomputable def h39 : DL [tInt, tInt] → Option (DL [tInt]) := HI2 (rts := [tInt]) fun y z => (enc (y + z), ())
theorem s39 : SigOk Try.prog 39 ⟨[tInt, tInt], [tInt], h39⟩ := ok39 (hi2 fun y z hy hz => by
  have hps := P_sum hy hz
  rw [g39_eq, enc_2 y, enc_2 z, enc_1 y, enc_1 z]
  by_cases hs : decide (y < 0) = decide (z < 0)
  · rw [ifb_t (by simpa using hs), e62 hy.wl hz.wl, Option.bind_some, V_dg, V_dg]
    dsimp only
    rw [e47 (Wl_D hps (by omega)), Option.bind_some, V_D (by omega)]
    have : sg (decide (y < 0)) ((y.natAbs : Int) + (z.natAbs : Int)) = y + z := by
      have hs' := decide_eq_decide.1 hs
      unfold sg
      by_cases h1 : y < 0
      · have h2 := hs'.1 h1
        simp [h1]; omega
      · have h2 : ¬ z < 0 := fun h => h1 (hs'.2 h)
        simp [h1]; omega
    rw [this]
  · have hs' : (y < 0) ≠ (z < 0) := fun h => hs (by simp [h])
    rw [ifb_f (by simpa using hs), e50 hy.nt hz.nt, Option.bind_some, V_dg, V_dg]
    dsimp only
    by_cases hc : cmpI (y.natAbs : Int) (z.natAbs : Int) < 0
    · have hlt := cmpI_neg.1 hc
      rw [ifd_t hc, e63 hz.wl hy.wl (by rw [V_dg, V_dg]; omega), Option.bind_some, V_dg, V_dg]
      dsimp only
      rw [e47 (Wl_D (k := 1048577) (by omega) (by omega)), Option.bind_some, V_D (by omega)]
      have : sg (decide (z < 0)) ((z.natAbs : Int) - (y.natAbs : Int)) = y + z := by
        unfold sg
        by_cases h1 : z < 0
        · have h2 : ¬ y < 0 := fun h => hs' (by simp [h, h1])
          simp [h1]; omega
        · have h2 : y < 0 := Classical.byContradiction fun h => hs' (by simp [h, h1])
          simp [h1]; omega
      rw [this]
    · have hlt : ¬ (y.natAbs : Int) < (z.natAbs : Int) := fun h => hc (cmpI_neg.2 h)
      rw [ifd_f hc, e63 hy.wl hz.wl (by rw [V_dg, V_dg]; omega), Option.bind_some, V_dg, V_dg]
      dsimp only
      rw [e47 (Wl_D (k := 1048577) (by omega) (by omega)), Option.bind_some, V_D (by omega)]
      have : sg (decide (y < 0)) ((y.natAbs : Int) - (z.natAbs : Int)) = y + z := by
        unfold sg
        by_cases h1 : y < 0
        · have h2 : ¬ z < 0 := fun h => hs' (by simp [h, h1])
          simp [h1]; omega
        · have h2 : z < 0 := Classical.byContradiction fun h => hs' (by simp [h, h1])
          simp [h1]; omega
      rw [this])

/-! ### Small numbers -/
noncomputable def h43 : DL [tInt] → Option (DL [.int .i64, .bool]) := h65
theorem s43 : SigOk Try.prog 43 ⟨[tInt], [.int .i64, .bool], h43⟩ := ok43 fun (x : DInt × Unit) r h => by
  obtain ⟨⟨z, hz, hs⟩, rfl⟩ := when_some h
  obtain ⟨a, u⟩ := x
  replace hz : a = enc z := hz
  subst hz
  show g43 (enc z, ()) = some (if -9223372036854775808 ≤ dec (enc z) ∧ dec (enc z) < 9223372036854775808 then (dec (enc z), (true, ())) else (0, (false, ())))
  rw [g43_eq, dec_enc, enc_2, enc_1]
  by_cases hl : (dg z.natAbs).length ≤ 2
  · have hw := dg_W z.natAbs
    rw [ifd_f (by omega), e67 hw hl, Option.bind_some, V_dg]
    dsimp only
    by_cases hz : z < 0
    · rw [ifnot_f (c := decide (z < 0)) (by simpa using hz), ifb_t (c := decide (z < 0)) (by simpa using hz)]
      by_cases hb : (z.natAbs : Int) ≤ 9223372036854775808
      · rw [ifd_t hb, if_pos (by omega), wu64 (x := (z.natAbs : Int) - 1) (by omega) (by omega), wi64 (x := (z.natAbs : Int) - 1) (by omega) (by omega), wi64 (x := 0 - ((z.natAbs : Int) - 1)) (by omega) (by omega), wi64 (by omega) (by omega), show 0 - ((z.natAbs : Int) - 1) - 1 = z by omega]
      · rw [ifd_f hb, if_neg (by omega)]
    · rw [ifnot_t (c := decide (z < 0)) (by simpa using hz), ifb_f (c := decide (z < 0)) (by simpa using hz)]
      by_cases hb : (z.natAbs : Int) < 9223372036854775808
      · rw [ifd_t hb, if_pos (by omega), wi64 (by omega) (by omega), show (z.natAbs : Int) = z by omega]
      · rw [ifd_f hb, if_neg (by omega)]
  · rw [ifd_t (by omega), if_neg (len_gt_two hl)]

/-! ### Comparing rows -/
noncomputable def h71 : DL [.sl (.int .u32), .sl (.int .u32)] → Option (DL [.int .i64]) := h50
theorem e71 {a b : List Int} (ha : Nt a) (hb : Nt b) : h71 (a, (b, ())) = some (cmpI (V a) (V b), ()) := when_pos ⟨ha, hb⟩
theorem L71 (a b : List Int) (ha : W a) (hb : W b) (hl : a.length = b.length) (hs : a.length < 4194304) : ∀ i : Nat, i ≤ a.length → V (a.drop i) = V (b.drop i) → g71_L4 a b (a.length : Int) ((a.length : Int) - i) = some (cmpI (V a) (V b), ()) := by
  intro i
  induction i with
  | zero =>
    intro hi he
    rw [g71_L4_eq, ifd_f (by omega)]
    simp only [List.drop_zero] at he
    simp [cmpI, he]
  | succ i ih =>
    intro hi he
    have ei : IntKind.wrap .i64 (IntKind.wrap .i64 ((a.length : Int) - 1) - ((a.length : Int) - ((i + 1 : Nat) : Int))) = (i : Int) := by
      rw [wi64 (x := (a.length : Int) - 1) (by omega) (by omega), wi64 (by omega) (by omega)]
      omega
    rw [g71_L4_eq, ei, ifd_t (by omega), ifdd_t (by omega) (by omega), ifdd_t (by omega) (by omega), ifdd_t (by omega) (by omega), ifdd_t (by omega) (by omega)]
    simp only [Int.toNat_natCast]
    by_cases h1 : a.getD i 0 = b.getD i 0
    · rw [ifn_f h1, wi64 (by omega) (by omega), show (a.length : Int) - ((i + 1 : Nat) : Int) + 1 = (a.length : Int) - (i : Int) by omega]
      refine ih (by omega) ?_
      rw [V_drop (show i < a.length by omega), V_drop (show i < b.length by omega), he]
      omega
    · rw [ifn_t h1]
      simp only [h91, Option.bind_some]
      by_cases h2 : a.getD i 0 < b.getD i 0
      · have := V_word_lt ha hb (by omega) hl he h2
        simp only [cmpI]
        rw [if_pos h2, if_pos this]
      · have := V_word_lt hb ha (by omega) hl.symm he.symm (show b.getD i 0 < a.getD i 0 by omega)
        simp only [cmpI]
        rw [if_neg h2, if_neg h1, if_neg (by omega), if_neg (by omega)]
theorem s71 : SigOk Try.prog 71 ⟨[.sl (.int .u32), .sl (.int .u32)], [.int .i64], h71⟩ := ok71 fun (x : List Int × List Int × Unit) r h => by
  obtain ⟨⟨⟨wa, ca, la⟩, wb, cb, lb⟩, rfl⟩ := when_some h
  obtain ⟨a, b, u⟩ := x
  show g71 (a, b, ()) = some (cmpI (V a) (V b), ())
  simp only at wa ca la wb cb lb
  rw [g71_eq]
  by_cases h1 : a.length = b.length
  · rw [ifn_f (by omega)]
    have := L71 a b wa wb h1 la _ (Nat.le_refl _) (by rw [List.drop_length, h1, List.drop_length])
    rw [show (a.length : Int) - (a.length : Int) = 0 by omega] at this
    exact this
  · rw [ifn_t (by omega)]
    simp only [h78, Option.bind_some]
    by_cases h2 : a.length < b.length
    · have := V_len_lt wa wb cb h2
      simp only [cmpI]
      rw [if_pos (by omega), if_pos this]
    · have := V_len_lt wb wa ca (by omega)
      simp only [cmpI]
      rw [if_neg (by omega), if_neg (by omega), if_neg (by omega), if_neg (by omega)]
end Go.Refl.S3
