/-
  What the functions that call no other compute, in plain words, and that they keep these contracts.
-/
import Derived.Test.YthgbejjenlfdnaaP0
set_option linter.unusedVariables false
set_option linter.unusedSimpArgs false
set_option maxRecDepth 100000
namespace Go.Refl.S3
open Go Go.Refl Go.Proofs

open Classical in
/-- A value under a condition. -/
noncomputable def when {α : Type} (p : Prop) (a : α) : Option α := if p then some a else none
theorem when_pos {α : Type} {p : Prop} {a : α} (h : p) : when p a = some a := by unfold when; rw [if_pos h]
theorem when_some {α : Type} {p : Prop} {a r : α} (h : when p a = some r) : p ∧ a = r := by
  unfold when at h
  split at h
  · rename_i hp
    injection h with h
    exact ⟨hp, h⟩
  · cases h

section
variable {α : Type} {x y : α}
theorem ifd_t {p : Prop} [Decidable p] (h : p) : (if decide p = true then x else y) = x := by rw [if_pos (decide_eq_true h)]
theorem ifd_f {p : Prop} [Decidable p] (h : ¬ p) : (if decide p = true then x else y) = y := by rw [if_neg (by simpa using h)]
theorem ifdd_t {p q : Prop} [Decidable p] [Decidable q] (hp : p) (hq : q) : (if (decide p && decide q) = true then x else y) = x := by rw [if_pos (by simp [hp, hq])]
theorem ifddd_t {p q r : Prop} [Decidable p] [Decidable q] [Decidable r] (hp : p) (hq : q) (hr : r) : (if (decide p && decide q && decide r) = true then x else y) = x := by rw [if_pos (by simp [hp, hq, hr])]
theorem ife_t {a b : Int} (h : a = b) : (if (a == b) = true then x else y) = x := by rw [if_pos (by simpa using h)]
theorem ife_f {a b : Int} (h : a ≠ b) : (if (a == b) = true then x else y) = y := by rw [if_neg (by simpa using h)]
theorem ifn_t {a b : Int} (h : a ≠ b) : (if (a != b) = true then x else y) = x := by rw [if_pos (by simpa using h)]
theorem ifn_f {a b : Int} (h : a = b) : (if (a != b) = true then x else y) = y := by rw [if_neg (by simpa using h)]
theorem ifb_t {c : Bool} (h : c = true) : (if c = true then x else y) = x := if_pos h
theorem ifb_f {c : Bool} (h : c = false) : (if c = true then x else y) = y := if_neg (by simp [h])
theorem ifnot_t {c : Bool} (h : c = false) : (if (!c) = true then x else y) = x := if_pos (by simp [h])
theorem ifnot_f {c : Bool} (h : c = true) : (if (!c) = true then x else y) = y := if_neg (by simp [h])
end

theorem mixed : Try.prog.follows .mixedOrders = true := by kernel_rfl

theorem sigs0 : SigsOk Try.prog cx0 := ⟨fun f sg h => (by cases h), fun f sg h => (by cases h), fun f sg h => (by cases h)⟩
theorem inl0 : ∀ f p, look cx0.inl f = some p → Try.prog.funcs[f]? = some p.1 ∧ (p.1.name == "runtime.NumGoroutine") = false := fun f p h => (by cases h)

/-- A function that calls no other keeps a contract that its pure function bears out. -/
theorem leaf {f : FuncId} {fn : Func} {an : List (Nat × Ann)} (hf : Try.prog.funcs[f]? = some fn) (hn : (fn.name == "runtime.NumGoroutine") = false) (hb : fn.body.isNone = false) {ats rts : List Ty} {h : DL ats → Option (DL rts)}
    (hw : ∀ x r, h x = some r → Fn cx0 an fn ats rts x = some r) : SigOk Try.prog f ⟨ats, rts, h⟩ :=
  (Fn_ok (anns := an) mixed T_ok sigs0 inl0 hf hn hb ats rts).weaken hw

/-! ### Trimming -/
noncomputable def h74 : DL [.sl (.int .u32)] → Option (DL [.sl (.int .u32)]) := fun (x : List Int × Unit) => when (W x.1 ∧ x.1.length < 4611686018427387904) (D (V x.1), ())
noncomputable def h88 : DL [.sl (.int .u32)] → Option (DL [.sl (.int .u32)]) := h74

theorem L74 (l : List Int) (hw : W l) (hl : l.length < 4611686018427387904) : ∀ i : Nat, i ≤ l.length → V (l.drop i) = 0 → g74_L2 l (i : Int) = some (D (V l), ()) := by
  intro i
  induction i with
  | zero =>
    intro hi hz
    rw [g74_L2_eq]
    have := D_trim hw hi hz (.inl rfl)
    simp only [List.take_zero] at this
    simp [this]
  | succ i ih =>
    intro hi hz
    rw [g74_L2_eq]
    rw [wi64 (by omega) (by omega)]
    have e1 : ((i + 1 : Nat) : Int) - 1 = (i : Int) := by omega
    rw [e1]
    have c1 : (decide (((i + 1 : Nat) : Int) > 0)) = true := by simp <;> omega
    have c2 : ((decide (0 ≤ (i : Int))) && (decide ((i : Int) < ((List.length l) : Int)))) = true := by simp <;> omega
    rw [if_pos c1, if_pos c2]
    by_cases h0 : l.getD i 0 = 0
    · have c3 : (List.getD l (Int.toNat (i : Int)) 0 == 0) = true := by simpa using h0
      rw [if_pos c3]
      refine ih (by omega) ?_
      rw [V_drop (by omega), h0, hz]
      rfl
    · have c3 : ¬ (List.getD l (Int.toNat (i : Int)) 0 == 0) = true := by simpa using h0
      rw [if_neg c3]
      have c4 : ((decide (0 ≤ ((i + 1 : Nat) : Int))) && (decide (((i + 1 : Nat) : Int) ≤ ((List.length l) : Int)))) = true := by simp <;> omega
      rw [if_pos c4]
      have := D_trim hw hi hz (.inr (by simpa using h0))
      rw [show Int.toNat ((i + 1 : Nat) : Int) = i + 1 by omega, this]

theorem s74 : SigOk Try.prog 74 ⟨[.sl (.int .u32)], [.sl (.int .u32)], h74⟩ := leaf (an := an74) Try.func74 rfl rfl fun (x : List Int × Unit) r h => by
  obtain ⟨⟨hw, hl⟩, rfl⟩ := when_some h
  obtain ⟨l, u⟩ := x
  show g74 (l, ()) = _
  rw [g74_eq]
  exact L74 l hw hl _ (Nat.le_refl _) (by simp [V])

theorem L88 (l : List Int) (hw : W l) (hl : l.length < 4611686018427387904) : ∀ i : Nat, i ≤ l.length → V (l.drop i) = 0 → g88_L2 l (i : Int) = some (D (V l), ()) := by
  intro i
  induction i with
  | zero =>
    intro hi hz
    rw [g88_L2_eq]
    have := D_trim hw hi hz (.inl rfl)
    simp only [List.take_zero] at this
    simp [this]
  | succ i ih =>
    intro hi hz
    rw [g88_L2_eq]
    rw [wi64 (by omega) (by omega)]
    have e1 : ((i + 1 : Nat) : Int) - 1 = (i : Int) := by omega
    rw [e1]
    have c1 : (decide (((i + 1 : Nat) : Int) > 0)) = true := by simp <;> omega
    have c2 : ((decide (0 ≤ (i : Int))) && (decide ((i : Int) < ((List.length l) : Int)))) = true := by simp <;> omega
    rw [if_pos c1, if_pos c2]
    by_cases h0 : l.getD i 0 = 0
    · have c3 : (List.getD l (Int.toNat (i : Int)) 0 == 0) = true := by simpa using h0
      rw [if_pos c3]
      refine ih (by omega) ?_
      rw [V_drop (by omega), h0, hz]
      rfl
    · have c3 : ¬ (List.getD l (Int.toNat (i : Int)) 0 == 0) = true := by simpa using h0
      rw [if_neg c3]
      have c4 : ((decide (0 ≤ ((i + 1 : Nat) : Int))) && (decide (((i + 1 : Nat) : Int) ≤ ((List.length l) : Int)))) = true := by simp <;> omega
      have c5 : ((decide (0 ≤ ((i + 1 : Nat) : Int))) && (decide (((i + 1 : Nat) : Int) ≤ ((Int.toNat ((i + 1 : Nat) : Int)) : Int)))) = true := by simp <;> omega
      rw [if_pos c4, if_pos c5]
      have := D_trim hw hi hz (.inr (by simpa using h0))
      rw [show Int.toNat ((i + 1 : Nat) : Int) = i + 1 by omega, this]

theorem s88 : SigOk Try.prog 88 ⟨[.sl (.int .u32)], [.sl (.int .u32)], h88⟩ := leaf (an := an88) Try.func88 rfl rfl fun (x : List Int × Unit) r h => by
  obtain ⟨⟨hw, hl⟩, rfl⟩ := when_some h
  obtain ⟨l, u⟩ := x
  show g88 (l, ()) = _
  rw [g88_eq]
  exact L88 l hw hl _ (Nat.le_refl _) (by simp [V])

/-! ### Single words -/
noncomputable def h82 : DL [.sl (.int .u32), .int .i64] → Option (DL [.int .u64]) := fun (x : List Int × Int × Unit) => when (W x.1 ∧ 0 ≤ x.2.1) (x.1.getD x.2.1.toNat 0, ())
noncomputable def h83 : DL [.sl (.int .u32), .int .i64] → Option (DL [.int .u32]) := fun (x : List Int × Int × Unit) => when (W x.1 ∧ 0 ≤ x.2.1) (x.1.getD x.2.1.toNat 0, ())

theorem getD_out {l : List Int} {i : Nat} (h : l.length ≤ i) : l.getD i 0 = 0 := by
  rw [List.getD_eq_getElem?_getD, List.getElem?_eq_none h]
  rfl

theorem s82 : SigOk Try.prog 82 ⟨[.sl (.int .u32), .int .i64], [.int .u64], h82⟩ := leaf (an := an82) Try.func82 rfl rfl fun (x : List Int × Int × Unit) r h => by
  obtain ⟨⟨hw, hi⟩, rfl⟩ := when_some h
  obtain ⟨l, i, u⟩ := x
  show g82 (l, i, ()) = _
  replace hi : 0 ≤ i := hi
  replace hw : W l := hw
  rw [g82_eq]
  by_cases c : i < (l.length : Int)
  · have hg := hw.getD i.toNat
    rw [ifd_t c, ifdd_t hi c, wu64 (by omega) (by omega)]
  · rw [ifd_f c]
    show some ((0 : Int), ()) = some (l.getD i.toNat 0, ())
    rw [getD_out (by omega)]

theorem s83 : SigOk Try.prog 83 ⟨[.sl (.int .u32), .int .i64], [.int .u32], h83⟩ := leaf (an := an83) Try.func83 rfl rfl fun (x : List Int × Int × Unit) r h => by
  obtain ⟨⟨hw, hi⟩, rfl⟩ := when_some h
  obtain ⟨l, i, u⟩ := x
  show g83 (l, i, ()) = _
  replace hi : 0 ≤ i := hi
  rw [g83_eq]
  by_cases c : i < (l.length : Int)
  · rw [ifd_t c, ifdd_t hi c]
  · rw [ifd_f c]
    show some ((0 : Int), ()) = some (l.getD i.toNat 0, ())
    rw [getD_out (by omega)]

/-! ### Adding and taking away with a carry -/
noncomputable def h90 : DL [.int .u32, .int .u32, .int .u32] → Option (DL [.int .u32, .int .u32]) := fun (x : Int × Int × Int × Unit) =>
  when ((0 ≤ x.1 ∧ x.1 < 4294967296) ∧ (0 ≤ x.2.1 ∧ x.2.1 < 4294967296) ∧ 0 ≤ x.2.2.1 ∧ x.2.2.1 < 4294967296) ((x.1 + x.2.1 + x.2.2.1) % 4294967296, (x.1 + x.2.1 + x.2.2.1) / 4294967296, ())

theorem s90 : SigOk Try.prog 90 ⟨[.int .u32, .int .u32, .int .u32], [.int .u32, .int .u32], h90⟩ := leaf (an := an90) Try.func90 rfl rfl fun (x : Int × Int × Int × Unit) r h => by
  obtain ⟨⟨⟨a0, a1⟩, ⟨b0, b1⟩, c0, c1⟩, rfl⟩ := when_some h
  obtain ⟨a, b, c, u⟩ := x
  show g90 (a, b, c, ()) = _
  simp only at a0 a1 b0 b1 c0 c1
  rw [g90_eq]
  rw [wu64 (x := a) (by omega) (by omega), wu64 (x := b) (by omega) (by omega), wu64 (x := c) (by omega) (by omega), wu64 (x := a + b) (by omega) (by omega), wu64 (x := a + b + c) (by omega) (by omega)]
  rw [Int.fdiv_eq_ediv_of_nonneg _ (by omega), IntKind.wrap_u32, IntKind.wrap_u32]
  rw [show (a + b + c) / 4294967296 % 4294967296 = (a + b + c) / 4294967296 by omega]

noncomputable def h100 : DL [.int .i64] → Option (DL [.bool]) := fun (_ : Int × Unit) => some (false, ())
noncomputable def h102 : DL [.int .u32] → Option (DL [.bool]) := fun (_ : Int × Unit) => some (false, ())
theorem s100 : SigOk Try.prog 100 ⟨[.int .i64], [.bool], h100⟩ := leaf (an := an100) Try.func100 rfl rfl fun (x : Int × Unit) r h => by
  obtain ⟨a, u⟩ := x
  show g100 (a, ()) = _
  rw [g100_eq, ← h]
  simp [h100]
theorem s102 : SigOk Try.prog 102 ⟨[.int .u32], [.bool], h102⟩ := leaf (an := an102) Try.func102 rfl rfl fun (x : Int × Unit) r h => by
  obtain ⟨a, u⟩ := x
  show g102 (a, ()) = _
  rw [g102_eq, ← h]
  simp [h102]

theorem ofInt_wrap (X : BitVec 32) : BitVec.ofInt 32 (IntKind.wrap .u32 (X.toNat : Int)) = X := by
  have := X.isLt
  rw [wu32 (by omega) (by omega)]
  simp
theorem msb_word {a : Int} (h0 : 0 ≤ a) (h1 : a < 4294967296) : (BitVec.ofInt 32 a).msb = decide (2147483648 ≤ a) := by
  rw [BitVec.msb_eq_decide]
  simp only [BitVec.toNat_ofInt]
  congr 1
  simp only [eq_iff_iff]
  omega
theorem top_bit (X : BitVec 32) : Int.fdiv (IntKind.wrap .u32 (X.toNat : Int)) 2147483648 = if X.msb = true then 1 else 0 := by
  have := X.isLt
  rw [wu32 (by omega) (by omega), Int.fdiv_eq_ediv_of_nonneg _ (by omega), BitVec.msb_eq_decide]
  by_cases h : 2147483648 ≤ X.toNat
  · rw [if_pos (by simpa using h)]; omega
  · rw [if_neg (by simpa using h)]; omega

noncomputable def h92 : DL [.int .u32, .int .u32, .int .u32] → Option (DL [.int .u32, .int .u32]) := fun (x : Int × Int × Int × Unit) =>
  when ((0 ≤ x.1 ∧ x.1 < 4294967296) ∧ (0 ≤ x.2.1 ∧ x.2.1 < 4294967296) ∧ 0 ≤ x.2.2.1 ∧ x.2.2.1 ≤ 1) ((x.1 - x.2.1 - x.2.2.1) % 4294967296, (if x.1 < x.2.1 + x.2.2.1 then 1 else 0), ())
theorem s92 : SigOk Try.prog 92 ⟨[.int .u32, .int .u32, .int .u32], [.int .u32, .int .u32], h92⟩ := leaf (an := an92) Try.func92 rfl rfl fun (x : Int × Int × Int × Unit) r h => by
  obtain ⟨⟨⟨a0, a1⟩, ⟨b0, b1⟩, c0, c1⟩, rfl⟩ := when_some h
  obtain ⟨a, b, c, u⟩ := x
  show g92 (a, b, c, ()) = _
  simp only at a0 a1 b0 b1 c0 c1
  rw [g92_eq]
  have e : IntKind.wrap .u32 (IntKind.wrap .u32 (a - b) - c) = (a - b - c) % 4294967296 := by
    rw [IntKind.wrap_u32, IntKind.wrap_u32]; omega
  simp only [e, ofInt_wrap, top_bit]
  have m1 : (BitVec.ofInt 32 4294967295).msb = true := by decide
  simp only [BitVec.msb_or, BitVec.msb_and, BitVec.msb_xor, m1, msb_word a0 a1, msb_word b0 b1, msb_word (a := (a - b - c) % 4294967296) (by omega) (by omega)]
  congr 2
  by_cases ha : 2147483648 ≤ a <;> by_cases hb : 2147483648 ≤ b <;> by_cases hd : 2147483648 ≤ (a - b - c) % 4294967296 <;> by_cases hab : a < b + c <;> simp [ha, hb, hd, hab] <;> omega

/-! ### Whole numbers in their form -/
abbrev tInt : Ty := .pair .bool (.pair (.sl (.int .u32)) .unit)
abbrev DInt : Type := Bool × List Int × Unit
def enc (z : Int) : DInt := (decide (z < 0), dg z.natAbs, ())
def dec (x : DInt) : Int := if x.1 = true then - V x.2.1 else V x.2.1
theorem dec_enc (z : Int) : dec (enc z) = z := by
  unfold dec enc
  simp only [V_dg]
  by_cases h : z < 0 <;> simp [h] <;> omega
theorem enc_inj {a b : Int} (h : enc a = enc b) : a = b := by rw [← dec_enc a, h, dec_enc]

/-- A number of not too many words. -/
def Sm (z : Int) : Prop := (dg z.natAbs).length < 1048576
/-- A number in its form. -/
def Is (x : DInt) : Prop := ∃ z, x = enc z ∧ Sm z
theorem Is.enc {z : Int} (h : Sm z) : Is (enc z) := ⟨z, rfl, h⟩
theorem Is.eq {x : DInt} (h : Is x) : x = S3.enc (dec x) ∧ Sm (dec x) := by
  obtain ⟨z, rfl, hs⟩ := h
  rw [dec_enc]
  exact ⟨rfl, hs⟩

def sgn (z : Int) : Int := if z < 0 then -1 else if z = 0 then 0 else 1

theorem dg_length_pos {n : Nat} (h : n ≠ 0) : 0 < (dg n).length := by
  rw [dg_pos h]
  simp

noncomputable def h31 : DL [tInt] → Option (DL [.int .i64]) := fun (x : DInt × Unit) => when (Is x.1) (sgn (dec x.1), ())
noncomputable def h51 : DL [tInt] → Option (DL [.int .i64]) := h31

theorem sign_core (z : Int) : (if (enc z).1 = true then some ((-1 : Int), ()) else some ((if (false = true) then (if (1 > ((List.length (enc z).2.1) : Int)) then 1 else ((List.length (enc z).2.1) : Int)) else (if (1 < ((List.length (enc z).2.1) : Int)) then 1 else ((List.length (enc z).2.1) : Int))), ())) = some (sgn z, ()) := by
  unfold sgn
  by_cases h : z < 0
  · simp [enc, h]
  · by_cases h0 : z = 0
    · subst h0; simp [enc, dg_zero]
    · have := dg_length_pos (n := z.natAbs) (by omega)
      have e : (enc z).1 = false := by simp [enc, h]
      have e2 : (enc z).2.1.length = (dg z.natAbs).length := rfl
      rw [e, e2]
      simp only [Bool.false_eq_true, if_false, h, h0]
      by_cases h1 : 1 < ((dg z.natAbs).length : Int)
      · rw [if_pos h1]
      · rw [if_neg h1]
        congr 2
        omega

theorem s31 : SigOk Try.prog 31 ⟨[tInt], [.int .i64], h31⟩ := leaf (an := an31) Try.func31 rfl rfl fun (x : DInt × Unit) r h => by
  obtain ⟨⟨z, hz, _⟩, rfl⟩ := when_some h
  obtain ⟨a, u⟩ := x
  replace hz : a = enc z := hz
  subst hz
  show g31 (enc z, ()) = some (sgn (dec (enc z)), ())
  rw [g31_eq, dec_enc]
  exact sign_core z
theorem s51 : SigOk Try.prog 51 ⟨[tInt], [.int .i64], h51⟩ := leaf (an := an51) Try.func51 rfl rfl fun (x : DInt × Unit) r h => by
  obtain ⟨⟨z, hz, _⟩, rfl⟩ := when_some h
  obtain ⟨a, u⟩ := x
  replace hz : a = enc z := hz
  subst hz
  show g51 (enc z, ()) = some (sgn (dec (enc z)), ())
  rw [g51_eq, dec_enc]
  exact sign_core z

/-! ### Canonical -/
noncomputable def h29 : DL [tInt] → Option (DL [.bool]) := fun (x : DInt × Unit) => when (Is x.1) (true, ())
theorem s29 : SigOk Try.prog 29 ⟨[tInt], [.bool], h29⟩ := leaf (an := an29) Try.func29 rfl rfl fun (x : DInt × Unit) r h => by
  obtain ⟨⟨z, hz, hs⟩, rfl⟩ := when_some h
  obtain ⟨a, u⟩ := x
  replace hz : a = enc z := hz
  subst hz
  show g29 (enc z, ()) = some (true, ())
  rw [g29_eq]
  have e2 : (enc z).2.1 = dg z.natAbs := rfl
  unfold Sm at hs
  by_cases h0 : z = 0
  · subst h0
    rw [ife_t (by simp [enc, dg_zero])]
    simp [enc]
  · have := dg_length_pos (n := z.natAbs) (by omega)
    rw [e2]
    rw [ife_f (by omega), wi64 (by omega) (by omega), ifdd_t (by omega) (by omega)]
    have hc := dg_Cn z.natAbs
    unfold Cn at hc
    rw [show Int.toNat (((dg z.natAbs).length : Int) - 1) = (dg z.natAbs).length - 1 by omega]
    congr 2
    simp only [bne_iff_ne, ne_eq]
    rw [List.getD_eq_getElem?_getD, List.getElem?_eq_getElem (by omega)] at hc ⊢
    exact hc

/-! ### Equality -/
noncomputable def h30 : DL [tInt, tInt] → Option (DL [.bool]) := fun (x : DInt × DInt × Unit) => when (Is x.1 ∧ Is x.2.1) (decide (dec x.1 = dec x.2.1), ())

theorem L30 (l m : List Int) (b c : Bool) (hlm : l.length = m.length) (hl : l.length < 1048576) : ∀ k i : Nat, i + k = l.length → (∀ j, j < i → l.getD j 0 = m.getD j 0) → g30_L4 (i : Int) b l c m = some (decide (l = m), ()) := by
  intro k
  induction k with
  | zero =>
    intro i hi he
    rw [g30_L4_eq, ifd_f (by omega)]
    have : l = m := by
      refine List.ext_getElem hlm fun j h1 h2 => ?_
      have := he j (by omega)
      rw [List.getD_eq_getElem?_getD, List.getD_eq_getElem?_getD, List.getElem?_eq_getElem h1, List.getElem?_eq_getElem h2] at this
      exact this
    simp [this]
  | succ k ih =>
    intro i hi he
    rw [g30_L4_eq, ifd_t (by omega), ifdd_t (by omega) (by omega), ifdd_t (by omega) (by omega)]
    simp only [Int.toNat_natCast]
    by_cases e : l.getD i 0 = m.getD i 0
    · rw [ifn_f e, wi64 (by omega) (by omega)]
      rw [show (i : Int) + 1 = ((i + 1 : Nat) : Int) by omega]
      refine ih (i + 1) (by omega) fun j hj => ?_
      by_cases hji : j = i
      · subst hji; exact e
      · exact he j (by omega)
    · rw [ifn_t e]
      have : l ≠ m := fun h => e (by rw [h])
      simp [this]

theorem enc_eq_iff {a b : Int} : a = b ↔ decide (a < 0) = decide (b < 0) ∧ dg a.natAbs = dg b.natAbs := by
  constructor
  · rintro rfl; exact ⟨rfl, rfl⟩
  · rintro ⟨h1, h2⟩
    refine enc_inj ?_
    unfold enc
    rw [h1, h2]

theorem s30 : SigOk Try.prog 30 ⟨[tInt, tInt], [.bool], h30⟩ := leaf (an := an30) Try.func30 rfl rfl fun (x : DInt × DInt × Unit) r h => by
  obtain ⟨⟨⟨y, hy, hsy⟩, z, hz, hsz⟩, rfl⟩ := when_some h
  obtain ⟨a, b, u⟩ := x
  replace hy : a = enc y := hy
  replace hz : b = enc z := hz
  subst hy; subst hz
  show g30 (enc y, enc z, ()) = some (decide (dec (enc y) = dec (enc z)), ())
  rw [g30_eq, dec_enc, dec_enc]
  unfold Sm at hsy hsz
  have e1 : ∀ w, (enc w).2.1 = dg w.natAbs := fun _ => rfl
  have e2 : ∀ w, (enc w).1 = decide (w < 0) := fun _ => rfl
  rw [e1, e1, e2, e2]
  by_cases hn : decide (y < 0) = decide (z < 0)
  · rw [ifnot_f (by simpa using hn)]
    by_cases hl : (dg y.natAbs).length = (dg z.natAbs).length
    · rw [ifn_f (by omega)]
      have := L30 (dg y.natAbs) (dg z.natAbs) (decide (y < 0)) (decide (z < 0)) hl hsy (dg y.natAbs).length 0 (by omega) (by omega)
      rw [show ((0 : Nat) : Int) = 0 from rfl] at this
      rw [this]
      congr 2
      simp only [enc_eq_iff (a := y) (b := z), hn, true_and]
    · rw [ifn_t (by omega)]
      have : ¬ y = z := fun h => hl (by rw [h])
      simp [this]
  · rw [ifnot_t (by simpa using hn)]
    have : ¬ y = z := fun h => hn (by rw [h])
    simp [this]

/-! ### Comparing -/
def cmpI (a b : Int) : Int := if a < b then -1 else if a = b then 0 else 1

/-- Canonical words of a number that isn't too great. -/
def Nt (l : List Int) : Prop := W l ∧ Cn l ∧ l.length < 4194304

noncomputable def h50 : DL [.sl (.int .u32), .sl (.int .u32)] → Option (DL [.int .i64]) := fun (x : List Int × List Int × Unit) => when (Nt x.1 ∧ Nt x.2.1) (cmpI (V x.1) (V x.2.1), ())

theorem V_len_lt {a b : List Int} (ha : W a) (hb : W b) (hc : Cn b) (h : a.length < b.length) : V a < V b := by
  have h1 := V_lt ha
  have h2 : P (b.length - 1) ≤ V b := by
    have hne : b.length - 1 < b.length := by omega
    have := V_take_drop b (b.length - 1)
    rw [V_drop hne, Nat.min_eq_left (by omega), show b.length - 1 + 1 = b.length by omega, List.drop_length] at this
    have hd : b.getD (b.length - 1) 0 ≠ 0 := by
      unfold Cn at hc
      rw [List.getD_eq_getElem?_getD, List.getElem?_eq_getElem hne] at hc ⊢
      exact hc
    have hg := hb.getD (b.length - 1)
    have ht := V_nonneg (hb.take (b.length - 1))
    have hp := P_pos (b.length - 1)
    have hm : P (b.length - 1) * 1 ≤ P (b.length - 1) * b.getD (b.length - 1) 0 := Int.mul_le_mul_of_nonneg_left (by omega) (by omega)
    simp only [V, Int.mul_zero, Int.add_zero] at this
    omega
  have h3 : P a.length ≤ P (b.length - 1) := by
    have : b.length - 1 = a.length + (b.length - 1 - a.length) := by omega
    rw [this, P_add]
    have := P_pos a.length
    have h4 := P_pos (b.length - 1 - a.length)
    have : P a.length * 1 ≤ P a.length * P (b.length - 1 - a.length) := Int.mul_le_mul_of_nonneg_left (by omega) (by omega)
    omega
  omega

/-- Where the higher words agree, the word decides. -/
theorem V_word_lt {a b : List Int} (ha : W a) (hb : W b) {i : Nat} (hi : i < a.length) (hl : a.length = b.length) (hd : V (a.drop (i + 1)) = V (b.drop (i + 1))) (hw : a.getD i 0 < b.getD i 0) : V a < V b := by
  have e1 := V_take_drop a i
  have e2 := V_take_drop b i
  rw [Nat.min_eq_left (by omega)] at e1 e2
  rw [V_drop hi] at e1
  rw [V_drop (show i < b.length by omega), ← hd] at e2
  have t1 := V_lt (ha.take i)
  have t2 := V_nonneg (hb.take i)
  rw [List.length_take, Nat.min_eq_left (by omega)] at t1
  have hp := P_pos i
  have hm : P i * (a.getD i 0 + 1) ≤ P i * b.getD i 0 := Int.mul_le_mul_of_nonneg_left (by omega) (by omega)
  rw [Int.mul_add, Int.mul_one] at hm
  rw [Int.mul_add] at e1 e2
  omega

theorem L50 (a b : List Int) (ha : W a) (hb : W b) (hl : a.length = b.length) (hs : a.length < 4194304) : ∀ i : Nat, i ≤ a.length → V (a.drop i) = V (b.drop i) → g50_L6 a b ((i : Int) - 1) = some (cmpI (V a) (V b), ()) := by
  intro i
  induction i with
  | zero =>
    intro hi he
    rw [g50_L6_eq, ifd_f (by omega)]
    simp only [List.drop_zero] at he
    simp [cmpI, he]
  | succ i ih =>
    intro hi he
    have e0 : ((i + 1 : Nat) : Int) - 1 = (i : Int) := by omega
    rw [e0, g50_L6_eq, ifd_t (by omega), ifdd_t (by omega) (by omega), ifdd_t (by omega) (by omega)]
    simp only [Int.toNat_natCast]
    by_cases h1 : a.getD i 0 < b.getD i 0
    · rw [ifd_t h1]
      have := V_word_lt ha hb (by omega) hl he h1
      simp [cmpI, this]
    · rw [ifd_f h1, ifdd_t (by omega) (by omega), ifdd_t (by omega) (by omega)]
      by_cases h2 : a.getD i 0 > b.getD i 0
      · rw [ifd_t h2]
        have := V_word_lt hb ha (by omega) hl.symm he.symm h2
        simp only [cmpI]
        rw [if_neg (by omega), if_neg (by omega)]
      · rw [ifd_f h2, wi64 (by omega) (by omega)]
        refine ih (by omega) ?_
        rw [V_drop (show i < a.length by omega), V_drop (show i < b.length by omega), he]
        omega

theorem s50 : SigOk Try.prog 50 ⟨[.sl (.int .u32), .sl (.int .u32)], [.int .i64], h50⟩ := leaf (an := an50) Try.func50 rfl rfl fun (x : List Int × List Int × Unit) r h => by
  obtain ⟨⟨⟨wa, ca, la⟩, wb, cb, lb⟩, rfl⟩ := when_some h
  obtain ⟨a, b, u⟩ := x
  show g50 (a, b, ()) = some (cmpI (V a) (V b), ())
  simp only at wa ca la wb cb lb
  rw [g50_eq]
  by_cases h1 : (a.length : Int) < (b.length : Int)
  · rw [ifd_t h1]
    have := V_len_lt wa wb cb (by omega)
    simp [cmpI, this]
  · rw [ifd_f h1]
    by_cases h2 : (a.length : Int) > (b.length : Int)
    · rw [ifd_t h2]
      have := V_len_lt wb wa ca (by omega)
      simp only [cmpI]
      rw [if_neg (by omega), if_neg (by omega)]
    · rw [ifd_f h2, wi64 (by omega) (by omega)]
      refine L50 a b wa wb (by omega) la _ (Nat.le_refl _) ?_
      rw [List.drop_length, show a.length = b.length by omega, List.drop_length]
end Go.Refl.S3
