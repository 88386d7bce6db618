import Derived.Test.YthgbejjenlfdnaaTab
import Derived.Laws.BitsLemmas
import Derived.Laws.Bits64
import Derived.KernelRfl
/-
  Numbers as words: the value of a row of words of 32 bits, its canonical words, and small laws about wrapping.
-/
set_option linter.unusedVariables false
set_option linter.unusedSimpArgs false
namespace Go.Refl.S3
open Go Go.Refl Go.Proofs

/-! ### Wrapping -/
theorem wu64 {x : Int} (h0 : 0 ≤ x) (h1 : x < 18446744073709551616) : IntKind.wrap .u64 x = x := by rw [IntKind.wrap_u64]; omega
theorem wu32 {x : Int} (h0 : 0 ≤ x) (h1 : x < 4294967296) : IntKind.wrap .u32 x = x := by rw [IntKind.wrap_u32]; omega
theorem wi64 {x : Int} (h0 : -9223372036854775808 ≤ x) (h1 : x < 9223372036854775808) : IntKind.wrap .i64 x = x := by rw [IntKind.wrap_i64]; omega

/-! ### Rows of words -/
def V : List Int → Int
  | [] => 0
  | w :: l => w + 4294967296 * V l

def W (l : List Int) : Prop := ∀ w ∈ l, 0 ≤ w ∧ w < 4294967296

theorem W.nil : W [] := fun _ h => by cases h
theorem W.cons {w : Int} {l : List Int} (h0 : 0 ≤ w) (h1 : w < 4294967296) (h : W l) : W (w :: l) := by
  intro x hx
  rcases List.mem_cons.1 hx with rfl | hx
  · exact ⟨h0, h1⟩
  · exact h x hx
theorem W.tail {w : Int} {l : List Int} (h : W (w :: l)) : W l := fun x hx => h x (.tail _ hx)
theorem W.head {w : Int} {l : List Int} (h : W (w :: l)) : 0 ≤ w ∧ w < 4294967296 := h w (.head _)
theorem W.take {l : List Int} (h : W l) (n : Nat) : W (l.take n) := fun x hx => h x (List.mem_of_mem_take hx)
theorem W.drop {l : List Int} (h : W l) (n : Nat) : W (l.drop n) := fun x hx => h x (List.mem_of_mem_drop hx)
theorem W.append {a b : List Int} (ha : W a) (hb : W b) : W (a ++ b) := fun x hx => (List.mem_append.1 hx).elim (ha x) (hb x)
theorem W.replicate (n : Nat) : W (List.replicate n (0 : Int)) := fun x hx => by
  rw [List.eq_of_mem_replicate hx]
  omega
theorem W.set {l : List Int} (h : W l) {i : Nat} {w : Int} (h0 : 0 ≤ w) (h1 : w < 4294967296) : W (l.set i w) := by
  intro x hx
  rcases List.mem_or_eq_of_mem_set hx with hx | hx
  · exact h x hx
  · subst hx; exact ⟨h0, h1⟩
theorem W.getD {l : List Int} (h : W l) (i : Nat) : 0 ≤ l.getD i 0 ∧ l.getD i 0 < 4294967296 := by
  rw [List.getD_eq_getElem?_getD]
  cases hi : l[i]? with
  | none => simp
  | some w => exact h w (List.mem_of_getElem? hi)

/-- The powers of the base. -/
def P (n : Nat) : Int := 4294967296 ^ n
theorem P_zero : P 0 = 1 := rfl
theorem P_succ (n : Nat) : P (n + 1) = 4294967296 * P n := by
  unfold P
  rw [Int.pow_succ, Int.mul_comm]
theorem P_pos (n : Nat) : 0 < P n := by
  induction n with
  | zero => rw [P_zero]; omega
  | succ n ih => rw [P_succ]; omega
theorem P_add (a b : Nat) : P (a + b) = P a * P b := by
  unfold P
  rw [Int.pow_add]

theorem V_nonneg {l : List Int} (h : W l) : 0 ≤ V l := by
  induction l with
  | nil => exact Int.le_refl 0
  | cons w l ih =>
    have := ih h.tail
    have := h.head
    simp only [V]
    omega
theorem V_lt {l : List Int} (h : W l) : V l < P l.length := by
  induction l with
  | nil => simp [V, P]
  | cons w l ih =>
    have := ih h.tail
    have := h.head
    simp only [V, List.length_cons, P_succ]
    omega
theorem V_append (a b : List Int) : V (a ++ b) = V a + P a.length * V b := by
  induction a with
  | nil => simp [V, P]
  | cons w a ih =>
    simp only [List.cons_append, V, ih, List.length_cons, P_succ, Int.mul_add, Int.mul_assoc]
    omega
theorem V_replicate (n : Nat) : V (List.replicate n (0 : Int)) = 0 := by
  induction n with
  | zero => rfl
  | succ n ih => simp only [List.replicate_succ, V, ih]; omega
theorem V_take_drop (l : List Int) (n : Nat) : V l = V (l.take n) + P (min n l.length) * V (l.drop n) := by
  conv => lhs; rw [← List.take_append_drop n l]
  rw [V_append, List.length_take]
theorem V_set {l : List Int} {i : Nat} (hi : i < l.length) (w : Int) : V (l.set i w) = V l + (w - l.getD i 0) * P i := by
  induction l generalizing i with
  | nil => simp at hi
  | cons x l ih =>
    cases i with
    | zero =>
      simp only [List.set_cons_zero, V, List.getD_cons_zero, P_zero]
      omega
    | succ i =>
      simp only [List.set_cons_succ, V, List.getD_cons_succ, P_succ]
      rw [ih (by simpa using hi)]
      rw [Int.mul_add]
      have : 4294967296 * ((w - l.getD i 0) * P i) = (w - l.getD i 0) * (4294967296 * P i) := by
        rw [← Int.mul_assoc, ← Int.mul_assoc, Int.mul_comm 4294967296 (w - l.getD i 0)]
      omega
theorem V_succ_take {l : List Int} {i : Nat} (hi : i < l.length) : V (l.take (i + 1)) = V (l.take i) + P i * l.getD i 0 := by
  rw [List.take_add_one, V_append, List.length_take, Nat.min_eq_left (by omega), List.getD_eq_getElem?_getD, List.getElem?_eq_getElem hi]
  simp [V]
theorem V_drop {l : List Int} {i : Nat} (hi : i < l.length) : V (l.drop i) = l.getD i 0 + 4294967296 * V (l.drop (i + 1)) := by
  rw [List.drop_eq_getElem_cons hi, V, List.getD_eq_getElem?_getD, List.getElem?_eq_getElem hi]
  rfl
theorem V_zero {l : List Int} (h : W l) (hz : V l = 0) : ∀ w ∈ l, w = 0 := by
  induction l with
  | nil => intro w hw; cases hw
  | cons x l ih =>
    intro w hw
    have h1 := V_nonneg h.tail
    have h2 := h.head
    simp only [V] at hz
    rcases List.mem_cons.1 hw with rfl | hw
    · omega
    · exact ih h.tail (by omega) w hw

/-! ### Canonical words -/
/-- The words of a number. -/
def dg (n : Nat) : List Int := if h : n = 0 then [] else ((n % 4294967296 : Nat) : Int) :: dg (n / 4294967296)
termination_by n
decreasing_by omega

theorem dg_zero : dg 0 = [] := by unfold dg; simp
theorem dg_pos {n : Nat} (h : n ≠ 0) : dg n = ((n % 4294967296 : Nat) : Int) :: dg (n / 4294967296) := by
  rw [dg]
  simp [h]
theorem dg_W (n : Nat) : W (dg n) := by
  induction n using Nat.strongRecOn with
  | _ n ih =>
    by_cases h : n = 0
    · subst h; rw [dg_zero]; exact W.nil
    · rw [dg_pos h]
      exact W.cons (by omega) (by omega) (ih _ (by omega))
theorem V_dg (n : Nat) : V (dg n) = n := by
  induction n using Nat.strongRecOn with
  | _ n ih =>
    by_cases h : n = 0
    · subst h; rw [dg_zero]; rfl
    · rw [dg_pos h, V, ih _ (by omega)]
      omega
/-- The words of a whole number that isn't negative. -/
def D (z : Int) : List Int := dg z.toNat
theorem D_W (z : Int) : W (D z) := dg_W _
theorem V_D {z : Int} (h : 0 ≤ z) : V (D z) = z := by
  rw [D, V_dg]
  omega
theorem D_zero : D 0 = [] := dg_zero

/-- No 0 stands at the end. -/
def Cn (l : List Int) : Prop := l.getD (l.length - 1) 1 ≠ 0

theorem Cn_nil : Cn [] := by simp [Cn]
theorem Cn_cons {w : Int} {l : List Int} (h : l ≠ []) : Cn (w :: l) ↔ Cn l := by
  cases l with
  | nil => exact (h rfl).elim
  | cons x l => simp [Cn]

theorem dg_V {l : List Int} (hw : W l) (hc : Cn l) : dg (V l).toNat = l := by
  induction l with
  | nil => simp [V, dg_zero]
  | cons w l ih =>
    have hh := hw.head
    have hn := V_nonneg hw.tail
    by_cases hl : l = []
    · subst hl
      have : w ≠ 0 := by simpa [Cn] using hc
      have hv : (V [w]).toNat = w.toNat := by simp [V]
      rw [hv, dg_pos (by omega), show w.toNat / 4294967296 = 0 by omega, dg_zero]
      congr 1
      omega
    · have hc' := (Cn_cons hl).1 hc
      have ih' := ih hw.tail hc'
      have hne : V l ≠ 0 := by
        intro h0
        rw [h0] at ih'
        simp [dg_zero] at ih'
        exact hl ih'
      have hv : (V (w :: l)).toNat ≠ 0 := by
        simp only [V]
        omega
      rw [dg_pos hv]
      have e1 : (((V (w :: l)).toNat % 4294967296 : Nat) : Int) = w := by
        simp only [V]
        omega
      have e2 : (V (w :: l)).toNat / 4294967296 = (V l).toNat := by
        simp only [V]
        omega
      rw [e1, e2, ih']

theorem D_V {l : List Int} (hw : W l) (hc : Cn l) : D (V l) = l := dg_V hw hc

theorem dg_Cn (n : Nat) : Cn (dg n) := by
  induction n using Nat.strongRecOn with
  | _ n ih =>
    by_cases h : n = 0
    · subst h; rw [dg_zero]; exact Cn_nil
    · rw [dg_pos h]
      by_cases h1 : n / 4294967296 = 0
      · rw [h1, dg_zero]
        simp only [Cn, List.length_cons, List.length_nil, List.getD_cons_zero, Nat.zero_add, Nat.sub_self]
        omega
      · rw [Cn_cons]
        · exact ih _ (by omega)
        · rw [dg_pos h1]; simp
theorem D_Cn (z : Int) : Cn (D z) := dg_Cn _

theorem dg_length {n k : Nat} (h : n < 4294967296 ^ k) : (dg n).length ≤ k := by
  induction k generalizing n with
  | zero =>
    have : n = 0 := by simpa using h
    subst this
    simp [dg_zero]
  | succ k ih =>
    by_cases h0 : n = 0
    · subst h0; simp [dg_zero]
    · rw [dg_pos h0, List.length_cons]
      have := ih (n := n / 4294967296) (by
        rw [Nat.pow_succ] at h
        exact Nat.div_lt_of_lt_mul (by rw [Nat.mul_comm]; exact h))
      omega
theorem D_length {z : Int} {k : Nat} (h : z < P k) : (D z).length ≤ k := by
  unfold D
  refine dg_length ?_
  unfold P at h
  by_cases h0 : 0 ≤ z
  · have : ((4294967296 ^ k : Nat) : Int) = (4294967296 : Int) ^ k := by simp
    omega
  · have : z.toNat = 0 := by omega
    rw [this]
    exact Nat.pow_pos (by omega)

/-- Trailing zeros don't count. -/
theorem D_trim {l : List Int} {i : Nat} (hw : W l) (hi : i ≤ l.length) (hz : V (l.drop i) = 0) (hc : i = 0 ∨ l.getD (i - 1) 0 ≠ 0) : l.take i = D (V l) := by
  have h1 : V l = V (l.take i) := by
    rw [V_take_drop l i, hz]
    omega
  rw [h1]
  refine (D_V (hw.take i) ?_).symm
  rcases hc with rfl | hc
  · exact Cn_nil
  · have hi0 : i ≠ 0 := by
      intro h0
      subst h0
      by_cases hl : l = []
      · subst hl; simp at hc
      · exact hc (V_zero hw (by simpa using hz) _ (by
          cases l with
          | nil => exact (hl rfl).elim
          | cons x l => simp))
    unfold Cn
    rw [List.length_take, Nat.min_eq_left hi, List.getD_eq_getElem?_getD, List.getElem?_take_of_lt (by omega)]
    rw [List.getD_eq_getElem?_getD] at hc
    cases hx : l[i - 1]? with
    | none => simp
    | some w => rw [hx] at hc; simpa using hc
end Go.Refl.S3
/-
  PRINTED BY PROGRAM: what the bodies of some functions compute, loop by loop; each equation is checked by the kernel.
-/
set_option linter.unusedVariables false
set_option maxRecDepth 100000
namespace Go.Refl.S3
open Go Go.Refl Go.Proofs

noncomputable def cx0 : Cx := { types := T, sigs := [], muts := [] }
def an14 : List (Nat × Ann) := [(4, { keep := 9 })]
def an16 : List (Nat × Ann) := [(4, { keep := 962 })]
def an20 : List (Nat × Ann) := [(2, { keep := 135 })]
def an21 : List (Nat × Ann) := [(4, { keep := 900 })]
def an29 : List (Nat × Ann) := []
def an30 : List (Nat × Ann) := [(4, { keep := 44 })]
def an31 : List (Nat × Ann) := []
def an37 : List (Nat × Ann) := [(1, { keep := 3 })]
def an38 : List (Nat × Ann) := []
def an50 : List (Nat × Ann) := [(6, { keep := 35 })]
def an51 : List (Nat × Ann) := []
def an74 : List (Nat × Ann) := [(2, { keep := 9 })]
def an79 : List (Nat × Ann) := [(6, { keep := 48 })]
def an82 : List (Nat × Ann) := []
def an83 : List (Nat × Ann) := []
def an85 : List (Nat × Ann) := [(5, { keep := 419 })]
def an88 : List (Nat × Ann) := [(2, { keep := 9 })]
def an90 : List (Nat × Ann) := []
def an92 : List (Nat × Ann) := []
def an98 : List (Nat × Ann) := []
def an100 : List (Nat × Ann) := []
def an101 : List (Nat × Ann) := [(1, { keep := 3 })]
def an102 : List (Nat × Ann) := []
def an103 : List (Nat × Ann) := []
def an104 : List (Nat × Ann) := []
noncomputable def g14 : DL [(.int .u64)] → Option (DL [.bool]) := Fn cx0 an14 Try.f14 [(.int .u64)] [.bool]
noncomputable def g14_L4 (t0 : Int) (t3 : Int) : Option (DL [.bool]) := Lp cx0 an14 Try.f14 [.bool] [true, true, false, true, false] ⟨[.val (.int .u64) t0, .undef, .undef, .val (.int .u64) t3, .undef, .undef, .undef, .undef, .undef, .undef, .undef, .undef, .undef, .undef, .undef, .undef, .undef, .undef, .undef, .undef, .undef], ofL [], [], []⟩
theorem g14_L4_eq (t0 : Int) (t3 : Int) : g14_L4 t0 t3 =
  if (decide ((IntKind.wrap .u64 (t3 * t3)) ≤ t0)) = true then
    if (t3 == 0) = true then
      none
    else if ((Int.tmod t0 t3) == 0) = true then
      some (false, ())
    else (g14_L4 t0 (IntKind.wrap .u64 (t3 + 1)))
  else some (true, ()) := (Lp_eq cx0 an14 Try.f14 [.bool] [true, true, false, true, false] _).trans (by kernel_rfl)
theorem g14_eq (a : Int) : g14 (a, ()) =
  if (decide (a < 2)) = true then
    some (false, ())
  else if (decide (a > 2147483647)) = true then
    some (false, ())
  else (g14_L4 a 2) := (Fn_eq rfl).trans (by kernel_rfl)

noncomputable def g16 : DL [(.int .u64), (.int .u64)] → Option (DL [(.int .u64), (.int .i64)]) := Fn cx0 an16 Try.f16 [(.int .u64), (.int .u64)] [(.int .u64), (.int .i64)]
noncomputable def g16_L4 (t1 : Int) (t6 : Int) (t7 : Int) (t8 : Int) (t9 : Int) : Option (DL [(.int .u64), (.int .i64)]) := Lp cx0 an16 Try.f16 [(.int .u64), (.int .i64)] [true, true, true, false, false] ⟨[.undef, .val (.int .u64) t1, .undef, .undef, .undef, .undef, .val (.int .i64) t6, .val (.int .i64) t7, .val (.int .i64) t8, .val (.int .i64) t9, .undef, .undef, .undef, .undef, .undef, .undef, .undef, .undef, .undef, .undef, .undef, .undef, .undef, .undef, .undef, .undef, .undef, .undef, .undef, .undef, .undef, .undef, .undef, .undef, .undef, .undef, .undef, .undef, .undef, .undef, .undef, .undef, .undef, .undef], ofL [], [], []⟩
theorem g16_L4_eq (t1 : Int) (t6 : Int) (t7 : Int) (t8 : Int) (t9 : Int) : g16_L4 t1 t6 t7 t8 t9 =
  if (t7 != 0) = true then
    if (t7 == 0) = true then
      none
    else (g16_L4 t1 t7 (IntKind.wrap .i64 (t6 - (IntKind.wrap .i64 ((IntKind.wrap .i64 (Int.tdiv t6 t7)) * t7)))) t9 (IntKind.wrap .i64 (t8 - (IntKind.wrap .i64 ((IntKind.wrap .i64 (Int.tdiv t6 t7)) * t9)))))
  else if ((IntKind.wrap .i64 t1) == 0) = true then
    none
  else some ((IntKind.wrap .u64 (Int.tmod (IntKind.wrap .i64 (t8 + (IntKind.wrap .i64 t1))) (IntKind.wrap .i64 t1))), (0, ())) := (Lp_eq cx0 an16 Try.f16 [(.int .u64), (.int .i64)] [true, true, true, false, false] _).trans (by kernel_rfl)
theorem g16_eq (a : Int) (b : Int) : g16 (a, b, ()) =
  if (b == 0) = true then
    none
  else if ((IntKind.wrap .i64 (Int.tmod a b)) == 0) = true then
    some (0, (10, ()))
  else (g16_L4 b (IntKind.wrap .i64 b) (IntKind.wrap .i64 (Int.tmod a b)) 0 1) := (Fn_eq rfl).trans (by kernel_rfl)

noncomputable def g20 : DL [(.int .u64), (.int .u64), (.int .u64)] → Option (DL [(.int .u64)]) := Fn cx0 an20 Try.f20 [(.int .u64), (.int .u64), (.int .u64)] [(.int .u64)]
noncomputable def g20_L2 (t0 : Int) (t1 : Int) (t2 : Int) (t7 : Int) : Option (DL [(.int .u64)]) := Lp cx0 an20 Try.f20 [(.int .u64)] [true, true, false, false] ⟨[.val (.int .u64) t0, .val (.int .u64) t1, .val (.int .u64) t2, .undef, .undef, .undef, .undef, .val (.int .u64) t7, .undef, .undef, .undef, .undef, .undef, .undef, .undef, .undef, .undef, .undef, .undef, .undef, .undef, .undef, .undef, .undef, .undef, .undef, .undef, .undef, .undef, .undef, .undef], ofL [], [], []⟩
theorem g20_L2_eq (t0 : Int) (t1 : Int) (t2 : Int) (t7 : Int) : g20_L2 t0 t1 t2 t7 =
  if (decide (t1 > 0)) = true then
    if ((IntKind.wrap .u64 ((BitVec.toNat ((BitVec.ofInt 64 t1) &&& (BitVec.ofInt 64 1))) : Int)) == 1) = true then
      if (t2 == 0) = true then
        none
      else if (t2 == 0) = true then
        none
      else (g20_L2 (Int.tmod (IntKind.wrap .u64 (t0 * t0)) t2) (Int.fdiv t1 2) t2 (Int.tmod (IntKind.wrap .u64 (t7 * t0)) t2))
    else if (t2 == 0) = true then
      none
    else (g20_L2 (Int.tmod (IntKind.wrap .u64 (t0 * t0)) t2) (Int.fdiv t1 2) t2 t7)
  else some (t7, ()) := (Lp_eq cx0 an20 Try.f20 [(.int .u64)] [true, true, false, false] _).trans (by kernel_rfl)
theorem g20_eq (a : Int) (b : Int) (c : Int) : g20 (a, b, c, ()) =
  if (c == 0) = true then
    none
  else if (c == 0) = true then
    none
  else (g20_L2 (Int.tmod a c) b c (Int.tmod 1 c)) := (Fn_eq rfl).trans (by kernel_rfl)

noncomputable def g21 : DL [(.int .u64), (.int .u64), (.int .u64)] → Option (DL [(.int .u64)]) := Fn cx0 an21 Try.f21 [(.int .u64), (.int .u64), (.int .u64)] [(.int .u64)]
noncomputable def g21_L4 (t2 : Int) (t7 : Int) (t8 : Int) (t9 : Int) : Option (DL [(.int .u64)]) := Lp cx0 an21 Try.f21 [(.int .u64)] [true, true, true, false, true, false] ⟨[.undef, .undef, .val (.int .u64) t2, .undef, .undef, .undef, .undef, .val (.int .u64) t7, .val (.int .u64) t8, .val (.int .u64) t9, .undef, .undef, .undef, .undef, .undef, .undef, .undef, .undef, .undef, .undef, .undef, .undef, .undef, .undef, .undef, .undef, .undef, .undef, .undef, .undef, .undef, .undef, .undef, .undef], ofL [], [], []⟩
theorem g21_L4_eq (t2 : Int) (t7 : Int) (t8 : Int) (t9 : Int) : g21_L4 t2 t7 t8 t9 =
  if (decide (t9 > 0)) = true then
    if ((Int.tmod t9 2) == 1) = true then
      if (t2 == 0) = true then
        none
      else if (t2 == 0) = true then
        none
      else (g21_L4 t2 (Int.tmod (IntKind.wrap .u64 (t7 * t8)) t2) (Int.tmod (IntKind.wrap .u64 (t8 * t8)) t2) (IntKind.wrap .u64 (Int.tdiv t9 2)))
    else if (t2 == 0) = true then
      none
    else (g21_L4 t2 t7 (Int.tmod (IntKind.wrap .u64 (t8 * t8)) t2) (IntKind.wrap .u64 (Int.tdiv t9 2)))
  else some (t7, ()) := (Lp_eq cx0 an21 Try.f21 [(.int .u64)] [true, true, true, false, true, false] _).trans (by kernel_rfl)
theorem g21_eq (a : Int) (b : Int) (c : Int) : g21 (a, b, c, ()) =
  if (c == 0) = true then
    none
  else if (c == 0) = true then
    none
  else (g21_L4 c (Int.tmod 1 c) (Int.tmod a c) b) := (Fn_eq rfl).trans (by kernel_rfl)

noncomputable def g29 : DL [(.pair .bool (.pair (.sl (.int .u32)) .unit))] → Option (DL [.bool]) := Fn cx0 an29 Try.f29 [(.pair .bool (.pair (.sl (.int .u32)) .unit))] [.bool]
theorem g29_eq (a : (Bool × ((List Int) × Unit))) : g29 (a, ()) =
  if (((List.length a.2.1) : Int) == 0) = true then
    some ((!a.1), ())
  else if ((decide (0 ≤ (IntKind.wrap .i64 (((List.length a.2.1) : Int) - 1)))) && (decide ((IntKind.wrap .i64 (((List.length a.2.1) : Int) - 1)) < ((List.length a.2.1) : Int)))) = true then
    some (((List.getD a.2.1 (Int.toNat (IntKind.wrap .i64 (((List.length a.2.1) : Int) - 1))) 0) != 0), ())
  else none := (Fn_eq rfl).trans (by kernel_rfl)

noncomputable def g30 : DL [(.pair .bool (.pair (.sl (.int .u32)) .unit)), (.pair .bool (.pair (.sl (.int .u32)) .unit))] → Option (DL [.bool]) := Fn cx0 an30 Try.f30 [(.pair .bool (.pair (.sl (.int .u32)) .unit)), (.pair .bool (.pair (.sl (.int .u32)) .unit))] [.bool]
noncomputable def g30_L4 (t5 : Int) (v0 : Bool) (v0_1 : (List Int)) (v1 : Bool) (v1_1 : (List Int)) : Option (DL [.bool]) := Lp cx0 an30 Try.f30 [.bool] [true, true, false, true, false] ⟨[.undef, .undef, .ptr 0 [], .ptr 1 [], .undef, .val (.int .i64) t5, .undef, .undef, .undef, .undef, .undef, .undef, .undef, .undef, .undef, .undef, .undef, .undef, .undef, .undef, .undef, .undef, .undef, .undef, .undef, .undef, .undef, .undef, .undef, .undef, .undef, .undef, .undef, .undef, .undef, .undef, .undef, .undef], ofL [(0, (.var (.pair .bool (.pair (.sl (.int .u32)) .unit)) (.pr (.val .bool v0) (.pr (.val (.sl (.int .u32)) v0_1) (.un))), false)), (1, (.var (.pair .bool (.pair (.sl (.int .u32)) .unit)) (.pr (.val .bool v1) (.pr (.val (.sl (.int .u32)) v1_1) (.un))), false))], [0, 1], []⟩
theorem g30_L4_eq (t5 : Int) (v0 : Bool) (v0_1 : (List Int)) (v1 : Bool) (v1_1 : (List Int)) : g30_L4 t5 v0 v0_1 v1 v1_1 =
  if (decide (t5 < ((List.length v0_1) : Int))) = true then
    if ((decide (0 ≤ t5)) && (decide (t5 < ((List.length v0_1) : Int)))) = true then
      if ((decide (0 ≤ t5)) && (decide (t5 < ((List.length v1_1) : Int)))) = true then
        if ((List.getD v0_1 (Int.toNat t5) 0) != (List.getD v1_1 (Int.toNat t5) 0)) = true then
          some (false, ())
        else (g30_L4 (IntKind.wrap .i64 (t5 + 1)) v0 v0_1 v1 v1_1)
      else none
    else none
  else some (true, ()) := (Lp_eq cx0 an30 Try.f30 [.bool] [true, true, false, true, false] _).trans (by kernel_rfl)
theorem g30_eq (a : (Bool × ((List Int) × Unit))) (b : (Bool × ((List Int) × Unit))) : g30 (a, b, ()) =
  if (!(a.1 == b.1)) = true then
    some (false, ())
  else if (((List.length a.2.1) : Int) != ((List.length b.2.1) : Int)) = true then
    some (false, ())
  else (g30_L4 0 a.1 a.2.1 b.1 b.2.1) := (Fn_eq rfl).trans (by kernel_rfl)

noncomputable def g31 : DL [(.pair .bool (.pair (.sl (.int .u32)) .unit))] → Option (DL [(.int .i64)]) := Fn cx0 an31 Try.f31 [(.pair .bool (.pair (.sl (.int .u32)) .unit))] [(.int .i64)]
theorem g31_eq (a : (Bool × ((List Int) × Unit))) : g31 (a, ()) =
  if a.1 = true then
    some ((-1), ())
  else some ((if (false = true) then (if (1 > ((List.length a.2.1) : Int)) then 1 else ((List.length a.2.1) : Int)) else (if (1 < ((List.length a.2.1) : Int)) then 1 else ((List.length a.2.1) : Int))), ()) := (Fn_eq rfl).trans (by kernel_rfl)

noncomputable def g37 : DL [(.int .i64), (.int .i64)] → Option (DL [(.int .i64)]) := Fn cx0 an37 Try.f37 [(.int .i64), (.int .i64)] [(.int .i64)]
noncomputable def g37_L1 (t0 : Int) (t1 : Int) : Option (DL [(.int .i64)]) := Lp cx0 an37 Try.f37 [(.int .i64)] [true, false, false] ⟨[.val (.int .i64) t0, .val (.int .i64) t1, .undef, .undef, .undef, .undef, .undef, .undef, .undef, .undef, .undef, .undef], ofL [], [], []⟩
theorem g37_L1_eq (t0 : Int) (t1 : Int) : g37_L1 t0 t1 =
  if (decide (t1 > 0)) = true then
    if (t1 == 0) = true then
      none
    else (g37_L1 t1 (Int.tmod t0 t1))
  else some (t0, ()) := (Lp_eq cx0 an37 Try.f37 [(.int .i64)] [true, false, false] _).trans (by kernel_rfl)
theorem g37_eq (a : Int) (b : Int) : g37 (a, b, ()) =
  (g37_L1 a b) := (Fn_eq rfl).trans (by kernel_rfl)

noncomputable def g38 : DL [] → Option (DL [(.arr 4 (.int .u64))]) := Fn cx0 an38 Try.f38 [] [(.arr 4 (.int .u64))]
theorem g38_eq  : g38 (()) =
  some ((List.set (List.set (List.set (List.set (List.replicate 4 (0 : Int)) 0 2) 1 3) 2 5) 3 7), ()) := (Fn_eq rfl).trans (by kernel_rfl)

noncomputable def g50 : DL [(.sl (.int .u32)), (.sl (.int .u32))] → Option (DL [(.int .i64)]) := Fn cx0 an50 Try.f50 [(.sl (.int .u32)), (.sl (.int .u32))] [(.int .i64)]
noncomputable def g50_L6 (t0 : (List Int)) (t1 : (List Int)) (t5 : Int) : Option (DL [(.int .i64)]) := Lp cx0 an50 Try.f50 [(.int .i64)] [true, true, true, false, true, false] ⟨[.val (.sl (.int .u32)) t0, .val (.sl (.int .u32)) t1, .undef, .undef, .undef, .val (.int .i64) t5, .undef, .undef, .undef, .undef, .undef, .undef, .undef, .undef, .undef, .undef, .undef, .undef, .undef, .undef, .undef, .undef, .undef, .undef, .undef, .undef, .undef, .undef, .undef, .undef, .undef, .undef, .undef, .undef, .undef, .undef, .undef, .undef, .undef, .undef, .undef], ofL [], [], []⟩
theorem g50_L6_eq (t0 : (List Int)) (t1 : (List Int)) (t5 : Int) : g50_L6 t0 t1 t5 =
  if (decide (t5 ≥ 0)) = true then
    if ((decide (0 ≤ t5)) && (decide (t5 < ((List.length t0) : Int)))) = true then
      if ((decide (0 ≤ t5)) && (decide (t5 < ((List.length t1) : Int)))) = true then
        if (decide ((List.getD t0 (Int.toNat t5) 0) < (List.getD t1 (Int.toNat t5) 0))) = true then
          some ((-1), ())
        else if ((decide (0 ≤ t5)) && (decide (t5 < ((List.length t0) : Int)))) = true then
          if ((decide (0 ≤ t5)) && (decide (t5 < ((List.length t1) : Int)))) = true then
            if (decide ((List.getD t0 (Int.toNat t5) 0) > (List.getD t1 (Int.toNat t5) 0))) = true then
              some (1, ())
            else (g50_L6 t0 t1 (IntKind.wrap .i64 (t5 - 1)))
          else none
        else none
      else none
    else none
  else some (0, ()) := (Lp_eq cx0 an50 Try.f50 [(.int .i64)] [true, true, true, false, true, false] _).trans (by kernel_rfl)
theorem g50_eq (a : (List Int)) (b : (List Int)) : g50 (a, b, ()) =
  if (decide (((List.length a) : Int) < ((List.length b) : Int))) = true then
    some ((-1), ())
  else if (decide (((List.length a) : Int) > ((List.length b) : Int))) = true then
    some (1, ())
  else (g50_L6 a b (IntKind.wrap .i64 (((List.length a) : Int) - 1))) := (Fn_eq rfl).trans (by kernel_rfl)

noncomputable def g51 : DL [(.pair .bool (.pair (.sl (.int .u32)) .unit))] → Option (DL [(.int .i64)]) := Fn cx0 an51 Try.f51 [(.pair .bool (.pair (.sl (.int .u32)) .unit))] [(.int .i64)]
theorem g51_eq (a : (Bool × ((List Int) × Unit))) : g51 (a, ()) =
  if a.1 = true then
    some ((-1), ())
  else some ((if (false = true) then (if (1 > ((List.length a.2.1) : Int)) then 1 else ((List.length a.2.1) : Int)) else (if (1 < ((List.length a.2.1) : Int)) then 1 else ((List.length a.2.1) : Int))), ()) := (Fn_eq rfl).trans (by kernel_rfl)

noncomputable def g74 : DL [(.sl (.int .u32))] → Option (DL [(.sl (.int .u32))]) := Fn cx0 an74 Try.f74 [(.sl (.int .u32))] [(.sl (.int .u32))]
noncomputable def g74_L2 (t0 : (List Int)) (t3 : Int) : Option (DL [(.sl (.int .u32))]) := Lp cx0 an74 Try.f74 [(.sl (.int .u32))] [true, true, false, false] ⟨[.val (.sl (.int .u32)) t0, .undef, .undef, .val (.int .i64) t3, .undef, .undef, .undef, .undef, .undef, .undef, .undef, .undef, .undef, .undef, .undef, .undef, .undef, .undef, .undef, .undef, .undef], ofL [], [], []⟩
theorem g74_L2_eq (t0 : (List Int)) (t3 : Int) : g74_L2 t0 t3 =
  if (decide (t3 > 0)) = true then
    if ((decide (0 ≤ (IntKind.wrap .i64 (t3 - 1)))) && (decide ((IntKind.wrap .i64 (t3 - 1)) < ((List.length t0) : Int)))) = true then
      if ((List.getD t0 (Int.toNat (IntKind.wrap .i64 (t3 - 1))) 0) == 0) = true then
        (g74_L2 t0 (IntKind.wrap .i64 (t3 - 1)))
      else if ((decide (0 ≤ t3)) && (decide (t3 ≤ ((List.length t0) : Int)))) = true then
        some ((List.take (Int.toNat t3) t0), ())
      else none
    else none
  else if ((decide (0 ≤ t3)) && (decide (t3 ≤ ((List.length t0) : Int)))) = true then
    some ((List.take (Int.toNat t3) t0), ())
  else none := (Lp_eq cx0 an74 Try.f74 [(.sl (.int .u32))] [true, true, false, false] _).trans (by kernel_rfl)
theorem g74_eq (a : (List Int)) : g74 (a, ()) =
  (g74_L2 a ((List.length a) : Int)) := (Fn_eq rfl).trans (by kernel_rfl)

noncomputable def g79 : DL [(.pair .bool (.pair (.sl (.int .u32)) .unit))] → Option (DL [(.int .i64)]) := Fn cx0 an79 Try.f79 [(.pair .bool (.pair (.sl (.int .u32)) .unit))] [(.int .i64)]
noncomputable def g79_L6 (t4 : Int) (t5 : Int) : Option (DL [(.int .i64)]) := Lp cx0 an79 Try.f79 [(.int .i64)] [true, true, true, true, false, true, false] ⟨[.undef, .undef, .undef, .undef, .val (.int .i64) t4, .val (.int .u32) t5, .undef, .undef, .undef, .undef, .undef, .undef, .undef, .undef, .undef, .undef, .undef, .undef, .undef, .undef, .undef, .undef, .undef, .undef, .undef, .undef, .undef], ofL [], [], []⟩
theorem g79_L6_eq (t4 : Int) (t5 : Int) : g79_L6 t4 t5 =
  if (decide (t5 > 0)) = true then
    (g79_L6 (IntKind.wrap .i64 (t4 + 1)) (IntKind.wrap .u32 (Int.tdiv t5 2)))
  else some (t4, ()) := (Lp_eq cx0 an79 Try.f79 [(.int .i64)] [true, true, true, true, false, true, false] _).trans (by kernel_rfl)
theorem g79_eq (a : (Bool × ((List Int) × Unit))) : g79 (a, ()) =
  if (((List.length a.2.1) : Int) == 0) = true then
    some (0, ())
  else if ((decide (0 ≤ (IntKind.wrap .i64 (((List.length a.2.1) : Int) - 1)))) && (decide ((IntKind.wrap .i64 (((List.length a.2.1) : Int) - 1)) < ((List.length a.2.1) : Int)))) = true then
    (g79_L6 (IntKind.wrap .i64 (32 * (IntKind.wrap .i64 (((List.length a.2.1) : Int) - 1)))) (List.getD a.2.1 (Int.toNat (IntKind.wrap .i64 (((List.length a.2.1) : Int) - 1))) 0))
  else none := (Fn_eq rfl).trans (by kernel_rfl)

noncomputable def g82 : DL [(.sl (.int .u32)), (.int .i64)] → Option (DL [(.int .u64)]) := Fn cx0 an82 Try.f82 [(.sl (.int .u32)), (.int .i64)] [(.int .u64)]
theorem g82_eq (a : (List Int)) (b : Int) : g82 (a, b, ()) =
  if (decide (b < ((List.length a) : Int))) = true then
    if ((decide (0 ≤ b)) && (decide (b < ((List.length a) : Int)))) = true then
      some ((IntKind.wrap .u64 (List.getD a (Int.toNat b) 0)), ())
    else none
  else some (0, ()) := (Fn_eq rfl).trans (by kernel_rfl)

noncomputable def g83 : DL [(.sl (.int .u32)), (.int .i64)] → Option (DL [(.int .u32)]) := Fn cx0 an83 Try.f83 [(.sl (.int .u32)), (.int .i64)] [(.int .u32)]
theorem g83_eq (a : (List Int)) (b : Int) : g83 (a, b, ()) =
  if (decide (b < ((List.length a) : Int))) = true then
    if ((decide (0 ≤ b)) && (decide (b < ((List.length a) : Int)))) = true then
      some ((List.getD a (Int.toNat b) 0), ())
    else none
  else some (0, ()) := (Fn_eq rfl).trans (by kernel_rfl)

noncomputable def g85 : DL [(.sl (.int .u32)), (.sl (.int .u32))] → Option (DL [(.int .u64)]) := Fn cx0 an85 Try.f85 [(.sl (.int .u32)), (.sl (.int .u32))] [(.int .u64)]
noncomputable def g85_L5 (t0 : (List Int)) (t1 : (List Int)) (t5 : Int) (t7 : Int) (t8 : Int) : Option (DL [(.int .u64)]) := Lp cx0 an85 Try.f85 [(.int .u64)] [true, true, true, true, true, false, false] ⟨[.val (.sl (.int .u32)) t0, .val (.sl (.int .u32)) t1, .undef, .undef, .undef, .val (.int .i64) t5, .undef, .val (.int .u64) t7, .val (.int .u64) t8, .undef, .undef, .undef, .undef, .undef, .undef, .undef, .undef, .undef, .undef, .undef, .undef, .undef, .undef, .undef, .undef, .undef, .undef, .undef, .undef, .undef, .undef, .undef, .undef, .undef, .undef, .undef, .undef, .undef, .undef, .undef, .undef, .undef, .undef, .undef, .undef, .undef, .undef, .undef, .undef, .undef, .undef, .undef, .undef, .undef, .undef, .undef, .undef, .undef, .undef, .undef, .undef, .undef, .undef, .undef, .undef, .undef, .undef, .undef, .undef, .undef, .undef, .undef, .undef, .undef, .undef], ofL [], [], []⟩
theorem g85_L5_eq (t0 : (List Int)) (t1 : (List Int)) (t5 : Int) (t7 : Int) (t8 : Int) : g85_L5 t0 t1 t5 t7 t8 =
  if (decide (t7 ≥ 4294967296)) = true then
    if ((decide (0 ≤ (IntKind.wrap .i64 (t5 - 1)))) && (decide ((IntKind.wrap .i64 (t5 - 1)) < ((List.length t1) : Int)))) = true then
      if (decide ((IntKind.wrap .u64 (t8 + (IntKind.wrap .u64 (List.getD t1 (Int.toNat (IntKind.wrap .i64 (t5 - 1))) 0)))) ≥ 4294967296)) = true then
        some ((IntKind.wrap .u64 (t7 - 1)), ())
      else (g85_L5 t0 t1 t5 (IntKind.wrap .u64 (t7 - 1)) (IntKind.wrap .u64 (t8 + (IntKind.wrap .u64 (List.getD t1 (Int.toNat (IntKind.wrap .i64 (t5 - 1))) 0)))))
    else none
  else if ((decide (0 ≤ (IntKind.wrap .i64 (t5 - 2)))) && (decide ((IntKind.wrap .i64 (t5 - 2)) < ((List.length t1) : Int)))) = true then
    if ((decide (0 ≤ (IntKind.wrap .i64 (t5 - 2)))) && (decide ((IntKind.wrap .i64 (t5 - 2)) < ((List.length t0) : Int)))) = true then
      if (decide ((IntKind.wrap .u64 (t7 * (IntKind.wrap .u64 (List.getD t1 (Int.toNat (IntKind.wrap .i64 (t5 - 2))) 0)))) > (IntKind.wrap .u64 ((IntKind.wrap .u64 (t8 * 4294967296)) + (IntKind.wrap .u64 (List.getD t0 (Int.toNat (IntKind.wrap .i64 (t5 - 2))) 0)))))) = true then
        if ((decide (0 ≤ (IntKind.wrap .i64 (t5 - 1)))) && (decide ((IntKind.wrap .i64 (t5 - 1)) < ((List.length t1) : Int)))) = true then
          if (decide ((IntKind.wrap .u64 (t8 + (IntKind.wrap .u64 (List.getD t1 (Int.toNat (IntKind.wrap .i64 (t5 - 1))) 0)))) ≥ 4294967296)) = true then
            some ((IntKind.wrap .u64 (t7 - 1)), ())
          else (g85_L5 t0 t1 t5 (IntKind.wrap .u64 (t7 - 1)) (IntKind.wrap .u64 (t8 + (IntKind.wrap .u64 (List.getD t1 (Int.toNat (IntKind.wrap .i64 (t5 - 1))) 0)))))
        else none
      else some (t7, ())
    else none
  else none := (Lp_eq cx0 an85 Try.f85 [(.int .u64)] [true, true, true, true, true, false, false] _).trans (by kernel_rfl)
theorem g85_eq (a : (List Int)) (b : (List Int)) : g85 (a, b, ()) =
  if ((decide (0 ≤ ((List.length b) : Int))) && (decide (((List.length b) : Int) < ((List.length a) : Int)))) = true then
    if ((decide (0 ≤ (IntKind.wrap .i64 (((List.length b) : Int) - 1)))) && (decide ((IntKind.wrap .i64 (((List.length b) : Int) - 1)) < ((List.length a) : Int)))) = true then
      if ((decide (0 ≤ (IntKind.wrap .i64 (((List.length b) : Int) - 1)))) && (decide ((IntKind.wrap .i64 (((List.length b) : Int) - 1)) < ((List.length b) : Int)))) = true then
        if ((IntKind.wrap .u64 (List.getD b (Int.toNat (IntKind.wrap .i64 (((List.length b) : Int) - 1))) 0)) == 0) = true then
          none
        else if ((decide (0 ≤ (IntKind.wrap .i64 (((List.length b) : Int) - 1)))) && (decide ((IntKind.wrap .i64 (((List.length b) : Int) - 1)) < ((List.length b) : Int)))) = true then
          if ((IntKind.wrap .u64 (List.getD b (Int.toNat (IntKind.wrap .i64 (((List.length b) : Int) - 1))) 0)) == 0) = true then
            none
          else (g85_L5 a b ((List.length b) : Int) (IntKind.wrap .u64 (Int.tdiv (IntKind.wrap .u64 ((IntKind.wrap .u64 ((IntKind.wrap .u64 (List.getD a (Int.toNat ((List.length b) : Int)) 0)) * 4294967296)) + (IntKind.wrap .u64 (List.getD a (Int.toNat (IntKind.wrap .i64 (((List.length b) : Int) - 1))) 0)))) (IntKind.wrap .u64 (List.getD b (Int.toNat (IntKind.wrap .i64 (((List.length b) : Int) - 1))) 0)))) (Int.tmod (IntKind.wrap .u64 ((IntKind.wrap .u64 ((IntKind.wrap .u64 (List.getD a (Int.toNat ((List.length b) : Int)) 0)) * 4294967296)) + (IntKind.wrap .u64 (List.getD a (Int.toNat (IntKind.wrap .i64 (((List.length b) : Int) - 1))) 0)))) (IntKind.wrap .u64 (List.getD b (Int.toNat (IntKind.wrap .i64 (((List.length b) : Int) - 1))) 0))))
        else none
      else none
    else none
  else none := (Fn_eq rfl).trans (by kernel_rfl)

noncomputable def g88 : DL [(.sl (.int .u32))] → Option (DL [(.sl (.int .u32))]) := Fn cx0 an88 Try.f88 [(.sl (.int .u32))] [(.sl (.int .u32))]
noncomputable def g88_L2 (t0 : (List Int)) (t3 : Int) : Option (DL [(.sl (.int .u32))]) := Lp cx0 an88 Try.f88 [(.sl (.int .u32))] [true, true, false, false] ⟨[.val (.sl (.int .u32)) t0, .undef, .undef, .val (.int .i64) t3, .undef, .undef, .undef, .undef, .undef, .undef, .undef, .undef, .undef, .undef, .undef, .undef, .undef, .undef, .undef, .undef, .undef, .undef], ofL [], [], []⟩
theorem g88_L2_eq (t0 : (List Int)) (t3 : Int) : g88_L2 t0 t3 =
  if (decide (t3 > 0)) = true then
    if ((decide (0 ≤ (IntKind.wrap .i64 (t3 - 1)))) && (decide ((IntKind.wrap .i64 (t3 - 1)) < ((List.length t0) : Int)))) = true then
      if ((List.getD t0 (Int.toNat (IntKind.wrap .i64 (t3 - 1))) 0) == 0) = true then
        (g88_L2 t0 (IntKind.wrap .i64 (t3 - 1)))
      else if ((decide (0 ≤ t3)) && (decide (t3 ≤ ((List.length t0) : Int)))) = true then
        if ((decide (0 ≤ t3)) && (decide (t3 ≤ ((Int.toNat t3) : Int)))) = true then
          some ((List.take (Int.toNat t3) t0), ())
        else none
      else none
    else none
  else if ((decide (0 ≤ t3)) && (decide (t3 ≤ ((List.length t0) : Int)))) = true then
    if ((decide (0 ≤ t3)) && (decide (t3 ≤ ((Int.toNat t3) : Int)))) = true then
      some ((List.take (Int.toNat t3) t0), ())
    else none
  else none := (Lp_eq cx0 an88 Try.f88 [(.sl (.int .u32))] [true, true, false, false] _).trans (by kernel_rfl)
theorem g88_eq (a : (List Int)) : g88 (a, ()) =
  (g88_L2 a ((List.length a) : Int)) := (Fn_eq rfl).trans (by kernel_rfl)

noncomputable def g90 : DL [(.int .u32), (.int .u32), (.int .u32)] → Option (DL [(.int .u32), (.int .u32)]) := Fn cx0 an90 Try.f90 [(.int .u32), (.int .u32), (.int .u32)] [(.int .u32), (.int .u32)]
theorem g90_eq (a : Int) (b : Int) (c : Int) : g90 (a, b, c, ()) =
  some ((IntKind.wrap .u32 (IntKind.wrap .u64 ((IntKind.wrap .u64 ((IntKind.wrap .u64 a) + (IntKind.wrap .u64 b))) + (IntKind.wrap .u64 c)))), ((IntKind.wrap .u32 (Int.fdiv (IntKind.wrap .u64 ((IntKind.wrap .u64 ((IntKind.wrap .u64 a) + (IntKind.wrap .u64 b))) + (IntKind.wrap .u64 c))) 4294967296)), ())) := (Fn_eq rfl).trans (by kernel_rfl)

noncomputable def g92 : DL [(.int .u32), (.int .u32), (.int .u32)] → Option (DL [(.int .u32), (.int .u32)]) := Fn cx0 an92 Try.f92 [(.int .u32), (.int .u32), (.int .u32)] [(.int .u32), (.int .u32)]
theorem g92_eq (a : Int) (b : Int) (c : Int) : g92 (a, b, c, ()) =
  some ((IntKind.wrap .u32 ((IntKind.wrap .u32 (a - b)) - c)), ((Int.fdiv (IntKind.wrap .u32 ((BitVec.toNat ((BitVec.ofInt 32 (IntKind.wrap .u32 ((BitVec.toNat ((BitVec.ofInt 32 (IntKind.wrap .u32 ((BitVec.toNat ((BitVec.ofInt 32 4294967295) ^^^ (BitVec.ofInt 32 a))) : Int))) &&& (BitVec.ofInt 32 b))) : Int))) ||| (BitVec.ofInt 32 (IntKind.wrap .u32 ((BitVec.toNat ((BitVec.ofInt 32 (IntKind.wrap .u32 ((BitVec.toNat ((BitVec.ofInt 32 4294967295) ^^^ (BitVec.ofInt 32 (IntKind.wrap .u32 ((BitVec.toNat ((BitVec.ofInt 32 a) ^^^ (BitVec.ofInt 32 b))) : Int))))) : Int))) &&& (BitVec.ofInt 32 (IntKind.wrap .u32 ((IntKind.wrap .u32 (a - b)) - c))))) : Int))))) : Int)) 2147483648), ())) := (Fn_eq rfl).trans (by kernel_rfl)

noncomputable def g98 : DL [(.int .u32)] → Option (DL [(.int .i64)]) := Fn cx0 an98 Try.f98 [(.int .u32)] [(.int .i64)]
theorem g98_eq (a : Int) : g98 (a, ()) =
  if (decide (a ≥ 65536)) = true then
    if (decide ((Int.fdiv a 65536) ≥ 256)) = true then
      if ((decide (0 ≤ (IntKind.wrap .u8 (Int.fdiv (Int.fdiv a 65536) 256)))) && (decide ((IntKind.wrap .u8 (Int.fdiv (Int.fdiv a 65536) 256)) < 256))) = true then
        some ((IntKind.wrap .i64 (24 + (IntKind.wrap .i64 ((UInt8.toNat (List.getD (0 :: (1 :: (2 :: (2 :: (3 :: (3 :: (3 :: (3 :: (4 :: (4 :: (4 :: (4 :: (4 :: (4 :: (4 :: (4 :: (5 :: (5 :: (5 :: (5 :: (5 :: (5 :: (5 :: (5 :: (5 :: (5 :: (5 :: (5 :: (5 :: (5 :: (5 :: (5 :: (6 :: (6 :: (6 :: (6 :: (6 :: (6 :: (6 :: (6 :: (6 :: (6 :: (6 :: (6 :: (6 :: (6 :: (6 :: (6 :: (6 :: (6 :: (6 :: (6 :: (6 :: (6 :: (6 :: (6 :: (6 :: (6 :: (6 :: (6 :: (6 :: (6 :: (6 :: (6 :: (7 :: (7 :: (7 :: (7 :: (7 :: (7 :: (7 :: (7 :: (7 :: (7 :: (7 :: (7 :: (7 :: (7 :: (7 :: (7 :: (7 :: (7 :: (7 :: (7 :: (7 :: (7 :: (7 :: (7 :: (7 :: (7 :: (7 :: (7 :: (7 :: (7 :: (7 :: (7 :: (7 :: (7 :: (7 :: (7 :: (7 :: (7 :: (7 :: (7 :: (7 :: (7 :: (7 :: (7 :: (7 :: (7 :: (7 :: (7 :: (7 :: (7 :: (7 :: (7 :: (7 :: (7 :: (7 :: (7 :: (7 :: (7 :: (7 :: (7 :: (7 :: (7 :: (7 :: (7 :: (8 :: (8 :: (8 :: (8 :: (8 :: (8 :: (8 :: (8 :: (8 :: (8 :: (8 :: (8 :: (8 :: (8 :: (8 :: (8 :: (8 :: (8 :: (8 :: (8 :: (8 :: (8 :: (8 :: (8 :: (8 :: (8 :: (8 :: (8 :: (8 :: (8 :: (8 :: (8 :: (8 :: (8 :: (8 :: (8 :: (8 :: (8 :: (8 :: (8 :: (8 :: (8 :: (8 :: (8 :: (8 :: (8 :: (8 :: (8 :: (8 :: (8 :: (8 :: (8 :: (8 :: (8 :: (8 :: (8 :: (8 :: (8 :: (8 :: (8 :: (8 :: (8 :: (8 :: (8 :: (8 :: (8 :: (8 :: (8 :: (8 :: (8 :: (8 :: (8 :: (8 :: (8 :: (8 :: (8 :: (8 :: (8 :: (8 :: (8 :: (8 :: (8 :: (8 :: (8 :: (8 :: (8 :: (8 :: (8 :: (8 :: (8 :: (8 :: (8 :: (8 :: (8 :: (8 :: (8 :: (8 :: (8 :: (8 :: (8 :: (8 :: (8 :: (8 :: (8 :: (8 :: (8 :: (8 :: (8 :: (8 :: (8 :: (8 :: (8 :: (8 :: (8 :: (8 :: (8 :: (8 :: (8 :: (8 :: (8 :: (8 :: (8 :: (8 :: (8 :: (8 :: (8 :: (8 :: (8 :: [])))))))))))))))))))))))))))))))))))))))))))))))))))))))))))))))))))))))))))))))))))))))))))))))))))))))))))))))))))))))))))))))))))))))))))))))))))))))))))))))))))))))))))))))))))))))))))))))))))))))))))))))))))))))))))))))))))))))))))))))))))))))))))))))) (Int.toNat (IntKind.wrap .u8 (Int.fdiv (Int.fdiv a 65536) 256))) 0)) : Int)))), ())
      else none
    else if ((decide (0 ≤ (IntKind.wrap .u8 (Int.fdiv a 65536)))) && (decide ((IntKind.wrap .u8 (Int.fdiv a 65536)) < 256))) = true then
      some ((IntKind.wrap .i64 (16 + (IntKind.wrap .i64 ((UInt8.toNat (List.getD (0 :: (1 :: (2 :: (2 :: (3 :: (3 :: (3 :: (3 :: (4 :: (4 :: (4 :: (4 :: (4 :: (4 :: (4 :: (4 :: (5 :: (5 :: (5 :: (5 :: (5 :: (5 :: (5 :: (5 :: (5 :: (5 :: (5 :: (5 :: (5 :: (5 :: (5 :: (5 :: (6 :: (6 :: (6 :: (6 :: (6 :: (6 :: (6 :: (6 :: (6 :: (6 :: (6 :: (6 :: (6 :: (6 :: (6 :: (6 :: (6 :: (6 :: (6 :: (6 :: (6 :: (6 :: (6 :: (6 :: (6 :: (6 :: (6 :: (6 :: (6 :: (6 :: (6 :: (6 :: (7 :: (7 :: (7 :: (7 :: (7 :: (7 :: (7 :: (7 :: (7 :: (7 :: (7 :: (7 :: (7 :: (7 :: (7 :: (7 :: (7 :: (7 :: (7 :: (7 :: (7 :: (7 :: (7 :: (7 :: (7 :: (7 :: (7 :: (7 :: (7 :: (7 :: (7 :: (7 :: (7 :: (7 :: (7 :: (7 :: (7 :: (7 :: (7 :: (7 :: (7 :: (7 :: (7 :: (7 :: (7 :: (7 :: (7 :: (7 :: (7 :: (7 :: (7 :: (7 :: (7 :: (7 :: (7 :: (7 :: (7 :: (7 :: (7 :: (7 :: (7 :: (7 :: (7 :: (7 :: (8 :: (8 :: (8 :: (8 :: (8 :: (8 :: (8 :: (8 :: (8 :: (8 :: (8 :: (8 :: (8 :: (8 :: (8 :: (8 :: (8 :: (8 :: (8 :: (8 :: (8 :: (8 :: (8 :: (8 :: (8 :: (8 :: (8 :: (8 :: (8 :: (8 :: (8 :: (8 :: (8 :: (8 :: (8 :: (8 :: (8 :: (8 :: (8 :: (8 :: (8 :: (8 :: (8 :: (8 :: (8 :: (8 :: (8 :: (8 :: (8 :: (8 :: (8 :: (8 :: (8 :: (8 :: (8 :: (8 :: (8 :: (8 :: (8 :: (8 :: (8 :: (8 :: (8 :: (8 :: (8 :: (8 :: (8 :: (8 :: (8 :: (8 :: (8 :: (8 :: (8 :: (8 :: (8 :: (8 :: (8 :: (8 :: (8 :: (8 :: (8 :: (8 :: (8 :: (8 :: (8 :: (8 :: (8 :: (8 :: (8 :: (8 :: (8 :: (8 :: (8 :: (8 :: (8 :: (8 :: (8 :: (8 :: (8 :: (8 :: (8 :: (8 :: (8 :: (8 :: (8 :: (8 :: (8 :: (8 :: (8 :: (8 :: (8 :: (8 :: (8 :: (8 :: (8 :: (8 :: (8 :: (8 :: (8 :: (8 :: (8 :: (8 :: (8 :: (8 :: (8 :: (8 :: (8 :: (8 :: [])))))))))))))))))))))))))))))))))))))))))))))))))))))))))))))))))))))))))))))))))))))))))))))))))))))))))))))))))))))))))))))))))))))))))))))))))))))))))))))))))))))))))))))))))))))))))))))))))))))))))))))))))))))))))))))))))))))))))))))))))))))))))))))))) (Int.toNat (IntKind.wrap .u8 (Int.fdiv a 65536))) 0)) : Int)))), ())
    else none
  else if (decide (a ≥ 256)) = true then
    if ((decide (0 ≤ (IntKind.wrap .u8 (Int.fdiv a 256)))) && (decide ((IntKind.wrap .u8 (Int.fdiv a 256)) < 256))) = true then
      some ((IntKind.wrap .i64 (8 + (IntKind.wrap .i64 ((UInt8.toNat (List.getD (0 :: (1 :: (2 :: (2 :: (3 :: (3 :: (3 :: (3 :: (4 :: (4 :: (4 :: (4 :: (4 :: (4 :: (4 :: (4 :: (5 :: (5 :: (5 :: (5 :: (5 :: (5 :: (5 :: (5 :: (5 :: (5 :: (5 :: (5 :: (5 :: (5 :: (5 :: (5 :: (6 :: (6 :: (6 :: (6 :: (6 :: (6 :: (6 :: (6 :: (6 :: (6 :: (6 :: (6 :: (6 :: (6 :: (6 :: (6 :: (6 :: (6 :: (6 :: (6 :: (6 :: (6 :: (6 :: (6 :: (6 :: (6 :: (6 :: (6 :: (6 :: (6 :: (6 :: (6 :: (7 :: (7 :: (7 :: (7 :: (7 :: (7 :: (7 :: (7 :: (7 :: (7 :: (7 :: (7 :: (7 :: (7 :: (7 :: (7 :: (7 :: (7 :: (7 :: (7 :: (7 :: (7 :: (7 :: (7 :: (7 :: (7 :: (7 :: (7 :: (7 :: (7 :: (7 :: (7 :: (7 :: (7 :: (7 :: (7 :: (7 :: (7 :: (7 :: (7 :: (7 :: (7 :: (7 :: (7 :: (7 :: (7 :: (7 :: (7 :: (7 :: (7 :: (7 :: (7 :: (7 :: (7 :: (7 :: (7 :: (7 :: (7 :: (7 :: (7 :: (7 :: (7 :: (7 :: (7 :: (8 :: (8 :: (8 :: (8 :: (8 :: (8 :: (8 :: (8 :: (8 :: (8 :: (8 :: (8 :: (8 :: (8 :: (8 :: (8 :: (8 :: (8 :: (8 :: (8 :: (8 :: (8 :: (8 :: (8 :: (8 :: (8 :: (8 :: (8 :: (8 :: (8 :: (8 :: (8 :: (8 :: (8 :: (8 :: (8 :: (8 :: (8 :: (8 :: (8 :: (8 :: (8 :: (8 :: (8 :: (8 :: (8 :: (8 :: (8 :: (8 :: (8 :: (8 :: (8 :: (8 :: (8 :: (8 :: (8 :: (8 :: (8 :: (8 :: (8 :: (8 :: (8 :: (8 :: (8 :: (8 :: (8 :: (8 :: (8 :: (8 :: (8 :: (8 :: (8 :: (8 :: (8 :: (8 :: (8 :: (8 :: (8 :: (8 :: (8 :: (8 :: (8 :: (8 :: (8 :: (8 :: (8 :: (8 :: (8 :: (8 :: (8 :: (8 :: (8 :: (8 :: (8 :: (8 :: (8 :: (8 :: (8 :: (8 :: (8 :: (8 :: (8 :: (8 :: (8 :: (8 :: (8 :: (8 :: (8 :: (8 :: (8 :: (8 :: (8 :: (8 :: (8 :: (8 :: (8 :: (8 :: (8 :: (8 :: (8 :: (8 :: (8 :: (8 :: (8 :: (8 :: (8 :: (8 :: (8 :: [])))))))))))))))))))))))))))))))))))))))))))))))))))))))))))))))))))))))))))))))))))))))))))))))))))))))))))))))))))))))))))))))))))))))))))))))))))))))))))))))))))))))))))))))))))))))))))))))))))))))))))))))))))))))))))))))))))))))))))))))))))))))))))))))) (Int.toNat (IntKind.wrap .u8 (Int.fdiv a 256))) 0)) : Int)))), ())
    else none
  else if ((decide (0 ≤ (IntKind.wrap .u8 a))) && (decide ((IntKind.wrap .u8 a) < 256))) = true then
    some ((IntKind.wrap .i64 (0 + (IntKind.wrap .i64 ((UInt8.toNat (List.getD (0 :: (1 :: (2 :: (2 :: (3 :: (3 :: (3 :: (3 :: (4 :: (4 :: (4 :: (4 :: (4 :: (4 :: (4 :: (4 :: (5 :: (5 :: (5 :: (5 :: (5 :: (5 :: (5 :: (5 :: (5 :: (5 :: (5 :: (5 :: (5 :: (5 :: (5 :: (5 :: (6 :: (6 :: (6 :: (6 :: (6 :: (6 :: (6 :: (6 :: (6 :: (6 :: (6 :: (6 :: (6 :: (6 :: (6 :: (6 :: (6 :: (6 :: (6 :: (6 :: (6 :: (6 :: (6 :: (6 :: (6 :: (6 :: (6 :: (6 :: (6 :: (6 :: (6 :: (6 :: (7 :: (7 :: (7 :: (7 :: (7 :: (7 :: (7 :: (7 :: (7 :: (7 :: (7 :: (7 :: (7 :: (7 :: (7 :: (7 :: (7 :: (7 :: (7 :: (7 :: (7 :: (7 :: (7 :: (7 :: (7 :: (7 :: (7 :: (7 :: (7 :: (7 :: (7 :: (7 :: (7 :: (7 :: (7 :: (7 :: (7 :: (7 :: (7 :: (7 :: (7 :: (7 :: (7 :: (7 :: (7 :: (7 :: (7 :: (7 :: (7 :: (7 :: (7 :: (7 :: (7 :: (7 :: (7 :: (7 :: (7 :: (7 :: (7 :: (7 :: (7 :: (7 :: (7 :: (7 :: (8 :: (8 :: (8 :: (8 :: (8 :: (8 :: (8 :: (8 :: (8 :: (8 :: (8 :: (8 :: (8 :: (8 :: (8 :: (8 :: (8 :: (8 :: (8 :: (8 :: (8 :: (8 :: (8 :: (8 :: (8 :: (8 :: (8 :: (8 :: (8 :: (8 :: (8 :: (8 :: (8 :: (8 :: (8 :: (8 :: (8 :: (8 :: (8 :: (8 :: (8 :: (8 :: (8 :: (8 :: (8 :: (8 :: (8 :: (8 :: (8 :: (8 :: (8 :: (8 :: (8 :: (8 :: (8 :: (8 :: (8 :: (8 :: (8 :: (8 :: (8 :: (8 :: (8 :: (8 :: (8 :: (8 :: (8 :: (8 :: (8 :: (8 :: (8 :: (8 :: (8 :: (8 :: (8 :: (8 :: (8 :: (8 :: (8 :: (8 :: (8 :: (8 :: (8 :: (8 :: (8 :: (8 :: (8 :: (8 :: (8 :: (8 :: (8 :: (8 :: (8 :: (8 :: (8 :: (8 :: (8 :: (8 :: (8 :: (8 :: (8 :: (8 :: (8 :: (8 :: (8 :: (8 :: (8 :: (8 :: (8 :: (8 :: (8 :: (8 :: (8 :: (8 :: (8 :: (8 :: (8 :: (8 :: (8 :: (8 :: (8 :: (8 :: (8 :: (8 :: (8 :: (8 :: (8 :: (8 :: [])))))))))))))))))))))))))))))))))))))))))))))))))))))))))))))))))))))))))))))))))))))))))))))))))))))))))))))))))))))))))))))))))))))))))))))))))))))))))))))))))))))))))))))))))))))))))))))))))))))))))))))))))))))))))))))))))))))))))))))))))))))))))))))))) (Int.toNat (IntKind.wrap .u8 a)) 0)) : Int)))), ())
  else none := (Fn_eq rfl).trans (by kernel_rfl)

noncomputable def g100 : DL [(.int .i64)] → Option (DL [.bool]) := Fn cx0 an100 Try.f100 [(.int .i64)] [.bool]
theorem g100_eq (a : Int) : g100 (a, ()) =
  some ((a != a), ()) := (Fn_eq rfl).trans (by kernel_rfl)

noncomputable def g101 : DL [(.int .u64), (.int .u64)] → Option (DL [(.int .u64)]) := Fn cx0 an101 Try.f101 [(.int .u64), (.int .u64)] [(.int .u64)]
noncomputable def g101_L1 (t0 : Int) (t1 : Int) : Option (DL [(.int .u64)]) := Lp cx0 an101 Try.f101 [(.int .u64)] [true, false, false] ⟨[.val (.int .u64) t0, .val (.int .u64) t1, .undef, .undef, .undef, .undef, .undef, .undef, .undef, .undef, .undef, .undef, .undef, .undef], ofL [], [], []⟩
theorem g101_L1_eq (t0 : Int) (t1 : Int) : g101_L1 t0 t1 =
  if (decide (t1 > 0)) = true then
    if (t1 == 0) = true then
      none
    else (g101_L1 t1 (Int.tmod t0 t1))
  else some (t0, ()) := (Lp_eq cx0 an101 Try.f101 [(.int .u64)] [true, false, false] _).trans (by kernel_rfl)
theorem g101_eq (a : Int) (b : Int) : g101 (a, b, ()) =
  (g101_L1 a b) := (Fn_eq rfl).trans (by kernel_rfl)

noncomputable def g102 : DL [(.int .u32)] → Option (DL [.bool]) := Fn cx0 an102 Try.f102 [(.int .u32)] [.bool]
theorem g102_eq (a : Int) : g102 (a, ()) =
  some ((a != a), ()) := (Fn_eq rfl).trans (by kernel_rfl)

noncomputable def g103 : DL [(.int .u32), (.int .u32), (.int .u32)] → Option (DL [(.int .u32), (.int .u32)]) := Fn cx0 an103 Try.f103 [(.int .u32), (.int .u32), (.int .u32)] [(.int .u32), (.int .u32)]
theorem g103_eq (a : Int) (b : Int) (c : Int) : g103 (a, b, c, ()) =
  if (c != 0) = true then
    if (decide (c ≤ a)) = true then
      none
    else if ((IntKind.wrap .u64 c) == 0) = true then
      none
    else if ((IntKind.wrap .u64 c) == 0) = true then
      none
    else some ((IntKind.wrap .u32 (IntKind.wrap .u64 (Int.tdiv (IntKind.wrap .u64 ((BitVec.toNat ((BitVec.ofInt 64 (IntKind.wrap .u64 ((IntKind.wrap .u64 a) * 4294967296))) ||| (BitVec.ofInt 64 (IntKind.wrap .u64 b)))) : Int)) (IntKind.wrap .u64 c)))), ((IntKind.wrap .u32 (Int.tmod (IntKind.wrap .u64 ((BitVec.toNat ((BitVec.ofInt 64 (IntKind.wrap .u64 ((IntKind.wrap .u64 a) * 4294967296))) ||| (BitVec.ofInt 64 (IntKind.wrap .u64 b)))) : Int)) (IntKind.wrap .u64 c))), ()))
  else if ((IntKind.wrap .u64 c) == 0) = true then
    none
  else if ((IntKind.wrap .u64 c) == 0) = true then
    none
  else some ((IntKind.wrap .u32 (IntKind.wrap .u64 (Int.tdiv (IntKind.wrap .u64 ((BitVec.toNat ((BitVec.ofInt 64 (IntKind.wrap .u64 ((IntKind.wrap .u64 a) * 4294967296))) ||| (BitVec.ofInt 64 (IntKind.wrap .u64 b)))) : Int)) (IntKind.wrap .u64 c)))), ((IntKind.wrap .u32 (Int.tmod (IntKind.wrap .u64 ((BitVec.toNat ((BitVec.ofInt 64 (IntKind.wrap .u64 ((IntKind.wrap .u64 a) * 4294967296))) ||| (BitVec.ofInt 64 (IntKind.wrap .u64 b)))) : Int)) (IntKind.wrap .u64 c))), ())) := (Fn_eq rfl).trans (by kernel_rfl)

noncomputable def g104 : DL [(.int .u64)] → Option (DL [(.int .i64)]) := Fn cx0 an104 Try.f104 [(.int .u64)] [(.int .i64)]
theorem g104_eq (a : Int) : g104 (a, ()) =
  if (decide (a ≥ 4294967296)) = true then
    if (decide ((Int.fdiv a 4294967296) ≥ 65536)) = true then
      if (decide ((Int.fdiv (Int.fdiv a 4294967296) 65536) ≥ 256)) = true then
        if ((decide (0 ≤ (IntKind.wrap .u8 (Int.fdiv (Int.fdiv (Int.fdiv a 4294967296) 65536) 256)))) && (decide ((IntKind.wrap .u8 (Int.fdiv (Int.fdiv (Int.fdiv a 4294967296) 65536) 256)) < 256))) = true then
          some ((IntKind.wrap .i64 (56 + (IntKind.wrap .i64 ((UInt8.toNat (List.getD (0 :: (1 :: (2 :: (2 :: (3 :: (3 :: (3 :: (3 :: (4 :: (4 :: (4 :: (4 :: (4 :: (4 :: (4 :: (4 :: (5 :: (5 :: (5 :: (5 :: (5 :: (5 :: (5 :: (5 :: (5 :: (5 :: (5 :: (5 :: (5 :: (5 :: (5 :: (5 :: (6 :: (6 :: (6 :: (6 :: (6 :: (6 :: (6 :: (6 :: (6 :: (6 :: (6 :: (6 :: (6 :: (6 :: (6 :: (6 :: (6 :: (6 :: (6 :: (6 :: (6 :: (6 :: (6 :: (6 :: (6 :: (6 :: (6 :: (6 :: (6 :: (6 :: (6 :: (6 :: (7 :: (7 :: (7 :: (7 :: (7 :: (7 :: (7 :: (7 :: (7 :: (7 :: (7 :: (7 :: (7 :: (7 :: (7 :: (7 :: (7 :: (7 :: (7 :: (7 :: (7 :: (7 :: (7 :: (7 :: (7 :: (7 :: (7 :: (7 :: (7 :: (7 :: (7 :: (7 :: (7 :: (7 :: (7 :: (7 :: (7 :: (7 :: (7 :: (7 :: (7 :: (7 :: (7 :: (7 :: (7 :: (7 :: (7 :: (7 :: (7 :: (7 :: (7 :: (7 :: (7 :: (7 :: (7 :: (7 :: (7 :: (7 :: (7 :: (7 :: (7 :: (7 :: (7 :: (7 :: (8 :: (8 :: (8 :: (8 :: (8 :: (8 :: (8 :: (8 :: (8 :: (8 :: (8 :: (8 :: (8 :: (8 :: (8 :: (8 :: (8 :: (8 :: (8 :: (8 :: (8 :: (8 :: (8 :: (8 :: (8 :: (8 :: (8 :: (8 :: (8 :: (8 :: (8 :: (8 :: (8 :: (8 :: (8 :: (8 :: (8 :: (8 :: (8 :: (8 :: (8 :: (8 :: (8 :: (8 :: (8 :: (8 :: (8 :: (8 :: (8 :: (8 :: (8 :: (8 :: (8 :: (8 :: (8 :: (8 :: (8 :: (8 :: (8 :: (8 :: (8 :: (8 :: (8 :: (8 :: (8 :: (8 :: (8 :: (8 :: (8 :: (8 :: (8 :: (8 :: (8 :: (8 :: (8 :: (8 :: (8 :: (8 :: (8 :: (8 :: (8 :: (8 :: (8 :: (8 :: (8 :: (8 :: (8 :: (8 :: (8 :: (8 :: (8 :: (8 :: (8 :: (8 :: (8 :: (8 :: (8 :: (8 :: (8 :: (8 :: (8 :: (8 :: (8 :: (8 :: (8 :: (8 :: (8 :: (8 :: (8 :: (8 :: (8 :: (8 :: (8 :: (8 :: (8 :: (8 :: (8 :: (8 :: (8 :: (8 :: (8 :: (8 :: (8 :: (8 :: (8 :: (8 :: (8 :: (8 :: [])))))))))))))))))))))))))))))))))))))))))))))))))))))))))))))))))))))))))))))))))))))))))))))))))))))))))))))))))))))))))))))))))))))))))))))))))))))))))))))))))))))))))))))))))))))))))))))))))))))))))))))))))))))))))))))))))))))))))))))))))))))))))))))))) (Int.toNat (IntKind.wrap .u8 (Int.fdiv (Int.fdiv (Int.fdiv a 4294967296) 65536) 256))) 0)) : Int)))), ())
        else none
      else if ((decide (0 ≤ (IntKind.wrap .u8 (Int.fdiv (Int.fdiv a 4294967296) 65536)))) && (decide ((IntKind.wrap .u8 (Int.fdiv (Int.fdiv a 4294967296) 65536)) < 256))) = true then
        some ((IntKind.wrap .i64 (48 + (IntKind.wrap .i64 ((UInt8.toNat (List.getD (0 :: (1 :: (2 :: (2 :: (3 :: (3 :: (3 :: (3 :: (4 :: (4 :: (4 :: (4 :: (4 :: (4 :: (4 :: (4 :: (5 :: (5 :: (5 :: (5 :: (5 :: (5 :: (5 :: (5 :: (5 :: (5 :: (5 :: (5 :: (5 :: (5 :: (5 :: (5 :: (6 :: (6 :: (6 :: (6 :: (6 :: (6 :: (6 :: (6 :: (6 :: (6 :: (6 :: (6 :: (6 :: (6 :: (6 :: (6 :: (6 :: (6 :: (6 :: (6 :: (6 :: (6 :: (6 :: (6 :: (6 :: (6 :: (6 :: (6 :: (6 :: (6 :: (6 :: (6 :: (7 :: (7 :: (7 :: (7 :: (7 :: (7 :: (7 :: (7 :: (7 :: (7 :: (7 :: (7 :: (7 :: (7 :: (7 :: (7 :: (7 :: (7 :: (7 :: (7 :: (7 :: (7 :: (7 :: (7 :: (7 :: (7 :: (7 :: (7 :: (7 :: (7 :: (7 :: (7 :: (7 :: (7 :: (7 :: (7 :: (7 :: (7 :: (7 :: (7 :: (7 :: (7 :: (7 :: (7 :: (7 :: (7 :: (7 :: (7 :: (7 :: (7 :: (7 :: (7 :: (7 :: (7 :: (7 :: (7 :: (7 :: (7 :: (7 :: (7 :: (7 :: (7 :: (7 :: (7 :: (8 :: (8 :: (8 :: (8 :: (8 :: (8 :: (8 :: (8 :: (8 :: (8 :: (8 :: (8 :: (8 :: (8 :: (8 :: (8 :: (8 :: (8 :: (8 :: (8 :: (8 :: (8 :: (8 :: (8 :: (8 :: (8 :: (8 :: (8 :: (8 :: (8 :: (8 :: (8 :: (8 :: (8 :: (8 :: (8 :: (8 :: (8 :: (8 :: (8 :: (8 :: (8 :: (8 :: (8 :: (8 :: (8 :: (8 :: (8 :: (8 :: (8 :: (8 :: (8 :: (8 :: (8 :: (8 :: (8 :: (8 :: (8 :: (8 :: (8 :: (8 :: (8 :: (8 :: (8 :: (8 :: (8 :: (8 :: (8 :: (8 :: (8 :: (8 :: (8 :: (8 :: (8 :: (8 :: (8 :: (8 :: (8 :: (8 :: (8 :: (8 :: (8 :: (8 :: (8 :: (8 :: (8 :: (8 :: (8 :: (8 :: (8 :: (8 :: (8 :: (8 :: (8 :: (8 :: (8 :: (8 :: (8 :: (8 :: (8 :: (8 :: (8 :: (8 :: (8 :: (8 :: (8 :: (8 :: (8 :: (8 :: (8 :: (8 :: (8 :: (8 :: (8 :: (8 :: (8 :: (8 :: (8 :: (8 :: (8 :: (8 :: (8 :: (8 :: (8 :: (8 :: (8 :: (8 :: (8 :: [])))))))))))))))))))))))))))))))))))))))))))))))))))))))))))))))))))))))))))))))))))))))))))))))))))))))))))))))))))))))))))))))))))))))))))))))))))))))))))))))))))))))))))))))))))))))))))))))))))))))))))))))))))))))))))))))))))))))))))))))))))))))))))))))) (Int.toNat (IntKind.wrap .u8 (Int.fdiv (Int.fdiv a 4294967296) 65536))) 0)) : Int)))), ())
      else none
    else if (decide ((Int.fdiv a 4294967296) ≥ 256)) = true then
      if ((decide (0 ≤ (IntKind.wrap .u8 (Int.fdiv (Int.fdiv a 4294967296) 256)))) && (decide ((IntKind.wrap .u8 (Int.fdiv (Int.fdiv a 4294967296) 256)) < 256))) = true then
        some ((IntKind.wrap .i64 (40 + (IntKind.wrap .i64 ((UInt8.toNat (List.getD (0 :: (1 :: (2 :: (2 :: (3 :: (3 :: (3 :: (3 :: (4 :: (4 :: (4 :: (4 :: (4 :: (4 :: (4 :: (4 :: (5 :: (5 :: (5 :: (5 :: (5 :: (5 :: (5 :: (5 :: (5 :: (5 :: (5 :: (5 :: (5 :: (5 :: (5 :: (5 :: (6 :: (6 :: (6 :: (6 :: (6 :: (6 :: (6 :: (6 :: (6 :: (6 :: (6 :: (6 :: (6 :: (6 :: (6 :: (6 :: (6 :: (6 :: (6 :: (6 :: (6 :: (6 :: (6 :: (6 :: (6 :: (6 :: (6 :: (6 :: (6 :: (6 :: (6 :: (6 :: (7 :: (7 :: (7 :: (7 :: (7 :: (7 :: (7 :: (7 :: (7 :: (7 :: (7 :: (7 :: (7 :: (7 :: (7 :: (7 :: (7 :: (7 :: (7 :: (7 :: (7 :: (7 :: (7 :: (7 :: (7 :: (7 :: (7 :: (7 :: (7 :: (7 :: (7 :: (7 :: (7 :: (7 :: (7 :: (7 :: (7 :: (7 :: (7 :: (7 :: (7 :: (7 :: (7 :: (7 :: (7 :: (7 :: (7 :: (7 :: (7 :: (7 :: (7 :: (7 :: (7 :: (7 :: (7 :: (7 :: (7 :: (7 :: (7 :: (7 :: (7 :: (7 :: (7 :: (7 :: (8 :: (8 :: (8 :: (8 :: (8 :: (8 :: (8 :: (8 :: (8 :: (8 :: (8 :: (8 :: (8 :: (8 :: (8 :: (8 :: (8 :: (8 :: (8 :: (8 :: (8 :: (8 :: (8 :: (8 :: (8 :: (8 :: (8 :: (8 :: (8 :: (8 :: (8 :: (8 :: (8 :: (8 :: (8 :: (8 :: (8 :: (8 :: (8 :: (8 :: (8 :: (8 :: (8 :: (8 :: (8 :: (8 :: (8 :: (8 :: (8 :: (8 :: (8 :: (8 :: (8 :: (8 :: (8 :: (8 :: (8 :: (8 :: (8 :: (8 :: (8 :: (8 :: (8 :: (8 :: (8 :: (8 :: (8 :: (8 :: (8 :: (8 :: (8 :: (8 :: (8 :: (8 :: (8 :: (8 :: (8 :: (8 :: (8 :: (8 :: (8 :: (8 :: (8 :: (8 :: (8 :: (8 :: (8 :: (8 :: (8 :: (8 :: (8 :: (8 :: (8 :: (8 :: (8 :: (8 :: (8 :: (8 :: (8 :: (8 :: (8 :: (8 :: (8 :: (8 :: (8 :: (8 :: (8 :: (8 :: (8 :: (8 :: (8 :: (8 :: (8 :: (8 :: (8 :: (8 :: (8 :: (8 :: (8 :: (8 :: (8 :: (8 :: (8 :: (8 :: (8 :: (8 :: (8 :: (8 :: [])))))))))))))))))))))))))))))))))))))))))))))))))))))))))))))))))))))))))))))))))))))))))))))))))))))))))))))))))))))))))))))))))))))))))))))))))))))))))))))))))))))))))))))))))))))))))))))))))))))))))))))))))))))))))))))))))))))))))))))))))))))))))))))))) (Int.toNat (IntKind.wrap .u8 (Int.fdiv (Int.fdiv a 4294967296) 256))) 0)) : Int)))), ())
      else none
    else if ((decide (0 ≤ (IntKind.wrap .u8 (Int.fdiv a 4294967296)))) && (decide ((IntKind.wrap .u8 (Int.fdiv a 4294967296)) < 256))) = true then
      some ((IntKind.wrap .i64 (32 + (IntKind.wrap .i64 ((UInt8.toNat (List.getD (0 :: (1 :: (2 :: (2 :: (3 :: (3 :: (3 :: (3 :: (4 :: (4 :: (4 :: (4 :: (4 :: (4 :: (4 :: (4 :: (5 :: (5 :: (5 :: (5 :: (5 :: (5 :: (5 :: (5 :: (5 :: (5 :: (5 :: (5 :: (5 :: (5 :: (5 :: (5 :: (6 :: (6 :: (6 :: (6 :: (6 :: (6 :: (6 :: (6 :: (6 :: (6 :: (6 :: (6 :: (6 :: (6 :: (6 :: (6 :: (6 :: (6 :: (6 :: (6 :: (6 :: (6 :: (6 :: (6 :: (6 :: (6 :: (6 :: (6 :: (6 :: (6 :: (6 :: (6 :: (7 :: (7 :: (7 :: (7 :: (7 :: (7 :: (7 :: (7 :: (7 :: (7 :: (7 :: (7 :: (7 :: (7 :: (7 :: (7 :: (7 :: (7 :: (7 :: (7 :: (7 :: (7 :: (7 :: (7 :: (7 :: (7 :: (7 :: (7 :: (7 :: (7 :: (7 :: (7 :: (7 :: (7 :: (7 :: (7 :: (7 :: (7 :: (7 :: (7 :: (7 :: (7 :: (7 :: (7 :: (7 :: (7 :: (7 :: (7 :: (7 :: (7 :: (7 :: (7 :: (7 :: (7 :: (7 :: (7 :: (7 :: (7 :: (7 :: (7 :: (7 :: (7 :: (7 :: (7 :: (8 :: (8 :: (8 :: (8 :: (8 :: (8 :: (8 :: (8 :: (8 :: (8 :: (8 :: (8 :: (8 :: (8 :: (8 :: (8 :: (8 :: (8 :: (8 :: (8 :: (8 :: (8 :: (8 :: (8 :: (8 :: (8 :: (8 :: (8 :: (8 :: (8 :: (8 :: (8 :: (8 :: (8 :: (8 :: (8 :: (8 :: (8 :: (8 :: (8 :: (8 :: (8 :: (8 :: (8 :: (8 :: (8 :: (8 :: (8 :: (8 :: (8 :: (8 :: (8 :: (8 :: (8 :: (8 :: (8 :: (8 :: (8 :: (8 :: (8 :: (8 :: (8 :: (8 :: (8 :: (8 :: (8 :: (8 :: (8 :: (8 :: (8 :: (8 :: (8 :: (8 :: (8 :: (8 :: (8 :: (8 :: (8 :: (8 :: (8 :: (8 :: (8 :: (8 :: (8 :: (8 :: (8 :: (8 :: (8 :: (8 :: (8 :: (8 :: (8 :: (8 :: (8 :: (8 :: (8 :: (8 :: (8 :: (8 :: (8 :: (8 :: (8 :: (8 :: (8 :: (8 :: (8 :: (8 :: (8 :: (8 :: (8 :: (8 :: (8 :: (8 :: (8 :: (8 :: (8 :: (8 :: (8 :: (8 :: (8 :: (8 :: (8 :: (8 :: (8 :: (8 :: (8 :: (8 :: (8 :: [])))))))))))))))))))))))))))))))))))))))))))))))))))))))))))))))))))))))))))))))))))))))))))))))))))))))))))))))))))))))))))))))))))))))))))))))))))))))))))))))))))))))))))))))))))))))))))))))))))))))))))))))))))))))))))))))))))))))))))))))))))))))))))))))) (Int.toNat (IntKind.wrap .u8 (Int.fdiv a 4294967296))) 0)) : Int)))), ())
    else none
  else if (decide (a ≥ 65536)) = true then
    if (decide ((Int.fdiv a 65536) ≥ 256)) = true then
      if ((decide (0 ≤ (IntKind.wrap .u8 (Int.fdiv (Int.fdiv a 65536) 256)))) && (decide ((IntKind.wrap .u8 (Int.fdiv (Int.fdiv a 65536) 256)) < 256))) = true then
        some ((IntKind.wrap .i64 (24 + (IntKind.wrap .i64 ((UInt8.toNat (List.getD (0 :: (1 :: (2 :: (2 :: (3 :: (3 :: (3 :: (3 :: (4 :: (4 :: (4 :: (4 :: (4 :: (4 :: (4 :: (4 :: (5 :: (5 :: (5 :: (5 :: (5 :: (5 :: (5 :: (5 :: (5 :: (5 :: (5 :: (5 :: (5 :: (5 :: (5 :: (5 :: (6 :: (6 :: (6 :: (6 :: (6 :: (6 :: (6 :: (6 :: (6 :: (6 :: (6 :: (6 :: (6 :: (6 :: (6 :: (6 :: (6 :: (6 :: (6 :: (6 :: (6 :: (6 :: (6 :: (6 :: (6 :: (6 :: (6 :: (6 :: (6 :: (6 :: (6 :: (6 :: (7 :: (7 :: (7 :: (7 :: (7 :: (7 :: (7 :: (7 :: (7 :: (7 :: (7 :: (7 :: (7 :: (7 :: (7 :: (7 :: (7 :: (7 :: (7 :: (7 :: (7 :: (7 :: (7 :: (7 :: (7 :: (7 :: (7 :: (7 :: (7 :: (7 :: (7 :: (7 :: (7 :: (7 :: (7 :: (7 :: (7 :: (7 :: (7 :: (7 :: (7 :: (7 :: (7 :: (7 :: (7 :: (7 :: (7 :: (7 :: (7 :: (7 :: (7 :: (7 :: (7 :: (7 :: (7 :: (7 :: (7 :: (7 :: (7 :: (7 :: (7 :: (7 :: (7 :: (7 :: (8 :: (8 :: (8 :: (8 :: (8 :: (8 :: (8 :: (8 :: (8 :: (8 :: (8 :: (8 :: (8 :: (8 :: (8 :: (8 :: (8 :: (8 :: (8 :: (8 :: (8 :: (8 :: (8 :: (8 :: (8 :: (8 :: (8 :: (8 :: (8 :: (8 :: (8 :: (8 :: (8 :: (8 :: (8 :: (8 :: (8 :: (8 :: (8 :: (8 :: (8 :: (8 :: (8 :: (8 :: (8 :: (8 :: (8 :: (8 :: (8 :: (8 :: (8 :: (8 :: (8 :: (8 :: (8 :: (8 :: (8 :: (8 :: (8 :: (8 :: (8 :: (8 :: (8 :: (8 :: (8 :: (8 :: (8 :: (8 :: (8 :: (8 :: (8 :: (8 :: (8 :: (8 :: (8 :: (8 :: (8 :: (8 :: (8 :: (8 :: (8 :: (8 :: (8 :: (8 :: (8 :: (8 :: (8 :: (8 :: (8 :: (8 :: (8 :: (8 :: (8 :: (8 :: (8 :: (8 :: (8 :: (8 :: (8 :: (8 :: (8 :: (8 :: (8 :: (8 :: (8 :: (8 :: (8 :: (8 :: (8 :: (8 :: (8 :: (8 :: (8 :: (8 :: (8 :: (8 :: (8 :: (8 :: (8 :: (8 :: (8 :: (8 :: (8 :: (8 :: (8 :: (8 :: (8 :: (8 :: [])))))))))))))))))))))))))))))))))))))))))))))))))))))))))))))))))))))))))))))))))))))))))))))))))))))))))))))))))))))))))))))))))))))))))))))))))))))))))))))))))))))))))))))))))))))))))))))))))))))))))))))))))))))))))))))))))))))))))))))))))))))))))))))))) (Int.toNat (IntKind.wrap .u8 (Int.fdiv (Int.fdiv a 65536) 256))) 0)) : Int)))), ())
      else none
    else if ((decide (0 ≤ (IntKind.wrap .u8 (Int.fdiv a 65536)))) && (decide ((IntKind.wrap .u8 (Int.fdiv a 65536)) < 256))) = true then
      some ((IntKind.wrap .i64 (16 + (IntKind.wrap .i64 ((UInt8.toNat (List.getD (0 :: (1 :: (2 :: (2 :: (3 :: (3 :: (3 :: (3 :: (4 :: (4 :: (4 :: (4 :: (4 :: (4 :: (4 :: (4 :: (5 :: (5 :: (5 :: (5 :: (5 :: (5 :: (5 :: (5 :: (5 :: (5 :: (5 :: (5 :: (5 :: (5 :: (5 :: (5 :: (6 :: (6 :: (6 :: (6 :: (6 :: (6 :: (6 :: (6 :: (6 :: (6 :: (6 :: (6 :: (6 :: (6 :: (6 :: (6 :: (6 :: (6 :: (6 :: (6 :: (6 :: (6 :: (6 :: (6 :: (6 :: (6 :: (6 :: (6 :: (6 :: (6 :: (6 :: (6 :: (7 :: (7 :: (7 :: (7 :: (7 :: (7 :: (7 :: (7 :: (7 :: (7 :: (7 :: (7 :: (7 :: (7 :: (7 :: (7 :: (7 :: (7 :: (7 :: (7 :: (7 :: (7 :: (7 :: (7 :: (7 :: (7 :: (7 :: (7 :: (7 :: (7 :: (7 :: (7 :: (7 :: (7 :: (7 :: (7 :: (7 :: (7 :: (7 :: (7 :: (7 :: (7 :: (7 :: (7 :: (7 :: (7 :: (7 :: (7 :: (7 :: (7 :: (7 :: (7 :: (7 :: (7 :: (7 :: (7 :: (7 :: (7 :: (7 :: (7 :: (7 :: (7 :: (7 :: (7 :: (8 :: (8 :: (8 :: (8 :: (8 :: (8 :: (8 :: (8 :: (8 :: (8 :: (8 :: (8 :: (8 :: (8 :: (8 :: (8 :: (8 :: (8 :: (8 :: (8 :: (8 :: (8 :: (8 :: (8 :: (8 :: (8 :: (8 :: (8 :: (8 :: (8 :: (8 :: (8 :: (8 :: (8 :: (8 :: (8 :: (8 :: (8 :: (8 :: (8 :: (8 :: (8 :: (8 :: (8 :: (8 :: (8 :: (8 :: (8 :: (8 :: (8 :: (8 :: (8 :: (8 :: (8 :: (8 :: (8 :: (8 :: (8 :: (8 :: (8 :: (8 :: (8 :: (8 :: (8 :: (8 :: (8 :: (8 :: (8 :: (8 :: (8 :: (8 :: (8 :: (8 :: (8 :: (8 :: (8 :: (8 :: (8 :: (8 :: (8 :: (8 :: (8 :: (8 :: (8 :: (8 :: (8 :: (8 :: (8 :: (8 :: (8 :: (8 :: (8 :: (8 :: (8 :: (8 :: (8 :: (8 :: (8 :: (8 :: (8 :: (8 :: (8 :: (8 :: (8 :: (8 :: (8 :: (8 :: (8 :: (8 :: (8 :: (8 :: (8 :: (8 :: (8 :: (8 :: (8 :: (8 :: (8 :: (8 :: (8 :: (8 :: (8 :: (8 :: (8 :: (8 :: (8 :: (8 :: (8 :: [])))))))))))))))))))))))))))))))))))))))))))))))))))))))))))))))))))))))))))))))))))))))))))))))))))))))))))))))))))))))))))))))))))))))))))))))))))))))))))))))))))))))))))))))))))))))))))))))))))))))))))))))))))))))))))))))))))))))))))))))))))))))))))))))) (Int.toNat (IntKind.wrap .u8 (Int.fdiv a 65536))) 0)) : Int)))), ())
    else none
  else if (decide (a ≥ 256)) = true then
    if ((decide (0 ≤ (IntKind.wrap .u8 (Int.fdiv a 256)))) && (decide ((IntKind.wrap .u8 (Int.fdiv a 256)) < 256))) = true then
      some ((IntKind.wrap .i64 (8 + (IntKind.wrap .i64 ((UInt8.toNat (List.getD (0 :: (1 :: (2 :: (2 :: (3 :: (3 :: (3 :: (3 :: (4 :: (4 :: (4 :: (4 :: (4 :: (4 :: (4 :: (4 :: (5 :: (5 :: (5 :: (5 :: (5 :: (5 :: (5 :: (5 :: (5 :: (5 :: (5 :: (5 :: (5 :: (5 :: (5 :: (5 :: (6 :: (6 :: (6 :: (6 :: (6 :: (6 :: (6 :: (6 :: (6 :: (6 :: (6 :: (6 :: (6 :: (6 :: (6 :: (6 :: (6 :: (6 :: (6 :: (6 :: (6 :: (6 :: (6 :: (6 :: (6 :: (6 :: (6 :: (6 :: (6 :: (6 :: (6 :: (6 :: (7 :: (7 :: (7 :: (7 :: (7 :: (7 :: (7 :: (7 :: (7 :: (7 :: (7 :: (7 :: (7 :: (7 :: (7 :: (7 :: (7 :: (7 :: (7 :: (7 :: (7 :: (7 :: (7 :: (7 :: (7 :: (7 :: (7 :: (7 :: (7 :: (7 :: (7 :: (7 :: (7 :: (7 :: (7 :: (7 :: (7 :: (7 :: (7 :: (7 :: (7 :: (7 :: (7 :: (7 :: (7 :: (7 :: (7 :: (7 :: (7 :: (7 :: (7 :: (7 :: (7 :: (7 :: (7 :: (7 :: (7 :: (7 :: (7 :: (7 :: (7 :: (7 :: (7 :: (7 :: (8 :: (8 :: (8 :: (8 :: (8 :: (8 :: (8 :: (8 :: (8 :: (8 :: (8 :: (8 :: (8 :: (8 :: (8 :: (8 :: (8 :: (8 :: (8 :: (8 :: (8 :: (8 :: (8 :: (8 :: (8 :: (8 :: (8 :: (8 :: (8 :: (8 :: (8 :: (8 :: (8 :: (8 :: (8 :: (8 :: (8 :: (8 :: (8 :: (8 :: (8 :: (8 :: (8 :: (8 :: (8 :: (8 :: (8 :: (8 :: (8 :: (8 :: (8 :: (8 :: (8 :: (8 :: (8 :: (8 :: (8 :: (8 :: (8 :: (8 :: (8 :: (8 :: (8 :: (8 :: (8 :: (8 :: (8 :: (8 :: (8 :: (8 :: (8 :: (8 :: (8 :: (8 :: (8 :: (8 :: (8 :: (8 :: (8 :: (8 :: (8 :: (8 :: (8 :: (8 :: (8 :: (8 :: (8 :: (8 :: (8 :: (8 :: (8 :: (8 :: (8 :: (8 :: (8 :: (8 :: (8 :: (8 :: (8 :: (8 :: (8 :: (8 :: (8 :: (8 :: (8 :: (8 :: (8 :: (8 :: (8 :: (8 :: (8 :: (8 :: (8 :: (8 :: (8 :: (8 :: (8 :: (8 :: (8 :: (8 :: (8 :: (8 :: (8 :: (8 :: (8 :: (8 :: (8 :: (8 :: [])))))))))))))))))))))))))))))))))))))))))))))))))))))))))))))))))))))))))))))))))))))))))))))))))))))))))))))))))))))))))))))))))))))))))))))))))))))))))))))))))))))))))))))))))))))))))))))))))))))))))))))))))))))))))))))))))))))))))))))))))))))))))))))))) (Int.toNat (IntKind.wrap .u8 (Int.fdiv a 256))) 0)) : Int)))), ())
    else none
  else if ((decide (0 ≤ (IntKind.wrap .u8 a))) && (decide ((IntKind.wrap .u8 a) < 256))) = true then
    some ((IntKind.wrap .i64 (0 + (IntKind.wrap .i64 ((UInt8.toNat (List.getD (0 :: (1 :: (2 :: (2 :: (3 :: (3 :: (3 :: (3 :: (4 :: (4 :: (4 :: (4 :: (4 :: (4 :: (4 :: (4 :: (5 :: (5 :: (5 :: (5 :: (5 :: (5 :: (5 :: (5 :: (5 :: (5 :: (5 :: (5 :: (5 :: (5 :: (5 :: (5 :: (6 :: (6 :: (6 :: (6 :: (6 :: (6 :: (6 :: (6 :: (6 :: (6 :: (6 :: (6 :: (6 :: (6 :: (6 :: (6 :: (6 :: (6 :: (6 :: (6 :: (6 :: (6 :: (6 :: (6 :: (6 :: (6 :: (6 :: (6 :: (6 :: (6 :: (6 :: (6 :: (7 :: (7 :: (7 :: (7 :: (7 :: (7 :: (7 :: (7 :: (7 :: (7 :: (7 :: (7 :: (7 :: (7 :: (7 :: (7 :: (7 :: (7 :: (7 :: (7 :: (7 :: (7 :: (7 :: (7 :: (7 :: (7 :: (7 :: (7 :: (7 :: (7 :: (7 :: (7 :: (7 :: (7 :: (7 :: (7 :: (7 :: (7 :: (7 :: (7 :: (7 :: (7 :: (7 :: (7 :: (7 :: (7 :: (7 :: (7 :: (7 :: (7 :: (7 :: (7 :: (7 :: (7 :: (7 :: (7 :: (7 :: (7 :: (7 :: (7 :: (7 :: (7 :: (7 :: (7 :: (8 :: (8 :: (8 :: (8 :: (8 :: (8 :: (8 :: (8 :: (8 :: (8 :: (8 :: (8 :: (8 :: (8 :: (8 :: (8 :: (8 :: (8 :: (8 :: (8 :: (8 :: (8 :: (8 :: (8 :: (8 :: (8 :: (8 :: (8 :: (8 :: (8 :: (8 :: (8 :: (8 :: (8 :: (8 :: (8 :: (8 :: (8 :: (8 :: (8 :: (8 :: (8 :: (8 :: (8 :: (8 :: (8 :: (8 :: (8 :: (8 :: (8 :: (8 :: (8 :: (8 :: (8 :: (8 :: (8 :: (8 :: (8 :: (8 :: (8 :: (8 :: (8 :: (8 :: (8 :: (8 :: (8 :: (8 :: (8 :: (8 :: (8 :: (8 :: (8 :: (8 :: (8 :: (8 :: (8 :: (8 :: (8 :: (8 :: (8 :: (8 :: (8 :: (8 :: (8 :: (8 :: (8 :: (8 :: (8 :: (8 :: (8 :: (8 :: (8 :: (8 :: (8 :: (8 :: (8 :: (8 :: (8 :: (8 :: (8 :: (8 :: (8 :: (8 :: (8 :: (8 :: (8 :: (8 :: (8 :: (8 :: (8 :: (8 :: (8 :: (8 :: (8 :: (8 :: (8 :: (8 :: (8 :: (8 :: (8 :: (8 :: (8 :: (8 :: (8 :: (8 :: (8 :: (8 :: (8 :: [])))))))))))))))))))))))))))))))))))))))))))))))))))))))))))))))))))))))))))))))))))))))))))))))))))))))))))))))))))))))))))))))))))))))))))))))))))))))))))))))))))))))))))))))))))))))))))))))))))))))))))))))))))))))))))))))))))))))))))))))))))))))))))))))) (Int.toNat (IntKind.wrap .u8 a)) 0)) : Int)))), ())
  else none := (Fn_eq rfl).trans (by kernel_rfl)

end Go.Refl.S3
/-
  What the functions that call no other compute, in plain words, and that they keep these contracts.
-/
set_option linter.unusedVariables false
set_option linter.unusedSimpArgs false
set_option maxRecDepth 100000
namespace Go.Refl.S3
open Go Go.Refl Go.Proofs

open Classical in
/-- A value under a condition. -/
noncomputable def when {α : Type} (p : Prop) (a : α) : Option α := if p then some a else none
theorem when_pos {α : Type} {p : Prop} {a : α} (h : p) : when p a = some a := by unfold when; rw [if_pos h]
theorem when_some {α : Type} {p : Prop} {a r : α} (h : when p a = some r) : p ∧ a = r := by
  unfold when at h
  split at h
  · rename_i hp
    injection h with h
    exact ⟨hp, h⟩
  · cases h

section
variable {α : Type} {x y : α}
theorem ifd_t {p : Prop} [Decidable p] (h : p) : (if decide p = true then x else y) = x := by rw [if_pos (decide_eq_true h)]
theorem ifd_f {p : Prop} [Decidable p] (h : ¬ p) : (if decide p = true then x else y) = y := by rw [if_neg (by simpa using h)]
theorem ifdd_t {p q : Prop} [Decidable p] [Decidable q] (hp : p) (hq : q) : (if (decide p && decide q) = true then x else y) = x := by rw [if_pos (by simp [hp, hq])]
theorem ifddd_t {p q r : Prop} [Decidable p] [Decidable q] [Decidable r] (hp : p) (hq : q) (hr : r) : (if (decide p && decide q && decide r) = true then x else y) = x := by rw [if_pos (by simp [hp, hq, hr])]
theorem ife_t {a b : Int} (h : a = b) : (if (a == b) = true then x else y) = x := by rw [if_pos (by simpa using h)]
theorem ife_f {a b : Int} (h : a ≠ b) : (if (a == b) = true then x else y) = y := by rw [if_neg (by simpa using h)]
theorem ifn_t {a b : Int} (h : a ≠ b) : (if (a != b) = true then x else y) = x := by rw [if_pos (by simpa using h)]
theorem ifn_f {a b : Int} (h : a = b) : (if (a != b) = true then x else y) = y := by rw [if_neg (by simpa using h)]
theorem ifb_t {c : Bool} (h : c = true) : (if c = true then x else y) = x := if_pos h
theorem ifb_f {c : Bool} (h : c = false) : (if c = true then x else y) = y := if_neg (by simp [h])
theorem ifnot_t {c : Bool} (h : c = false) : (if (!c) = true then x else y) = x := if_pos (by simp [h])
theorem ifnot_f {c : Bool} (h : c = true) : (if (!c) = true then x else y) = y := if_neg (by simp [h])
end

theorem mixed : Try.prog.follows .mixedOrders = true := by kernel_rfl

theorem sigs0 : SigsOk Try.prog cx0 := ⟨fun f sg h => (by cases h), fun f sg h => (by cases h), fun f sg h => (by cases h)⟩
theorem inl0 : ∀ f p, look cx0.inl f = some p → Try.prog.funcs[f]? = some p.1 ∧ (p.1.name == "runtime.NumGoroutine") = false := fun f p h => (by cases h)

/-- A function that calls no other keeps a contract that its pure function bears out. -/
theorem leaf {f : FuncId} {fn : Func} {an : List (Nat × Ann)} (hf : Try.prog.funcs[f]? = some fn) (hn : (fn.name == "runtime.NumGoroutine") = false) (hb : fn.body.isNone = false) {ats rts : List Ty} {h : DL ats → Option (DL rts)}
    (hw : ∀ x r, h x = some r → Fn cx0 an fn ats rts x = some r) : SigOk Try.prog f ⟨ats, rts, h⟩ :=
  (Fn_ok (anns := an) mixed T_ok sigs0 inl0 hf hn hb ats rts).weaken hw

/-! ### Trimming -/
noncomputable def h74 : DL [.sl (.int .u32)] → Option (DL [.sl (.int .u32)]) := fun (x : List Int × Unit) => when (W x.1 ∧ x.1.length < 4611686018427387904) (D (V x.1), ())
noncomputable def h88 : DL [.sl (.int .u32)] → Option (DL [.sl (.int .u32)]) := h74

theorem L74 (l : List Int) (hw : W l) (hl : l.length < 4611686018427387904) : ∀ i : Nat, i ≤ l.length → V (l.drop i) = 0 → g74_L2 l (i : Int) = some (D (V l), ()) := by
  intro i
  induction i with
  | zero =>
    intro hi hz
    rw [g74_L2_eq]
    have := D_trim hw hi hz (.inl rfl)
    simp only [List.take_zero] at this
    simp [this]
  | succ i ih =>
    intro hi hz
    rw [g74_L2_eq]
    rw [wi64 (by omega) (by omega)]
    have e1 : ((i + 1 : Nat) : Int) - 1 = (i : Int) := by omega
    rw [e1]
    have c1 : (decide (((i + 1 : Nat) : Int) > 0)) = true := by simp <;> omega
    have c2 : ((decide (0 ≤ (i : Int))) && (decide ((i : Int) < ((List.length l) : Int)))) = true := by simp <;> omega
    rw [if_pos c1, if_pos c2]
    by_cases h0 : l.getD i 0 = 0
    · have c3 : (List.getD l (Int.toNat (i : Int)) 0 == 0) = true := by simpa using h0
      rw [if_pos c3]
      refine ih (by omega) ?_
      rw [V_drop (by omega), h0, hz]
      rfl
    · have c3 : ¬ (List.getD l (Int.toNat (i : Int)) 0 == 0) = true := by simpa using h0
      rw [if_neg c3]
      have c4 : ((decide (0 ≤ ((i + 1 : Nat) : Int))) && (decide (((i + 1 : Nat) : Int) ≤ ((List.length l) : Int)))) = true := by simp <;> omega
      rw [if_pos c4]
      have := D_trim hw hi hz (.inr (by simpa using h0))
      rw [show Int.toNat ((i + 1 : Nat) : Int) = i + 1 by omega, this]

theorem s74 : SigOk Try.prog 74 ⟨[.sl (.int .u32)], [.sl (.int .u32)], h74⟩ := leaf (an := an74) Try.func74 rfl rfl fun (x : List Int × Unit) r h => by
  obtain ⟨⟨hw, hl⟩, rfl⟩ := when_some h
  obtain ⟨l, u⟩ := x
  show g74 (l, ()) = _
  rw [g74_eq]
  exact L74 l hw hl _ (Nat.le_refl _) (by simp [V])

theorem L88 (l : List Int) (hw : W l) (hl : l.length < 4611686018427387904) : ∀ i : Nat, i ≤ l.length → V (l.drop i) = 0 → g88_L2 l (i : Int) = some (D (V l), ()) := by
  intro i
  induction i with
  | zero =>
    intro hi hz
    rw [g88_L2_eq]
    have := D_trim hw hi hz (.inl rfl)
    simp only [List.take_zero] at this
    simp [this]
  | succ i ih =>
    intro hi hz
    rw [g88_L2_eq]
    rw [wi64 (by omega) (by omega)]
    have e1 : ((i + 1 : Nat) : Int) - 1 = (i : Int) := by omega
    rw [e1]
    have c1 : (decide (((i + 1 : Nat) : Int) > 0)) = true := by simp <;> omega
    have c2 : ((decide (0 ≤ (i : Int))) && (decide ((i : Int) < ((List.length l) : Int)))) = true := by simp <;> omega
    rw [if_pos c1, if_pos c2]
    by_cases h0 : l.getD i 0 = 0
    · have c3 : (List.getD l (Int.toNat (i : Int)) 0 == 0) = true := by simpa using h0
      rw [if_pos c3]
      refine ih (by omega) ?_
      rw [V_drop (by omega), h0, hz]
      rfl
    · have c3 : ¬ (List.getD l (Int.toNat (i : Int)) 0 == 0) = true := by simpa using h0
      rw [if_neg c3]
      have c4 : ((decide (0 ≤ ((i + 1 : Nat) : Int))) && (decide (((i + 1 : Nat) : Int) ≤ ((List.length l) : Int)))) = true := by simp <;> omega
      have c5 : ((decide (0 ≤ ((i + 1 : Nat) : Int))) && (decide (((i + 1 : Nat) : Int) ≤ ((Int.toNat ((i + 1 : Nat) : Int)) : Int)))) = true := by simp <;> omega
      rw [if_pos c4, if_pos c5]
      have := D_trim hw hi hz (.inr (by simpa using h0))
      rw [show Int.toNat ((i + 1 : Nat) : Int) = i + 1 by omega, this]

theorem s88 : SigOk Try.prog 88 ⟨[.sl (.int .u32)], [.sl (.int .u32)], h88⟩ := leaf (an := an88) Try.func88 rfl rfl fun (x : List Int × Unit) r h => by
  obtain ⟨⟨hw, hl⟩, rfl⟩ := when_some h
  obtain ⟨l, u⟩ := x
  show g88 (l, ()) = _
  rw [g88_eq]
  exact L88 l hw hl _ (Nat.le_refl _) (by simp [V])

/-! ### Single words -/
noncomputable def h82 : DL [.sl (.int .u32), .int .i64] → Option (DL [.int .u64]) := fun (x : List Int × Int × Unit) => when (W x.1 ∧ 0 ≤ x.2.1) (x.1.getD x.2.1.toNat 0, ())
noncomputable def h83 : DL [.sl (.int .u32), .int .i64] → Option (DL [.int .u32]) := fun (x : List Int × Int × Unit) => when (W x.1 ∧ 0 ≤ x.2.1) (x.1.getD x.2.1.toNat 0, ())

theorem getD_out {l : List Int} {i : Nat} (h : l.length ≤ i) : l.getD i 0 = 0 := by
  rw [List.getD_eq_getElem?_getD, List.getElem?_eq_none h]
  rfl

theorem s82 : SigOk Try.prog 82 ⟨[.sl (.int .u32), .int .i64], [.int .u64], h82⟩ := leaf (an := an82) Try.func82 rfl rfl fun (x : List Int × Int × Unit) r h => by
  obtain ⟨⟨hw, hi⟩, rfl⟩ := when_some h
  obtain ⟨l, i, u⟩ := x
  show g82 (l, i, ()) = _
  replace hi : 0 ≤ i := hi
  replace hw : W l := hw
  rw [g82_eq]
  by_cases c : i < (l.length : Int)
  · have hg := hw.getD i.toNat
    rw [ifd_t c, ifdd_t hi c, wu64 (by omega) (by omega)]
  · rw [ifd_f c]
    show some ((0 : Int), ()) = some (l.getD i.toNat 0, ())
    rw [getD_out (by omega)]

theorem s83 : SigOk Try.prog 83 ⟨[.sl (.int .u32), .int .i64], [.int .u32], h83⟩ := leaf (an := an83) Try.func83 rfl rfl fun (x : List Int × Int × Unit) r h => by
  obtain ⟨⟨hw, hi⟩, rfl⟩ := when_some h
  obtain ⟨l, i, u⟩ := x
  show g83 (l, i, ()) = _
  replace hi : 0 ≤ i := hi
  rw [g83_eq]
  by_cases c : i < (l.length : Int)
  · rw [ifd_t c, ifdd_t hi c]
  · rw [ifd_f c]
    show some ((0 : Int), ()) = some (l.getD i.toNat 0, ())
    rw [getD_out (by omega)]

/-! ### Adding and taking away with a carry -/
noncomputable def h90 : DL [.int .u32, .int .u32, .int .u32] → Option (DL [.int .u32, .int .u32]) := fun (x : Int × Int × Int × Unit) =>
  when ((0 ≤ x.1 ∧ x.1 < 4294967296) ∧ (0 ≤ x.2.1 ∧ x.2.1 < 4294967296) ∧ 0 ≤ x.2.2.1 ∧ x.2.2.1 < 4294967296) ((x.1 + x.2.1 + x.2.2.1) % 4294967296, (x.1 + x.2.1 + x.2.2.1) / 4294967296, ())

theorem s90 : SigOk Try.prog 90 ⟨[.int .u32, .int .u32, .int .u32], [.int .u32, .int .u32], h90⟩ := leaf (an := an90) Try.func90 rfl rfl fun (x : Int × Int × Int × Unit) r h => by
  obtain ⟨⟨⟨a0, a1⟩, ⟨b0, b1⟩, c0, c1⟩, rfl⟩ := when_some h
  obtain ⟨a, b, c, u⟩ := x
  show g90 (a, b, c, ()) = _
  simp only at a0 a1 b0 b1 c0 c1
  rw [g90_eq]
  rw [wu64 (x := a) (by omega) (by omega), wu64 (x := b) (by omega) (by omega), wu64 (x := c) (by omega) (by omega), wu64 (x := a + b) (by omega) (by omega), wu64 (x := a + b + c) (by omega) (by omega)]
  rw [Int.fdiv_eq_ediv_of_nonneg _ (by omega), IntKind.wrap_u32, IntKind.wrap_u32]
  rw [show (a + b + c) / 4294967296 % 4294967296 = (a + b + c) / 4294967296 by omega]

noncomputable def h100 : DL [.int .i64] → Option (DL [.bool]) := fun (_ : Int × Unit) => some (false, ())
noncomputable def h102 : DL [.int .u32] → Option (DL [.bool]) := fun (_ : Int × Unit) => some (false, ())
theorem s100 : SigOk Try.prog 100 ⟨[.int .i64], [.bool], h100⟩ := leaf (an := an100) Try.func100 rfl rfl fun (x : Int × Unit) r h => by
  obtain ⟨a, u⟩ := x
  show g100 (a, ()) = _
  rw [g100_eq, ← h]
  simp [h100]
theorem s102 : SigOk Try.prog 102 ⟨[.int .u32], [.bool], h102⟩ := leaf (an := an102) Try.func102 rfl rfl fun (x : Int × Unit) r h => by
  obtain ⟨a, u⟩ := x
  show g102 (a, ()) = _
  rw [g102_eq, ← h]
  simp [h102]

theorem ofInt_wrap (X : BitVec 32) : BitVec.ofInt 32 (IntKind.wrap .u32 (X.toNat : Int)) = X := by
  have := X.isLt
  rw [wu32 (by omega) (by omega)]
  simp
theorem msb_word {a : Int} (h0 : 0 ≤ a) (h1 : a < 4294967296) : (BitVec.ofInt 32 a).msb = decide (2147483648 ≤ a) := by
  rw [BitVec.msb_eq_decide]
  simp only [BitVec.toNat_ofInt]
  congr 1
  simp only [eq_iff_iff]
  omega
theorem top_bit (X : BitVec 32) : Int.fdiv (IntKind.wrap .u32 (X.toNat : Int)) 2147483648 = if X.msb = true then 1 else 0 := by
  have := X.isLt
  rw [wu32 (by omega) (by omega), Int.fdiv_eq_ediv_of_nonneg _ (by omega), BitVec.msb_eq_decide]
  by_cases h : 2147483648 ≤ X.toNat
  · rw [if_pos (by simpa using h)]; omega
  · rw [if_neg (by simpa using h)]; omega

noncomputable def h92 : DL [.int .u32, .int .u32, .int .u32] → Option (DL [.int .u32, .int .u32]) := fun (x : Int × Int × Int × Unit) =>
  when ((0 ≤ x.1 ∧ x.1 < 4294967296) ∧ (0 ≤ x.2.1 ∧ x.2.1 < 4294967296) ∧ 0 ≤ x.2.2.1 ∧ x.2.2.1 ≤ 1) ((x.1 - x.2.1 - x.2.2.1) % 4294967296, (if x.1 < x.2.1 + x.2.2.1 then 1 else 0), ())
theorem s92 : SigOk Try.prog 92 ⟨[.int .u32, .int .u32, .int .u32], [.int .u32, .int .u32], h92⟩ := leaf (an := an92) Try.func92 rfl rfl fun (x : Int × Int × Int × Unit) r h => by
  obtain ⟨⟨⟨a0, a1⟩, ⟨b0, b1⟩, c0, c1⟩, rfl⟩ := when_some h
  obtain ⟨a, b, c, u⟩ := x
  show g92 (a, b, c, ()) = _
  simp only at a0 a1 b0 b1 c0 c1
  rw [g92_eq]
  have e : IntKind.wrap .u32 (IntKind.wrap .u32 (a - b) - c) = (a - b - c) % 4294967296 := by
    rw [IntKind.wrap_u32, IntKind.wrap_u32]; omega
  simp only [e, ofInt_wrap, top_bit]
  have m1 : (BitVec.ofInt 32 4294967295).msb = true := by decide
  simp only [BitVec.msb_or, BitVec.msb_and, BitVec.msb_xor, m1, msb_word a0 a1, msb_word b0 b1, msb_word (a := (a - b - c) % 4294967296) (by omega) (by omega)]
  congr 2
  by_cases ha : 2147483648 ≤ a <;> by_cases hb : 2147483648 ≤ b <;> by_cases hd : 2147483648 ≤ (a - b - c) % 4294967296 <;> by_cases hab : a < b + c <;> simp [ha, hb, hd, hab] <;> omega

/-! ### Whole numbers in their form -/
abbrev tInt : Ty := .pair .bool (.pair (.sl (.int .u32)) .unit)
abbrev DInt : Type := Bool × List Int × Unit
def enc (z : Int) : DInt := (decide (z < 0), dg z.natAbs, ())
def dec (x : DInt) : Int := if x.1 = true then - V x.2.1 else V x.2.1
theorem dec_enc (z : Int) : dec (enc z) = z := by
  unfold dec enc
  simp only [V_dg]
  by_cases h : z < 0 <;> simp [h] <;> omega
theorem enc_inj {a b : Int} (h : enc a = enc b) : a = b := by rw [← dec_enc a, h, dec_enc]

/-- A number of not too many words. -/
def Sm (z : Int) : Prop := (dg z.natAbs).length < 1048576
/-- A number in its form. -/
def Is (x : DInt) : Prop := ∃ z, x = enc z ∧ Sm z
theorem Is.enc {z : Int} (h : Sm z) : Is (enc z) := ⟨z, rfl, h⟩
theorem Is.eq {x : DInt} (h : Is x) : x = S3.enc (dec x) ∧ Sm (dec x) := by
  obtain ⟨z, rfl, hs⟩ := h
  rw [dec_enc]
  exact ⟨rfl, hs⟩

def sgn (z : Int) : Int := if z < 0 then -1 else if z = 0 then 0 else 1

theorem dg_length_pos {n : Nat} (h : n ≠ 0) : 0 < (dg n).length := by
  rw [dg_pos h]
  simp

noncomputable def h31 : DL [tInt] → Option (DL [.int .i64]) := fun (x : DInt × Unit) => when (Is x.1) (sgn (dec x.1), ())
noncomputable def h51 : DL [tInt] → Option (DL [.int .i64]) := h31

theorem sign_core (z : Int) : (if (enc z).1 = true then some ((-1 : Int), ()) else some ((if (false = true) then (if (1 > ((List.length (enc z).2.1) : Int)) then 1 else ((List.length (enc z).2.1) : Int)) else (if (1 < ((List.length (enc z).2.1) : Int)) then 1 else ((List.length (enc z).2.1) : Int))), ())) = some (sgn z, ()) := by
  unfold sgn
  by_cases h : z < 0
  · simp [enc, h]
  · by_cases h0 : z = 0
    · subst h0; simp [enc, dg_zero]
    · have := dg_length_pos (n := z.natAbs) (by omega)
      have e : (enc z).1 = false := by simp [enc, h]
      have e2 : (enc z).2.1.length = (dg z.natAbs).length := rfl
      rw [e, e2]
      simp only [Bool.false_eq_true, if_false, h, h0]
      by_cases h1 : 1 < ((dg z.natAbs).length : Int)
      · rw [if_pos h1]
      · rw [if_neg h1]
        congr 2
        omega

theorem s31 : SigOk Try.prog 31 ⟨[tInt], [.int .i64], h31⟩ := leaf (an := an31) Try.func31 rfl rfl fun (x : DInt × Unit) r h => by
  obtain ⟨⟨z, hz, _⟩, rfl⟩ := when_some h
  obtain ⟨a, u⟩ := x
  replace hz : a = enc z := hz
  subst hz
  show g31 (enc z, ()) = some (sgn (dec (enc z)), ())
  rw [g31_eq, dec_enc]
  exact sign_core z
theorem s51 : SigOk Try.prog 51 ⟨[tInt], [.int .i64], h51⟩ := leaf (an := an51) Try.func51 rfl rfl fun (x : DInt × Unit) r h => by
  obtain ⟨⟨z, hz, _⟩, rfl⟩ := when_some h
  obtain ⟨a, u⟩ := x
  replace hz : a = enc z := hz
  subst hz
  show g51 (enc z, ()) = some (sgn (dec (enc z)), ())
  rw [g51_eq, dec_enc]
  exact sign_core z

/-! ### Canonical -/
noncomputable def h29 : DL [tInt] → Option (DL [.bool]) := fun (x : DInt × Unit) => when (Is x.1) (true, ())
theorem s29 : SigOk Try.prog 29 ⟨[tInt], [.bool], h29⟩ := leaf (an := an29) Try.func29 rfl rfl fun (x : DInt × Unit) r h => by
  obtain ⟨⟨z, hz, hs⟩, rfl⟩ := when_some h
  obtain ⟨a, u⟩ := x
  replace hz : a = enc z := hz
  subst hz
  show g29 (enc z, ()) = some (true, ())
  rw [g29_eq]
  have e2 : (enc z).2.1 = dg z.natAbs := rfl
  unfold Sm at hs
  by_cases h0 : z = 0
  · subst h0
    rw [ife_t (by simp [enc, dg_zero])]
    simp [enc]
  · have := dg_length_pos (n := z.natAbs) (by omega)
    rw [e2]
    rw [ife_f (by omega), wi64 (by omega) (by omega), ifdd_t (by omega) (by omega)]
    have hc := dg_Cn z.natAbs
    unfold Cn at hc
    rw [show Int.toNat (((dg z.natAbs).length : Int) - 1) = (dg z.natAbs).length - 1 by omega]
    congr 2
    simp only [bne_iff_ne, ne_eq]
    rw [List.getD_eq_getElem?_getD, List.getElem?_eq_getElem (by omega)] at hc ⊢
    exact hc

/-! ### Equality -/
noncomputable def h30 : DL [tInt, tInt] → Option (DL [.bool]) := fun (x : DInt × DInt × Unit) => when (Is x.1 ∧ Is x.2.1) (decide (dec x.1 = dec x.2.1), ())

theorem L30 (l m : List Int) (b c : Bool) (hlm : l.length = m.length) (hl : l.length < 1048576) : ∀ k i : Nat, i + k = l.length → (∀ j, j < i → l.getD j 0 = m.getD j 0) → g30_L4 (i : Int) b l c m = some (decide (l = m), ()) := by
  intro k
  induction k with
  | zero =>
    intro i hi he
    rw [g30_L4_eq, ifd_f (by omega)]
    have : l = m := by
      refine List.ext_getElem hlm fun j h1 h2 => ?_
      have := he j (by omega)
      rw [List.getD_eq_getElem?_getD, List.getD_eq_getElem?_getD, List.getElem?_eq_getElem h1, List.getElem?_eq_getElem h2] at this
      exact this
    simp [this]
  | succ k ih =>
    intro i hi he
    rw [g30_L4_eq, ifd_t (by omega), ifdd_t (by omega) (by omega), ifdd_t (by omega) (by omega)]
    simp only [Int.toNat_natCast]
    by_cases e : l.getD i 0 = m.getD i 0
    · rw [ifn_f e, wi64 (by omega) (by omega)]
      rw [show (i : Int) + 1 = ((i + 1 : Nat) : Int) by omega]
      refine ih (i + 1) (by omega) fun j hj => ?_
      by_cases hji : j = i
      · subst hji; exact e
      · exact he j (by omega)
    · rw [ifn_t e]
      have : l ≠ m := fun h => e (by rw [h])
      simp [this]

theorem enc_eq_iff {a b : Int} : a = b ↔ decide (a < 0) = decide (b < 0) ∧ dg a.natAbs = dg b.natAbs := by
  constructor
  · rintro rfl; exact ⟨rfl, rfl⟩
  · rintro ⟨h1, h2⟩
    refine enc_inj ?_
    unfold enc
    rw [h1, h2]

theorem s30 : SigOk Try.prog 30 ⟨[tInt, tInt], [.bool], h30⟩ := leaf (an := an30) Try.func30 rfl rfl fun (x : DInt × DInt × Unit) r h => by
  obtain ⟨⟨⟨y, hy, hsy⟩, z, hz, hsz⟩, rfl⟩ := when_some h
  obtain ⟨a, b, u⟩ := x
  replace hy : a = enc y := hy
  replace hz : b = enc z := hz
  subst hy; subst hz
  show g30 (enc y, enc z, ()) = some (decide (dec (enc y) = dec (enc z)), ())
  rw [g30_eq, dec_enc, dec_enc]
  unfold Sm at hsy hsz
  have e1 : ∀ w, (enc w).2.1 = dg w.natAbs := fun _ => rfl
  have e2 : ∀ w, (enc w).1 = decide (w < 0) := fun _ => rfl
  rw [e1, e1, e2, e2]
  by_cases hn : decide (y < 0) = decide (z < 0)
  · rw [ifnot_f (by simpa using hn)]
    by_cases hl : (dg y.natAbs).length = (dg z.natAbs).length
    · rw [ifn_f (by omega)]
      have := L30 (dg y.natAbs) (dg z.natAbs) (decide (y < 0)) (decide (z < 0)) hl hsy (dg y.natAbs).length 0 (by omega) (by omega)
      rw [show ((0 : Nat) : Int) = 0 from rfl] at this
      rw [this]
      congr 2
      simp only [enc_eq_iff (a := y) (b := z), hn, true_and]
    · rw [ifn_t (by omega)]
      have : ¬ y = z := fun h => hl (by rw [h])
      simp [this]
  · rw [ifnot_t (by simpa using hn)]
    have : ¬ y = z := fun h => hn (by rw [h])
    simp [this]

/-! ### Comparing -/
def cmpI (a b : Int) : Int := if a < b then -1 else if a = b then 0 else 1

/-- Canonical words of a number that isn't too great. -/
def Nt (l : List Int) : Prop := W l ∧ Cn l ∧ l.length < 4194304

noncomputable def h50 : DL [.sl (.int .u32), .sl (.int .u32)] → Option (DL [.int .i64]) := fun (x : List Int × List Int × Unit) => when (Nt x.1 ∧ Nt x.2.1) (cmpI (V x.1) (V x.2.1), ())

theorem V_len_lt {a b : List Int} (ha : W a) (hb : W b) (hc : Cn b) (h : a.length < b.length) : V a < V b := by
  have h1 := V_lt ha
  have h2 : P (b.length - 1) ≤ V b := by
    have hne : b.length - 1 < b.length := by omega
    have := V_take_drop b (b.length - 1)
    rw [V_drop hne, Nat.min_eq_left (by omega), show b.length - 1 + 1 = b.length by omega, List.drop_length] at this
    have hd : b.getD (b.length - 1) 0 ≠ 0 := by
      unfold Cn at hc
      rw [List.getD_eq_getElem?_getD, List.getElem?_eq_getElem hne] at hc ⊢
      exact hc
    have hg := hb.getD (b.length - 1)
    have ht := V_nonneg (hb.take (b.length - 1))
    have hp := P_pos (b.length - 1)
    have hm : P (b.length - 1) * 1 ≤ P (b.length - 1) * b.getD (b.length - 1) 0 := Int.mul_le_mul_of_nonneg_left (by omega) (by omega)
    simp only [V, Int.mul_zero, Int.add_zero] at this
    omega
  have h3 : P a.length ≤ P (b.length - 1) := by
    have : b.length - 1 = a.length + (b.length - 1 - a.length) := by omega
    rw [this, P_add]
    have := P_pos a.length
    have h4 := P_pos (b.length - 1 - a.length)
    have : P a.length * 1 ≤ P a.length * P (b.length - 1 - a.length) := Int.mul_le_mul_of_nonneg_left (by omega) (by omega)
    omega
  omega

/-- Where the higher words agree, the word decides. -/
theorem V_word_lt {a b : List Int} (ha : W a) (hb : W b) {i : Nat} (hi : i < a.length) (hl : a.length = b.length) (hd : V (a.drop (i + 1)) = V (b.drop (i + 1))) (hw : a.getD i 0 < b.getD i 0) : V a < V b := by
  have e1 := V_take_drop a i
  have e2 := V_take_drop b i
  rw [Nat.min_eq_left (by omega)] at e1 e2
  rw [V_drop hi] at e1
  rw [V_drop (show i < b.length by omega), ← hd] at e2
  have t1 := V_lt (ha.take i)
  have t2 := V_nonneg (hb.take i)
  rw [List.length_take, Nat.min_eq_left (by omega)] at t1
  have hp := P_pos i
  have hm : P i * (a.getD i 0 + 1) ≤ P i * b.getD i 0 := Int.mul_le_mul_of_nonneg_left (by omega) (by omega)
  rw [Int.mul_add, Int.mul_one] at hm
  rw [Int.mul_add] at e1 e2
  omega

theorem L50 (a b : List Int) (ha : W a) (hb : W b) (hl : a.length = b.length) (hs : a.length < 4194304) : ∀ i : Nat, i ≤ a.length → V (a.drop i) = V (b.drop i) → g50_L6 a b ((i : Int) - 1) = some (cmpI (V a) (V b), ()) := by
  intro i
  induction i with
  | zero =>
    intro hi he
    rw [g50_L6_eq, ifd_f (by omega)]
    simp only [List.drop_zero] at he
    simp [cmpI, he]
  | succ i ih =>
    intro hi he
    have e0 : ((i + 1 : Nat) : Int) - 1 = (i : Int) := by omega
    rw [e0, g50_L6_eq, ifd_t (by omega), ifdd_t (by omega) (by omega), ifdd_t (by omega) (by omega)]
    simp only [Int.toNat_natCast]
    by_cases h1 : a.getD i 0 < b.getD i 0
    · rw [ifd_t h1]
      have := V_word_lt ha hb (by omega) hl he h1
      simp [cmpI, this]
    · rw [ifd_f h1, ifdd_t (by omega) (by omega), ifdd_t (by omega) (by omega)]
      by_cases h2 : a.getD i 0 > b.getD i 0
      · rw [ifd_t h2]
        have := V_word_lt hb ha (by omega) hl.symm he.symm h2
        simp only [cmpI]
        rw [if_neg (by omega), if_neg (by omega)]
      · rw [ifd_f h2, wi64 (by omega) (by omega)]
        refine ih (by omega) ?_
        rw [V_drop (show i < a.length by omega), V_drop (show i < b.length by omega), he]
        omega

theorem s50 : SigOk Try.prog 50 ⟨[.sl (.int .u32), .sl (.int .u32)], [.int .i64], h50⟩ := leaf (an := an50) Try.func50 rfl rfl fun (x : List Int × List Int × Unit) r h => by
  obtain ⟨⟨⟨wa, ca, la⟩, wb, cb, lb⟩, rfl⟩ := when_some h
  obtain ⟨a, b, u⟩ := x
  show g50 (a, b, ()) = some (cmpI (V a) (V b), ())
  simp only at wa ca la wb cb lb
  rw [g50_eq]
  by_cases h1 : (a.length : Int) < (b.length : Int)
  · rw [ifd_t h1]
    have := V_len_lt wa wb cb (by omega)
    simp [cmpI, this]
  · rw [ifd_f h1]
    by_cases h2 : (a.length : Int) > (b.length : Int)
    · rw [ifd_t h2]
      have := V_len_lt wb wa ca (by omega)
      simp only [cmpI]
      rw [if_neg (by omega), if_neg (by omega)]
    · rw [ifd_f h2, wi64 (by omega) (by omega)]
      refine L50 a b wa wb (by omega) la _ (Nat.le_refl _) ?_
      rw [List.drop_length, show a.length = b.length by omega, List.drop_length]
end Go.Refl.S3
