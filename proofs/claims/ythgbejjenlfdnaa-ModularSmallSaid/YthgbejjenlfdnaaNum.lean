/-
  Numbers as words: the value of a row of words of 32 bits, its canonical words, and small laws about wrapping.
-/
import Derived.Test.YthgbejjenlfdnaaTab
import Derived.Laws.BitsLemmas
import Derived.Laws.Bits64
set_option linter.unusedVariables false
set_option linter.unusedSimpArgs false
namespace Go.Refl.S3
open Go Go.Refl Go.Proofs

/-! ### Wrapping -/
theorem wu64 {x : Int} (h0 : 0 ≤ x) (h1 : x < 18446744073709551616) : IntKind.wrap .u64 x = x := by rw [IntKind.wrap_u64]; omega
theorem wu32 {x : Int} (h0 : 0 ≤ x) (h1 : x < 4294967296) : IntKind.wrap .u32 x = x := by rw [IntKind.wrap_u32]; omega
theorem wi64 {x : Int} (h0 : -9223372036854775808 ≤ x) (h1 : x < 9223372036854775808) : IntKind.wrap .i64 x = x := by rw [IntKind.wrap_i64]; omega

/-! ### Rows of words -/
def V : List Int → Int
  | [] => 0
  | w :: l => w + 4294967296 * V l

def W (l : List Int) : Prop := ∀ w ∈ l, 0 ≤ w ∧ w < 4294967296

theorem W.nil : W [] := fun _ h => by cases h
theorem W.cons {w : Int} {l : List Int} (h0 : 0 ≤ w) (h1 : w < 4294967296) (h : W l) : W (w :: l) := by
  intro x hx
  rcases List.mem_cons.1 hx with rfl | hx
  · exact ⟨h0, h1⟩
  · exact h x hx
theorem W.tail {w : Int} {l : List Int} (h : W (w :: l)) : W l := fun x hx => h x (.tail _ hx)
theorem W.head {w : Int} {l : List Int} (h : W (w :: l)) : 0 ≤ w ∧ w < 4294967296 := h w (.head _)
theorem W.take {l : List Int} (h : W l) (n : Nat) : W (l.take n) := fun x hx => h x (List.mem_of_mem_take hx)
theorem W.drop {l : List Int} (h : W l) (n : Nat) : W (l.drop n) := fun x hx => h x (List.mem_of_mem_drop hx)
theorem W.append {a b : List Int} (ha : W a) (hb : W b) : W (a ++ b) := fun x hx => (List.mem_append.1 hx).elim (ha x) (hb x)
theorem W.replicate (n : Nat) : W (List.replicate n (0 : Int)) := fun x hx => by
  rw [List.eq_of_mem_replicate hx]
  omega
theorem W.set {l : List Int} (h : W l) {i : Nat} {w : Int} (h0 : 0 ≤ w) (h1 : w < 4294967296) : W (l.set i w) := by
  intro x hx
  rcases List.mem_or_eq_of_mem_set hx with hx | hx
  · exact h x hx
  · subst hx; exact ⟨h0, h1⟩
theorem W.getD {l : List Int} (h : W l) (i : Nat) : 0 ≤ l.getD i 0 ∧ l.getD i 0 < 4294967296 := by
  rw [List.getD_eq_getElem?_getD]
  cases hi : l[i]? with
  | none => simp
  | some w => exact h w (List.mem_of_getElem? hi)

/-- The powers of the base. -/
def P (n : Nat) : Int := 4294967296 ^ n
theorem P_zero : P 0 = 1 := rfl
theorem P_succ (n : Nat) : P (n + 1) = 4294967296 * P n := by
  unfold P
  rw [Int.pow_succ, Int.mul_comm]
theorem P_pos (n : Nat) : 0 < P n := by
  induction n with
  | zero => rw [P_zero]; omega
  | succ n ih => rw [P_succ]; omega
theorem P_add (a b : Nat) : P (a + b) = P a * P b := by
  unfold P
  rw [Int.pow_add]

theorem V_nonneg {l : List Int} (h : W l) : 0 ≤ V l := by
  induction l with
  | nil => exact Int.le_refl 0
  | cons w l ih =>
    have := ih h.tail
    have := h.head
    simp only [V]
    omega
theorem V_lt {l : List Int} (h : W l) : V l < P l.length := by
  induction l with
  | nil => simp [V, P]
  | cons w l ih =>
    have := ih h.tail
    have := h.head
    simp only [V, List.length_cons, P_succ]
    omega
theorem V_append (a b : List Int) : V (a ++ b) = V a + P a.length * V b := by
  induction a with
  | nil => simp [V, P]
  | cons w a ih =>
    simp only [List.cons_append, V, ih, List.length_cons, P_succ, Int.mul_add, Int.mul_assoc]
    omega
theorem V_replicate (n : Nat) : V (List.replicate n (0 : Int)) = 0 := by
  induction n with
  | zero => rfl
  | succ n ih => simp only [List.replicate_succ, V, ih]; omega
theorem V_take_drop (l : List Int) (n : Nat) : V l = V (l.take n) + P (min n l.length) * V (l.drop n) := by
  conv => lhs; rw [← List.take_append_drop n l]
  rw [V_append, List.length_take]
theorem V_set {l : List Int} {i : Nat} (hi : i < l.length) (w : Int) : V (l.set i w) = V l + (w - l.getD i 0) * P i := by
  induction l generalizing i with
  | nil => simp at hi
  | cons x l ih =>
    cases i with
    | zero =>
      simp only [List.set_cons_zero, V, List.getD_cons_zero, P_zero]
      omega
    | succ i =>
      simp only [List.set_cons_succ, V, List.getD_cons_succ, P_succ]
      rw [ih (by simpa using hi)]
      rw [Int.mul_add]
      have : 4294967296 * ((w - l.getD i 0) * P i) = (w - l.getD i 0) * (4294967296 * P i) := by
        rw [← Int.mul_assoc, ← Int.mul_assoc, Int.mul_comm 4294967296 (w - l.getD i 0)]
      omega
theorem V_succ_take {l : List Int} {i : Nat} (hi : i < l.length) : V (l.take (i + 1)) = V (l.take i) + P i * l.getD i 0 := by
  rw [List.take_add_one, V_append, List.length_take, Nat.min_eq_left (by omega), List.getD_eq_getElem?_getD, List.getElem?_eq_getElem hi]
  simp [V]
theorem V_drop {l : List Int} {i : Nat} (hi : i < l.length) : V (l.drop i) = l.getD i 0 + 4294967296 * V (l.drop (i + 1)) := by
  rw [List.drop_eq_getElem_cons hi, V, List.getD_eq_getElem?_getD, List.getElem?_eq_getElem hi]
  rfl
theorem V_zero {l : List Int} (h : W l) (hz : V l = 0) : ∀ w ∈ l, w = 0 := by
  induction l with
  | nil => intro w hw; cases hw
  | cons x l ih =>
    intro w hw
    have h1 := V_nonneg h.tail
    have h2 := h.head
    simp only [V] at hz
    rcases List.mem_cons.1 hw with rfl | hw
    · omega
    · exact ih h.tail (by omega) w hw

/-! ### Canonical words -/
/-- The words of a number. -/
def dg (n : Nat) : List Int := if h : n = 0 then [] else ((n % 4294967296 : Nat) : Int) :: dg (n / 4294967296)
termination_by n
decreasing_by omega

theorem dg_zero : dg 0 = [] := by unfold dg; simp
theorem dg_pos {n : Nat} (h : n ≠ 0) : dg n = ((n % 4294967296 : Nat) : Int) :: dg (n / 4294967296) := by
  rw [dg]
  simp [h]
theorem dg_W (n : Nat) : W (dg n) := by
  induction n using Nat.strongRecOn with
  | _ n ih =>
    by_cases h : n = 0
    · subst h; rw [dg_zero]; exact W.nil
    · rw [dg_pos h]
      exact W.cons (by omega) (by omega) (ih _ (by omega))
theorem V_dg (n : Nat) : V (dg n) = n := by
  induction n using Nat.strongRecOn with
  | _ n ih =>
    by_cases h : n = 0
    · subst h; rw [dg_zero]; rfl
    · rw [dg_pos h, V, ih _ (by omega)]
      omega
/-- The words of a whole number that isn't negative. -/
def D (z : Int) : List Int := dg z.toNat
theorem D_W (z : Int) : W (D z) := dg_W _
theorem V_D {z : Int} (h : 0 ≤ z) : V (D z) = z := by
  rw [D, V_dg]
  omega
theorem D_zero : D 0 = [] := dg_zero

/-- No 0 stands at the end. -/
def Cn (l : List Int) : Prop := l.getD (l.length - 1) 1 ≠ 0

theorem Cn_nil : Cn [] := by simp [Cn]
theorem Cn_cons {w : Int} {l : List Int} (h : l ≠ []) : Cn (w :: l) ↔ Cn l := by
  cases l with
  | nil => exact (h rfl).elim
  | cons x l => simp [Cn]

theorem dg_V {l : List Int} (hw : W l) (hc : Cn l) : dg (V l).toNat = l := by
  induction l with
  | nil => simp [V, dg_zero]
  | cons w l ih =>
    have hh := hw.head
    have hn := V_nonneg hw.tail
    by_cases hl : l = []
    · subst hl
      have : w ≠ 0 := by simpa [Cn] using hc
      have hv : (V [w]).toNat = w.toNat := by simp [V]
      rw [hv, dg_pos (by omega), show w.toNat / 4294967296 = 0 by omega, dg_zero]
      congr 1
      omega
    · have hc' := (Cn_cons hl).1 hc
      have ih' := ih hw.tail hc'
      have hne : V l ≠ 0 := by
        intro h0
        rw [h0] at ih'
        simp [dg_zero] at ih'
        exact hl ih'
      have hv : (V (w :: l)).toNat ≠ 0 := by
        simp only [V]
        omega
      rw [dg_pos hv]
      have e1 : (((V (w :: l)).toNat % 4294967296 : Nat) : Int) = w := by
        simp only [V]
        omega
      have e2 : (V (w :: l)).toNat / 4294967296 = (V l).toNat := by
        simp only [V]
        omega
      rw [e1, e2, ih']

theorem D_V {l : List Int} (hw : W l) (hc : Cn l) : D (V l) = l := dg_V hw hc

theorem dg_Cn (n : Nat) : Cn (dg n) := by
  induction n using Nat.strongRecOn with
  | _ n ih =>
    by_cases h : n = 0
    · subst h; rw [dg_zero]; exact Cn_nil
    · rw [dg_pos h]
      by_cases h1 : n / 4294967296 = 0
      · rw [h1, dg_zero]
        simp only [Cn, List.length_cons, List.length_nil, List.getD_cons_zero, Nat.zero_add, Nat.sub_self]
        omega
      · rw [Cn_cons]
        · exact ih _ (by omega)
        · rw [dg_pos h1]; simp
theorem D_Cn (z : Int) : Cn (D z) := dg_Cn _

theorem dg_length {n k : Nat} (h : n < 4294967296 ^ k) : (dg n).length ≤ k := by
  induction k generalizing n with
  | zero =>
    have : n = 0 := by simpa using h
    subst this
    simp [dg_zero]
  | succ k ih =>
    by_cases h0 : n = 0
    · subst h0; simp [dg_zero]
    · rw [dg_pos h0, List.length_cons]
      have := ih (n := n / 4294967296) (by
        rw [Nat.pow_succ] at h
        exact Nat.div_lt_of_lt_mul (by rw [Nat.mul_comm]; exact h))
      omega
theorem D_length {z : Int} {k : Nat} (h : z < P k) : (D z).length ≤ k := by
  unfold D
  refine dg_length ?_
  unfold P at h
  by_cases h0 : 0 ≤ z
  · have : ((4294967296 ^ k : Nat) : Int) = (4294967296 : Int) ^ k := by simp
    omega
  · have : z.toNat = 0 := by omega
    rw [this]
    exact Nat.pow_pos (by omega)

/-- Trailing zeros don't count. -/
theorem D_trim {l : List Int} {i : Nat} (hw : W l) (hi : i ≤ l.length) (hz : V (l.drop i) = 0) (hc : i = 0 ∨ l.getD (i - 1) 0 ≠ 0) : l.take i = D (V l) := by
  have h1 : V l = V (l.take i) := by
    rw [V_take_drop l i, hz]
    omega
  rw [h1]
  refine (D_V (hw.take i) ?_).symm
  rcases hc with rfl | hc
  · exact Cn_nil
  · have hi0 : i ≠ 0 := by
      intro h0
      subst h0
      by_cases hl : l = []
      · subst hl; simp at hc
      · exact hc (V_zero hw (by simpa using hz) _ (by
          cases l with
          | nil => exact (hl rfl).elim
          | cons x l => simp))
    unfold Cn
    rw [List.length_take, Nat.min_eq_left hi, List.getD_eq_getElem?_getD, List.getElem?_take_of_lt (by omega)]
    rw [List.getD_eq_getElem?_getD] at hc
    cases hx : l[i - 1]? with
    | none => simp
    | some w => rw [hx] at hc; simpa using hc
end Go.Refl.S3
