/-
  What the functions on rows of words compute: sums, differences, products, division by one word.
-/
import Derived.Test.YthgbejjenlfdnaaQ1
set_option linter.unusedVariables false
set_option linter.unusedSimpArgs false
set_option maxRecDepth 100000
namespace Go.Refl.S3
open Go Go.Refl Go.Proofs

theorem V_take_succ (l : List Int) (i : Nat) : V (l.take (i + 1)) = V (l.take i) + P i * l.getD i 0 := by
  by_cases h : i < l.length
  · exact V_succ_take h
  · rw [List.take_of_length_le (by omega), List.take_of_length_le (by omega), getD_out (by omega), Int.mul_zero, Int.add_zero]
theorem getD_set_ne {l : List Int} {i j : Nat} {w : Int} (h : i ≠ j) : (l.set i w).getD j 0 = l.getD j 0 := by
  rw [List.getD_eq_getElem?_getD, List.getD_eq_getElem?_getD, List.getElem?_set_ne h]
theorem getD_set_eq {l : List Int} {i : Nat} {w : Int} (h : i < l.length) : (l.set i w).getD i 0 = w := by
  rw [List.getD_eq_getElem?_getD, List.getElem?_set_self h]
  rfl
theorem getD_replicate (n i : Nat) : (List.replicate n (0 : Int)).getD i 0 = 0 := by
  rw [List.getD_eq_getElem?_getD, List.getElem?_replicate]
  split <;> rfl
theorem P_ge_one (n : Nat) : 1 ≤ P n := P_pos n
theorem P_le {m n : Nat} (h : m ≤ n) : P m ≤ P n := by
  obtain ⟨k, rfl⟩ : ∃ k, n = m + k := ⟨n - m, by omega⟩
  rw [P_add]
  have h1 := P_pos m
  have : P m * 1 ≤ P m * P k := Int.mul_le_mul_of_nonneg_left (P_ge_one k) (by omega)
  omega
theorem maxlen (a b : List Int) : (if (true = true) then (if ((b.length : Int) > (a.length : Int)) then (b.length : Int) else (a.length : Int)) else (if ((b.length : Int) < (a.length : Int)) then (b.length : Int) else (a.length : Int))) = ((max a.length b.length : Nat) : Int) := by
  rw [if_pos rfl]
  split <;> omega

/-! ### Sums -/
noncomputable def h70 : DL [.sl (.int .u32), .sl (.int .u32)] → Option (DL [.sl (.int .u32)]) := fun (x : List Int × List Int × Unit) => when (Wl x.1 ∧ Wl x.2.1) (D (V x.1 + V x.2.1), ())
noncomputable def h62 : DL [.sl (.int .u32), .sl (.int .u32)] → Option (DL [.sl (.int .u32)]) := h70

theorem carry_step {x y c s c' Vr A B p : Int} (h : Vr + p * c = A + B) (e1 : s = (x + y + c) % 4294967296) (e2 : c' = (x + y + c) / 4294967296) : Vr + (s - 0) * p + 4294967296 * p * c' = A + p * x + (B + p * y) := by
  have e : s + 4294967296 * c' = x + y + c := by omega
  clear e1 e2
  grind

theorem L70 (x y : List Int) (hx : W x) (hy : W y) (n : Nat) (hnx : x.length ≤ n) (hny : y.length ≤ n) (hn : n < 4194304) : ∀ k i : Nat, i + k = n → ∀ (r : List Int) (c : Int), W r → r.length = n + 1 → (∀ j, i ≤ j → r.getD j 0 = 0) → 0 ≤ c → c ≤ 1 → V r + P i * c = V (x.take i) + V (y.take i) → g70_L5 x y (n : Int) c (n : Int) (i : Int) r = some (D (V x + V y), ()) := by
  intro k
  induction k with
  | zero =>
    intro i hi r c hr hl hz c0 c1 he
    have : i = n := by omega
    subst this
    rw [g70_L5_eq, ifd_f (by omega), ifdd_t (by omega) (by omega), Int.toNat_natCast, e88 (hr.set c0 (by omega)) (by simp; omega), Option.bind_some, V_set (by omega), hz i (by omega)]
    rw [List.take_of_length_le hnx, List.take_of_length_le hny] at he
    congr 3
    rw [← he, Int.sub_zero, Int.mul_comm]
  | succ k ih =>
    intro i hi r c hr hl hz c0 c1 he
    have hxi := hx.getD i
    have hyi := hy.getD i
    rw [g70_L5_eq, ifd_t (by omega), e83 hx (by omega), e83 hy (by omega), Option.bind_some, Option.bind_some]
    dsimp only
    rw [Int.toNat_natCast, e90 hxi hyi (by omega), Option.bind_some, ifdd_t (by omega) (by omega), wi64 (by omega) (by omega)]
    dsimp only
    refine ih (i + 1) (by omega) _ _ (hr.set (by omega) (by omega)) (by simp [hl]) (fun j hj => ?_) (by omega) (by omega) ?_
    · rw [getD_set_ne (by omega)]
      exact hz j (by omega)
    · rw [V_set (by omega), hz i (by omega), V_take_succ, V_take_succ, P_succ]
      exact carry_step he rfl rfl
theorem s70 : SigOk Try.prog 70 ⟨[.sl (.int .u32), .sl (.int .u32)], [.sl (.int .u32)], h70⟩ := ok70 fun (x : List Int × List Int × Unit) r h => by
  obtain ⟨⟨⟨wa, la⟩, wb, lb⟩, rfl⟩ := when_some h
  obtain ⟨a, b, u⟩ := x
  simp only at wa la wb lb
  show g70 (a, b, ()) = some (D (V a + V b), ())
  rw [g70_eq, maxlen, wi64 (by omega) (by omega), ifddd_t (by omega) (by omega) (by omega)]
  rw [show Int.toNat (((max a.length b.length : Nat) : Int) + 1) = max a.length b.length + 1 by omega]
  exact L70 a b wa wb _ (by omega) (by omega) (by omega) _ 0 (Nat.zero_add _) _ 0 (W.replicate _) (by simp) (fun j _ => getD_replicate _ _) (by omega) (by omega) (by simp [V_replicate, V])

theorem L62 (x y : List Int) (hx : W x) (hy : W y) (n : Nat) (hnx : x.length + 1 ≤ n) (hny : y.length + 1 ≤ n) (hn : n < 4194306) : ∀ k i : Nat, i + k = n → ∀ (r : List Int) (c : Int), W r → r.length = n → (∀ j, i ≤ j → r.getD j 0 = 0) → 0 ≤ c → c ≤ 1 → V r + P i * c = V (x.take i) + V (y.take i) → g62_L5 x y (n : Int) c (i : Int) r = some (D (V x + V y), ()) := by
  intro k
  induction k with
  | zero =>
    intro i hi r c hr hl hz c0 c1 he
    have : i = n := by omega
    subst this
    rw [g62_L5_eq, ifd_f (by omega), e74 hr (by omega), Option.bind_some]
    rw [List.take_of_length_le (by omega), List.take_of_length_le (by omega)] at he
    have hc : c = 0 := by
      apply Classical.byContradiction
      intro hc
      have : c = 1 := by omega
      subst this
      have h1 := V_lt hx
      have h2 := V_lt hy
      have h3 := P_le (show x.length ≤ i - 1 by omega)
      have h4 := P_le (show y.length ≤ i - 1 by omega)
      have h5 := P_succ (i - 1)
      rw [show i - 1 + 1 = i by omega] at h5
      have h6 := V_nonneg hr
      have h7 := P_pos (i - 1)
      omega
    subst hc
    rw [← he, Int.mul_zero, Int.add_zero]
  | succ k ih =>
    intro i hi r c hr hl hz c0 c1 he
    have hxi := hx.getD i
    have hyi := hy.getD i
    rw [g62_L5_eq, ifd_t (by omega), e82 hx (by omega), e82 hy (by omega), Option.bind_some, Option.bind_some]
    dsimp only
    rw [Int.toNat_natCast, ifdd_t (by omega) (by omega), wi64 (by omega) (by omega), wu64 (x := x.getD i 0 + y.getD i 0) (by omega) (by omega), wu64 (x := x.getD i 0 + y.getD i 0 + c) (by omega) (by omega), tm (by omega), td (by omega), wu64 (by omega) (by omega), wu32 (by omega) (by omega)]
    refine ih (i + 1) (by omega) _ _ (hr.set (by omega) (by omega)) (by simp [hl]) (fun j hj => ?_) (by omega) (by omega) ?_
    · rw [getD_set_ne (by omega)]
      exact hz j (by omega)
    · rw [V_set (by omega), hz i (by omega), V_take_succ, V_take_succ, P_succ]
      exact carry_step he rfl rfl
theorem s62 : SigOk Try.prog 62 ⟨[.sl (.int .u32), .sl (.int .u32)], [.sl (.int .u32)], h62⟩ := ok62 fun (x : List Int × List Int × Unit) r h => by
  obtain ⟨⟨⟨wa, la⟩, wb, lb⟩, rfl⟩ := when_some h
  obtain ⟨a, b, u⟩ := x
  simp only at wa la wb lb
  show g62 (a, b, ()) = some (D (V a + V b), ())
  rw [g62_eq, maxlen, wi64 (by omega) (by omega), ifddd_t (by omega) (by omega) (by omega)]
  rw [show Int.toNat (((max a.length b.length : Nat) : Int) + 1) = max a.length b.length + 1 by omega, show ((max a.length b.length : Nat) : Int) + 1 = ((max a.length b.length + 1 : Nat) : Int) by omega]
  exact L62 a b wa wb _ (by omega) (by omega) (by omega) _ 0 (Nat.zero_add _) _ 0 (W.replicate _) (by simp) (fun j _ => getD_replicate _ _) (by omega) (by omega) (by simp [V_replicate, V])

/-! ### Differences -/
noncomputable def h72 : DL [.sl (.int .u32), .sl (.int .u32)] → Option (DL [.sl (.int .u32)]) := fun (x : List Int × List Int × Unit) => when (Wl x.1 ∧ Wl x.2.1 ∧ V x.2.1 ≤ V x.1) (D (V x.1 - V x.2.1), ())
noncomputable def h63 : DL [.sl (.int .u32), .sl (.int .u32)] → Option (DL [.sl (.int .u32)]) := h72

theorem borrow_step {x y b s b' Vr A B p : Int} (h : Vr - p * b = A - B) (e : s - 4294967296 * b' = x - y - b) : Vr + (s - 0) * p - 4294967296 * p * b' = A + p * x - (B + p * y) := by grind
theorem V_take_of_le {x y : List Int} (hx : W x) (hy : W y) (h : V y ≤ V x) : V (y.take x.length) = V y := by
  have h1 := V_lt hx
  have h2 := V_take_drop y x.length
  by_cases hl : x.length ≤ y.length
  · rw [Nat.min_eq_left hl] at h2
    have h3 := V_nonneg (hy.drop x.length)
    have h4 := V_nonneg (hy.take x.length)
    have hp := P_pos x.length
    have : V (y.drop x.length) = 0 := by
      apply Classical.byContradiction
      intro hc
      have : P x.length * 1 ≤ P x.length * V (y.drop x.length) := Int.mul_le_mul_of_nonneg_left (by omega) (by omega)
      omega
    rw [this] at h2
    omega
  · rw [List.take_of_length_le (by omega)]
theorem borrow_end {x y r : List Int} {b : Int} (hx : W x) (hy : W y) (hr : W r) (hl : r.length = x.length) (h : V y ≤ V x) (b0 : 0 ≤ b) (b1 : b ≤ 1) (he : V r - P x.length * b = V x - V (y.take x.length)) : V r = V x - V y := by
  rw [V_take_of_le hx hy h] at he
  have h1 := V_lt hr
  rw [hl] at h1
  have : b = 0 := by
    apply Classical.byContradiction
    intro hc
    have : b = 1 := by omega
    subst this
    omega
  subst this
  omega

theorem L72 (x y : List Int) (hx : W x) (hy : W y) (hxy : V y ≤ V x) (hn : x.length < 4194304) : ∀ k i : Nat, i + k = x.length → ∀ (r : List Int) (c : Int), W r → r.length = x.length → (∀ j, i ≤ j → r.getD j 0 = 0) → 0 ≤ c → c ≤ 1 → V r - P i * c = V (x.take i) - V (y.take i) → g72_L4 x y c (x.length : Int) (i : Int) r = some (D (V x - V y), ()) := by
  intro k
  induction k with
  | zero =>
    intro i hi r c hr hl hz c0 c1 he
    have : i = x.length := by omega
    subst this
    rw [List.take_length] at he
    rw [g72_L4_eq, ifd_f (by omega), e88 hr (by omega), Option.bind_some, borrow_end hx hy hr hl hxy c0 c1 he]
  | succ k ih =>
    intro i hi r c hr hl hz c0 c1 he
    have hxi := hx.getD i
    have hyi := hy.getD i
    rw [g72_L4_eq, ifd_t (by omega), ifdd_t (by omega) (by omega), e83 hy (by omega), Option.bind_some]
    dsimp only
    rw [Int.toNat_natCast, e92 hxi hyi ⟨c0, c1⟩, Option.bind_some, ifdd_t (by omega) (by omega), wi64 (by omega) (by omega)]
    refine ih (i + 1) (by omega) _ _ (hr.set (by omega) (by omega)) (by simp [hl]) (fun j hj => ?_) (by dsimp only; split <;> omega) (by dsimp only; split <;> omega) ?_
    · rw [getD_set_ne (by omega)]
      exact hz j (by omega)
    · rw [V_set (by omega), hz i (by omega), V_take_succ, V_take_succ, P_succ]
      exact borrow_step he (by dsimp only; split <;> omega)
theorem s72 : SigOk Try.prog 72 ⟨[.sl (.int .u32), .sl (.int .u32)], [.sl (.int .u32)], h72⟩ := ok72 fun (x : List Int × List Int × Unit) r h => by
  obtain ⟨⟨⟨wa, la⟩, ⟨wb, lb⟩, hab⟩, rfl⟩ := when_some h
  obtain ⟨a, b, u⟩ := x
  simp only at wa la wb lb hab
  show g72 (a, b, ()) = some (D (V a - V b), ())
  rw [g72_eq, ifddd_t (by omega) (by omega) (by omega), List.length_replicate, Int.toNat_natCast]
  exact L72 a b wa wb hab la _ 0 (Nat.zero_add _) _ 0 (W.replicate _) (by simp) (fun j _ => getD_replicate _ _) (by omega) (by omega) (by simp [V_replicate, V])

theorem L63 (x y : List Int) (hx : W x) (hy : W y) (hxy : V y ≤ V x) (hn : x.length < 4194304) : ∀ k i : Nat, i + k = x.length → ∀ (r : List Int) (c : Int), W r → r.length = x.length → (∀ j, i ≤ j → r.getD j 0 = 0) → 0 ≤ c → c ≤ 1 → V r - P i * c = V (x.take i) - V (y.take i) → g63_L4 x y c (i : Int) r = some (D (V x - V y), ()) := by
  intro k
  induction k with
  | zero =>
    intro i hi r c hr hl hz c0 c1 he
    have : i = x.length := by omega
    subst this
    rw [List.take_length] at he
    rw [g63_L4_eq, ifd_f (by omega), e74 hr (by omega), Option.bind_some, borrow_end hx hy hr hl hxy c0 c1 he]
  | succ k ih =>
    intro i hi r c hr hl hz c0 c1 he
    have hxi := hx.getD i
    have hyi := hy.getD i
    rw [g63_L4_eq, ifd_t (by omega), ifdd_t (by omega) (by omega), e82 hy (by omega), Option.bind_some]
    dsimp only
    rw [Int.toNat_natCast, ifdd_t (by omega) (by omega), wi64 (by omega) (by omega), wu64 (x := x.getD i 0) (by omega) (by omega), wu64 (x := 4294967296 + x.getD i 0) (by omega) (by omega), wu64 (x := 4294967296 + x.getD i 0 - y.getD i 0) (by omega) (by omega), wu64 (x := 4294967296 + x.getD i 0 - y.getD i 0 - c) (by omega) (by omega), tm (by omega), td (by omega), wu64 (x := (4294967296 + x.getD i 0 - y.getD i 0 - c) / 4294967296) (by omega) (by omega), wu64 (by omega) (by omega), wu32 (by omega) (by omega)]
    refine ih (i + 1) (by omega) _ _ (hr.set (by omega) (by omega)) (by simp [hl]) (fun j hj => ?_) (by omega) (by omega) ?_
    · rw [getD_set_ne (by omega)]
      exact hz j (by omega)
    · rw [V_set (by omega), hz i (by omega), V_take_succ, V_take_succ, P_succ]
      exact borrow_step he (by omega)
theorem s63 : SigOk Try.prog 63 ⟨[.sl (.int .u32), .sl (.int .u32)], [.sl (.int .u32)], h63⟩ := ok63 fun (x : List Int × List Int × Unit) r h => by
  obtain ⟨⟨⟨wa, la⟩, ⟨wb, lb⟩, hab⟩, rfl⟩ := when_some h
  obtain ⟨a, b, u⟩ := x
  simp only at wa la wb lb hab
  show g63 (a, b, ()) = some (D (V a - V b), ())
  rw [g63_eq, ifddd_t (by omega) (by omega) (by omega), Int.toNat_natCast]
  exact L63 a b wa wb hab la _ 0 (Nat.zero_add _) _ 0 (W.replicate _) (by simp) (fun j _ => getD_replicate _ _) (by omega) (by omega) (by simp [V_replicate, V])

/-! ### Products -/
noncomputable def h73 : DL [.sl (.int .u32), .sl (.int .u32)] → Option (DL [.sl (.int .u32)]) := fun (x : List Int × List Int × Unit) => when (Wl x.1 ∧ Wl x.2.1) (D (V x.1 * V x.2.1), ())
noncomputable def h49 : DL [.sl (.int .u32), .sl (.int .u32)] → Option (DL [.sl (.int .u32)]) := h73

theorem mul_lt32 {a b : Int} (h1 : 0 ≤ a) (h2 : a < 4294967296) (h3 : 0 ≤ b) (h4 : b < 4294967296) : 0 ≤ a * b ∧ a * b ≤ 18446744065119617025 := by
  have h5 := Int.mul_nonneg h1 h3
  have h6 : a * b ≤ 4294967295 * 4294967295 := Int.mul_le_mul (by omega) (by omega) h3 (by omega)
  omega
theorem mul_step {a b c r t q Vr A B p pk : Int} (h : Vr + p * pk * c = A + a * p * B) (e : t + 4294967296 * q = c + a * b + r) : Vr + (t - r) * (p * pk) + p * (4294967296 * pk) * q = A + a * p * (B + pk * b) := by grind

theorem L73 (x y : List Int) (hx : W x) (hy : W y) (hlx : x.length < 4194304) (hly : y.length < 4194304) : ∀ m i : Nat, i + m = x.length → ∀ r : List Int, W r → r.length = x.length + y.length → (∀ j, i + y.length ≤ j → r.getD j 0 = 0) → V r = V (x.take i) * V y → g73_L3 y x (x.length : Int) (i : Int) r = some (D (V x * V y), ()) := by
  intro m
  induction m with
  | zero =>
    intro i hi r hr hl hz he
    have : i = x.length := by omega
    subst this
    rw [List.take_length] at he
    rw [g73_L3_eq, ifd_f (by omega), e88 hr (by omega), Option.bind_some, he]
  | succ m ih =>
    intro i hi r hr hl hz he
    have hxi := hx.getD i
    rw [g73_L3_eq, ifd_t (by omega), ifdd_t (by omega) (by omega), Int.toNat_natCast]
    have inner : ∀ k j : Nat, j + k = y.length → ∀ (r : List Int) (c : Int), W r → r.length = x.length + y.length → (∀ l, i + y.length ≤ l → r.getD l 0 = 0) → 0 ≤ c → c < 4294967296 → V r + P (i + j) * c = V (x.take i) * V y + x.getD i 0 * P i * V (y.take j) → g73_L7 y (i : Int) (x.getD i 0) c x (x.length : Int) (i : Int) y (y.length : Int) (j : Int) r = some (D (V x * V y), ()) := by
      intro k
      induction k with
      | zero =>
        intro j hj r c hr hl hz c0 c1 he
        have : j = y.length := by omega
        subst this
        rw [List.take_length] at he
        rw [g73_L7_eq, ifd_f (by omega), wi64 (x := (i : Int) + (y.length : Int)) (by omega) (by omega), ifdd_t (by omega) (by omega), wi64 (by omega) (by omega), wu32 c0 c1]
        rw [show Int.toNat ((i : Int) + (y.length : Int)) = i + y.length by omega]
        refine ih (i + 1) (by omega) _ (hr.set c0 c1) (by simp [hl]) (fun l hl' => ?_) ?_
        · rw [getD_set_ne (by omega)]
          exact hz l (by omega)
        · rw [V_set (by omega), hz _ (by omega), V_take_succ, P_add]
          rw [P_add] at he
          clear ih hz hr hxi
          grind
      | succ k ih2 =>
        intro j hj r c hr hl hz c0 c1 he
        have hyj := hy.getD j
        have hrj := hr.getD (i + j)
        have hm := mul_lt32 hxi.1 hxi.2 hyj.1 hyj.2
        rw [g73_L7_eq, ifd_t (by omega), ifdd_t (by omega) (by omega), wi64 (x := (i : Int) + (j : Int)) (by omega) (by omega), ifdd_t (by omega) (by omega), ifdd_t (by omega) (by omega), wi64 (x := (j : Int) + 1) (by omega) (by omega)]
        rw [show Int.toNat ((i : Int) + (j : Int)) = i + j by omega, Int.toNat_natCast, wu64 (x := x.getD i 0) (by omega) (by omega), wu64 (x := y.getD j 0) (by omega) (by omega), wu64 (x := r.getD (i + j) 0) (by omega) (by omega), wu64 (x := x.getD i 0 * y.getD j 0) (by omega) (by omega), wu64 (x := x.getD i 0 * y.getD j 0 + r.getD (i + j) 0) (by omega) (by omega), wu64 (x := c + (x.getD i 0 * y.getD j 0 + r.getD (i + j) 0)) (by omega) (by omega), fd (by omega), IntKind.wrap_u32]
        refine ih2 (j + 1) (by omega) _ _ (hr.set (by omega) (by omega)) (by simp [hl]) (fun l hl' => ?_) (by omega) (by omega) ?_
        · rw [getD_set_ne (by omega)]
          exact hz l (by omega)
        · rw [V_set (by omega), V_take_succ, ← Nat.add_assoc, P_succ, P_add, Int.mul_left_comm 4294967296, Int.mul_assoc (P i)]
          rw [P_add] at he
          have := mul_step he (show (c + (x.getD i 0 * y.getD j 0 + r.getD (i + j) 0)) % 4294967296 + 4294967296 * ((c + (x.getD i 0 * y.getD j 0 + r.getD (i + j) 0)) / 4294967296) = c + x.getD i 0 * y.getD j 0 + r.getD (i + j) 0 by omega)
          rw [Int.mul_assoc (P i)] at this
          exact this
    exact inner _ 0 (Nat.zero_add _) r 0 hr hl (fun l hl' => hz l (by omega)) (by omega) (by omega) (by simp [V, he])
theorem s73 : SigOk Try.prog 73 ⟨[.sl (.int .u32), .sl (.int .u32)], [.sl (.int .u32)], h73⟩ := ok73 fun (x : List Int × List Int × Unit) r h => by
  obtain ⟨⟨⟨wa, la⟩, wb, lb⟩, rfl⟩ := when_some h
  obtain ⟨a, b, u⟩ := x
  simp only at wa la wb lb
  show g73 (a, b, ()) = some (D (V a * V b), ())
  rw [g73_eq, wi64 (by omega) (by omega), ifddd_t (by omega) (by omega) (by omega), show Int.toNat ((a.length : Int) + (b.length : Int)) = a.length + b.length by omega]
  exact L73 a b wa wb la lb _ 0 (Nat.zero_add _) _ (W.replicate _) (by simp) (fun j _ => getD_replicate _ _) (by simp [V_replicate, V])

theorem L49 (x y : List Int) (hx : W x) (hy : W y) (hlx : x.length < 4194304) (hly : y.length < 4194304) : ∀ m i : Nat, i + m = x.length → ∀ r : List Int, W r → r.length = x.length + y.length → (∀ j, i + y.length ≤ j → r.getD j 0 = 0) → V r = V (x.take i) * V y → g49_L3 x y (i : Int) r = some (D (V x * V y), ()) := by
  intro m
  induction m with
  | zero =>
    intro i hi r hr hl hz he
    have : i = x.length := by omega
    subst this
    rw [List.take_length] at he
    rw [g49_L3_eq, ifd_f (by omega), e74 hr (by omega), Option.bind_some, he]
  | succ m ih =>
    intro i hi r hr hl hz he
    have hxi := hx.getD i
    rw [g49_L3_eq, ifd_t (by omega)]
    have inner : ∀ k j : Nat, j + k = y.length → ∀ (r : List Int) (c : Int), W r → r.length = x.length + y.length → (∀ l, i + y.length ≤ l → r.getD l 0 = 0) → 0 ≤ c → c < 4294967296 → V r + P (i + j) * c = V (x.take i) * V y + x.getD i 0 * P i * V (y.take j) → g49_L7 x y (i : Int) c (j : Int) r = some (D (V x * V y), ()) := by
      intro k
      induction k with
      | zero =>
        intro j hj r c hr hl hz c0 c1 he
        have : j = y.length := by omega
        subst this
        rw [List.take_length] at he
        rw [g49_L7_eq, ifd_f (by omega), wi64 (x := (i : Int) + (y.length : Int)) (by omega) (by omega), ifdd_t (by omega) (by omega), wi64 (by omega) (by omega), wu32 c0 c1]
        rw [show Int.toNat ((i : Int) + (y.length : Int)) = i + y.length by omega]
        refine ih (i + 1) (by omega) _ (hr.set c0 c1) (by simp [hl]) (fun l hl' => ?_) ?_
        · rw [getD_set_ne (by omega)]
          exact hz l (by omega)
        · rw [V_set (by omega), hz _ (by omega), V_take_succ, P_add]
          rw [P_add] at he
          clear ih hz hr hxi
          grind
      | succ k ih2 =>
        intro j hj r c hr hl hz c0 c1 he
        have hyj := hy.getD j
        have hrj := hr.getD (i + j)
        have hm := mul_lt32 hxi.1 hxi.2 hyj.1 hyj.2
        rw [g49_L7_eq, ifd_t (by omega), ifdd_t (by omega) (by omega), ifdd_t (by omega) (by omega), wi64 (x := (i : Int) + (j : Int)) (by omega) (by omega), ifdd_t (by omega) (by omega), ifdd_t (by omega) (by omega), wi64 (x := (j : Int) + 1) (by omega) (by omega)]
        rw [show Int.toNat ((i : Int) + (j : Int)) = i + j by omega, Int.toNat_natCast, Int.toNat_natCast, wu64 (x := x.getD i 0) (by omega) (by omega), wu64 (x := y.getD j 0) (by omega) (by omega), wu64 (x := r.getD (i + j) 0) (by omega) (by omega), wu64 (x := x.getD i 0 * y.getD j 0) (by omega) (by omega), wu64 (x := x.getD i 0 * y.getD j 0 + r.getD (i + j) 0) (by omega) (by omega), wu64 (x := x.getD i 0 * y.getD j 0 + r.getD (i + j) 0 + c) (by omega) (by omega), tm (by omega), td (by omega), wu64 (by omega) (by omega), wu32 (by omega) (by omega)]
        refine ih2 (j + 1) (by omega) _ _ (hr.set (by omega) (by omega)) (by simp [hl]) (fun l hl' => ?_) (by omega) (by omega) ?_
        · rw [getD_set_ne (by omega)]
          exact hz l (by omega)
        · rw [V_set (by omega), V_take_succ, ← Nat.add_assoc, P_succ, P_add, Int.mul_left_comm 4294967296, Int.mul_assoc (P i)]
          rw [P_add] at he
          have := mul_step he (show (x.getD i 0 * y.getD j 0 + r.getD (i + j) 0 + c) % 4294967296 + 4294967296 * ((x.getD i 0 * y.getD j 0 + r.getD (i + j) 0 + c) / 4294967296) = c + x.getD i 0 * y.getD j 0 + r.getD (i + j) 0 by omega)
          rw [Int.mul_assoc (P i)] at this
          exact this
    exact inner _ 0 (Nat.zero_add _) r 0 hr hl (fun l hl' => hz l (by omega)) (by omega) (by omega) (by simp [V, he])
theorem s49 : SigOk Try.prog 49 ⟨[.sl (.int .u32), .sl (.int .u32)], [.sl (.int .u32)], h49⟩ := ok49 fun (x : List Int × List Int × Unit) r h => by
  obtain ⟨⟨⟨wa, la⟩, wb, lb⟩, rfl⟩ := when_some h
  obtain ⟨a, b, u⟩ := x
  simp only at wa la wb lb
  show g49 (a, b, ()) = some (D (V a * V b), ())
  rw [g49_eq, wi64 (by omega) (by omega), ifddd_t (by omega) (by omega) (by omega), show Int.toNat ((a.length : Int) + (b.length : Int)) = a.length + b.length by omega]
  exact L49 a b wa wb la lb _ 0 (Nat.zero_add _) _ (W.replicate _) (by simp) (fun j _ => getD_replicate _ _) (by simp [V_replicate, V])

/-! ### Division by one word -/
theorem drop_set_self {l : List Int} {i : Nat} {w : Int} (h : i < l.length) : V ((l.set i w).drop i) = w + 4294967296 * V (l.drop (i + 1)) := by
  rw [V_drop (by simpa using h), getD_set_eq h, List.drop_set_of_lt (by omega)]
theorem div_end {v d q r : Int} (h : v = d * q + r) (h0 : 0 ≤ r) (h1 : r < d) : v / d = q ∧ v % d = r := by
  have := Int.ediv_emod_unique (a := v) (b := d) (r := r) (q := q) (by omega)
  exact this.2 ⟨by rw [h]; omega, h0, h1⟩
theorem word_step {a d q r A Q t : Int} (h : A = d * Q + r) (e : t = r * 4294967296 + a) (hq : q = t / d) : a + 4294967296 * A = d * (q + 4294967296 * Q) + t % d := by
  have := Int.mul_ediv_add_emod t d
  rw [← hq] at this
  clear hq
  grind

noncomputable def h84 : DL [.sl (.int .u32), .int .u64] → Option (DL [.sl (.int .u32), .int .u64]) := fun (x : List Int × Int × Unit) => when (Wl x.1 ∧ 0 < x.2.1 ∧ x.2.1 < 4294967296) (D (V x.1 / x.2.1), (V x.1 % x.2.1, ()))
noncomputable def h93 : DL [.sl (.int .u32), .int .u32] → Option (DL [.sl (.int .u32), .int .u32]) := fun (x : List Int × Int × Unit) => when (Wl x.1 ∧ 0 < x.2.1 ∧ x.2.1 < 4294967296) (D (V x.1 / x.2.1), (V x.1 % x.2.1, ()))

theorem quot_word {r a d : Int} (r0 : 0 ≤ r) (r1 : r < d) (a0 : 0 ≤ a) (a1 : a < 4294967296) : 0 ≤ (r * 4294967296 + a) / d ∧ (r * 4294967296 + a) / d < 4294967296 ∧ 0 ≤ (r * 4294967296 + a) % d ∧ (r * 4294967296 + a) % d < d :=
  ⟨Int.ediv_nonneg (by omega) (by omega), Int.ediv_lt_of_lt_mul (by omega) (by omega), Int.emod_nonneg _ (by omega), Int.emod_lt_of_pos _ (by omega)⟩

theorem L84 (x : List Int) (d : Int) (hx : W x) (hl : x.length < 4194304) (d0 : 0 < d) (d1 : d < 4294967296) : ∀ i : Nat, i ≤ x.length → ∀ (r : List Int) (c : Int), W r → r.length = x.length → 0 ≤ c → c < d → V (x.drop i) = d * V (r.drop i) + c → g84_L4 x d c ((i : Int) - 1) r = some (D (V x / d), (V x % d, ())) := by
  intro i
  induction i with
  | zero =>
    intro hi r c hr hrl c0 c1 he
    simp only [List.drop_zero] at he
    obtain ⟨e1, e2⟩ := div_end he c0 c1
    rw [g84_L4_eq, ifd_f (by omega), e74 hr (by omega), Option.bind_some, e1, e2]
  | succ i ih =>
    intro hi r c hr hrl c0 c1 he
    have hxi := hx.getD i
    have hq := quot_word c0 c1 hxi.1 hxi.2
    rw [show ((i + 1 : Nat) : Int) - 1 = (i : Int) by omega, g84_L4_eq, ifd_t (by omega), ifdd_t (by omega) (by omega), ife_f (by omega), ifdd_t (by omega) (by omega), ife_f (by omega), Int.toNat_natCast]
    rw [wu64 (x := c * 4294967296) (by omega) (by omega), wu64 (x := x.getD i 0) (by omega) (by omega), wu64 (x := c * 4294967296 + x.getD i 0) (by omega) (by omega), td (by omega), tm (by omega), wu64 hq.1 (by omega), wu32 hq.1 hq.2.1, wi64 (by omega) (by omega)]
    refine ih (by omega) _ _ (hr.set hq.1 hq.2.1) (by simp [hrl]) hq.2.2.1 hq.2.2.2 ?_
    rw [drop_set_self (by omega), V_drop (by omega)]
    exact word_step he rfl rfl
theorem s84 : SigOk Try.prog 84 ⟨[.sl (.int .u32), .int .u64], [.sl (.int .u32), .int .u64], h84⟩ := ok84 fun (x : List Int × Int × Unit) r h => by
  obtain ⟨⟨⟨wa, la⟩, d0, d1⟩, rfl⟩ := when_some h
  obtain ⟨a, d, u⟩ := x
  simp only at wa la d0 d1
  show g84 (a, d, ()) = some (D (V a / d), (V a % d, ()))
  rw [g84_eq, ifddd_t (by omega) (by omega) (by omega), Int.toNat_natCast, wi64 (by omega) (by omega)]
  exact L84 a d wa la d0 d1 _ (Nat.le_refl _) _ 0 (W.replicate _) (by simp) (by omega) d0 (by simp [V])

theorem L93 (x : List Int) (d : Int) (hx : W x) (hl : x.length < 4194304) (d0 : 0 < d) (d1 : d < 4294967296) : ∀ i : Nat, i ≤ x.length → ∀ (r : List Int) (c : Int), W r → r.length = x.length → 0 ≤ c → c < d → V (x.drop i) = d * V (r.drop i) + c → g93_L4 x d c (x.length : Int) (x.length - i : Int) r = some (D (V x / d), (V x % d, ())) := by
  intro i
  induction i with
  | zero =>
    intro hi r c hr hrl c0 c1 he
    simp only [List.drop_zero] at he
    obtain ⟨e1, e2⟩ := div_end he c0 c1
    rw [g93_L4_eq, ifd_f (by omega), e88 hr (by omega), Option.bind_some, e1, e2]
  | succ i ih =>
    intro hi r c hr hrl c0 c1 he
    have hxi := hx.getD i
    have hq := quot_word c0 c1 hxi.1 hxi.2
    have ei : IntKind.wrap .i64 (IntKind.wrap .i64 ((x.length : Int) - 1) - ((x.length : Int) - ((i + 1 : Nat) : Int))) = (i : Int) := by
      rw [wi64 (x := (x.length : Int) - 1) (by omega) (by omega), wi64 (by omega) (by omega)]
      omega
    rw [g93_L4_eq, ei, ifd_t (by omega), ifdd_t (by omega) (by omega), Int.toNat_natCast, e103 ⟨c0, c1⟩ hxi d1, Option.bind_some, ifdd_t (by omega) (by omega), wi64 (by omega) (by omega)]
    have := ih (by omega) (r.set i ((c * 4294967296 + x.getD i 0) / d)) ((c * 4294967296 + x.getD i 0) % d) (hr.set hq.1 hq.2.1) (by simp [hrl]) hq.2.2.1 hq.2.2.2 (by
      rw [drop_set_self (by omega), V_drop (by omega)]
      exact word_step he rfl rfl)
    rw [show (x.length : Int) - ((i + 1 : Nat) : Int) + 1 = (x.length : Int) - (i : Int) by omega]
    exact this
theorem s93 : SigOk Try.prog 93 ⟨[.sl (.int .u32), .int .u32], [.sl (.int .u32), .int .u32], h93⟩ := ok93 fun (x : List Int × Int × Unit) r h => by
  obtain ⟨⟨⟨wa, la⟩, d0, d1⟩, rfl⟩ := when_some h
  obtain ⟨a, d, u⟩ := x
  simp only at wa la d0 d1
  show g93 (a, d, ()) = some (D (V a / d), (V a % d, ()))
  rw [g93_eq, ifddd_t (by omega) (by omega) (by omega), Int.toNat_natCast]
  have := L93 a d wa la d0 d1 _ (Nat.le_refl _) (List.replicate a.length 0) 0 (W.replicate _) (by simp) (by omega) d0 (by simp [V])
  rw [show (a.length : Int) - (a.length : Int) = 0 by omega] at this
  exact this
end Go.Refl.S3
