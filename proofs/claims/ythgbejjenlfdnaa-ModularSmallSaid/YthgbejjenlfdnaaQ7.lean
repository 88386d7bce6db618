/-
  One digit of a long quotient in the reference: guessed, taken away, restored.
-/
import Derived.Test.YthgbejjenlfdnaaQ6
set_option linter.unusedVariables false
set_option linter.unusedSimpArgs false
set_option maxRecDepth 100000
namespace Go.Refl.S3
open Go Go.Refl Go.Proofs

/-! ### Guessing -/
theorem up2 {p v : List Int} {k : Nat} (hp : W p) (hv : W v) (lp : p.length = k + 3) (lv : v.length = k + 2) (ht : 0 < v.getD (k + 1) 0) {q : Int} (hq0 : 0 ≤ q) (hq : q < 4294967296)
    (h : q * (v.getD k 0 + 4294967296 * v.getD (k + 1) 0) ≤ p.getD k 0 + 4294967296 * (p.getD (k + 1) 0 + 4294967296 * p.getD (k + 2) 0)) : q ≤ V p / V v + 1 := by
  have e1 : V p = V (p.take k) + P k * (p.getD k 0 + 4294967296 * (p.getD (k + 1) 0 + 4294967296 * p.getD (k + 2) 0)) := by
    conv => lhs; rw [← List.take_of_length_le (show p.length ≤ k + 2 + 1 by omega)]
    simp only [V_take_succ, P_succ]
    generalize p.getD k 0 = a; generalize p.getD (k + 1) 0 = b; generalize p.getD (k + 2) 0 = c; generalize P k = d; generalize V (p.take k) = e
    clear hp hv lp lv h
    grind
  have e2 : V v = V (v.take k) + P k * (v.getD k 0 + 4294967296 * v.getD (k + 1) 0) := by
    conv => lhs; rw [← List.take_of_length_le (show v.length ≤ k + 1 + 1 by omega)]
    simp only [V_take_succ, P_succ]
    generalize v.getD k 0 = a; generalize v.getD (k + 1) 0 = b; generalize P k = d; generalize V (v.take k) = e
    clear e1 hp hv lp lv h
    grind
  have h1 := V_nonneg (hp.take k)
  have h2 := V_lt (hv.take k)
  rw [List.length_take, Nat.min_eq_left (by omega)] at h2
  have h2' := V_nonneg (hv.take k)
  have hk := P_pos k
  have hvk := hv.getD k
  have hvv : 4294967296 ≤ v.getD k 0 + 4294967296 * v.getD (k + 1) 0 := by omega
  generalize v.getD k 0 + 4294967296 * v.getD (k + 1) 0 = Y at *
  generalize p.getD k 0 + 4294967296 * (p.getD (k + 1) 0 + 4294967296 * p.getD (k + 2) 0) = X at *
  have h3 : P k * 4294967296 ≤ P k * Y := Int.mul_le_mul_of_nonneg_left hvv (by omega)
  have hvp : 0 < V v := by omega
  have h4 : q * V (v.take k) ≤ q * P k := Int.mul_le_mul_of_nonneg_left (by omega) hq0
  have h5 : q * P k ≤ 4294967295 * P k := Int.mul_le_mul_of_nonneg_right (by omega) (by omega)
  have h6 : P k * (q * Y) ≤ P k * X := Int.mul_le_mul_of_nonneg_left h (by omega)
  have h7 : (q - 1) * V v ≤ V p := by
    have : (q - 1) * V v = q * V (v.take k) + P k * (q * Y) - V v := by
      rw [Int.sub_mul, Int.one_mul]
      have : q * V v = q * V (v.take k) + P k * (q * Y) := by rw [e2]; grind
      omega
    omega
  have := (Int.le_ediv_iff_mul_le hvp).2 h7
  omega

theorem up1 {p v : List Int} {k : Nat} (hp : W p) (hv : W v) (lp : p.length = k + 3) (lv : v.length = k + 2) (ht : 0 < v.getD (k + 1) 0) {q : Int} (hq0 : 0 ≤ q) (hq : q ≤ 4294967296)
    (h : 4294967296 ≤ p.getD (k + 1) 0 + 4294967296 * p.getD (k + 2) 0 - q * v.getD (k + 1) 0) : q ≤ V p / V v := by
  have e1 : V p = V (p.take (k + 1)) + P (k + 1) * (p.getD (k + 1) 0 + 4294967296 * p.getD (k + 2) 0) := by
    conv => lhs; rw [← List.take_of_length_le (show p.length ≤ k + 2 + 1 by omega)]
    rw [V_take_succ, V_take_succ, P_succ (k + 1)]
    generalize p.getD (k + 1) 0 = b; generalize p.getD (k + 2) 0 = c; generalize P (k + 1) = d; generalize V (p.take (k + 1)) = e
    clear hp hv lp lv h
    grind
  have h2 := (V_top hv lv).2
  have h1 := V_nonneg (hp.take (k + 1))
  have hk := P_pos (k + 1)
  have hvp : 0 < V v := by
    have h1 := (V_top hv lv).1
    have h2 := Int.mul_pos hk ht
    omega
  generalize v.getD (k + 1) 0 = Y at *
  generalize p.getD (k + 1) 0 + 4294967296 * p.getD (k + 2) 0 = X at *
  have h3 : q * V v ≤ q * (P (k + 1) * (Y + 1)) := Int.mul_le_mul_of_nonneg_left (by omega) hq0
  have h4 : P (k + 1) * (q * Y + q) ≤ P (k + 1) * X := Int.mul_le_mul_of_nonneg_left (by omega) (by omega)
  have h5 : q * (P (k + 1) * (Y + 1)) = P (k + 1) * (q * Y + q) := by grind
  exact (Int.le_ediv_iff_mul_le hvp).2 (by omega)

/-- What is asked of a part and a divisor that is made great. -/
def OkPart (p v : List Int) : Prop := W p ∧ W v ∧ 2 ≤ v.length ∧ v.length < 4194304 ∧ p.length = v.length + 1 ∧ 2147483648 ≤ v.getD (v.length - 1) 0 ∧ V p < V v * 4294967296

theorem L85 (p v : List Int) (k : Nat) (hp : W p) (hv : W v) (lp : p.length = k + 3) (lv : v.length = k + 2) (hk : k < 4194304) (ht : 2147483648 ≤ v.getD (k + 1) 0) (hlt : V p < V v * 4294967296) : ∀ m : Nat, ∀ q r : Int, q = V p / V v + m → q ≤ 4294967297 → 0 ≤ r → r < 4294967296 → r = p.getD (k + 1) 0 + 4294967296 * p.getD (k + 2) 0 - q * v.getD (k + 1) 0 →
    ∃ d : Int, g85_L5 p v ((k + 2 : Nat) : Int) q r = some (d, ()) ∧ V p / V v ≤ d ∧ d ≤ V p / V v + 1 ∧ d ≤ 4294967296 := by
  have hvp : 0 < V v := by
    have h1 := (V_top hv lv).1
    have h2 := Int.mul_pos (P_pos (k + 1)) (show 0 < v.getD (k + 1) 0 by omega)
    omega
  have hpn := V_nonneg hp
  have q0 : 0 ≤ V p / V v := Int.ediv_nonneg hpn (by omega)
  have q1 : V p / V v < 4294967296 := Int.ediv_lt_of_lt_mul hvp (by rw [Int.mul_comm]; exact hlt)
  have hv1 := hv.getD (k + 1)
  have hv2 := hv.getD k
  have hp2 := hp.getD k
  have E2 := est2 hp hv lp lv q0 (Int.ediv_mul_le _ (by omega))
  intro m
  induction m with
  | zero =>
    intro q r hq hq2 r0 r1 hr
    have hqQ : q = V p / V v := by omega
    have hm := mul_lt32 q0 q1 hv2.1 hv2.2
    rw [← hqQ] at hm E2
    rw [Int.mul_add] at E2
    have e : q * (4294967296 * v.getD (k + 1) 0) = 4294967296 * (q * v.getD (k + 1) 0) := by grind
    rw [g85_L5_eq, ifd_f (by omega), wi64 (x := ((k + 2 : Nat) : Int) - 2) (by omega) (by omega), ifdd_t (by omega) (by omega), ifdd_t (by omega) (by omega), show Int.toNat (((k + 2 : Nat) : Int) - 2) = k by omega]
    rw [wu64 (x := v.getD k 0) (by omega) (by omega), wu64 (x := p.getD k 0) (by omega) (by omega), wu64 (x := r * 4294967296) (by omega) (by omega), wu64 (x := q * v.getD k 0) (by omega) (by omega), wu64 (x := r * 4294967296 + p.getD k 0) (by omega) (by omega), ifd_f (by omega)]
    have hlt' : q < 4294967296 := by rw [hqQ]; exact q1
    exact ⟨q, rfl, Int.le_of_eq hqQ.symm, by rw [hqQ]; exact Int.le_add_of_nonneg_right (by decide), Int.le_of_lt hlt'⟩
  | succ m ih =>
    intro q r hq hq2 r0 r1 hr
    have step : ∃ d : Int, (if (decide ((IntKind.wrap .u64 (r + (IntKind.wrap .u64 (List.getD v (Int.toNat (IntKind.wrap .i64 (((k + 2 : Nat) : Int) - 1))) 0)))) ≥ 4294967296)) = true then
        some ((IntKind.wrap .u64 (q - 1)), ())
      else (g85_L5 p v ((k + 2 : Nat) : Int) (IntKind.wrap .u64 (q - 1)) (IntKind.wrap .u64 (r + (IntKind.wrap .u64 (List.getD v (Int.toNat (IntKind.wrap .i64 (((k + 2 : Nat) : Int) - 1))) 0)))))) = some (d, ()) ∧ V p / V v ≤ d ∧ d ≤ V p / V v + 1 ∧ d ≤ 4294967296 := by
      rw [wi64 (x := ((k + 2 : Nat) : Int) - 1) (by omega) (by omega), show Int.toNat (((k + 2 : Nat) : Int) - 1) = k + 1 by omega, wu64 (x := v.getD (k + 1) 0) (by omega) (by omega), wu64 (x := r + v.getD (k + 1) 0) (by omega) (by omega), wu64 (x := q - 1) (by omega) (by omega)]
      have hr' : r + v.getD (k + 1) 0 = p.getD (k + 1) 0 + 4294967296 * p.getD (k + 2) 0 - (q - 1) * v.getD (k + 1) 0 := by
        rw [Int.sub_mul]
        omega
      by_cases h1 : r + v.getD (k + 1) 0 ≥ 4294967296
      · rw [ifd_t h1]
        have := up1 hp hv lp lv (by omega) (q := q - 1) (by omega) (by omega) (by omega)
        exact ⟨q - 1, rfl, by omega, by omega, by omega⟩
      · rw [ifd_f h1]
        exact ih (q - 1) (r + v.getD (k + 1) 0) (by omega) (by omega) (by omega) (by omega) hr'
    rw [g85_L5_eq]
    by_cases h0 : q ≥ 4294967296
    · rw [ifd_t h0, ifdd_t (by rw [wi64 (by omega) (by omega)]; omega) (by rw [wi64 (by omega) (by omega)]; omega)]
      exact step
    · have hm := mul_lt32 (show 0 ≤ q by omega) (by omega) hv2.1 hv2.2
      have hi : 0 ≤ IntKind.wrap .i64 (((k + 2 : Nat) : Int) - 1) ∧ IntKind.wrap .i64 (((k + 2 : Nat) : Int) - 1) < (v.length : Int) := by rw [wi64 (by omega) (by omega)]; omega
      rw [ifd_f h0, wi64 (x := ((k + 2 : Nat) : Int) - 2) (by omega) (by omega), ifdd_t (by omega) (by omega), ifdd_t (by omega) (by omega), show Int.toNat (((k + 2 : Nat) : Int) - 2) = k by omega]
      rw [wu64 (x := v.getD k 0) (by omega) (by omega), wu64 (x := p.getD k 0) (by omega) (by omega), wu64 (x := r * 4294967296) (by omega) (by omega), wu64 (x := q * v.getD k 0) (by omega) (by omega), wu64 (x := r * 4294967296 + p.getD k 0) (by omega) (by omega)]
      by_cases h2 : q * v.getD k 0 > r * 4294967296 + p.getD k 0
      · rw [ifd_t h2, ifdd_t hi.1 hi.2]
        exact step
      · rw [ifd_f h2]
        have := up2 hp hv lp lv (by omega) (q := q) (by omega) (by omega) (by
          rw [Int.mul_add]
          have e : q * (4294967296 * v.getD (k + 1) 0) = 4294967296 * (q * v.getD (k + 1) 0) := by grind
          omega)
        exact ⟨q, rfl, by rw [hq]; exact Int.le_add_of_nonneg_right (Int.natCast_nonneg _), this, Int.le_of_lt (Int.not_le.1 h0)⟩

open Classical in
noncomputable def h85 : DL [.sl (.int .u32), .sl (.int .u32)] → Option (DL [.int .u64]) := fun (x : List Int × List Int × Unit) => if OkPart x.1 x.2.1 then g85 x else none
theorem s85 : SigOk Try.prog 85 ⟨[.sl (.int .u32), .sl (.int .u32)], [.int .u64], h85⟩ := leaf (an := an85) Try.func85 rfl rfl fun (x : List Int × List Int × Unit) r h => by
  unfold h85 at h
  split at h
  · exact h
  · cases h
theorem e85 {p v : List Int} (h : OkPart p v) : ∃ d : Int, h85 (p, (v, ())) = some (d, ()) ∧ V p / V v ≤ d ∧ d ≤ V p / V v + 1 ∧ d ≤ 4294967296 := by
  have e : h85 (p, (v, ())) = g85 (p, (v, ())) := if_pos h
  obtain ⟨hp, hv, hv2, hvl, hpl, ht, hlt⟩ := h
  obtain ⟨k, hk⟩ : ∃ k, v.length = k + 2 := ⟨v.length - 2, by omega⟩
  rw [hk, show k + 2 - 1 = k + 1 by omega] at ht
  have hv1 := hv.getD (k + 1)
  have hu1 := hp.getD (k + 1)
  have hu0 := hp.getD (k + 2)
  have hu2 := hp.getD k
  have hv2' := hv.getD k
  have hvp : 0 < V v := by
    have h1 := (V_top hv hk).1
    have h2 := Int.mul_pos (P_pos (k + 1)) (show 0 < v.getD (k + 1) 0 by omega)
    omega
  have hpn := V_nonneg hp
  have q0 : 0 ≤ V p / V v := Int.ediv_nonneg hpn (by omega)
  have E2 := est2 hp hv (by omega) hk q0 (Int.ediv_mul_le _ (by omega))
  have E1 := est1 q0 hv2'.1 hu2.2 E2
  have hu : p.getD (k + 2) 0 ≤ v.getD (k + 1) 0 := by
    have h1 := (V_top hp (n := k + 2) (by omega)).1
    have h2 := (V_top hv hk).2
    have h3 := P_succ (k + 1)
    have h4 := P_pos (k + 1)
    have h5 : P (k + 1) * (4294967296 * p.getD (k + 2) 0) < P (k + 1) * (4294967296 * (v.getD (k + 1) 0 + 1)) := by
      have e1 : P (k + 1) * (4294967296 * p.getD (k + 2) 0) = P (k + 2) * p.getD (k + 2) 0 := by rw [h3]; grind
      have e2 : P (k + 1) * (4294967296 * (v.getD (k + 1) 0 + 1)) = P (k + 1) * (v.getD (k + 1) 0 + 1) * 4294967296 := by grind
      omega
    have := Int.lt_of_mul_lt_mul_left h5 (by omega)
    omega
  have hX0 : 0 ≤ p.getD (k + 2) 0 * 4294967296 + p.getD (k + 1) 0 := by omega
  have hq0 : 0 ≤ (p.getD (k + 2) 0 * 4294967296 + p.getD (k + 1) 0) / v.getD (k + 1) 0 := Int.ediv_nonneg hX0 (by omega)
  have hq1 : (p.getD (k + 2) 0 * 4294967296 + p.getD (k + 1) 0) / v.getD (k + 1) 0 < 4294967298 := Int.ediv_lt_of_lt_mul (by omega) (by omega)
  have m0 := Int.emod_nonneg (p.getD (k + 2) 0 * 4294967296 + p.getD (k + 1) 0) (show v.getD (k + 1) 0 ≠ 0 by omega)
  have m1 := Int.emod_lt_of_pos (p.getD (k + 2) 0 * 4294967296 + p.getD (k + 1) 0) (show 0 < v.getD (k + 1) 0 by omega)
  have me := Int.mul_ediv_add_emod (p.getD (k + 2) 0 * 4294967296 + p.getD (k + 1) 0) (v.getD (k + 1) 0)
  have hle : V p / V v ≤ (p.getD (k + 2) 0 * 4294967296 + p.getD (k + 1) 0) / v.getD (k + 1) 0 := (Int.le_ediv_iff_mul_le (by omega)).2 (by omega)
  rw [e, g85_eq, hk, ifdd_t (by omega) (by omega), wi64 (x := ((k + 2 : Nat) : Int) - 1) (by omega) (by omega), ifdd_t (by omega) (by omega), ifdd_t (by omega) (by omega), show Int.toNat (((k + 2 : Nat) : Int) - 1) = k + 1 by omega, Int.toNat_natCast]
  rw [wu64 (x := v.getD (k + 1) 0) (by omega) (by omega), ife_f (by omega), ifdd_t (by omega) (by omega), ife_f (by omega), wu64 (x := p.getD (k + 2) 0) (by omega) (by omega), wu64 (x := p.getD (k + 1) 0) (by omega) (by omega), wu64 (x := p.getD (k + 2) 0 * 4294967296) (by omega) (by omega), wu64 (x := p.getD (k + 2) 0 * 4294967296 + p.getD (k + 1) 0) (by omega) (by omega), td hX0, tm hX0, wu64 hq0 (by omega)]
  refine L85 p v k hp hv (by omega) hk (by omega) (by omega) hlt ((p.getD (k + 2) 0 * 4294967296 + p.getD (k + 1) 0) / v.getD (k + 1) 0 - V p / V v).toNat _ _ (by omega) (by omega) m0 (by omega) ?_
  rw [Int.mul_comm] at me
  omega

/-! ### Taking away, restoring -/
theorem L86 (A C v : List Int) (hv : W v) (k : Nat) (hlv : v.length = k + 2) (hk : k < 4194304) (p0 : List Int) (hp0 : W p0) (dg : Int) (d0 : 0 ≤ dg) (d1 : dg ≤ 4294967296) : ∀ m i : Nat, i + m = k + 3 → ∀ (p : List Int) (c b : Int), W p → p.length = k + 3 → 0 ≤ c → c < 4294967296 → (k + 2 < i → c = 0) → 0 ≤ b → b ≤ 1 → V p = V p0 - dg * V (v.take i) + P i * (c + b) →
    ∃ p' b', W p' ∧ p'.length = k + 3 ∧ 0 ≤ b' ∧ b' ≤ 1 ∧ V p' - P (k + 3) * b' = V p0 - dg * V v ∧ g86_L4 A.length (k + 3) v dg c b (i : Int) (A ++ (p ++ C)) = some (((b' == 1), ()), A ++ (p' ++ C)) := by
  intro m
  induction m with
  | zero =>
    intro i hi p c b hp hl c0 c1 hc b0 b1 he
    have : i = k + 3 := by omega
    subst this
    rw [List.take_of_length_le (by omega), hc (by omega)] at he
    refine ⟨p, b, hp, hl, b0, b1, ?_, ?_⟩
    · rw [he, Int.zero_add]
      omega
    · rw [g86_L4_eq, ifd_f (by omega)]
  | succ m ih =>
    intro i hi p c b hp hl c0 c1 hc b0 b1 he
    have hpi := hp.getD i
    have hvi := hv.getD i
    have hm0 : 0 ≤ dg * v.getD i 0 := Int.mul_nonneg d0 hvi.1
    have hm1 : dg * v.getD i 0 ≤ 4294967296 * 4294967295 := Int.mul_le_mul (by omega) (by omega) hvi.1 (by omega)
    rw [g86_L4_eq, ifd_t (by omega), e82 hv (by omega), Option.bind_some]
    dsimp only
    rw [ifdd_t (by omega) (by omega), ifdd_t (by omega) (by omega), Int.toNat_natCast, cut_getD (by omega), wu64 (x := dg * v.getD i 0) (by omega) (by omega), wu64 (x := dg * v.getD i 0 + c) (by omega) (by omega), td (by omega), tm (by omega), wu64 (x := p.getD i 0) (by omega) (by omega), wu64 (x := (dg * v.getD i 0 + c) / 4294967296) (by omega) (by omega)]
    have e : (dg * v.getD i 0 + c) % 4294967296 + 4294967296 * ((dg * v.getD i 0 + c) / 4294967296) = c + dg * v.getD i 0 := by omega
    have hlw : 0 ≤ (dg * v.getD i 0 + c) % 4294967296 ∧ (dg * v.getD i 0 + c) % 4294967296 < 4294967296 := by omega
    have hhg : 0 ≤ (dg * v.getD i 0 + c) / 4294967296 ∧ (dg * v.getD i 0 + c) / 4294967296 < 4294967296 := by omega
    have hz : k + 2 < i + 1 → (dg * v.getD i 0 + c) / 4294967296 = 0 := by
      intro h
      have : v.getD i 0 = 0 := getD_out (by omega)
      rw [this, Int.mul_zero]
      omega
    generalize (dg * v.getD i 0 + c) % 4294967296 = lw at *
    generalize (dg * v.getD i 0 + c) / 4294967296 = hg at *
    rw [wu64 (x := 4294967296 + p.getD i 0) (by omega) (by omega), wu64 (x := 4294967296 + p.getD i 0 - lw) (by omega) (by omega), wu64 (x := 4294967296 + p.getD i 0 - lw - b) (by omega) (by omega), td (by omega), tm (by omega), wu64 (x := (4294967296 + p.getD i 0 - lw - b) / 4294967296) (by omega) (by omega), wu64 (x := 1 - (4294967296 + p.getD i 0 - lw - b) / 4294967296) (by omega) (by omega), wu32 (by omega) (by omega), wi64 (by omega) (by omega), cut_set (by omega)]
    refine ih (i + 1) (by omega) _ _ _ (hp.set (by omega) (by omega)) (by simp [hl]) hhg.1 hhg.2 hz (by omega) (by omega) ?_
    rw [V_set (by omega), V_take_succ, P_succ]
    have e2 : (4294967296 + p.getD i 0 - lw - b) % 4294967296 - 4294967296 * (1 - (4294967296 + p.getD i 0 - lw - b) / 4294967296) = p.getD i 0 - lw - b := by omega
    generalize 1 - (4294967296 + p.getD i 0 - lw - b) / 4294967296 = b' at *
    generalize (4294967296 + p.getD i 0 - lw - b) % 4294967296 = w' at *
    clear ih
    grind

/-- What is asked where a multiple is taken away. -/
def OkLess (xs : List Int) (lo n : Nat) (v : List Int) (q : Int) : Prop := W xs ∧ W v ∧ 2 ≤ v.length ∧ v.length < 4194304 ∧ n = v.length + 1 ∧ lo + n ≤ xs.length ∧ 0 ≤ q ∧ q ≤ 4294967296
noncomputable def h86 : List Int → Nat → Nat → DL [.sl (.int .u32), .int .u64] → Option (DL [.bool] × List Int) := fun xs lo n (x : List Int × Int × Unit) =>
  when (OkLess xs lo n x.1 x.2.1 ∧ - P n ≤ V ((xs.drop lo).take n) - x.2.1 * V x.1) ((decide (V ((xs.drop lo).take n) - x.2.1 * V x.1 < 0), ()), xs.take lo ++ (Dn n (V ((xs.drop lo).take n) - x.2.1 * V x.1) ++ xs.drop (lo + n)))
theorem Dn_of {p : List Int} (hp : W p) {z : Int} {n : Nat} (hl : p.length = n) {b : Int} (he : V p - P n * b = z) : Dn n z = p := by
  refine W_ext (Dn_W _ _) hp (by rw [Dn_length, hl]) ?_
  rw [V_Dn]
  have h1 := V_nonneg hp
  have h2 := V_lt hp
  rw [hl] at h2
  have : z = V p + P n * (-b) := by rw [Int.mul_neg]; omega
  rw [this, Int.add_mul_emod_self_left, Int.emod_eq_of_lt h1 h2]
theorem s86 : SigMOk Try.prog 86 ⟨.int .u32, 22, [.sl (.int .u32), .int .u64], [.bool], h86⟩ := ok86 fun xs lo n (x : List Int × Int × Unit) r h => by
  obtain ⟨⟨⟨hw, hv, hv2, hvl, hn, hlo, q0, q1⟩, hneg⟩, rfl⟩ := when_some h
  obtain ⟨v, q, u⟩ := x
  simp only at hv hv2 hvl hn q0 q1 hneg
  show g86 xs lo n (v, q, ()) = some ((decide (V ((xs.drop lo).take n) - q * V v < 0), ()), xs.take lo ++ (Dn n (V ((xs.drop lo).take n) - q * V v) ++ xs.drop (lo + n)))
  obtain ⟨k, hk⟩ : ∃ k, v.length = k + 2 := ⟨v.length - 2, by omega⟩
  have hxs := cut_split xs lo n
  have hA : (xs.take lo).length = lo := by rw [List.length_take]; omega
  have hp : ((xs.drop lo).take n).length = k + 3 := by rw [List.length_take, List.length_drop]; omega
  generalize xs.drop (lo + n) = C at *
  generalize (xs.drop lo).take n = p at *
  generalize xs.take lo = A at *
  subst hxs
  obtain ⟨hwA, hwp, hwC⟩ := hw.cut
  have hn3 : n = k + 3 := by omega
  clear hn
  subst hn3
  subst hA
  obtain ⟨p', b', hp', hl', b0, b1, he, hgo⟩ := L86 A C v hv k hk (by omega) p hwp q q0 q1 (k + 3) 0 (by omega) p 0 0 hwp hp (by omega) (by omega) (by omega) (by omega) (by omega) (by simp [V])
  rw [show (((0 : Nat) : Int)) = 0 from rfl] at hgo
  rw [g86_eq, hgo, Dn_of hp' hl' he]
  have h1 := V_nonneg hp'
  have h2 := V_lt hp'
  rw [hl'] at h2
  have : (b' == 1) = decide (V p - q * V v < 0) := by
    rw [← he] at hneg ⊢
    have hb : b' = 0 ∨ b' = 1 := by omega
    rcases hb with rfl | rfl
    · simp; omega
    · simp; omega
  rw [this]

theorem L87 (A C v : List Int) (hv : W v) (k : Nat) (hlv : v.length = k + 2) (hk : k < 4194304) (p0 : List Int) (hp0 : W p0) : ∀ m i : Nat, i + m = k + 3 → ∀ (p : List Int) (c : Int), W p → p.length = k + 3 → 0 ≤ c → c ≤ 1 → V p + P i * c = V p0 + V (v.take i) →
    ∃ p' c', W p' ∧ p'.length = k + 3 ∧ V p' - P (k + 3) * c' = V p0 + V v ∧ g87_L2 A.length (k + 3) v c (i : Int) (A ++ (p ++ C)) = some ((), A ++ (p' ++ C)) := by
  intro m
  induction m with
  | zero =>
    intro i hi p c hp hl c0 c1 he
    have : i = k + 3 := by omega
    subst this
    rw [List.take_of_length_le (by omega)] at he
    refine ⟨p, -c, hp, hl, by rw [Int.mul_neg]; omega, ?_⟩
    rw [g87_L2_eq, ifd_f (by omega)]
  | succ m ih =>
    intro i hi p c hp hl c0 c1 he
    have hpi := hp.getD i
    have hvi := hv.getD i
    rw [g87_L2_eq, ifd_t (by omega), ifdd_t (by omega) (by omega), e82 hv (by omega), Option.bind_some]
    dsimp only
    rw [ifdd_t (by omega) (by omega), Int.toNat_natCast, cut_getD (by omega), wu64 (x := p.getD i 0) (by omega) (by omega), wu64 (x := p.getD i 0 + v.getD i 0) (by omega) (by omega), wu64 (x := p.getD i 0 + v.getD i 0 + c) (by omega) (by omega), td (by omega), tm (by omega), wu64 (by omega) (by omega), wu32 (by omega) (by omega), wi64 (by omega) (by omega), cut_set (by omega)]
    refine ih (i + 1) (by omega) _ _ (hp.set (by omega) (by omega)) (by simp [hl]) (by omega) (by omega) ?_
    rw [V_set (by omega), V_take_succ, P_succ]
    have e : (p.getD i 0 + v.getD i 0 + c) % 4294967296 + 4294967296 * ((p.getD i 0 + v.getD i 0 + c) / 4294967296) = p.getD i 0 + v.getD i 0 + c := by omega
    clear ih
    grind
noncomputable def h87 : List Int → Nat → Nat → DL [.sl (.int .u32)] → Option (DL [] × List Int) := fun xs lo n (x : List Int × Unit) =>
  when (OkLess xs lo n x.1 0) ((), xs.take lo ++ (Dn n (V ((xs.drop lo).take n) + V x.1) ++ xs.drop (lo + n)))
theorem s87 : SigMOk Try.prog 87 ⟨.int .u32, 22, [.sl (.int .u32)], [], h87⟩ := ok87 fun xs lo n (x : List Int × Unit) r h => by
  obtain ⟨⟨hw, hv, hv2, hvl, hn, hlo, q0, q1⟩, rfl⟩ := when_some h
  obtain ⟨v, u⟩ := x
  simp only at hv hv2 hvl hn
  show g87 xs lo n (v, ()) = some ((), xs.take lo ++ (Dn n (V ((xs.drop lo).take n) + V v) ++ xs.drop (lo + n)))
  obtain ⟨k, hk⟩ : ∃ k, v.length = k + 2 := ⟨v.length - 2, by omega⟩
  have hxs := cut_split xs lo n
  have hA : (xs.take lo).length = lo := by rw [List.length_take]; omega
  have hp : ((xs.drop lo).take n).length = k + 3 := by rw [List.length_take, List.length_drop]; omega
  generalize xs.drop (lo + n) = C at *
  generalize (xs.drop lo).take n = p at *
  generalize xs.take lo = A at *
  subst hxs
  obtain ⟨hwA, hwp, hwC⟩ := hw.cut
  have hn3 : n = k + 3 := by omega
  clear hn
  subst hn3
  subst hA
  obtain ⟨p', c', hp', hl', he, hgo⟩ := L87 A C v hv k hk (by omega) p hwp (k + 3) 0 (by omega) p 0 hwp hp (by omega) (by omega) (by simp [V])
  rw [show (((0 : Nat) : Int)) = 0 from rfl] at hgo
  rw [g87_eq, hgo, Dn_of hp' hl' he]
theorem e86 {xs v : List Int} {lo n : Nat} {q : Int} (h : OkLess xs lo n v q) (h2 : - P n ≤ V ((xs.drop lo).take n) - q * V v) : h86 xs lo n (v, (q, ())) = some ((decide (V ((xs.drop lo).take n) - q * V v < 0), ()), xs.take lo ++ (Dn n (V ((xs.drop lo).take n) - q * V v) ++ xs.drop (lo + n))) := when_pos ⟨h, h2⟩
theorem e87 {xs v : List Int} {lo n : Nat} (h : OkLess xs lo n v 0) : h87 xs lo n (v, ()) = some ((), xs.take lo ++ (Dn n (V ((xs.drop lo).take n) + V v) ++ xs.drop (lo + n))) := when_pos h
end Go.Refl.S3
