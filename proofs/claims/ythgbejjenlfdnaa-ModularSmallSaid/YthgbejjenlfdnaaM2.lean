/-
  Plain laws: powers by p - 1 modulo a prime; a prime passes the test.
-/
import Derived.Test.YthgbejjenlfdnaaM1
set_option linter.unusedVariables false
set_option linter.unusedSimpArgs false
set_option maxRecDepth 100000
namespace Go.Refl.S3
open Go Go.Refl Go.Proofs

/-! ### Products of lists -/
def prd : List Int → Int
  | [] => 1
  | x :: l => x * prd l
theorem prd_erase {x : Int} : ∀ {l : List Int}, x ∈ l → prd l = x * prd (l.erase x)
  | y :: l, h => by
    by_cases e : y = x
    · subst e
      rw [List.erase_cons_head, prd]
    · have hx : x ∈ l := by
        rcases List.mem_cons.1 h with h | h
        · exact (e h.symm).elim
        · exact h
      rw [List.erase_cons_tail (by simpa using e), prd, prd, prd_erase hx]
      grind
theorem prd_eq : ∀ (a b : List Int), a.Nodup → (∀ x ∈ a, x ∈ b) → b.length ≤ a.length → prd a = prd b
  | [], b, _, _, hl => by
    have : b = [] := List.eq_nil_of_length_eq_zero (by simpa using hl)
    rw [this]
  | x :: a, b, hn, hs, hl => by
    have hx := hs x (.head _)
    obtain ⟨hxa, hna⟩ := List.nodup_cons.1 hn
    rw [prd_erase hx, prd]
    congr 1
    refine prd_eq a (b.erase x) hna (fun y hy => ?_) ?_
    · refine (List.mem_erase_of_ne ?_).2 (hs y (.tail _ hy))
      intro h
      subst h
      exact hxa hy
    · rw [List.length_erase_of_mem hx]
      simp only [List.length_cons] at hl
      omega
theorem prd_map (a p : Int) : ∀ l : List Int, prd (l.map fun i => a * i % p) % p = a ^ l.length * prd l % p
  | [] => by simp [prd]
  | x :: l => by
    simp only [List.map_cons, prd, List.length_cons]
    rw [Int.mul_emod, prd_map a p l, Int.emod_emod, ← Int.mul_emod, Int.pow_succ]
    congr 1
    grind
theorem prd_ne {p : Int} (hp : Pri p) : ∀ l : List Int, (∀ x ∈ l, x % p ≠ 0) → prd l % p ≠ 0
  | [], _ => by
    have := hp.1
    simp only [prd]
    rw [Int.emod_eq_of_lt (by omega) (by omega)]
    omega
  | x :: l, h => by
    intro h0
    exact prd_ne hp l (fun y hy => h y (.tail _ hy)) (Pri_mul hp h0 (h x (.head _)))

/-! ### Fermat -/
def upTo (n : Nat) : List Int := (List.range n).map fun (i : Nat) => (i : Int) + 1
theorem mem_upTo {n : Nat} {x : Int} : x ∈ upTo n ↔ 1 ≤ x ∧ x ≤ n := by
  unfold upTo
  rw [List.mem_map]
  constructor
  · rintro ⟨i, h, rfl⟩
    have := List.mem_range.1 h
    omega
  · intro h
    exact ⟨(x - 1).toNat, List.mem_range.2 (by omega), by omega⟩
theorem fermat {p a : Int} (hp : Pri p) (ha : a % p ≠ 0) : a ^ (p - 1).toNat % p = 1 := by
  have h2 := hp.1
  have hlen : (upTo (p - 1).toNat).length = (p - 1).toNat := by simp [upTo]
  have hperm : prd ((upTo (p - 1).toNat).map fun i => a * i % p) = prd (upTo (p - 1).toNat) := by
    refine prd_eq _ _ ?_ (fun x hx => ?_) (by simp)
    · unfold List.Nodup upTo
      rw [List.map_map, List.pairwise_map]
      refine List.Pairwise.imp_of_mem ?_ (List.nodup_range (n := (p - 1).toNat))
      intro i j hi hj hne h
      have hi' := List.mem_range.1 hi
      have hj' := List.mem_range.1 hj
      simp only [Function.comp] at h
      have hd : a * (((i : Int) + 1) - ((j : Int) + 1)) % p = 0 := by
        rw [Int.mul_sub, Int.sub_emod, h, Int.sub_self, Int.zero_emod]
      have := Pri_mul hp hd ha
      have h3 := Int.dvd_of_emod_eq_zero this
      obtain ⟨c, hc⟩ := h3
      have hc0 : c = 0 := by
        apply Classical.byContradiction
        intro hc0
        rcases Int.lt_or_gt_of_ne hc0 with hlt | hgt
        · have : p * c ≤ p * (-1) := Int.mul_le_mul_of_nonneg_left (by omega) (by omega)
          omega
        · have : p * 1 ≤ p * c := Int.mul_le_mul_of_nonneg_left (by omega) (by omega)
          omega
      subst hc0
      omega
    · obtain ⟨i, hi, rfl⟩ := List.mem_map.1 hx
      obtain ⟨i1, i2⟩ := mem_upTo.1 hi
      refine mem_upTo.2 ?_
      have m0 := Int.emod_nonneg (a * i) (show p ≠ 0 by omega)
      have m1 := Int.emod_lt_of_pos (a * i) (show 0 < p by omega)
      have hne : a * i % p ≠ 0 := fun h => by
        have := Pri_mul hp h ha
        rw [Int.emod_eq_of_lt (by omega) (by omega)] at this
        omega
      omega
  have h3 := prd_map a p (upTo (p - 1).toNat)
  rw [hperm, hlen] at h3
  have hne : prd (upTo (p - 1).toNat) % p ≠ 0 := prd_ne hp _ fun x hx => by
    obtain ⟨i1, i2⟩ := mem_upTo.1 hx
    rw [Int.emod_eq_of_lt (by omega) (by omega)]
    omega
  have h4 : prd (upTo (p - 1).toNat) * (a ^ (p - 1).toNat - 1) % p = 0 := by
    rw [Int.mul_sub, Int.mul_one, Int.sub_emod, Int.mul_comm, ← h3, Int.sub_self, Int.zero_emod]
  have h5 := Pri_mul hp h4 hne
  have := emod_of_dvd (Int.dvd_of_emod_eq_zero h5)
  rw [this]
  exact Int.emod_eq_of_lt (by omega) (by omega)

/-! ### Roots of 1 -/
theorem root_one {p x : Int} (hp : Pri p) (h : x * x % p = 1) (h0 : 0 ≤ x) (h1 : x < p) : x = 1 ∨ x = p - 1 := by
  have h2 := hp.1
  have h3 : (x - 1) * (x + 1) % p = 0 := by
    have e : (x - 1) * (x + 1) = x * x - 1 := by grind
    rw [e, Int.sub_emod, h, Int.emod_eq_of_lt (a := 1) (by omega) (by omega), Int.sub_self, Int.zero_emod]
  by_cases hx : (x - 1) % p = 0
  · by_cases hx0 : x = 0
    · subst hx0
      rw [Int.zero_mul, Int.zero_emod] at h
      omega
    · rw [Int.emod_eq_of_lt (by omega) (by omega)] at hx
      omega
  · have := Pri_mul hp h3 hx
    by_cases hx1 : x + 1 = p
    · omega
    · rw [Int.emod_eq_of_lt (by omega) (by omega)] at this
      omega

/-! ### The test passes a prime -/
theorem mrSq_true (n : Int) : ∀ (k : Nat) (x : Int), mrSq n k x true = true
  | 0, _ => rfl
  | k + 1, x => by
    simp only [mrSq, Bool.true_or]
    exact mrSq_true n k _
theorem mrSq_pri {n : Int} (hp : Pri n) : ∀ (k : Nat) (x : Int), 0 ≤ x → x < n → x ≠ 1 → x ≠ n - 1 → x ^ 2 ^ (k + 1) % n = 1 → mrSq n k x false = true := by
  have h2 := hp.1
  intro k
  induction k with
  | zero =>
    intro x x0 x1 h1 h3 h
    rw [show (2 ^ (0 + 1) : Nat) = 2 from rfl, Int.pow_succ, Int.pow_succ, Int.pow_zero, Int.one_mul] at h
    rcases root_one hp h x0 x1 with h | h
    · exact (h1 h).elim
    · exact (h3 h).elim
  | succ k ih =>
    intro x x0 x1 h1 h3 h
    have m0 := Int.emod_nonneg (x * x) (show n ≠ 0 by omega)
    have m1 := Int.emod_lt_of_pos (x * x) (show 0 < n by omega)
    simp only [mrSq, Bool.false_or]
    by_cases h4 : x * x % n = n - 1
    · rw [beq_iff_eq.2 h4]
      exact mrSq_true n k _
    · rw [beq_eq_false_iff_ne.2 h4]
      refine ih (x * x % n) m0 m1 (fun h5 => ?_) h4 ?_
      · rcases root_one hp h5 x0 x1 with h | h
        · exact (h1 h).elim
        · exact (h3 h).elim
      · have e : x ^ 2 ^ (k + 1 + 1) = (x * x) ^ 2 ^ (k + 1) := by
          rw [show x * x = x ^ 2 by rw [Int.pow_succ, Int.pow_succ, Int.pow_zero, Int.one_mul], ← Int.pow_mul, Nat.pow_succ 2 (k + 1), Nat.mul_comm]
        rw [pow_mod, ← e, h]
theorem tz_spec : ∀ k : Nat, ∀ d s : Int, 0 < d → 0 ≤ s → s ≤ (tz k d s).2 ∧ d = (tz k d s).1 * 2 ^ ((tz k d s).2 - s).toNat ∧ (d < 2 ^ k → (tz k d s).1 % 2 = 1) := by
  intro k
  induction k with
  | zero =>
    intro d s h0 h1
    simp only [tz]
    refine ⟨Int.le_refl _, ?_, fun h => ?_⟩
    · rw [Int.sub_self]
      simp
    · omega
  | succ k ih =>
    intro d s h0 h1
    simp only [tz]
    by_cases h : d % 2 = 0
    · rw [if_pos h]
      obtain ⟨e1, e2, e3⟩ := ih (d / 2) (s + 1) (by omega) (by omega)
      refine ⟨by omega, ?_, fun hk => e3 ?_⟩
      · have : ((tz k (d / 2) (s + 1)).2 - s).toNat = ((tz k (d / 2) (s + 1)).2 - (s + 1)).toNat + 1 := by omega
        rw [this, Int.pow_succ, ← Int.mul_assoc, ← e2]
        omega
      · rw [Int.pow_succ] at hk
        omega
    · rw [if_neg h]
      refine ⟨Int.le_refl _, ?_, fun _ => by simp only; omega⟩
      simp only [Int.sub_self]
      simp
theorem mrL_pri {n d s : Int} (hp : Pri n) (h0 : 1 ≤ s) (hs : n - 1 = d * 2 ^ s.toNat) (hd : 0 ≤ d) : ∀ W : List Int, (∀ w ∈ W, w ≠ n → w % n ≠ 0) → mrL n d s W = true
  | [], _ => rfl
  | w :: W, hW => by
    have ih := mrL_pri hp h0 hs hd W fun x hx => hW x (.tail _ hx)
    have h2 := hp.1
    simp only [mrL]
    by_cases hw : n = w
    · rw [if_pos hw]
    · rw [if_neg hw]
      by_cases h1 : w ^ d.toNat % n = 1 ∨ w ^ d.toNat % n = n - 1
      · rw [if_pos h1]
        exact ih
      · rw [if_neg h1]
        have m0 := Int.emod_nonneg (w ^ d.toNat) (show n ≠ 0 by omega)
        have m1 := Int.emod_lt_of_pos (w ^ d.toNat) (show 0 < n by omega)
        have hf := fermat hp (hW w (.head _) fun h => hw h.symm)
        have hpow : (n - 1).toNat = d.toNat * 2 ^ s.toNat := by
          have e : (2 : Int) ^ s.toNat = ((2 ^ s.toNat : Nat) : Int) := by simp
          rw [hs, e]
          have : d * ((2 ^ s.toNat : Nat) : Int) = ((d.toNat * 2 ^ s.toNat : Nat) : Int) := by
            rw [Int.natCast_mul, Int.toNat_of_nonneg hd]
          rw [this, Int.toNat_natCast]
        have hsq := mrSq_pri hp (s - 1).toNat _ m0 m1 (fun h => h1 (.inl h)) (fun h => h1 (.inr h)) (by
          rw [pow_mod, ← Int.pow_mul, show (s - 1).toNat + 1 = s.toNat by omega, ← hpow]
          exact hf)
        rw [if_pos hsq]
        exact ih
theorem small_mod {w n : Int} (hw : w = 2 ∨ w = 3 ∨ w = 5 ∨ w = 7) (hn : 2 ≤ n) (hne : w ≠ n) : w % n ≠ 0 := by
  by_cases h : w < n
  · rw [Int.emod_eq_of_lt (by omega) h]
    omega
  · have : n = 2 ∨ n = 3 ∨ n = 4 ∨ n = 5 ∨ n = 6 ∨ n = 7 := by omega
    rcases this with rfl | rfl | rfl | rfl | rfl | rfl <;> rcases hw with rfl | rfl | rfl | rfl <;> first | omega | decide
theorem mr_pri {n : Int} (hp : Pri n) (h : n < 2147483648) : mr n = true := by
  have h2 := hp.1
  by_cases hn2 : n = 2
  · rw [hn2]
    exact mr2
  · unfold mr
    rw [if_neg (by omega)]
    obtain ⟨e1, e2, e3⟩ := tz_spec 64 (n - 1) 0 (by omega) (by omega)
    have hb := tz_bounds 64 (n - 1) 0 (by omega) (by omega) (by omega)
    have hodd := e3 (by omega)
    rw [Int.sub_zero] at e2
    refine mrL_pri hp ?_ e2 (by omega) _ fun w hw hne => small_mod ?_ h2 hne
    · apply Classical.byContradiction
      intro hs
      have hs0 : (tz 64 (n - 1) 0).2 = 0 := by omega
      rw [hs0] at e2
      simp at e2
      have hne2 : n % 2 = 0 := by omega
      exact hp.2 2 (by omega) (by
        apply Classical.byContradiction
        intro hc
        have : n = 2 ∨ n = 3 := by omega
        omega) hne2
    · simp only [List.mem_cons, List.not_mem_nil, or_false] at hw
      exact hw
end Go.Refl.S3
