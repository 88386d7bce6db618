import Derived.Test.YthgbejjenlfdnaaQ14
/-
  Plain laws about primes, inverses and powers modulo a prime.
-/
set_option linter.unusedVariables false
set_option linter.unusedSimpArgs false
set_option maxRecDepth 100000
namespace Go.Refl.S3
open Go Go.Refl Go.Proofs

/-- A prime has no other divisors. -/
theorem Pri_dvd {p d : Int} (hp : Pri p) (h : d ∣ p) (hd : 0 < d) : d = 1 ∨ d = p := by
  obtain ⟨h2, hdiv⟩ := hp
  apply Classical.byContradiction
  intro hc
  have hd1 : d ≠ 1 := fun h => hc (.inl h)
  have hdp : d ≠ p := fun h => hc (.inr h)
  have hle := Int.le_of_dvd (by omega) h
  obtain ⟨c, hcd⟩ := h
  have hc0 : 0 < c := by
    apply Classical.byContradiction
    intro h0
    have : d * c ≤ d * 0 := Int.mul_le_mul_of_nonneg_left (by omega) (by omega)
    omega
  have hc1 : c ≠ 1 := by
    intro h1
    subst h1
    omega
  rcases Int.le_total d c with h1 | h1
  · have : d * d ≤ d * c := Int.mul_le_mul_of_nonneg_left h1 (by omega)
    exact hdiv d (by omega) (by omega) (by rw [hcd]; exact Int.mul_emod_right _ _)
  · have : c * c ≤ d * c := Int.mul_le_mul_of_nonneg_right h1 (by omega)
    exact hdiv c (by omega) (by omega) (by rw [hcd, Int.mul_comm]; exact Int.mul_emod_right _ _)
theorem Pri_gcd {p a : Int} (hp : Pri p) (h : a % p ≠ 0) : Int.gcd p (a % p) = 1 := by
  have h2 := hp.1
  have m0 := Int.emod_nonneg a (show p ≠ 0 by omega)
  have m1 := Int.emod_lt_of_pos a (show 0 < p by omega)
  have hg : 0 < Int.gcd p (a % p) := Nat.gcd_pos_of_pos_left _ (by omega)
  rcases Pri_dvd hp (d := ((Int.gcd p (a % p) : Nat) : Int)) (Int.gcd_dvd_left ..) (by omega) with h1 | h1
  · omega
  · have := gcd_le (a := p) (b := a % p) (by omega)
    omega

theorem eiv_spec (a p : Int) : ∀ k : Nat, ∀ x y u v : Int, y.toNat ≤ k → 0 ≤ x → 0 ≤ y → p ∣ x - u * a → p ∣ y - v * a → p ∣ ((Int.gcd x y : Nat) : Int) - eiv x y u v * a := by
  intro k
  induction k with
  | zero =>
    intro x y u v hk hx hy h1 h2
    have : y = 0 := by omega
    subst this
    rw [eiv_zero, Int.gcd_zero_right, show ((x.natAbs : Nat) : Int) = x by omega]
    exact h1
  | succ k ih =>
    intro x y u v hk hx hy h1 h2
    by_cases h0 : y = 0
    · subst h0
      rw [eiv_zero, Int.gcd_zero_right, show ((x.natAbs : Nat) : Int) = x by omega]
      exact h1
    · have m0 := Int.emod_nonneg x h0
      have m1 := Int.emod_lt_of_pos x (show 0 < y by omega)
      rw [eiv_pos (by omega), ← gcd_step hx (by omega)]
      refine ih y (x % y) v (u - x / y * v) (by omega) hy m0 h2 ?_
      have me := Int.mul_ediv_add_emod x y
      have e : x % y - (u - x / y * v) * a = (x - u * a) - x / y * (y - v * a) := by
        have e1 : x % y = x - y * (x / y) := by omega
        rw [e1]
        clear me e1 m0 m1 h1 h2 ih
        grind
      rw [e]
      exact Int.dvd_sub h1 (Int.dvd_mul_of_dvd_right h2)
theorem emod_of_dvd {p a b : Int} (h : p ∣ a - b) : a % p = b % p := by
  obtain ⟨c, hc⟩ := h
  have : a = b + p * c := by omega
  rw [this, Int.add_mul_emod_self_left]
theorem dvd_of_emod {p a b : Int} (h : a % p = b % p) : p ∣ a - b := Int.dvd_of_emod_eq_zero (by
  rw [Int.sub_emod, h, Int.sub_self]
  rfl)
/-- The inverse is one. -/
theorem inv_mul {p a : Int} (hp : Pri p) (h : a % p ≠ 0) : inv a p * a % p = 1 := by
  have h2 := hp.1
  have m0 := Int.emod_nonneg a (show p ≠ 0 by omega)
  have hs := eiv_spec a p _ p (a % p) 0 1 (Nat.le_refl _) (by omega) m0 ⟨1, by omega⟩ (dvd_of_emod (by rw [Int.one_mul, Int.emod_emod]))
  rw [Pri_gcd hp h] at hs
  unfold inv
  rw [Int.mul_emod, Int.emod_emod, ← Int.mul_emod, Int.add_mul, Int.add_mul_emod_self_left]
  have := emod_of_dvd hs
  rw [← this]
  exact Int.emod_eq_of_lt (by decide) (by have : ((1 : Nat) : Int) = 1 := rfl; omega)
/-- A number has but one inverse. -/
theorem inv_unique {p a i j : Int} (hi : i * a % p = 1 % p) (hj : j * a % p = 1 % p) : i % p = j % p := by
  have e1 : i * (j * a) % p = i % p := by rw [Int.mul_emod, hj, ← Int.mul_emod, Int.mul_one]
  have e2 : j * (i * a) % p = j % p := by rw [Int.mul_emod, hi, ← Int.mul_emod, Int.mul_one]
  have e3 : i * (j * a) = j * (i * a) := by grind
  rw [← e1, ← e2, e3]
theorem inv_ne {p a : Int} (hp : Pri p) (h : a % p ≠ 0) : inv a p % p ≠ 0 ∧ 1 ≤ inv a p ∧ inv a p < p := by
  have h2 := hp.1
  obtain ⟨r0, r1⟩ := inv_range (a := a) (p := p) (by omega)
  have hm := inv_mul hp h
  have h0 : inv a p ≠ 0 := by
    intro h0
    rw [h0, Int.zero_mul, Int.zero_emod] at hm
    omega
  exact ⟨by rw [Int.emod_eq_of_lt r0 r1]; exact h0, by omega, r1⟩
theorem inv_inv {p a : Int} (hp : Pri p) (h : a % p ≠ 0) : inv (inv a p) p = a % p := by
  have h2 := hp.1
  obtain ⟨n0, n1, n2⟩ := inv_ne hp h
  have hm := inv_mul hp h
  have hm2 := inv_mul hp n0
  obtain ⟨r0, r1⟩ := inv_range (a := inv a p) (p := p) (by omega)
  have := inv_unique (p := p) (a := inv a p) (i := inv (inv a p) p) (j := a) (by rw [hm2]; exact (Int.emod_eq_of_lt (by omega) (by omega)).symm) (by rw [Int.mul_comm, hm]; exact (Int.emod_eq_of_lt (by omega) (by omega)).symm)
  rw [Int.emod_eq_of_lt r0 r1] at this
  exact this
/-- A prime that divides a product divides a factor. -/
theorem Pri_mul {p a b : Int} (hp : Pri p) (h : a * b % p = 0) (ha : a % p ≠ 0) : b % p = 0 := by
  have hm := inv_mul hp ha
  have e : inv a p * (a * b) % p = b % p := by
    rw [← Int.mul_assoc, Int.mul_emod, hm]
    have h2 := hp.1
    rw [Int.one_mul, Int.emod_emod]
  rw [← e, Int.mul_emod, h, Int.mul_zero, Int.zero_emod]

/-! ### Inverts -/
theorem e10 : h10 () = some (true, ()) := rfl
end Go.Refl.S3
/-
  Plain laws: powers by p - 1 modulo a prime; a prime passes the test.
-/
set_option linter.unusedVariables false
set_option linter.unusedSimpArgs false
set_option maxRecDepth 100000
namespace Go.Refl.S3
open Go Go.Refl Go.Proofs

/-! ### Products of lists -/
def prd : List Int → Int
  | [] => 1
  | x :: l => x * prd l
theorem prd_erase {x : Int} : ∀ {l : List Int}, x ∈ l → prd l = x * prd (l.erase x)
  | y :: l, h => by
    by_cases e : y = x
    · subst e
      rw [List.erase_cons_head, prd]
    · have hx : x ∈ l := by
        rcases List.mem_cons.1 h with h | h
        · exact (e h.symm).elim
        · exact h
      rw [List.erase_cons_tail (by simpa using e), prd, prd, prd_erase hx]
      grind
theorem prd_eq : ∀ (a b : List Int), a.Nodup → (∀ x ∈ a, x ∈ b) → b.length ≤ a.length → prd a = prd b
  | [], b, _, _, hl => by
    have : b = [] := List.eq_nil_of_length_eq_zero (by simpa using hl)
    rw [this]
  | x :: a, b, hn, hs, hl => by
    have hx := hs x (.head _)
    obtain ⟨hxa, hna⟩ := List.nodup_cons.1 hn
    rw [prd_erase hx, prd]
    congr 1
    refine prd_eq a (b.erase x) hna (fun y hy => ?_) ?_
    · refine (List.mem_erase_of_ne ?_).2 (hs y (.tail _ hy))
      intro h
      subst h
      exact hxa hy
    · rw [List.length_erase_of_mem hx]
      simp only [List.length_cons] at hl
      omega
theorem prd_map (a p : Int) : ∀ l : List Int, prd (l.map fun i => a * i % p) % p = a ^ l.length * prd l % p
  | [] => by simp [prd]
  | x :: l => by
    simp only [List.map_cons, prd, List.length_cons]
    rw [Int.mul_emod, prd_map a p l, Int.emod_emod, ← Int.mul_emod, Int.pow_succ]
    congr 1
    grind
theorem prd_ne {p : Int} (hp : Pri p) : ∀ l : List Int, (∀ x ∈ l, x % p ≠ 0) → prd l % p ≠ 0
  | [], _ => by
    have := hp.1
    simp only [prd]
    rw [Int.emod_eq_of_lt (by omega) (by omega)]
    omega
  | x :: l, h => by
    intro h0
    exact prd_ne hp l (fun y hy => h y (.tail _ hy)) (Pri_mul hp h0 (h x (.head _)))

/-! ### Fermat -/
def upTo (n : Nat) : List Int := (List.range n).map fun (i : Nat) => (i : Int) + 1
theorem mem_upTo {n : Nat} {x : Int} : x ∈ upTo n ↔ 1 ≤ x ∧ x ≤ n := by
  unfold upTo
  rw [List.mem_map]
  constructor
  · rintro ⟨i, h, rfl⟩
    have := List.mem_range.1 h
    omega
  · intro h
    exact ⟨(x - 1).toNat, List.mem_range.2 (by omega), by omega⟩
theorem fermat {p a : Int} (hp : Pri p) (ha : a % p ≠ 0) : a ^ (p - 1).toNat % p = 1 := by
  have h2 := hp.1
  have hlen : (upTo (p - 1).toNat).length = (p - 1).toNat := by simp [upTo]
  have hperm : prd ((upTo (p - 1).toNat).map fun i => a * i % p) = prd (upTo (p - 1).toNat) := by
    refine prd_eq _ _ ?_ (fun x hx => ?_) (by simp)
    · unfold List.Nodup upTo
      rw [List.map_map, List.pairwise_map]
      refine List.Pairwise.imp_of_mem ?_ (List.nodup_range (n := (p - 1).toNat))
      intro i j hi hj hne h
      have hi' := List.mem_range.1 hi
      have hj' := List.mem_range.1 hj
      simp only [Function.comp] at h
      have hd : a * (((i : Int) + 1) - ((j : Int) + 1)) % p = 0 := by
        rw [Int.mul_sub, Int.sub_emod, h, Int.sub_self, Int.zero_emod]
      have := Pri_mul hp hd ha
      have h3 := Int.dvd_of_emod_eq_zero this
      obtain ⟨c, hc⟩ := h3
      have hc0 : c = 0 := by
        apply Classical.byContradiction
        intro hc0
        rcases Int.lt_or_gt_of_ne hc0 with hlt | hgt
        · have : p * c ≤ p * (-1) := Int.mul_le_mul_of_nonneg_left (by omega) (by omega)
          omega
        · have : p * 1 ≤ p * c := Int.mul_le_mul_of_nonneg_left (by omega) (by omega)
          omega
      subst hc0
      omega
    · obtain ⟨i, hi, rfl⟩ := List.mem_map.1 hx
      obtain ⟨i1, i2⟩ := mem_upTo.1 hi
      refine mem_upTo.2 ?_
      have m0 := Int.emod_nonneg (a * i) (show p ≠ 0 by omega)
      have m1 := Int.emod_lt_of_pos (a * i) (show 0 < p by omega)
      have hne : a * i % p ≠ 0 := fun h => by
        have := Pri_mul hp h ha
        rw [Int.emod_eq_of_lt (by omega) (by omega)] at this
        omega
      omega
  have h3 := prd_map a p (upTo (p - 1).toNat)
  rw [hperm, hlen] at h3
  have hne : prd (upTo (p - 1).toNat) % p ≠ 0 := prd_ne hp _ fun x hx => by
    obtain ⟨i1, i2⟩ := mem_upTo.1 hx
    rw [Int.emod_eq_of_lt (by omega) (by omega)]
    omega
  have h4 : prd (upTo (p - 1).toNat) * (a ^ (p - 1).toNat - 1) % p = 0 := by
    rw [Int.mul_sub, Int.mul_one, Int.sub_emod, Int.mul_comm, ← h3, Int.sub_self, Int.zero_emod]
  have h5 := Pri_mul hp h4 hne
  have := emod_of_dvd (Int.dvd_of_emod_eq_zero h5)
  rw [this]
  exact Int.emod_eq_of_lt (by omega) (by omega)

/-! ### Roots of 1 -/
theorem root_one {p x : Int} (hp : Pri p) (h : x * x % p = 1) (h0 : 0 ≤ x) (h1 : x < p) : x = 1 ∨ x = p - 1 := by
  have h2 := hp.1
  have h3 : (x - 1) * (x + 1) % p = 0 := by
    have e : (x - 1) * (x + 1) = x * x - 1 := by grind
    rw [e, Int.sub_emod, h, Int.emod_eq_of_lt (a := 1) (by omega) (by omega), Int.sub_self, Int.zero_emod]
  by_cases hx : (x - 1) % p = 0
  · by_cases hx0 : x = 0
    · subst hx0
      rw [Int.zero_mul, Int.zero_emod] at h
      omega
    · rw [Int.emod_eq_of_lt (by omega) (by omega)] at hx
      omega
  · have := Pri_mul hp h3 hx
    by_cases hx1 : x + 1 = p
    · omega
    · rw [Int.emod_eq_of_lt (by omega) (by omega)] at this
      omega

/-! ### The test passes a prime -/
theorem mrSq_true (n : Int) : ∀ (k : Nat) (x : Int), mrSq n k x true = true
  | 0, _ => rfl
  | k + 1, x => by
    simp only [mrSq, Bool.true_or]
    exact mrSq_true n k _
theorem mrSq_pri {n : Int} (hp : Pri n) : ∀ (k : Nat) (x : Int), 0 ≤ x → x < n → x ≠ 1 → x ≠ n - 1 → x ^ 2 ^ (k + 1) % n = 1 → mrSq n k x false = true := by
  have h2 := hp.1
  intro k
  induction k with
  | zero =>
    intro x x0 x1 h1 h3 h
    rw [show (2 ^ (0 + 1) : Nat) = 2 from rfl, Int.pow_succ, Int.pow_succ, Int.pow_zero, Int.one_mul] at h
    rcases root_one hp h x0 x1 with h | h
    · exact (h1 h).elim
    · exact (h3 h).elim
  | succ k ih =>
    intro x x0 x1 h1 h3 h
    have m0 := Int.emod_nonneg (x * x) (show n ≠ 0 by omega)
    have m1 := Int.emod_lt_of_pos (x * x) (show 0 < n by omega)
    simp only [mrSq, Bool.false_or]
    by_cases h4 : x * x % n = n - 1
    · rw [beq_iff_eq.2 h4]
      exact mrSq_true n k _
    · rw [beq_eq_false_iff_ne.2 h4]
      refine ih (x * x % n) m0 m1 (fun h5 => ?_) h4 ?_
      · rcases root_one hp h5 x0 x1 with h | h
        · exact (h1 h).elim
        · exact (h3 h).elim
      · have e : x ^ 2 ^ (k + 1 + 1) = (x * x) ^ 2 ^ (k + 1) := by
          rw [show x * x = x ^ 2 by rw [Int.pow_succ, Int.pow_succ, Int.pow_zero, Int.one_mul], ← Int.pow_mul, Nat.pow_succ 2 (k + 1), Nat.mul_comm]
        rw [pow_mod, ← e, h]
theorem tz_spec : ∀ k : Nat, ∀ d s : Int, 0 < d → 0 ≤ s → s ≤ (tz k d s).2 ∧ d = (tz k d s).1 * 2 ^ ((tz k d s).2 - s).toNat ∧ (d < 2 ^ k → (tz k d s).1 % 2 = 1) := by
  intro k
  induction k with
  | zero =>
    intro d s h0 h1
    simp only [tz]
    refine ⟨Int.le_refl _, ?_, fun h => ?_⟩
    · rw [Int.sub_self]
      simp
    · omega
  | succ k ih =>
    intro d s h0 h1
    simp only [tz]
    by_cases h : d % 2 = 0
    · rw [if_pos h]
      obtain ⟨e1, e2, e3⟩ := ih (d / 2) (s + 1) (by omega) (by omega)
      refine ⟨by omega, ?_, fun hk => e3 ?_⟩
      · have : ((tz k (d / 2) (s + 1)).2 - s).toNat = ((tz k (d / 2) (s + 1)).2 - (s + 1)).toNat + 1 := by omega
        rw [this, Int.pow_succ, ← Int.mul_assoc, ← e2]
        omega
      · rw [Int.pow_succ] at hk
        omega
    · rw [if_neg h]
      refine ⟨Int.le_refl _, ?_, fun _ => by simp only; omega⟩
      simp only [Int.sub_self]
      simp
theorem mrL_pri {n d s : Int} (hp : Pri n) (h0 : 1 ≤ s) (hs : n - 1 = d * 2 ^ s.toNat) (hd : 0 ≤ d) : ∀ W : List Int, (∀ w ∈ W, w ≠ n → w % n ≠ 0) → mrL n d s W = true
  | [], _ => rfl
  | w :: W, hW => by
    have ih := mrL_pri hp h0 hs hd W fun x hx => hW x (.tail _ hx)
    have h2 := hp.1
    simp only [mrL]
    by_cases hw : n = w
    · rw [if_pos hw]
    · rw [if_neg hw]
      by_cases h1 : w ^ d.toNat % n = 1 ∨ w ^ d.toNat % n = n - 1
      · rw [if_pos h1]
        exact ih
      · rw [if_neg h1]
        have m0 := Int.emod_nonneg (w ^ d.toNat) (show n ≠ 0 by omega)
        have m1 := Int.emod_lt_of_pos (w ^ d.toNat) (show 0 < n by omega)
        have hf := fermat hp (hW w (.head _) fun h => hw h.symm)
        have hpow : (n - 1).toNat = d.toNat * 2 ^ s.toNat := by
          have e : (2 : Int) ^ s.toNat = ((2 ^ s.toNat : Nat) : Int) := by simp
          rw [hs, e]
          have : d * ((2 ^ s.toNat : Nat) : Int) = ((d.toNat * 2 ^ s.toNat : Nat) : Int) := by
            rw [Int.natCast_mul, Int.toNat_of_nonneg hd]
          rw [this, Int.toNat_natCast]
        have hsq := mrSq_pri hp (s - 1).toNat _ m0 m1 (fun h => h1 (.inl h)) (fun h => h1 (.inr h)) (by
          rw [pow_mod, ← Int.pow_mul, show (s - 1).toNat + 1 = s.toNat by omega, ← hpow]
          exact hf)
        rw [if_pos hsq]
        exact ih
theorem small_mod {w n : Int} (hw : w = 2 ∨ w = 3 ∨ w = 5 ∨ w = 7) (hn : 2 ≤ n) (hne : w ≠ n) : w % n ≠ 0 := by
  by_cases h : w < n
  · rw [Int.emod_eq_of_lt (by omega) h]
    omega
  · have : n = 2 ∨ n = 3 ∨ n = 4 ∨ n = 5 ∨ n = 6 ∨ n = 7 := by omega
    rcases this with rfl | rfl | rfl | rfl | rfl | rfl <;> rcases hw with rfl | rfl | rfl | rfl <;> first | omega | decide
theorem mr_pri {n : Int} (hp : Pri n) (h : n < 2147483648) : mr n = true := by
  have h2 := hp.1
  by_cases hn2 : n = 2
  · rw [hn2]
    exact mr2
  · unfold mr
    rw [if_neg (by omega)]
    obtain ⟨e1, e2, e3⟩ := tz_spec 64 (n - 1) 0 (by omega) (by omega)
    have hb := tz_bounds 64 (n - 1) 0 (by omega) (by omega) (by omega)
    have hodd := e3 (by omega)
    rw [Int.sub_zero] at e2
    refine mrL_pri hp ?_ e2 (by omega) _ fun w hw hne => small_mod ?_ h2 hne
    · apply Classical.byContradiction
      intro hs
      have hs0 : (tz 64 (n - 1) 0).2 = 0 := by omega
      rw [hs0] at e2
      simp at e2
      have hne2 : n % 2 = 0 := by omega
      exact hp.2 2 (by omega) (by
        apply Classical.byContradiction
        intro hc
        have : n = 2 ∨ n = 3 := by omega
        omega) hne2
    · simp only [List.mem_cons, List.not_mem_nil, or_false] at hw
      exact hw
end Go.Refl.S3
/-
  What further functions of the reference compute: definitions.
-/
set_option linter.unusedVariables false
set_option linter.unusedSimpArgs false
set_option maxRecDepth 100000
namespace Go.Refl.S3
open Go Go.Refl Go.Proofs

noncomputable def h64 : DL [tInt, tInt] → Option (DL [tInt]) := HI2 (rts := [tInt]) fun n g => (enc (n / g), ())
/-- What numerator and denominator are divided by. -/
def lowG (n d : Int) : Int := if d < 0 then -((Int.gcd n d : Nat) : Int) else ((Int.gcd n d : Nat) : Int)
def lowN (n d : Int) : Int := n / lowG n d
def lowD (n d : Int) : Int := d / lowG n d
noncomputable def h40 : DL [tInt, tInt] → Option (DL [tRat]) := HI2 (rts := [tRat]) fun n d => (encR (lowN n d) (lowD n d), ())
abbrev tRaw : Ty := .pair (.int .i8) (.pair (.int .i8) (.pair (.int .u8) .unit))
abbrev DRaw : Type := Int × Int × Int × Unit
def OkRaw (x : DRaw) : Prop := (-128 ≤ x.1 ∧ x.1 ≤ 127) ∧ (-128 ≤ x.2.1 ∧ x.2.1 ≤ 127) ∧ 0 ≤ x.2.2.1 ∧ x.2.2.1 ≤ 255
def rwN (x : DRaw) : Int := if x.2.2.1 % 8 = 7 then x.1 * (4611686018427387904 + x.2.2.1) * (4611686018427387904 + x.2.2.1) + x.2.2.1 else x.1
def rwD0 (x : DRaw) : Int := if x.2.1 = 0 then 1 else x.2.1
def rwD (x : DRaw) : Int := if x.2.2.1 % 8 = 6 then rwD0 x * (4611686018427387904 + x.2.2.1) * (4611686018427387904 + x.2.2.1) else rwD0 x
def mdN (x : DRaw) : Int := lowN (rwN x) (rwD x)
def mdD (x : DRaw) : Int := lowD (rwN x) (rwD x)
noncomputable def h15 : DL [tRaw] → Option (DL [tRat]) := fun (x : DRaw × Unit) => when (OkRaw x.1) (encR (mdN x.1) (mdD x.1), ())
/-- A fraction of not too great numbers. -/
def Mod20 (a : DRat) : Prop := Is a.1 ∧ Is a.2.1 ∧ ((dec a.1).natAbs : Int) < P 20 ∧ ((dec a.2.1).natAbs : Int) < P 20
noncomputable def h23 : DL [tRat, tRat] → Option (DL [tRat]) := fun (x : DRat × DRat × Unit) => when (Mod20 x.1 ∧ Mod20 x.2.1)
  (encR (lowN (dec x.1.1 * dec x.2.1.2.1 + dec x.2.1.1 * dec x.1.2.1) (dec x.1.2.1 * dec x.2.1.2.1)) (lowD (dec x.1.1 * dec x.2.1.2.1 + dec x.2.1.1 * dec x.1.2.1) (dec x.1.2.1 * dec x.2.1.2.1)), ())
noncomputable def h24 : DL [tRat, tRat] → Option (DL [tRat]) := fun (x : DRat × DRat × Unit) => when (Mod20 x.1 ∧ Mod20 x.2.1)
  (encR (lowN (dec x.1.1 * dec x.2.1.1) (dec x.1.2.1 * dec x.2.1.2.1)) (lowD (dec x.1.1 * dec x.2.1.1) (dec x.1.2.1 * dec x.2.1.2.1)), ())
noncomputable def h60 : DL [tInt, .int .i64] → Option (DL [tInt, .int .i64]) := h54
noncomputable def h34 : DL [tInt] → Option (DL [tInt]) := fun (x : DInt × Unit) => when (Is x.1 ∧ 1 ≤ dec x.1 ∧ dec x.1 < P 99) (enc (isq ((dec x.1 - 1) / 2)), ())
noncomputable def h36 : DL [tInt, tInt] → Option (DL [tRat, .bool]) := h33
end Go.Refl.S3
