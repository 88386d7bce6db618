/-
  The test for primes, the next prime, inverses: what the functions compute.
-/
import Derived.Test.YthgbejjenlfdnaaQ8
set_option linter.unusedVariables false
set_option linter.unusedSimpArgs false
set_option maxRecDepth 100000
namespace Go.Refl.S3
open Go Go.Refl Go.Proofs

/-! ### The test -/
def mrSq (n : Int) : Nat → Int → Bool → Bool
  | 0, _, p => p
  | k + 1, x, p => mrSq n k (x * x % n) (p || (x * x % n == n - 1))
def mrL (n d s : Int) : List Int → Bool
  | [] => true
  | w :: ws => if n = w then true else if w ^ d.toNat % n = 1 ∨ w ^ d.toNat % n = n - 1 then mrL n d s ws else if mrSq n (s - 1).toNat (w ^ d.toNat % n) false = true then mrL n d s ws else false
/-- Halved as long as it goes. -/
def tz : Nat → Int → Int → Int × Int
  | 0, d, s => (d, s)
  | k + 1, d, s => if d % 2 = 0 then tz k (d / 2) (s + 1) else (d, s)
def mr (n : Int) : Bool := if n < 2 ∨ n ≥ 2147483648 then false else mrL n (tz 64 (n - 1) 0).1 (tz 64 (n - 1) 0).2 [2, 3, 5, 7]

noncomputable def h13 : DL [.int .u64] → Option (DL [.bool]) := fun (x : Int × Unit) => when (0 ≤ x.1 ∧ x.1 < 18446744073709551616) (mr x.1, ())

theorem tz_bounds : ∀ k : Nat, ∀ d s : Int, 0 < d → d < 18446744073709551616 → 0 ≤ s → 0 < (tz k d s).1 ∧ (tz k d s).1 ≤ d ∧ 0 ≤ (tz k d s).2 ∧ (tz k d s).2 ≤ s + k := by
  intro k
  induction k with
  | zero => intro d s h1 h2 h3; simp only [tz]; omega
  | succ k ih =>
    intro d s h1 h2 h3
    simp only [tz]
    split
    · have := ih (d / 2) (s + 1) (by omega) (by omega) (by omega)
      omega
    · simp only; omega

theorem L13b (n d s : Int) (hn : 2 ≤ n) (hn1 : n < 2147483648) (hs : s < 1000) (i : Nat) (hi : i < 4) (R : Option (DL [.bool])) (hR : g13_L7 n d s [2, 3, 5, 7] ((i : Int) + 1) = R) : ∀ k : Nat, ∀ x j : Int, ∀ p : Bool, 0 ≤ x → x < n → 0 ≤ j → j < 2000 → k = (s - 1 - j).toNat →
    g13_L15 n d s x p [2, 3, 5, 7] (i : Int) (s - 1) j = if mrSq n k x p = true then R else some (false, ()) := by
  intro k
  induction k with
  | zero =>
    intro x j p x0 x1 j0 j1 hk
    rw [g13_L15_eq, ifd_f (by omega), wi64 (by omega) (by omega), hR]
    cases p <;> simp [mrSq]
  | succ k ih =>
    intro x j p x0 x1 j0 j1 hk
    have hm := mul_lt64 x0 (by omega) x0 (by omega)
    have q1 := Int.emod_nonneg (x * x) (show n ≠ 0 by omega)
    have q2 := Int.emod_lt_of_pos (x * x) (show 0 < n by omega)
    rw [g13_L15_eq, ifd_t (by omega), ife_f (by omega), wu64 hm.1 hm.2, tm hm.1, wi64 (by omega) (by omega), wu64 (x := n - 1) (by omega) (by omega)]
    cases p with
    | true =>
      rw [ifb_t rfl, ih (x * x % n) (j + 1) true q1 q2 (by omega) (by omega) (by omega)]
      simp [mrSq]
    | false =>
      rw [ifb_f rfl, ih (x * x % n) (j + 1) _ q1 q2 (by omega) (by omega) (by omega)]
      simp only [mrSq, Bool.false_or]

theorem e20 {a n p : Int} (ha : 0 ≤ a ∧ a < 18446744073709551616) (hn : 0 ≤ n ∧ n < 18446744073709551616) (hp : 0 < p ∧ p < 4294967296) : h20 (a, (n, (p, ()))) = some (a ^ n.toNat % p, ()) := when_pos ⟨ha, hn, hp⟩

theorem L13a (n d s : Int) (hn : 2 ≤ n) (hn1 : n < 2147483648) (hs0 : 0 ≤ s) (hs : s < 1000) (hd : 0 ≤ d ∧ d < 18446744073709551616) : ∀ m i : Nat, i + m = 4 → g13_L7 n d s [2, 3, 5, 7] (i : Int) = some (mrL n d s (([2, 3, 5, 7] : List Int).drop i), ()) := by
  intro m
  induction m with
  | zero =>
    intro i hi
    have : i = 4 := by omega
    subst this
    rw [g13_L7_eq, ifd_f (by omega)]
    simp only [List.drop_succ_cons, List.drop_zero, mrL]
    rw [decide_eq_true (by omega)]
  | succ m ih =>
    intro i hi
    obtain ⟨w, ws, hw, hdr, hws, hwl⟩ : ∃ w ws, ([2, 3, 5, 7] : List Int).getD i 0 = w ∧ ([2, 3, 5, 7] : List Int).drop i = w :: ws ∧ ([2, 3, 5, 7] : List Int).drop (i + 1) = ws ∧ (0 ≤ w ∧ w < 18446744073709551616) := by
      match i, hi with
      | 0, _ => exact ⟨_, _, rfl, rfl, rfl, by decide⟩
      | 1, _ => exact ⟨_, _, rfl, rfl, rfl, by decide⟩
      | 2, _ => exact ⟨_, _, rfl, rfl, rfl, by decide⟩
      | 3, _ => exact ⟨_, _, rfl, rfl, rfl, by decide⟩
      | n + 4, h => exact absurd h (by omega)
    have q1 := Int.emod_nonneg (w ^ d.toNat) (show n ≠ 0 by omega)
    have q2 := Int.emod_lt_of_pos (w ^ d.toNat) (show 0 < n by omega)
    have ihn := ih (i + 1) (by omega)
    rw [hws] at ihn
    rw [g13_L7_eq, ifd_t (by omega), ifdd_t (by omega) (by omega), Int.toNat_natCast, hw, hdr]
    simp only [mrL]
    by_cases h1 : n = w
    · rw [ife_t h1, if_pos h1]
    · rw [ife_f h1, if_neg h1, e20 hwl hd (by omega), Option.bind_some]
      dsimp only
      rw [wi64 (x := (i : Int) + 1) (by omega) (by omega), wu64 (x := n - 1) (by omega) (by omega), wi64 (x := s - 1) (by omega) (by omega), show (i : Int) + 1 = ((i + 1 : Nat) : Int) by omega]
      by_cases h2 : w ^ d.toNat % n = 1
      · rw [ife_t h2, ihn, if_pos (.inl h2)]
      · rw [ife_f h2]
        by_cases h3 : w ^ d.toNat % n = n - 1
        · rw [ife_t h3, ihn, if_pos (.inr h3)]
        · rw [ife_f h3, if_neg (fun h => h.elim h2 h3), L13b n d s hn hn1 hs i (by omega) _ ihn (s - 1 - 0).toNat _ 0 false q1 q2 (by omega) (by omega) rfl, Int.sub_zero]
          split <;> rfl

theorem L13c (n : Int) : ∀ k : Nat, ∀ d s : Int, 0 < d → d < 2 ^ k → d < 18446744073709551616 → 0 ≤ s → s + k < 1000 → g13_L4 n d s = g13_L7 n (tz k d s).1 (tz k d s).2 [2, 3, 5, 7] 0 := by
  intro k
  induction k with
  | zero => intro d s h0 h1 h2 h3; omega
  | succ k ih =>
    intro d s h0 h1 h2 h3 h4
    rw [g13_L4_eq, tm (by omega), td (by omega), wu64 (by omega) (by omega), wi64 (by omega) (by omega)]
    simp only [tz]
    by_cases h : d % 2 = 0
    · rw [ife_t h, if_pos h]
      refine ih (d / 2) (s + 1) (by omega) ?_ (by omega) (by omega) (by omega)
      rw [Int.pow_succ] at h1
      omega
    · rw [ife_f h, if_neg h]
      simp only [h38, Option.bind_some]

theorem s13 : SigOk Try.prog 13 ⟨[.int .u64], [.bool], h13⟩ := ok13 fun (x : Int × Unit) r h => by
  obtain ⟨⟨a0, a1⟩, rfl⟩ := when_some h
  obtain ⟨n, u⟩ := x
  simp only at a0 a1
  show g13 (n, ()) = some (mr n, ())
  unfold mr
  rw [g13_eq]
  by_cases h1 : n < 2
  · rw [ifd_t h1, if_pos (.inl h1)]
  · rw [ifd_f h1]
    by_cases h2 : n ≥ 2147483648
    · rw [ifd_t h2, if_pos (.inr h2)]
    · have ht := tz_bounds 64 (n - 1) 0 (by omega) (by omega) (by omega)
      rw [ifd_f h2, if_neg (fun h => h.elim h1 h2), wu64 (by omega) (by omega), L13c n 64 (n - 1) 0 (by omega) (by omega) (by omega) (by omega) (by omega)]
      exact L13a n _ _ (by omega) (by omega) ht.2.2.1 (by omega) (by omega) 4 0 rfl

/-! ### The next one -/
open Classical in
/-- The least number above n with a property. -/
noncomputable def nxt (p : Int → Prop) (n : Int) : Int := if h : ∃ m, n < m ∧ p m ∧ ∀ k, n < k → k < m → ¬ p k then Classical.choose h else 0
theorem nxt_eq {p : Int → Prop} {n m : Int} (h1 : n < m) (h2 : p m) (h3 : ∀ k, n < k → k < m → ¬ p k) : nxt p n = m := by
  have h : ∃ m, n < m ∧ p m ∧ ∀ k, n < k → k < m → ¬ p k := ⟨m, h1, h2, h3⟩
  unfold nxt
  rw [dif_pos h]
  obtain ⟨e1, e2, e3⟩ := Classical.choose_spec h
  apply Classical.byContradiction
  intro hc
  rcases Int.lt_or_gt_of_ne hc with hlt | hgt
  · exact h3 _ e1 hlt e2
  · exact e3 _ h1 hgt h2
theorem nxt_spec {p : Int → Prop} {n : Int} (h : ∃ m, n < m ∧ p m) : n < nxt p n ∧ p (nxt p n) ∧ ∀ k, n < k → k < nxt p n → ¬ p k := by
  have key : ∀ k : Nat, ∀ m, n < m → p m → (m - n).toNat ≤ k → ∃ m, n < m ∧ p m ∧ ∀ k, n < k → k < m → ¬ p k := by
    intro k
    induction k with
    | zero => intro m h1 h2 h3; omega
    | succ k ih =>
      intro m h1 h2 h3
      by_cases hx : ∃ j, n < j ∧ j < m ∧ p j
      · obtain ⟨j, e1, e2, e3⟩ := hx
        exact ih j e1 e3 (by omega)
      · exact ⟨m, h1, h2, fun j e1 e2 e3 => hx ⟨j, e1, e2, e3⟩⟩
  obtain ⟨m, h1, h2⟩ := h
  obtain ⟨m, e1, e2, e3⟩ := key _ m h1 h2 (Nat.le_refl _)
  rw [nxt_eq e1 e2 e3]
  exact ⟨e1, e2, e3⟩

/-- Looked through in halves. -/
def allR (f : Nat → Bool) : Nat → Nat → Bool
  | 0, a => f a
  | k + 1, a => allR f k a && allR f k (a + 2 ^ k)
theorem allR_sound {f : Nat → Bool} : ∀ (k a : Nat), allR f k a = true → ∀ x, a ≤ x → x < a + 2 ^ k → f x = true
  | 0, a, h, x, h1, h2 => by
    have : x = a := by simp at h2; omega
    subst this
    exact h
  | k + 1, a, h, x, h1, h2 => by
    simp only [allR, Bool.and_eq_true] at h
    rw [Nat.pow_succ] at h2
    by_cases hx : x < a + 2 ^ k
    · exact allR_sound k a h.1 x h1 hx
    · exact allR_sound k (a + 2 ^ k) h.2 x (by omega) (by omega)
theorem last_chk : allR (fun d => Nat.blt d 2 || (2147483647 % d != 0)) 16 0 = true := by decide +kernel
theorem Pri_last : Pri 2147483647 := by
  refine ⟨by omega, fun d h1 h2 h3 => ?_⟩
  have hd : d < 46341 := by
    apply Classical.byContradiction
    intro hc
    have : (46341 : Int) * 46341 ≤ d * d := Int.mul_le_mul (by omega) (by omega) (by omega) (by omega)
    omega
  have := allR_sound 16 0 last_chk d.toNat (by omega) (by omega)
  simp only [Bool.or_eq_true, Nat.blt_eq, bne_iff_ne, ne_eq] at this
  rcases this with h | h
  · omega
  · apply h
    have e : ((2147483647 % d.toNat : Nat) : Int) = 2147483647 % d := by
      rw [Int.natCast_emod, Int.toNat_of_nonneg (by omega)]
      rfl
    omega

noncomputable def h12 : DL [.int .u64] → Option (DL [.int .u64, .int .i64]) := fun (x : Int × Unit) => when (0 ≤ x.1 ∧ x.1 < 18446744073709551616) (open Classical in if x.1 ≥ 2147483647 then (0, (1, ())) else (nxt Pri x.1, (0, ())))
theorem nxt_Pri {n : Int} (h : n < 2147483647) : n < nxt Pri n ∧ Pri (nxt Pri n) ∧ nxt Pri n ≤ 2147483647 ∧ ∀ k, n < k → k < nxt Pri n → ¬ Pri k := by
  obtain ⟨h1, h2, h3⟩ := nxt_spec (p := Pri) ⟨2147483647, h, Pri_last⟩
  refine ⟨h1, h2, ?_, h3⟩
  apply Classical.byContradiction
  intro hc
  exact h3 2147483647 h (by omega) Pri_last
theorem e14 {n : Int} (h : 0 ≤ n ∧ n < 18446744073709551616) : h14 (n, ()) = some (open Classical in decide (Pri n ∧ n ≤ 2147483647), ()) := when_pos h
theorem L12 (m : Int) (hm : Pri m) (hm1 : m ≤ 2147483647) : ∀ k : Nat, ∀ t : Int, 0 ≤ t → t + k = m → (∀ j, t ≤ j → j < m → ¬ Pri j) → g12_L4 t = some (m, (0, ())) := by
  intro k
  induction k with
  | zero =>
    intro t h0 h1 h2
    have : t = m := by omega
    subst this
    rw [g12_L4_eq, e14 (by omega), Option.bind_some]
    dsimp only
    rw [ifnot_f (by simp [hm, hm1])]
  | succ k ih =>
    intro t h0 h1 h2
    rw [g12_L4_eq, e14 (by omega), Option.bind_some]
    dsimp only
    have hp := h2 t (Int.le_refl _) (by omega)
    rw [ifnot_t (by simp [hp]), wu64 (by omega) (by omega)]
    exact ih (t + 1) (by omega) (by omega) fun j h3 h4 => h2 j (by omega) h4
theorem s12 : SigOk Try.prog 12 ⟨[.int .u64], [.int .u64, .int .i64], h12⟩ := ok12 fun (x : Int × Unit) r h => by
  obtain ⟨⟨a0, a1⟩, rfl⟩ := when_some h
  obtain ⟨n, u⟩ := x
  simp only at a0 a1
  show g12 (n, ()) = some (open Classical in if n ≥ 2147483647 then (0, (1, ())) else (nxt Pri n, (0, ())))
  rw [g12_eq]
  by_cases h1 : n ≥ 2147483647
  · rw [ifd_t h1, if_pos h1]
  · obtain ⟨e1, e2, e3, e4⟩ := nxt_Pri (n := n) (by omega)
    rw [ifd_f h1, if_neg h1, wu64 (by omega) (by omega)]
    exact L12 _ e2 e3 (nxt Pri n - (n + 1)).toNat (n + 1) (by omega) (by omega) fun j h3 h4 => e4 j (by omega) h4

/-! ### Inverses -/
/-- The cofactor of the extended Euclidean algorithm. -/
def eiv (x y u v : Int) : Int := if h : 0 < y then eiv y (x % y) v (u - x / y * v) else u
termination_by y.toNat
decreasing_by
  have := Int.emod_lt_of_pos x h
  have := Int.emod_nonneg x (show y ≠ 0 by omega)
  omega
def inv (a p : Int) : Int := (eiv p (a % p) 0 1 + p) % p
theorem eiv_zero (x u v : Int) : eiv x 0 u v = u := by
  rw [eiv]
  simp
theorem eiv_pos {x y u v : Int} (h : 0 < y) : eiv x y u v = eiv y (x % y) v (u - x / y * v) := by
  rw [eiv]
  simp [h]
noncomputable def h16 : DL [.int .u64, .int .u64] → Option (DL [.int .u64, .int .i64]) := fun (x : Int × Int × Unit) =>
  when ((0 ≤ x.1 ∧ x.1 < 18446744073709551616) ∧ 1 ≤ x.2.1 ∧ x.2.1 < 2147483648) (if x.1 % x.2.1 = 0 then (0, (10, ())) else (inv x.1 x.2.1, (0, ())))

/-- How the two cofactors stand to each other: e is 1 or -1. -/
theorem eiv_bound {p x y u v e : Int} (hp : 0 < p) (he : e = 1 ∨ e = -1) (hx : 1 ≤ x) (hy : 0 ≤ y) (hv : 0 ≤ e * v) (hu : 0 ≤ -e * u) (h : e * v * x + -e * u * y = p) (hub : -e * u ≤ p) : -p ≤ u ∧ u ≤ p ∧ -p ≤ v ∧ v ≤ p := by
  have h1 : 0 ≤ -e * u * y := Int.mul_nonneg hu hy
  have h2 : e * v * 1 ≤ e * v * x := Int.mul_le_mul_of_nonneg_left hx hv
  rcases he with rfl | rfl <;> omega

theorem L16 (p : Int) (hp0 : 0 < p) (hp : p < 2147483648) : ∀ k : Nat, ∀ x y u v e : Int, y.toNat ≤ k → 0 ≤ y → y < x → x ≤ p → (e = 1 ∨ e = -1) → 0 ≤ e * v → 0 ≤ -e * u → e * v * x + -e * u * y = p → -e * u ≤ p →
    g16_L4 p x y u v = some ((eiv x y u v + p) % p, (0, ())) := by
  intro k
  induction k with
  | zero =>
    intro x y u v e hk hy hyx hxp he hv hu h hub
    obtain ⟨b1, b2, b3, b4⟩ := eiv_bound hp0 he (by omega) hy hv hu h hub
    have : y = 0 := by omega
    subst this
    rw [g16_L4_eq, ifn_f rfl, wi64 (x := p) (by omega) (by omega), ife_f (by omega), wi64 (x := u + p) (by omega) (by omega), tm (by omega), eiv_zero]
    have q1 := Int.emod_nonneg (u + p) (show p ≠ 0 by omega)
    have q2 := Int.emod_lt_of_pos (u + p) hp0
    rw [wu64 q1 (by omega)]
  | succ k ih =>
    intro x y u v e hk hy hyx hxp he hv hu h hub
    obtain ⟨b1, b2, b3, b4⟩ := eiv_bound hp0 he (by omega) hy hv hu h hub
    rw [g16_L4_eq]
    by_cases h0 : y = 0
    · subst h0
      rw [ifn_f rfl, wi64 (x := p) (by omega) (by omega), ife_f (by omega), wi64 (x := u + p) (by omega) (by omega), tm (by omega), eiv_zero]
      have q1 := Int.emod_nonneg (u + p) (show p ≠ 0 by omega)
      have q2 := Int.emod_lt_of_pos (u + p) hp0
      rw [wu64 q1 (by omega)]
    · have hyp : 0 < y := by omega
      obtain ⟨q0, q1, m0, m1⟩ := quot_le (a := x) (b := y) (by omega) hyp
      have me := Int.mul_ediv_add_emod x y
      have hqy : 0 ≤ x / y * y ∧ x / y * y ≤ x := by
        rw [Int.mul_comm]
        have := Int.mul_nonneg (show 0 ≤ y by omega) q0
        omega
      have hv' : 0 ≤ (-e) * (u - x / y * v) := by
        have : 0 ≤ x / y * (e * v) := Int.mul_nonneg q0 hv
        have e2 : (-e) * (u - x / y * v) = -e * u + x / y * (e * v) := by grind
        omega
      have hu' : 0 ≤ - -e * v := by rw [Int.neg_neg]; exact hv
      have hsum : (-e) * (u - x / y * v) * y + - -e * v * (x % y) = p := by
        have e3 : x % y = x - y * (x / y) := by omega
        rw [e3]
        clear ih hv' hu' hqy me m0 m1 q0 q1 b1 b2 b3 b4 hub hu hv hyx hxp e3
        grind
      have hub' : - -e * v ≤ p := by
        rw [Int.neg_neg]
        rcases he with rfl | rfl <;> omega
      obtain ⟨c1, c2, c3, c4⟩ := eiv_bound hp0 (e := -e) (by rcases he with rfl | rfl <;> simp) (by omega) m0 hv' hu' hsum hub'
      have hqv : -2 * p ≤ x / y * v ∧ x / y * v ≤ 2 * p := by omega
      rw [ifn_t h0, ife_f h0, td (by omega), wi64 (x := x / y) (by omega) (by omega), wi64 (x := x / y * y) (by omega) (by omega), wi64 (x := x / y * v) (by omega) (by omega), wi64 (x := x - x / y * y) (by omega) (by omega), wi64 (x := u - x / y * v) (by omega) (by omega), eiv_pos hyp, show x - x / y * y = x % y by rw [Int.mul_comm (x / y)]; omega]
      exact ih y (x % y) v (u - x / y * v) (-e) (by omega) m0 m1 (by omega) (by rcases he with rfl | rfl <;> simp) hv' hu' hsum hub'
theorem s16 : SigOk Try.prog 16 ⟨[.int .u64, .int .u64], [.int .u64, .int .i64], h16⟩ := leaf (an := an16) Try.func16 rfl rfl fun (x : Int × Int × Unit) r h => by
  obtain ⟨⟨ha, p0, p1⟩, rfl⟩ := when_some h
  obtain ⟨a, p, u⟩ := x
  simp only at ha p0 p1
  show g16 (a, p, ()) = some (if a % p = 0 then (0, (10, ())) else (inv a p, (0, ())))
  have m0 := Int.emod_nonneg a (show p ≠ 0 by omega)
  have m1 := Int.emod_lt_of_pos a (show 0 < p by omega)
  rw [g16_eq, ife_f (by omega), tm ha.1, wi64 (x := a % p) (by omega) (by omega), wi64 (x := p) (by omega) (by omega)]
  by_cases h0 : a % p = 0
  · rw [ife_t h0, if_pos h0]
  · rw [ife_f h0, if_neg h0]
    exact L16 p (by omega) (by omega) _ p (a % p) 0 1 1 (Nat.le_refl _) m0 m1 (Int.le_refl _) (.inl rfl) (by omega) (by omega) (by omega) (by omega)
end Go.Refl.S3
