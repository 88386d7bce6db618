/-
  ModularSmall: the function answers true.
-/
import Derived.Test.YthgbejjenlfdnaaM4
import Derived.Test.YthgbejjenlfdnaaP14
set_option linter.unusedVariables false
set_option linter.unusedSimpArgs false
set_option maxRecDepth 100000
namespace Go.Refl.S3
open Go Go.Refl Go.Proofs

theorem e37 {a b : Int} (ha : 0 ≤ a ∧ a < 9223372036854775808) (hb : 0 ≤ b ∧ b < 9223372036854775808) : h37 (a, (b, ())) = some (((Int.gcd a b : Nat) : Int), ()) := when_pos ⟨ha, hb⟩
theorem maxneg {n : Int} (h : -1000 < n ∧ n < 1000) : (if (true = true) then (if ((IntKind.wrap .i64 (0 - n)) > n) then (IntKind.wrap .i64 (0 - n)) else n) else (if ((IntKind.wrap .i64 (0 - n)) < n) then (IntKind.wrap .i64 (0 - n)) else n)) = (n.natAbs : Int) := by
  rw [if_pos rfl, wi64 (by omega) (by omega)]
  split <;> omega
/-- What the loops ask of a fraction. -/
structure OkF (u k n d : Int) : Prop where
  n2 : 2 * n * n ≤ k - 1
  gk : Int.gcd d k = 1
  gn : n ≠ 0 → Int.gcd d (n.natAbs : Int) = 1
  g0 : n = 0 → d = 1
  mod : k ∣ n - u * d
theorem okF_iff {u k n d : Int} (hd : 1 ≤ d) (hd2 : 2 * (d * d) ≤ k - 1) : OkF u k n d ↔ Fits u k n d := by
  constructor
  · intro h
    refine ⟨hd, hd2, by have := h.n2; rw [Int.mul_assoc] at this; exact this, h.mod, h.gk, ?_⟩
    by_cases h0 : n = 0
    · have := h.g0 h0
      subst h0
      subst this
      rfl
    · have := h.gn h0
      rw [Int.gcd_comm] at this
      unfold Int.gcd at *
      rw [Int.natAbs_natCast] at this
      exact this
  · intro h
    refine ⟨by rw [Int.mul_assoc]; exact h.n2, h.gm, fun h0 => ?_, fun h0 => ?_, h.mod⟩
    · rw [Int.gcd_comm]
      have := h.g
      unfold Int.gcd at *
      rw [Int.natAbs_natCast]
      exact this
    · have h1 := h.g
      rw [h0] at h1
      unfold Int.gcd at h1
      simp only [Int.natAbs_zero, Nat.gcd_zero_left] at h1
      omega
def numOf (F : Option (Int × Int)) : Int := match F with
  | some (n, _) => n
  | none => 0
def denOf (F : Option (Int × Int)) : Int := match F with
  | some (_, d) => d
  | none => 0
/-- How many fractions were found ahead of a place. -/
def cntF (F : Option (Int × Int)) (d n : Int) : Int := match F with
  | some (n0, d0) => if d0 < d ∨ (d0 = d ∧ n0 < n) then 1 else 0
  | none => 0
theorem cntF_range (F : Option (Int × Int)) (d n : Int) : 0 ≤ cntF F d n ∧ cntF F d n ≤ 1 := by
  unfold cntF
  split
  · split <;> omega
  · omega

theorem small_sq {k n : Int} (hk : k ≤ 255) (h : 2 * (n * n) ≤ k - 1) : -12 < n ∧ n < 12 := by
  constructor
  · apply Classical.byContradiction
    intro hc
    have := sq_mono (r := 12) (s := -n) (by omega) (by omega)
    rw [Int.neg_mul_neg] at this
    omega
  · apply Classical.byContradiction
    intro hc
    have := sq_mono (r := 12) (s := n) (by omega) (by omega)
    omega

theorem L9b (u k d : Int) (hu : -32768 ≤ u ∧ u ≤ 32767) (hk : k ≤ 255) (hd : 1 ≤ d) (hd2 : 2 * (d * d) ≤ k - 1) (R : Option (DL [.bool]))
    (hR : g9_L8 u true k (rb u k).isSome (cntF (rb u k) (d + 1) (-15)) (d + 1) (enc (numOf (rb u k))).1 (enc (numOf (rb u k))).2.1 (enc (denOf (rb u k))).1 (enc (denOf (rb u k))).2.1 = R) :
    ∀ j : Nat, ∀ n : Int, n + j = 16 → -15 ≤ n → g9_L11 u true k (rb u k).isSome (cntF (rb u k) d n) d n (enc (numOf (rb u k))).1 (enc (numOf (rb u k))).2.1 (enc (denOf (rb u k))).1 (enc (denOf (rb u k))).2.1 = R := by
  have hd12 := small_sq hk hd2
  have hkp : 0 < k := by
    have := Int.mul_nonneg (show 0 ≤ d by omega) (show 0 ≤ d by omega)
    omega
  intro j
  induction j with
  | zero =>
    intro n hn hn1
    have : n = 16 := by omega
    subst this
    have hcnt : cntF (rb u k) d 16 = cntF (rb u k) (d + 1) (-15) := by
      unfold cntF
      cases hF : rb u k with
      | none => rfl
      | some nd =>
        obtain ⟨n0, d0⟩ := nd
        have hfit := (rb_iff hkp).1 hF
        have hs := small_sq hk hfit.n2
        simp only
        by_cases h1 : d0 < d ∨ d0 = d ∧ n0 < 16
        · rw [if_pos h1, if_pos (by omega)]
        · rw [if_neg h1, if_neg (by omega)]
    rw [g9_L11_eq, ifd_f (by omega), wi64 (by omega) (by omega), hcnt, hR]
  | succ j ih =>
    intro n hn hn1
    have hc := cntF_range (rb u k) d n
    have hnn : -225 ≤ n * n ∧ n * n ≤ 225 := bounded_mul (b := 15) (by omega) (by omega) (by omega) (by omega) (by omega)
    have e2 : 2 * n * n = 2 * (n * n) := Int.mul_assoc 2 n n
    have hud : -393216 ≤ u * d ∧ u * d ≤ 393216 := by
      have := mul_abs (a := u) (b := d) (A := 32768) (B := 12) (by omega) (by omega)
      omega
    have hiff := okF_iff (u := u) (n := n) hd hd2
    have skip : ¬ OkF u k n d → g9_L11 u true k (rb u k).isSome (cntF (rb u k) d n) d (IntKind.wrap .i64 (n + 1)) (enc (numOf (rb u k))).1 (enc (numOf (rb u k))).2.1 (enc (denOf (rb u k))).1 (enc (denOf (rb u k))).2.1 = R := by
      intro hno
      have hcnt : cntF (rb u k) d n = cntF (rb u k) d (n + 1) := by
        unfold cntF
        cases hF : rb u k with
        | none => rfl
        | some nd =>
          obtain ⟨n0, d0⟩ := nd
          have hfit := (rb_iff hkp).1 hF
          have hne : ¬ (n0 = n ∧ d0 = d) := by
            rintro ⟨rfl, rfl⟩
            exact hno (hiff.2 hfit)
          simp only
          by_cases h1 : d0 < d ∨ d0 = d ∧ n0 < n
          · rw [if_pos h1, if_pos (by omega)]
          · rw [if_neg h1, if_neg (by omega)]
      rw [wi64 (by omega) (by omega), hcnt]
      exact ih (n + 1) (by omega) (by omega)
    have take : OkF u k n d → (rb u k).isSome = true ∧ numOf (rb u k) = n ∧ denOf (rb u k) = d ∧ g9_L11 u true k (rb u k).isSome (IntKind.wrap .i64 (cntF (rb u k) d n + 1)) d (IntKind.wrap .i64 (n + 1)) (enc (numOf (rb u k))).1 (enc (numOf (rb u k))).2.1 (enc (denOf (rb u k))).1 (enc (denOf (rb u k))).2.1 = R := by
      intro hyes
      have hF := (rb_iff hkp).2 (hiff.1 hyes)
      have hcnt : cntF (rb u k) d n + 1 = cntF (rb u k) d (n + 1) := by
        unfold cntF
        rw [hF]
        show (if d < d ∨ (d = d ∧ n < n) then (1 : Int) else 0) + 1 = if d < d ∨ (d = d ∧ n < n + 1) then 1 else 0
        rw [if_neg (by omega), if_pos (Or.inr ⟨rfl, by omega⟩)]
        rfl
      refine ⟨by rw [hF]; rfl, by rw [hF]; rfl, by rw [hF]; rfl, ?_⟩
      rw [wi64 (x := n + 1) (by omega) (by omega), wi64 (by omega) (by omega), hcnt]
      exact ih (n + 1) (by omega) (by omega)
    have T : ∀ z : Int, (z.natAbs : Int) < 1000 → Sm z := fun z hz => Sm.small (by omega)
    -- the tail of the test
    have tail : 2 * n * n ≤ k - 1 → Int.gcd d k = 1 → (n ≠ 0 → Int.gcd d (n.natAbs : Int) = 1) → (n = 0 → d = 1) →
        (if (k == 0) = true then (none : Option (DL [.bool]))
        else if ((Int.tmod (IntKind.wrap .i64 (n - (IntKind.wrap .i64 ((IntKind.wrap .i64 u) * d)))) k) != 0) = true then
          (g9_L11 u true k (rb u k).isSome (cntF (rb u k) d n) d (IntKind.wrap .i64 (n + 1)) (enc (numOf (rb u k))).1 (enc (numOf (rb u k))).2.1 (enc (denOf (rb u k))).1 (enc (denOf (rb u k))).2.1)
        else if (!(rb u k).isSome) = true then
          some (false, ())
        else Option.bind (h27 (n, ())) fun (y10 : ((Bool × ((List Int) × Unit)) × Unit)) =>
        Option.bind (h30 (((enc (numOf (rb u k))).1, ((enc (numOf (rb u k))).2.1, ())), (y10.1, ()))) fun (y11 : (Bool × Unit)) =>
        if (!y11.1) = true then
          some (false, ())
        else Option.bind (h27 (d, ())) fun (y12 : ((Bool × ((List Int) × Unit)) × Unit)) =>
        Option.bind (h30 (((enc (denOf (rb u k))).1, ((enc (denOf (rb u k))).2.1, ())), (y12.1, ()))) fun (y13 : (Bool × Unit)) =>
        if (!y13.1) = true then
          some (false, ())
        else (g9_L11 u true k (rb u k).isSome (IntKind.wrap .i64 (cntF (rb u k) d n + 1)) d (IntKind.wrap .i64 (n + 1)) (enc (numOf (rb u k))).1 (enc (numOf (rb u k))).2.1 (enc (denOf (rb u k))).1 (enc (denOf (rb u k))).2.1)) = R := by
      intro c1 c2 c3 c4
      rw [ife_f (by omega), wi64 (x := u) (by omega) (by omega), wi64 (x := u * d) (by omega) (by omega), wi64 (x := n - u * d) (by omega) (by omega)]
      by_cases c5 : Int.tmod (n - u * d) k = 0
      · obtain ⟨t1, t2, t3, t4⟩ := take ⟨c1, c2, c3, c4, Int.dvd_of_tmod_eq_zero c5⟩
        have E1 : h30 (((enc (numOf (rb u k))).1, ((enc (numOf (rb u k))).2.1, ())), (enc n, ())) = some (true, ()) := by
          rw [t2]
          exact (e30 (T n (by omega)) (T n (by omega))).trans (by simp)
        have E2 : h30 (((enc (denOf (rb u k))).1, ((enc (denOf (rb u k))).2.1, ())), (enc d, ())) = some (true, ()) := by
          rw [t3]
          exact (e30 (T d (by omega)) (T d (by omega))).trans (by simp)
        rw [ifn_f c5, ifnot_f t1, e27 (by omega), Option.bind_some]
        dsimp only
        rw [E1, Option.bind_some, ifnot_f rfl, e27 (by omega), Option.bind_some]
        dsimp only
        rw [E2, Option.bind_some, ifnot_f rfl]
        exact t4
      · rw [ifn_t c5]
        exact skip fun h => c5 (Int.tmod_eq_zero_of_dvd h.mod)
    rw [g9_L11_eq, ifd_t (by omega), wi64 (x := 2 * n) (by omega) (by omega), wi64 (x := 2 * n * n) (by omega) (by omega), wi64 (x := k - 1) (by omega) (by omega)]
    by_cases c1 : 2 * n * n > k - 1
    · rw [ifd_t c1]
      exact skip fun h => by have := h.n2; omega
    · rw [ifd_f c1, e37 (by omega) (by omega), Option.bind_some]
      dsimp only
      by_cases c2 : Int.gcd d k = 1
      · rw [ifn_f (by omega)]
        by_cases c3 : n = 0
        · rw [ifn_f c3, ife_t c3]
          by_cases c4 : d = 1
          · rw [ifn_f c4]
            exact tail (by omega) c2 (fun h => (h c3).elim) (fun _ => c4)
          · rw [ifn_t c4]
            exact skip fun h => c4 (h.g0 c3)
        · rw [ifn_t c3, maxneg (by omega), e37 (by omega) (by omega), Option.bind_some]
          dsimp only
          by_cases c4 : Int.gcd d (n.natAbs : Int) = 1
          · rw [ifn_f (by omega), ife_f c3]
            exact tail (by omega) c2 (fun _ => c4) (fun h => (c3 h).elim)
          · rw [ifn_t (by omega)]
            exact skip fun h => c4 (h.gn c3)
      · rw [ifn_t (by omega)]
        exact skip fun h => c2 h.gk

theorem L9a (u k : Int) (hu : -32768 ≤ u ∧ u ≤ 32767) (hk0 : 0 ≤ k) (hk : k ≤ 255) : ∀ j : Nat, ∀ d : Int, d + j = 13 → 1 ≤ d → g9_L8 u true k (rb u k).isSome (cntF (rb u k) d (-15)) d (enc (numOf (rb u k))).1 (enc (numOf (rb u k))).2.1 (enc (denOf (rb u k))).1 (enc (denOf (rb u k))).2.1 = some (true, ()) := by
  have done : ∀ d : Int, 1 ≤ d → ¬ 2 * d * d ≤ k - 1 → (if ((rb u k).isSome == ((cntF (rb u k) d (-15)) == 1)) = true then
      if (decide ((cntF (rb u k) d (-15)) ≤ 1)) = true then
        if (rb u k).isSome = true then
          some (true, ())
        else if ((IntKind.wrap .i64 (((List.length (enc (numOf (rb u k))).2.1) : Int) + ((List.length (enc (denOf (rb u k))).2.1) : Int))) == 0) = true then
          some (true, ())
        else some (false, ())
      else some (false, ())
    else (some (false, ()) : Option (DL [.bool]))) = some (true, ()) := by
    intro d hd hc
    cases hF : rb u k with
    | none =>
      simp only [Option.isSome_none, cntF, numOf, denOf, enc_zero]
      rfl
    | some nd =>
      obtain ⟨n0, d0⟩ := nd
      have hkp : 0 < k := by
        apply Classical.byContradiction
        intro h
        unfold rb at hF
        rw [if_pos (by omega)] at hF
        cases hF
      have hfit := (rb_iff hkp).1 hF
      have h1 := hfit.d1
      have h2 := hfit.d2
      have hlt : d0 < d := by
        apply Classical.byContradiction
        intro h
        have := sq_mono (r := d) (s := d0) (by omega) (by omega)
        rw [Int.mul_assoc] at hc
        omega
      have e : cntF (some (n0, d0)) d (-15) = 1 := if_pos (.inl hlt)
      rw [e]
      rfl
  intro j
  induction j with
  | zero =>
    intro d hd hd1
    have : d = 13 := by omega
    subst this
    rw [g9_L8_eq, wi64 (x := 2 * 13) (by omega) (by omega), wi64 (x := 2 * 13 * 13) (by omega) (by omega), wi64 (x := k - 1) (by omega) (by omega), ifd_f (by omega)]
    exact done 13 (by omega) (by omega)
  | succ j ih =>
    intro d hd hd1
    have hdd : -169 ≤ d * d ∧ d * d ≤ 169 := bounded_mul (b := 13) (by omega) (by omega) (by omega) (by omega) (by omega)
    have e2 : 2 * d * d = 2 * (d * d) := Int.mul_assoc 2 d d
    rw [g9_L8_eq, wi64 (x := 2 * d) (by omega) (by omega), wi64 (x := 2 * d * d) (by omega) (by omega), wi64 (x := k - 1) (by omega) (by omega)]
    by_cases c : 2 * d * d ≤ k - 1
    · rw [ifd_t c]
      exact L9b u k d hu hk hd1 (by omega) _ (ih (d + 1) (by omega) (by omega)) 31 (-15) (by omega) (by omega)
    · rw [ifd_f c]
      exact done d hd1 c
theorem rbR_eq (F : Option (Int × Int)) : rbR F = ((enc (numOf F), (enc (denOf F), ())), (F.isSome, ())) := by
  cases F with
  | none => rfl
  | some nd => rfl
noncomputable def h9 : DL [.int .i16, .int .u8] → Option (DL [.bool]) := fun (x : Int × Int × Unit) => when ((-32768 ≤ x.1 ∧ x.1 ≤ 32767) ∧ 0 ≤ x.2.1 ∧ x.2.1 ≤ 255) (true, ())
theorem s9 : SigOk Try.prog 9 ⟨[.int .i16, .int .u8], [.bool], h9⟩ := ok9 fun (x : Int × Int × Unit) r h => by
  obtain ⟨⟨hu, hk0, hk⟩, rfl⟩ := when_some h
  obtain ⟨u, k, uu⟩ := x
  simp only at hu hk0 hk
  show g9 (u, k, ()) = some (true, ())
  have hP : (1000 : Int) < P 99 := by
    have := P_le (show 1 ≤ 99 by omega)
    have e1 : P 1 = 4294967296 := rfl
    omega
  rw [g9_eq, e10, Option.bind_some, ifnot_f rfl, wi64 (x := u) (by omega) (by omega), wi64 (x := k) (by omega) (by omega), e27 (by omega), Option.bind_some, e27 (by omega), Option.bind_some]
  dsimp only
  rw [e33 (Sm.small (by omega)) (Sm.small (by omega)) (by omega), Option.bind_some, rbR_eq]
  have h0 : cntF (rb u k) 1 (-15) = 0 := by
    unfold cntF
    cases hF : rb u k with
    | none => rfl
    | some nd =>
      obtain ⟨n0, d0⟩ := nd
      have hkp : 0 < k := by
        apply Classical.byContradiction
        intro h
        unfold rb at hF
        rw [if_pos (by omega)] at hF
        cases hF
      have hfit := (rb_iff hkp).1 hF
      have h1 := hfit.d1
      have hs := small_sq hk hfit.n2
      simp only
      rw [if_neg (by omega)]
  have := L9a u k hu hk0 hk 12 1 (by omega) (by omega)
  rw [h0] at this
  exact this
end Go.Refl.S3
