/-
  One digit of a long quotient, and the rest in place: what the program's function takes away.
-/
import Derived.Test.YthgbejjenlfdnaaP3
set_option linter.unusedVariables false
set_option linter.unusedSimpArgs false
set_option maxRecDepth 100000
namespace Go.Refl.S3
open Go Go.Refl Go.Proofs

/-! ### A cut of a row -/
theorem cut_getD {A p C : List Int} {i : Nat} (h : i < p.length) : (A ++ (p ++ C)).getD (A.length + i) 0 = p.getD i 0 := by
  rw [List.getD_eq_getElem?_getD, List.getD_eq_getElem?_getD, List.getElem?_append_right (by omega), List.getElem?_append_left (by omega), Nat.add_sub_cancel_left]
theorem cut_set {A p C : List Int} {i : Nat} {w : Int} (h : i < p.length) : (A ++ (p ++ C)).set (A.length + i) w = A ++ (p.set i w ++ C) := by
  rw [List.set_append_right _ _ (by omega), Nat.add_sub_cancel_left, List.set_append_left _ _ h]
theorem cut_split (xs : List Int) (lo n : Nat) : xs = xs.take lo ++ ((xs.drop lo).take n ++ xs.drop (lo + n)) := by
  rw [← List.drop_drop, List.take_append_drop, List.take_append_drop]
theorem W.cut {A p C : List Int} (h : W (A ++ (p ++ C))) : W A ∧ W p ∧ W C :=
  ⟨fun x hx => h x (by simp [hx]), fun x hx => h x (by simp [hx]), fun x hx => h x (by simp [hx])⟩

/-! ### Estimates -/
/-- The highest words tell a bound of the quotient. -/
theorem est2 {p v : List Int} {k : Nat} (hp : W p) (hv : W v) (lp : p.length = k + 3) (lv : v.length = k + 2) {Q : Int} (hQ : 0 ≤ Q) (h : Q * V v ≤ V p) :
    Q * (v.getD k 0 + 4294967296 * v.getD (k + 1) 0) ≤ p.getD k 0 + 4294967296 * (p.getD (k + 1) 0 + 4294967296 * p.getD (k + 2) 0) := by
  have e1 : V p = V (p.take k) + P k * (p.getD k 0 + 4294967296 * (p.getD (k + 1) 0 + 4294967296 * p.getD (k + 2) 0)) := by
    conv => lhs; rw [← List.take_of_length_le (show p.length ≤ k + 2 + 1 by omega)]
    simp only [V_take_succ, P_succ]
    generalize p.getD k 0 = a; generalize p.getD (k + 1) 0 = b; generalize p.getD (k + 2) 0 = c; generalize P k = d; generalize V (p.take k) = e
    clear hp hv lp lv h
    grind
  have e2 : V v = V (v.take k) + P k * (v.getD k 0 + 4294967296 * v.getD (k + 1) 0) := by
    conv => lhs; rw [← List.take_of_length_le (show v.length ≤ k + 1 + 1 by omega)]
    simp only [V_take_succ, P_succ]
    generalize v.getD k 0 = a; generalize v.getD (k + 1) 0 = b; generalize P k = d; generalize V (v.take k) = e
    clear e1 hp hv lp lv h
    grind
  have h1 := V_lt (hp.take k)
  rw [List.length_take, Nat.min_eq_left (by omega)] at h1
  have h2 := V_nonneg (hv.take k)
  have hk := P_pos k
  generalize v.getD k 0 + 4294967296 * v.getD (k + 1) 0 = Y at *
  generalize p.getD k 0 + 4294967296 * (p.getD (k + 1) 0 + 4294967296 * p.getD (k + 2) 0) = X at *
  have h3 : Q * (P k * Y) ≤ Q * V v := Int.mul_le_mul_of_nonneg_left (by omega) hQ
  have h4 : P k * (Q * Y) < P k * (X + 1) := by
    have : P k * (Q * Y) = Q * (P k * Y) := by grind
    rw [Int.mul_add]
    omega
  have := Int.lt_of_mul_lt_mul_left h4 (by omega)
  omega

theorem est1 {Q y1 y2 x1 x2 : Int} (hQ : 0 ≤ Q) (hy : 0 ≤ y2) (hx : x2 < 4294967296) (h : Q * (y2 + 4294967296 * y1) ≤ x2 + 4294967296 * x1) : Q * y1 ≤ x1 := by
  have h1 : 0 ≤ Q * y2 := Int.mul_nonneg hQ hy
  have h2 : Q * (y2 + 4294967296 * y1) = Q * y2 + 4294967296 * (Q * y1) := by grind
  omega

/-! ### Adding back -/
theorem L96b (A C v : List Int) (hv : W v) (k : Nat) (hlv : v.length = k + 2) (hk : k < 4194304) (p0 : List Int) (dg b : Int) : ∀ m i : Nat, i + m = k + 3 → ∀ (p : List Int) (c : Int), W p → p.length = k + 3 → (∀ j, i ≤ j → p.getD j 0 = p0.getD j 0) → W p0 → 0 ≤ c → c ≤ 1 → V p + P i * c = V p0 + V (v.take i) →
    ∃ p' c', W p' ∧ p'.length = k + 3 ∧ 0 ≤ c' ∧ c' ≤ 1 ∧ V p' + P (k + 3) * c' = V p0 + V v ∧ g96_L23 A.length (k + 3) v dg b c ((k + 3 : Nat) : Int) (i : Int) (A ++ (p ++ C)) = g96_L19 A.length (k + 3) v dg (IntKind.wrap .u32 (b - c')) (A ++ (p' ++ C)) := by
  intro m
  induction m with
  | zero =>
    intro i hi p c hp hl hs hp0 c0 c1 he
    have : i = k + 3 := by omega
    subst this
    rw [List.take_of_length_le (by omega)] at he
    refine ⟨p, c, hp, hl, c0, c1, he, ?_⟩
    rw [g96_L23_eq, ifd_f (by omega)]
  | succ m ih =>
    intro i hi p c hp hl hs hp0 c0 c1 he
    have hpi := hp.getD i
    have hvi := hv.getD i
    rw [g96_L23_eq, ifd_t (by omega), ifdd_t (by omega) (by omega), e83 hv (by omega), Option.bind_some]
    dsimp only
    rw [Int.toNat_natCast, cut_getD (by omega), e90 hpi hvi (by omega), Option.bind_some, ifdd_t (by omega) (by omega), wi64 (by omega) (by omega)]
    dsimp only
    rw [cut_set (by omega)]
    refine ih (i + 1) (by omega) _ _ (hp.set (by omega) (by omega)) (by simp [hl]) (fun j hj => ?_) hp0 (by omega) (by omega) ?_
    · rw [getD_set_ne (by omega)]
      exact hs j (by omega)
    · rw [V_set (by omega), V_take_succ, P_succ]
      have e : (p.getD i 0 + v.getD i 0 + c) % 4294967296 + 4294967296 * ((p.getD i 0 + v.getD i 0 + c) / 4294967296) = p.getD i 0 + v.getD i 0 + c := by omega
      clear ih
      grind

/-! ### Till the digit is right -/
theorem L96c (A C v : List Int) (hv : W v) (k : Nat) (hlv : v.length = k + 2) (hk : k < 4194304) (X Q : Int) (hQ : 0 ≤ Q) (hX0 : 0 ≤ X - Q * V v) (hX1 : X - Q * V v < V v) : ∀ m : Nat, ∀ (p : List Int) (dg b : Int), W p → p.length = k + 3 → 0 ≤ b → b ≤ 1 → dg = Q + m → dg < 4294967296 → V p - P (k + 3) * b = X - dg * V v →
    g96_L19 A.length (k + 3) v dg b (A ++ (p ++ C)) = some ((Q, ()), A ++ (Dn (k + 3) (X - Q * V v) ++ C)) := by
  intro m
  induction m with
  | zero =>
    intro p dg b hp hl b0 b1 hd hd1 he
    have hdQ : dg = Q := by omega
    subst hdQ
    have hvp := V_lt hp
    rw [hl] at hvp
    have hb : b = 0 := by
      apply Classical.byContradiction
      intro hc
      have : b = 1 := by omega
      subst this
      omega
    subst hb
    rw [g96_L19_eq, ifd_f (by omega), wu32 (by omega) (by omega), ← he]
    have : Dn (k + 3) (V p - P (k + 3) * 0) = p := by
      rw [Int.mul_zero, Int.sub_zero, ← hl, Dn_V hp]
    rw [this]
  | succ m ih =>
    intro p dg b hp hl b0 b1 hd hd1 he
    have hvp := V_nonneg hp
    have hvn : 0 < V v := by omega
    have hneg : X - dg * V v < 0 := by
      have h1 : (Q + 1) * V v ≤ dg * V v := Int.mul_le_mul_of_nonneg_right (by omega) (by omega)
      rw [Int.add_mul] at h1
      omega
    have hb : b = 1 := by
      apply Classical.byContradiction
      intro hc
      have : b = 0 := by omega
      subst this
      omega
    subst hb
    rw [g96_L19_eq, ifd_t (by omega), wu64 (by omega) (by omega)]
    obtain ⟨p', c', hp', hl', c0, c1, he', hgo⟩ := L96b A C v hv k hlv hk p (dg - 1) 1 (k + 3) 0 (by omega) p 0 hp hl (fun _ _ => rfl) hp (by omega) (by omega) (by simp [V])
    rw [show (((0 : Nat) : Int)) = 0 from rfl] at hgo
    rw [hgo, wu32 (by omega) (by omega)]
    refine ih p' (dg - 1) (1 - c') hp' hl' (by omega) (by omega) (by omega) (by omega) ?_
    rw [Int.sub_mul, Int.mul_sub]
    generalize P (k + 3) = Z at *
    omega

/-! ### Taking away -/
theorem L96a (A C v : List Int) (hv : W v) (k : Nat) (hlv : v.length = k + 2) (hk : k < 4194304) (p0 : List Int) (hp0 : W p0) (dg : Int) (d0 : 0 ≤ dg) (d1 : dg < 4294967296) : ∀ m i : Nat, i + m = k + 3 → ∀ (p : List Int) (c b : Int), W p → p.length = k + 3 → 0 ≤ c → c < 4294967296 → (k + 2 < i → c = 0) → 0 ≤ b → b ≤ 1 → V p = V p0 - dg * V (v.take i) + P i * (c + b) →
    ∃ p' b', W p' ∧ p'.length = k + 3 ∧ 0 ≤ b' ∧ b' ≤ 1 ∧ V p' - P (k + 3) * b' = V p0 - dg * V v ∧ g96_L13 A.length (k + 3) v dg c b ((k + 3 : Nat) : Int) (i : Int) (A ++ (p ++ C)) = g96_L19 A.length (k + 3) v dg b' (A ++ (p' ++ C)) := by
  intro m
  induction m with
  | zero =>
    intro i hi p c b hp hl c0 c1 hc b0 b1 he
    have : i = k + 3 := by omega
    subst this
    rw [List.take_of_length_le (by omega), hc (by omega)] at he
    refine ⟨p, b, hp, hl, b0, b1, ?_, ?_⟩
    · rw [he, Int.zero_add]
      omega
    · rw [g96_L13_eq, ifd_f (by omega)]
  | succ m ih =>
    intro i hi p c b hp hl c0 c1 hc b0 b1 he
    have hpi := hp.getD i
    have hvi := hv.getD i
    have hm := mul_lt32 d0 d1 hvi.1 hvi.2
    rw [g96_L13_eq, ifd_t (by omega), e83 hv (by omega), Option.bind_some]
    dsimp only
    rw [ifdd_t (by omega) (by omega), Int.toNat_natCast, cut_getD (by omega), wu64 (x := v.getD i 0) (by omega) (by omega), wu64 (x := dg * v.getD i 0) (by omega) (by omega), wu64 (x := c + dg * v.getD i 0) (by omega) (by omega), IntKind.wrap_u32, e92 hpi (by omega) ⟨b0, b1⟩, Option.bind_some, ifdd_t (by omega) (by omega), wi64 (by omega) (by omega), fd (by omega)]
    dsimp only
    rw [cut_set (by omega)]
    refine ih (i + 1) (by omega) _ _ _ (hp.set (by omega) (by omega)) (by simp [hl]) (by omega) (by omega) (fun h => ?_) (by split <;> omega) (by split <;> omega) ?_
    · have : v.getD i 0 = 0 := getD_out (by omega)
      rw [this, Int.mul_zero]
      omega
    · rw [V_set (by omega), V_take_succ, P_succ]
      have e : (c + dg * v.getD i 0) % 4294967296 + 4294967296 * ((c + dg * v.getD i 0) / 4294967296) = c + dg * v.getD i 0 := by omega
      have hlw : 0 ≤ (c + dg * v.getD i 0) % 4294967296 ∧ (c + dg * v.getD i 0) % 4294967296 < 4294967296 := by omega
      generalize (c + dg * v.getD i 0) % 4294967296 = lw at *
      generalize (c + dg * v.getD i 0) / 4294967296 = hg at *
      have e2 : (p.getD i 0 - lw - b) % 4294967296 - 4294967296 * (if p.getD i 0 < lw + b then 1 else 0) = p.getD i 0 - lw - b := by
        split <;> omega
      generalize (if p.getD i 0 < lw + b then (1 : Int) else 0) = b' at *
      generalize (p.getD i 0 - lw - b) % 4294967296 = w' at *
      clear ih
      grind

theorem L96d (A C v : List Int) (hv : W v) (k : Nat) (hlv : v.length = k + 2) (hk : k < 4194304) (p0 : List Int) (hp0 : W p0) (hl : p0.length = k + 3) (Q : Int) (hQ : 0 ≤ Q) (hX0 : 0 ≤ V p0 - Q * V v) (hX1 : V p0 - Q * V v < V v) (dg : Int) (d0 : Q ≤ dg) (d1 : dg < 4294967296) :
    g96_L13 A.length (k + 3) v dg 0 0 ((k + 3 : Nat) : Int) 0 (A ++ (p0 ++ C)) = some ((Q, ()), A ++ (Dn (k + 3) (V p0 - Q * V v) ++ C)) := by
  obtain ⟨p', b', hp', hl', b0, b1, he, hgo⟩ := L96a A C v hv k hlv hk p0 hp0 dg (by omega) d1 (k + 3) 0 (by omega) p0 0 0 hp0 hl (by omega) (by omega) (by omega) (by omega) (by omega) (by simp [V])
  rw [show (((0 : Nat) : Int)) = 0 from rfl] at hgo
  rw [hgo]
  exact L96c A C v hv k hlv hk (V p0) Q hQ hX0 hX1 (dg - Q).toNat p' dg b' hp' hl' b0 b1 (by omega) d1 he

/-! ### Guessing -/
theorem L96e (A C v : List Int) (hv : W v) (k : Nat) (hlv : v.length = k + 2) (hk : k < 4194304) (p0 : List Int) (hp0 : W p0) (hl : p0.length = k + 3) (Q : Int) (hQ : 0 ≤ Q) (hX0 : 0 ≤ V p0 - Q * V v) (hX1 : V p0 - Q * V v < V v) : ∀ m : Nat, ∀ dg rest : Int, dg = Q + m → dg < 4294967296 → 0 ≤ rest → rest < 8589934592 → rest = p0.getD (k + 1) 0 + 4294967296 * p0.getD (k + 2) 0 - dg * v.getD (k + 1) 0 →
    g96_L7 A.length (k + 3) v ((k + 2 : Nat) : Int) dg rest (A ++ (p0 ++ C)) = some ((Q, ()), A ++ (Dn (k + 3) (V p0 - Q * V v) ++ C)) := by
  intro m
  induction m with
  | zero =>
    intro dg rest hd d1 r0 r1 hr
    have hdQ : dg = Q := by omega
    subst hdQ
    rw [g96_L7_eq]
    by_cases h1 : rest ≤ 4294967295
    · have hv2 := hv.getD k
      have hp2 := hp0.getD k
      have hm := mul_lt32 hQ d1 hv2.1 hv2.2
      have he := est2 hp0 hv hl hlv hQ (by omega)
      rw [ifd_t h1, wi64 (x := ((k + 2 : Nat) : Int) - 2) (by omega) (by omega), ifdd_t (by omega) (by omega), ifdd_t (by omega) (by omega), show Int.toNat (((k + 2 : Nat) : Int) - 2) = k by omega, cut_getD (by omega)]
      rw [wu64 (x := v.getD k 0) (by omega) (by omega), wu64 (x := p0.getD k 0) (by omega) (by omega), wu64 (x := rest * 4294967296) (by omega) (by omega), wu64 (x := dg * v.getD k 0) (by omega) (by omega), or_words r0 (by omega) hp2.1 hp2.2, wu64 (x := rest * 4294967296 + p0.getD k 0) (by omega) (by omega)]
      rw [ifd_f (by
        rw [hr]
        rw [Int.mul_add] at he
        grind)]
      exact L96d A C v hv k hlv hk p0 hp0 hl dg hQ hX0 hX1 dg (Int.le_refl _) d1
    · rw [ifd_f h1]
      exact L96d A C v hv k hlv hk p0 hp0 hl dg hQ hX0 hX1 dg (Int.le_refl _) d1
  | succ m ih =>
    intro dg rest hd d1 r0 r1 hr
    rw [g96_L7_eq]
    by_cases h1 : rest ≤ 4294967295
    · have hv1 := hv.getD (k + 1)
      have hv2 := hv.getD k
      have hp2 := hp0.getD k
      have hm := mul_lt32 (show 0 ≤ dg by omega) d1 hv2.1 hv2.2
      rw [ifd_t h1, wi64 (x := ((k + 2 : Nat) : Int) - 2) (by omega) (by omega), ifdd_t (by omega) (by omega), ifdd_t (by omega) (by omega), show Int.toNat (((k + 2 : Nat) : Int) - 2) = k by omega, cut_getD (by omega)]
      rw [wu64 (x := v.getD k 0) (by omega) (by omega), wu64 (x := p0.getD k 0) (by omega) (by omega), wu64 (x := rest * 4294967296) (by omega) (by omega), wu64 (x := dg * v.getD k 0) (by omega) (by omega), or_words r0 (by omega) hp2.1 hp2.2, wu64 (x := rest * 4294967296 + p0.getD k 0) (by omega) (by omega)]
      by_cases h2 : dg * v.getD k 0 > rest * 4294967296 + p0.getD k 0
      · rw [ifd_t h2, wi64 (x := ((k + 2 : Nat) : Int) - 1) (by omega) (by omega), ifdd_t (by omega) (by omega), show Int.toNat (((k + 2 : Nat) : Int) - 1) = k + 1 by omega, wu64 (x := v.getD (k + 1) 0) (by omega) (by omega), wu64 (x := dg - 1) (by omega) (by omega), wu64 (x := rest + v.getD (k + 1) 0) (by omega) (by omega)]
        refine ih (dg - 1) (rest + v.getD (k + 1) 0) (by omega) (by omega) (by omega) (by omega) ?_
        rw [hr, Int.sub_mul]
        omega
      · rw [ifd_f h2]
        exact L96d A C v hv k hlv hk p0 hp0 hl Q hQ hX0 hX1 dg (by omega) d1
    · rw [ifd_f h1]
      exact L96d A C v hv k hlv hk p0 hp0 hl Q hQ hX0 hX1 dg (by omega) d1

/-! ### The contract -/
/-- What is asked of a row's cut and a divisor. -/
def OkCut (xs : List Int) (lo n : Nat) (v : List Int) : Prop := W xs ∧ W v ∧ 2 ≤ v.length ∧ v.length < 4194304 ∧ n = v.length + 1 ∧ lo + n ≤ xs.length ∧ 0 < v.getD (v.length - 1) 0 ∧ V ((xs.drop lo).take n) < V v * 4294967296
noncomputable def h96 : List Int → Nat → Nat → DL [.sl (.int .u32)] → Option (DL [.int .u32] × List Int) := fun xs lo n (x : List Int × Unit) =>
  when (OkCut xs lo n x.1) ((V ((xs.drop lo).take n) / V x.1, ()), xs.take lo ++ (Dn n (V ((xs.drop lo).take n) % V x.1) ++ xs.drop (lo + n)))
theorem s96 : SigMOk Try.prog 96 ⟨.int .u32, 22, [.sl (.int .u32)], [.int .u32], h96⟩ := ok96 fun xs lo n (x : List Int × Unit) r h => by
  obtain ⟨⟨hw, hv, hv2, hvl, hn, hlo, ht, hlt⟩, rfl⟩ := when_some h
  obtain ⟨v, u⟩ := x
  simp only at hv hv2 hvl hn ht hlt
  show g96 xs lo n (v, ()) = some ((V ((xs.drop lo).take n) / V v, ()), xs.take lo ++ (Dn n (V ((xs.drop lo).take n) % V v) ++ xs.drop (lo + n)))
  obtain ⟨k, hk⟩ : ∃ k, v.length = k + 2 := ⟨v.length - 2, by omega⟩
  have hxs := cut_split xs lo n
  have hA : (xs.take lo).length = lo := by rw [List.length_take]; omega
  have hp : ((xs.drop lo).take n).length = k + 3 := by rw [List.length_take, List.length_drop]; omega
  generalize xs.drop (lo + n) = C at *
  generalize (xs.drop lo).take n = p at *
  generalize xs.take lo = A at *
  subst hxs
  obtain ⟨hwA, hwp, hwC⟩ := hw.cut
  have hn3 : n = k + 3 := by omega
  clear hn
  subst hn3
  subst hA
  rw [hk, show k + 2 - 1 = k + 1 by omega] at ht
  have hvp : 0 < V v := by
    have e : V v = V (v.take (k + 1)) + P (k + 1) * v.getD (k + 1) 0 := by
      conv => lhs; rw [← List.take_of_length_le (show v.length ≤ k + 1 + 1 by omega)]
      rw [V_take_succ]
    have h1 := V_nonneg (hv.take (k + 1))
    have h2 := Int.mul_pos (P_pos (k + 1)) ht
    omega
  have hpn := V_nonneg hwp
  have q0 : 0 ≤ V p / V v := Int.ediv_nonneg hpn (by omega)
  have q1 : V p / V v < 4294967296 := Int.ediv_lt_of_lt_mul hvp (by rw [Int.mul_comm]; exact hlt)
  have m0 := Int.emod_nonneg (V p) (show V v ≠ 0 by omega)
  have m1 := Int.emod_lt_of_pos (V p) hvp
  have me : V p - (V p / V v) * V v = V p % V v := by
    have := Int.mul_ediv_add_emod (V p) (V v)
    rw [Int.mul_comm] at this
    omega
  have hv1 := hv.getD (k + 1)
  have hu1 := hwp.getD (k + 1)
  have hu0 := hwp.getD (k + 2)
  have hu2 := hwp.getD k
  have hv2' := hv.getD k
  have E2 := est2 hwp hv hp hk q0 (by omega)
  have E1 := est1 q0 hv2'.1 hu2.2 E2
  rw [g96_eq, hk, ifdd_t (by omega) (by omega), wi64 (x := ((k + 2 : Nat) : Int) - 1) (by omega) (by omega), ifdd_t (by omega) (by omega), Int.toNat_natCast, show Int.toNat (((k + 2 : Nat) : Int) - 1) = k + 1 by omega, cut_getD (by omega)]
  by_cases hc : p.getD (k + 2) 0 < v.getD (k + 1) 0
  · rw [ifd_t hc, ifdd_t (by omega) (by omega), ifdd_t (by omega) (by omega), ifdd_t (by omega) (by omega), cut_getD (by omega), e103 ⟨hu0.1, hc⟩ hu1 hv1.2, Option.bind_some]
    have hq := quot_word hu0.1 hc hu1.1 hu1.2
    dsimp only
    rw [wu64 hq.1 (by omega), wu64 hq.2.2.1 (by omega), ← me]
    have hle : V p / V v ≤ (p.getD (k + 2) 0 * 4294967296 + p.getD (k + 1) 0) / v.getD (k + 1) 0 := (Int.le_ediv_iff_mul_le ht).2 (by omega)
    refine L96e A C v hv k hk (by omega) p hwp hp _ q0 (by omega) (by omega) ((p.getD (k + 2) 0 * 4294967296 + p.getD (k + 1) 0) / v.getD (k + 1) 0 - V p / V v).toNat _ _ (by omega) hq.2.1 hq.2.2.1 (by omega) ?_
    have := Int.mul_ediv_add_emod (p.getD (k + 2) 0 * 4294967296 + p.getD (k + 1) 0) (v.getD (k + 1) 0)
    rw [Int.mul_comm] at this
    omega
  · rw [ifd_f hc, ← me]
    exact L96d A C v hv k hk (by omega) p hwp hp _ q0 (by omega) (by omega) _ (by omega) (by omega)
end Go.Refl.S3
