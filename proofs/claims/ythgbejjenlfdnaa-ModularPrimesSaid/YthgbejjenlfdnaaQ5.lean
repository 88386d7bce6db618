import Derived.Test.YthgbejjenlfdnaaP3
/-
  One digit of a long quotient, and the rest in place: what the program's function takes away.
-/
set_option linter.unusedVariables false
set_option linter.unusedSimpArgs false
set_option maxRecDepth 100000
namespace Go.Refl.S3
open Go Go.Refl Go.Proofs

/-! ### A cut of a row -/
theorem cut_getD {A p C : List Int} {i : Nat} (h : i < p.length) : (A ++ (p ++ C)).getD (A.length + i) 0 = p.getD i 0 := by
  rw [List.getD_eq_getElem?_getD, List.getD_eq_getElem?_getD, List.getElem?_append_right (by omega), List.getElem?_append_left (by omega), Nat.add_sub_cancel_left]
theorem cut_set {A p C : List Int} {i : Nat} {w : Int} (h : i < p.length) : (A ++ (p ++ C)).set (A.length + i) w = A ++ (p.set i w ++ C) := by
  rw [List.set_append_right _ _ (by omega), Nat.add_sub_cancel_left, List.set_append_left _ _ h]
theorem cut_split (xs : List Int) (lo n : Nat) : xs = xs.take lo ++ ((xs.drop lo).take n ++ xs.drop (lo + n)) := by
  rw [← List.drop_drop, List.take_append_drop, List.take_append_drop]
theorem W.cut {A p C : List Int} (h : W (A ++ (p ++ C))) : W A ∧ W p ∧ W C :=
  ⟨fun x hx => h x (by simp [hx]), fun x hx => h x (by simp [hx]), fun x hx => h x (by simp [hx])⟩

/-! ### Estimates -/
/-- The highest words tell a bound of the quotient. -/
theorem est2 {p v : List Int} {k : Nat} (hp : W p) (hv : W v) (lp : p.length = k + 3) (lv : v.length = k + 2) {Q : Int} (hQ : 0 ≤ Q) (h : Q * V v ≤ V p) :
    Q * (v.getD k 0 + 4294967296 * v.getD (k + 1) 0) ≤ p.getD k 0 + 4294967296 * (p.getD (k + 1) 0 + 4294967296 * p.getD (k + 2) 0) := by
  have e1 : V p = V (p.take k) + P k * (p.getD k 0 + 4294967296 * (p.getD (k + 1) 0 + 4294967296 * p.getD (k + 2) 0)) := by
    conv => lhs; rw [← List.take_of_length_le (show p.length ≤ k + 2 + 1 by omega)]
    simp only [V_take_succ, P_succ]
    generalize p.getD k 0 = a; generalize p.getD (k + 1) 0 = b; generalize p.getD (k + 2) 0 = c; generalize P k = d; generalize V (p.take k) = e
    clear hp hv lp lv h
    grind
  have e2 : V v = V (v.take k) + P k * (v.getD k 0 + 4294967296 * v.getD (k + 1) 0) := by
    conv => lhs; rw [← List.take_of_length_le (show v.length ≤ k + 1 + 1 by omega)]
    simp only [V_take_succ, P_succ]
    generalize v.getD k 0 = a; generalize v.getD (k + 1) 0 = b; generalize P k = d; generalize V (v.take k) = e
    clear e1 hp hv lp lv h
    grind
  have h1 := V_lt (hp.take k)
  rw [List.length_take, Nat.min_eq_left (by omega)] at h1
  have h2 := V_nonneg (hv.take k)
  have hk := P_pos k
  generalize v.getD k 0 + 4294967296 * v.getD (k + 1) 0 = Y at *
  generalize p.getD k 0 + 4294967296 * (p.getD (k + 1) 0 + 4294967296 * p.getD (k + 2) 0) = X at *
  have h3 : Q * (P k * Y) ≤ Q * V v := Int.mul_le_mul_of_nonneg_left (by omega) hQ
  have h4 : P k * (Q * Y) < P k * (X + 1) := by
    have : P k * (Q * Y) = Q * (P k * Y) := by grind
    rw [Int.mul_add]
    omega
  have := Int.lt_of_mul_lt_mul_left h4 (by omega)
  omega

theorem est1 {Q y1 y2 x1 x2 : Int} (hQ : 0 ≤ Q) (hy : 0 ≤ y2) (hx : x2 < 4294967296) (h : Q * (y2 + 4294967296 * y1) ≤ x2 + 4294967296 * x1) : Q * y1 ≤ x1 := by
  have h1 : 0 ≤ Q * y2 := Int.mul_nonneg hQ hy
  have h2 : Q * (y2 + 4294967296 * y1) = Q * y2 + 4294967296 * (Q * y1) := by grind
  omega

/-! ### Adding back -/
theorem L96b (A C v : List Int) (hv : W v) (k : Nat) (hlv : v.length = k + 2) (hk : k < 4194304) (p0 : List Int) (dg b : Int) : ∀ m i : Nat, i + m = k + 3 → ∀ (p : List Int) (c : Int), W p → p.length = k + 3 → (∀ j, i ≤ j → p.getD j 0 = p0.getD j 0) → W p0 → 0 ≤ c → c ≤ 1 → V p + P i * c = V p0 + V (v.take i) →
    ∃ p' c', W p' ∧ p'.length = k + 3 ∧ 0 ≤ c' ∧ c' ≤ 1 ∧ V p' + P (k + 3) * c' = V p0 + V v ∧ g96_L23 A.length (k + 3) v dg b c ((k + 3 : Nat) : Int) (i : Int) (A ++ (p ++ C)) = g96_L19 A.length (k + 3) v dg (IntKind.wrap .u32 (b - c')) (A ++ (p' ++ C)) := by
  intro m
  induction m with
  | zero =>
    intro i hi p c hp hl hs hp0 c0 c1 he
    have : i = k + 3 := by omega
    subst this
    rw [List.take_of_length_le (by omega)] at he
    refine ⟨p, c, hp, hl, c0, c1, he, ?_⟩
    rw [g96_L23_eq, ifd_f (by omega)]
  | succ m ih =>
    intro i hi p c hp hl hs hp0 c0 c1 he
    have hpi := hp.getD i
    have hvi := hv.getD i
    rw [g96_L23_eq, ifd_t (by omega), ifdd_t (by omega) (by omega), e83 hv (by omega), Option.bind_some]
    dsimp only
    rw [Int.toNat_natCast, cut_getD (by omega), e90 hpi hvi (by omega), Option.bind_some, ifdd_t (by omega) (by omega), wi64 (by omega) (by omega)]
    dsimp only
    rw [cut_set (by omega)]
    refine ih (i + 1) (by omega) _ _ (hp.set (by omega) (by omega)) (by simp [hl]) (fun j hj => ?_) hp0 (by omega) (by omega) ?_
    · rw [getD_set_ne (by omega)]
      exact hs j (by omega)
    · rw [V_set (by omega), V_take_succ, P_succ]
      have e : (p.getD i 0 + v.getD i 0 + c) % 4294967296 + 4294967296 * ((p.getD i 0 + v.getD i 0 + c) / 4294967296) = p.getD i 0 + v.getD i 0 + c := by omega
      clear ih
      grind

/-! ### Till the digit is right -/
theorem L96c (A C v : List Int) (hv : W v) (k : Nat) (hlv : v.length = k + 2) (hk : k < 4194304) (X Q : Int) (hQ : 0 ≤ Q) (hX0 : 0 ≤ X - Q * V v) (hX1 : X - Q * V v < V v) : ∀ m : Nat, ∀ (p : List Int) (dg b : Int), W p → p.length = k + 3 → 0 ≤ b → b ≤ 1 → dg = Q + m → dg < 4294967296 → V p - P (k + 3) * b = X - dg * V v →
    g96_L19 A.length (k + 3) v dg b (A ++ (p ++ C)) = some ((Q, ()), A ++ (Dn (k + 3) (X - Q * V v) ++ C)) := by
  intro m
  induction m with
  | zero =>
    intro p dg b hp hl b0 b1 hd hd1 he
    have hdQ : dg = Q := by omega
    subst hdQ
    have hvp := V_lt hp
    rw [hl] at hvp
    have hb : b = 0 := by
      apply Classical.byContradiction
      intro hc
      have : b = 1 := by omega
      subst this
      omega
    subst hb
    rw [g96_L19_eq, ifd_f (by omega), wu32 (by omega) (by omega), ← he]
    have : Dn (k + 3) (V p - P (k + 3) * 0) = p := by
      rw [Int.mul_zero, Int.sub_zero, ← hl, Dn_V hp]
    rw [this]
  | succ m ih =>
    intro p dg b hp hl b0 b1 hd hd1 he
    have hvp := V_nonneg hp
    have hvn : 0 < V v := by omega
    have hneg : X - dg * V v < 0 := by
      have h1 : (Q + 1) * V v ≤ dg * V v := Int.mul_le_mul_of_nonneg_right (by omega) (by omega)
      rw [Int.add_mul] at h1
      omega
    have hb : b = 1 := by
      apply Classical.byContradiction
      intro hc
      have : b = 0 := by omega
      subst this
      omega
    subst hb
    rw [g96_L19_eq, ifd_t (by omega), wu64 (by omega) (by omega)]
    obtain ⟨p', c', hp', hl', c0, c1, he', hgo⟩ := L96b A C v hv k hlv hk p (dg - 1) 1 (k + 3) 0 (by omega) p 0 hp hl (fun _ _ => rfl) hp (by omega) (by omega) (by simp [V])
    rw [show (((0 : Nat) : Int)) = 0 from rfl] at hgo
    rw [hgo, wu32 (by omega) (by omega)]
    refine ih p' (dg - 1) (1 - c') hp' hl' (by omega) (by omega) (by omega) (by omega) ?_
    rw [Int.sub_mul, Int.mul_sub]
    generalize P (k + 3) = Z at *
    omega

/-! ### Taking away -/
theorem L96a (A C v : List Int) (hv : W v) (k : Nat) (hlv : v.length = k + 2) (hk : k < 4194304) (p0 : List Int) (hp0 : W p0) (dg : Int) (d0 : 0 ≤ dg) (d1 : dg < 4294967296) : ∀ m i : Nat, i + m = k + 3 → ∀ (p : List Int) (c b : Int), W p → p.length = k + 3 → 0 ≤ c → c < 4294967296 → (k + 2 < i → c = 0) → 0 ≤ b → b ≤ 1 → V p = V p0 - dg * V (v.take i) + P i * (c + b) →
    ∃ p' b', W p' ∧ p'.length = k + 3 ∧ 0 ≤ b' ∧ b' ≤ 1 ∧ V p' - P (k + 3) * b' = V p0 - dg * V v ∧ g96_L13 A.length (k + 3) v dg c b ((k + 3 : Nat) : Int) (i : Int) (A ++ (p ++ C)) = g96_L19 A.length (k + 3) v dg b' (A ++ (p' ++ C)) := by
  intro m
  induction m with
  | zero =>
    intro i hi p c b hp hl c0 c1 hc b0 b1 he
    have : i = k + 3 := by omega
    subst this
    rw [List.take_of_length_le (by omega), hc (by omega)] at he
    refine ⟨p, b, hp, hl, b0, b1, ?_, ?_⟩
    · rw [he, Int.zero_add]
      omega
    · rw [g96_L13_eq, ifd_f (by omega)]
  | succ m ih =>
    intro i hi p c b hp hl c0 c1 hc b0 b1 he
    have hpi := hp.getD i
    have hvi := hv.getD i
    have hm := mul_lt32 d0 d1 hvi.1 hvi.2
    rw [g96_L13_eq, ifd_t (by omega), e83 hv (by omega), Option.bind_some]
    dsimp only
    rw [ifdd_t (by omega) (by omega), Int.toNat_natCast, cut_getD (by omega), wu64 (x := v.getD i 0) (by omega) (by omega), wu64 (x := dg * v.getD i 0) (by omega) (by omega), wu64 (x := c + dg * v.getD i 0) (by omega) (by omega), IntKind.wrap_u32, e92 hpi (by omega) ⟨b0, b1⟩, Option.bind_some, ifdd_t (by omega) (by omega), wi64 (by omega) (by omega), fd (by omega)]
    dsimp only
    rw [cut_set (by omega)]
    refine ih (i + 1) (by omega) _ _ _ (hp.set (by omega) (by omega)) (by simp [hl]) (by omega) (by omega) (fun h => ?_) (by split <;> omega) (by split <;> omega) ?_
    · have : v.getD i 0 = 0 := getD_out (by omega)
      rw [this, Int.mul_zero]
      omega
    · rw [V_set (by omega), V_take_succ, P_succ]
      have e : (c + dg * v.getD i 0) % 4294967296 + 4294967296 * ((c + dg * v.getD i 0) / 4294967296) = c + dg * v.getD i 0 := by omega
      have hlw : 0 ≤ (c + dg * v.getD i 0) % 4294967296 ∧ (c + dg * v.getD i 0) % 4294967296 < 4294967296 := by omega
      generalize (c + dg * v.getD i 0) % 4294967296 = lw at *
      generalize (c + dg * v.getD i 0) / 4294967296 = hg at *
      have e2 : (p.getD i 0 - lw - b) % 4294967296 - 4294967296 * (if p.getD i 0 < lw + b then 1 else 0) = p.getD i 0 - lw - b := by
        split <;> omega
      generalize (if p.getD i 0 < lw + b then (1 : Int) else 0) = b' at *
      generalize (p.getD i 0 - lw - b) % 4294967296 = w' at *
      clear ih
      grind

theorem L96d (A C v : List Int) (hv : W v) (k : Nat) (hlv : v.length = k + 2) (hk : k < 4194304) (p0 : List Int) (hp0 : W p0) (hl : p0.length = k + 3) (Q : Int) (hQ : 0 ≤ Q) (hX0 : 0 ≤ V p0 - Q * V v) (hX1 : V p0 - Q * V v < V v) (dg : Int) (d0 : Q ≤ dg) (d1 : dg < 4294967296) :
    g96_L13 A.length (k + 3) v dg 0 0 ((k + 3 : Nat) : Int) 0 (A ++ (p0 ++ C)) = some ((Q, ()), A ++ (Dn (k + 3) (V p0 - Q * V v) ++ C)) := by
  obtain ⟨p', b', hp', hl', b0, b1, he, hgo⟩ := L96a A C v hv k hlv hk p0 hp0 dg (by omega) d1 (k + 3) 0 (by omega) p0 0 0 hp0 hl (by omega) (by omega) (by omega) (by omega) (by omega) (by simp [V])
  rw [show (((0 : Nat) : Int)) = 0 from rfl] at hgo
  rw [hgo]
  exact L96c A C v hv k hlv hk (V p0) Q hQ hX0 hX1 (dg - Q).toNat p' dg b' hp' hl' b0 b1 (by omega) d1 he

/-! ### Guessing -/
theorem L96e (A C v : List Int) (hv : W v) (k : Nat) (hlv : v.length = k + 2) (hk : k < 4194304) (p0 : List Int) (hp0 : W p0) (hl : p0.length = k + 3) (Q : Int) (hQ : 0 ≤ Q) (hX0 : 0 ≤ V p0 - Q * V v) (hX1 : V p0 - Q * V v < V v) : ∀ m : Nat, ∀ dg rest : Int, dg = Q + m → dg < 4294967296 → 0 ≤ rest → rest < 8589934592 → rest = p0.getD (k + 1) 0 + 4294967296 * p0.getD (k + 2) 0 - dg * v.getD (k + 1) 0 →
    g96_L7 A.length (k + 3) v ((k + 2 : Nat) : Int) dg rest (A ++ (p0 ++ C)) = some ((Q, ()), A ++ (Dn (k + 3) (V p0 - Q * V v) ++ C)) := by
  intro m
  induction m with
  | zero =>
    intro dg rest hd d1 r0 r1 hr
    have hdQ : dg = Q := by omega
    subst hdQ
    rw [g96_L7_eq]
    by_cases h1 : rest ≤ 4294967295
    · have hv2 := hv.getD k
      have hp2 := hp0.getD k
      have hm := mul_lt32 hQ d1 hv2.1 hv2.2
      have he := est2 hp0 hv hl hlv hQ (by omega)
      rw [ifd_t h1, wi64 (x := ((k + 2 : Nat) : Int) - 2) (by omega) (by omega), ifdd_t (by omega) (by omega), ifdd_t (by omega) (by omega), show Int.toNat (((k + 2 : Nat) : Int) - 2) = k by omega, cut_getD (by omega)]
      rw [wu64 (x := v.getD k 0) (by omega) (by omega), wu64 (x := p0.getD k 0) (by omega) (by omega), wu64 (x := rest * 4294967296) (by omega) (by omega), wu64 (x := dg * v.getD k 0) (by omega) (by omega), or_words r0 (by omega) hp2.1 hp2.2, wu64 (x := rest * 4294967296 + p0.getD k 0) (by omega) (by omega)]
      rw [ifd_f (by
        rw [hr]
        rw [Int.mul_add] at he
        grind)]
      exact L96d A C v hv k hlv hk p0 hp0 hl dg hQ hX0 hX1 dg (Int.le_refl _) d1
    · rw [ifd_f h1]
      exact L96d A C v hv k hlv hk p0 hp0 hl dg hQ hX0 hX1 dg (Int.le_refl _) d1
  | succ m ih =>
    intro dg rest hd d1 r0 r1 hr
    rw [g96_L7_eq]
    by_cases h1 : rest ≤ 4294967295
    · have hv1 := hv.getD (k + 1)
      have hv2 := hv.getD k
      have hp2 := hp0.getD k
      have hm := mul_lt32 (show 0 ≤ dg by omega) d1 hv2.1 hv2.2
      rw [ifd_t h1, wi64 (x := ((k + 2 : Nat) : Int) - 2) (by omega) (by omega), ifdd_t (by omega) (by omega), ifdd_t (by omega) (by omega), show Int.toNat (((k + 2 : Nat) : Int) - 2) = k by omega, cut_getD (by omega)]
      rw [wu64 (x := v.getD k 0) (by omega) (by omega), wu64 (x := p0.getD k 0) (by omega) (by omega), wu64 (x := rest * 4294967296) (by omega) (by omega), wu64 (x := dg * v.getD k 0) (by omega) (by omega), or_words r0 (by omega) hp2.1 hp2.2, wu64 (x := rest * 4294967296 + p0.getD k 0) (by omega) (by omega)]
      by_cases h2 : dg * v.getD k 0 > rest * 4294967296 + p0.getD k 0
      · rw [ifd_t h2, wi64 (x := ((k + 2 : Nat) : Int) - 1) (by omega) (by omega), ifdd_t (by omega) (by omega), show Int.toNat (((k + 2 : Nat) : Int) - 1) = k + 1 by omega, wu64 (x := v.getD (k + 1) 0) (by omega) (by omega), wu64 (x := dg - 1) (by omega) (by omega), wu64 (x := rest + v.getD (k + 1) 0) (by omega) (by omega)]
        refine ih (dg - 1) (rest + v.getD (k + 1) 0) (by omega) (by omega) (by omega) (by omega) ?_
        rw [hr, Int.sub_mul]
        omega
      · rw [ifd_f h2]
        exact L96d A C v hv k hlv hk p0 hp0 hl Q hQ hX0 hX1 dg (by omega) d1
    · rw [ifd_f h1]
      exact L96d A C v hv k hlv hk p0 hp0 hl Q hQ hX0 hX1 dg (by omega) d1

/-! ### The contract -/
/-- What is asked of a row's cut and a divisor. -/
def OkCut (xs : List Int) (lo n : Nat) (v : List Int) : Prop := W xs ∧ W v ∧ 2 ≤ v.length ∧ v.length < 4194304 ∧ n = v.length + 1 ∧ lo + n ≤ xs.length ∧ 0 < v.getD (v.length - 1) 0 ∧ V ((xs.drop lo).take n) < V v * 4294967296
noncomputable def h96 : List Int → Nat → Nat → DL [.sl (.int .u32)] → Option (DL [.int .u32] × List Int) := fun xs lo n (x : List Int × Unit) =>
  when (OkCut xs lo n x.1) ((V ((xs.drop lo).take n) / V x.1, ()), xs.take lo ++ (Dn n (V ((xs.drop lo).take n) % V x.1) ++ xs.drop (lo + n)))
theorem s96 : SigMOk Try.prog 96 ⟨.int .u32, 22, [.sl (.int .u32)], [.int .u32], h96⟩ := ok96 fun xs lo n (x : List Int × Unit) r h => by
  obtain ⟨⟨hw, hv, hv2, hvl, hn, hlo, ht, hlt⟩, rfl⟩ := when_some h
  obtain ⟨v, u⟩ := x
  simp only at hv hv2 hvl hn ht hlt
  show g96 xs lo n (v, ()) = some ((V ((xs.drop lo).take n) / V v, ()), xs.take lo ++ (Dn n (V ((xs.drop lo).take n) % V v) ++ xs.drop (lo + n)))
  obtain ⟨k, hk⟩ : ∃ k, v.length = k + 2 := ⟨v.length - 2, by omega⟩
  have hxs := cut_split xs lo n
  have hA : (xs.take lo).length = lo := by rw [List.length_take]; omega
  have hp : ((xs.drop lo).take n).length = k + 3 := by rw [List.length_take, List.length_drop]; omega
  generalize xs.drop (lo + n) = C at *
  generalize (xs.drop lo).take n = p at *
  generalize xs.take lo = A at *
  subst hxs
  obtain ⟨hwA, hwp, hwC⟩ := hw.cut
  have hn3 : n = k + 3 := by omega
  clear hn
  subst hn3
  subst hA
  rw [hk, show k + 2 - 1 = k + 1 by omega] at ht
  have hvp : 0 < V v := by
    have e : V v = V (v.take (k + 1)) + P (k + 1) * v.getD (k + 1) 0 := by
      conv => lhs; rw [← List.take_of_length_le (show v.length ≤ k + 1 + 1 by omega)]
      rw [V_take_succ]
    have h1 := V_nonneg (hv.take (k + 1))
    have h2 := Int.mul_pos (P_pos (k + 1)) ht
    omega
  have hpn := V_nonneg hwp
  have q0 : 0 ≤ V p / V v := Int.ediv_nonneg hpn (by omega)
  have q1 : V p / V v < 4294967296 := Int.ediv_lt_of_lt_mul hvp (by rw [Int.mul_comm]; exact hlt)
  have m0 := Int.emod_nonneg (V p) (show V v ≠ 0 by omega)
  have m1 := Int.emod_lt_of_pos (V p) hvp
  have me : V p - (V p / V v) * V v = V p % V v := by
    have := Int.mul_ediv_add_emod (V p) (V v)
    rw [Int.mul_comm] at this
    omega
  have hv1 := hv.getD (k + 1)
  have hu1 := hwp.getD (k + 1)
  have hu0 := hwp.getD (k + 2)
  have hu2 := hwp.getD k
  have hv2' := hv.getD k
  have E2 := est2 hwp hv hp hk q0 (by omega)
  have E1 := est1 q0 hv2'.1 hu2.2 E2
  rw [g96_eq, hk, ifdd_t (by omega) (by omega), wi64 (x := ((k + 2 : Nat) : Int) - 1) (by omega) (by omega), ifdd_t (by omega) (by omega), Int.toNat_natCast, show Int.toNat (((k + 2 : Nat) : Int) - 1) = k + 1 by omega, cut_getD (by omega)]
  by_cases hc : p.getD (k + 2) 0 < v.getD (k + 1) 0
  · rw [ifd_t hc, ifdd_t (by omega) (by omega), ifdd_t (by omega) (by omega), ifdd_t (by omega) (by omega), cut_getD (by omega), e103 ⟨hu0.1, hc⟩ hu1 hv1.2, Option.bind_some]
    have hq := quot_word hu0.1 hc hu1.1 hu1.2
    dsimp only
    rw [wu64 hq.1 (by omega), wu64 hq.2.2.1 (by omega), ← me]
    have hle : V p / V v ≤ (p.getD (k + 2) 0 * 4294967296 + p.getD (k + 1) 0) / v.getD (k + 1) 0 := (Int.le_ediv_iff_mul_le ht).2 (by omega)
    refine L96e A C v hv k hk (by omega) p hwp hp _ q0 (by omega) (by omega) ((p.getD (k + 2) 0 * 4294967296 + p.getD (k + 1) 0) / v.getD (k + 1) 0 - V p / V v).toNat _ _ (by omega) hq.2.1 hq.2.2.1 (by omega) ?_
    have := Int.mul_ediv_add_emod (p.getD (k + 2) 0 * 4294967296 + p.getD (k + 1) 0) (v.getD (k + 1) 0)
    rw [Int.mul_comm] at this
    omega
  · rw [ifd_f hc, ← me]
    exact L96d A C v hv k hk (by omega) p hwp hp _ q0 (by omega) (by omega) _ (by omega) (by omega)
end Go.Refl.S3
/-
  What the functions on rows of words compute: shifts, sums and comparing of whole numbers.
-/
set_option linter.unusedVariables false
set_option linter.unusedSimpArgs false
set_option maxRecDepth 100000
namespace Go.Refl.S3
open Go Go.Refl Go.Proofs

/-- A power of two that a word holds. -/
def p2 (s : Int) : Int := 2 ^ s.toNat
theorem p2_pos (s : Int) : 0 < p2 s := by unfold p2; exact Int.pow_pos (by omega)
theorem p2_mul {s : Int} (h0 : 0 ≤ s) (h1 : s < 32) : p2 s * p2 (32 - s) = 4294967296 := by
  unfold p2
  rw [← Int.pow_add, show s.toNat + (32 - s).toNat = 32 by omega]
  rfl
theorem p2_le {s : Int} (h0 : 0 ≤ s) (h1 : s < 32) : p2 s ≤ 2147483648 := by
  unfold p2
  have h2 : 2 ^ s.toNat ≤ 2 ^ 31 := Nat.pow_le_pow_right (by omega) (by omega)
  have e : (2 : Int) ^ s.toNat = ((2 ^ s.toNat : Nat) : Int) := by simp
  rw [e]
  omega
theorem p2_min {s : Int} (h1 : s < 32) : (2 : Int) ^ (min s.toNat 64) = p2 s := by
  unfold p2
  rw [Nat.min_eq_left (by omega)]

/-! ### To the left -/
theorem or_add {a b s : Nat} (ha : a < 2 ^ s) (hs : s ≤ 32) (hab : b * 2 ^ s < 4294967296) : ((BitVec.toNat ((BitVec.ofInt 32 (a : Int)) ||| (BitVec.ofInt 32 ((b * 2 ^ s : Nat) : Int))) : Nat) : Int) = (a + b * 2 ^ s : Nat) := by
  have h1 : 2 ^ s ≤ 2 ^ 32 := Nat.pow_le_pow_right (by omega) hs
  have e1 : (BitVec.ofInt 32 (a : Int)).toNat = a := by
    rw [BitVec.toNat_ofInt]
    omega
  have e2 : (BitVec.ofInt 32 ((b * 2 ^ s : Nat) : Int)).toNat = b * 2 ^ s := by
    rw [BitVec.toNat_ofInt]
    omega
  rw [BitVec.toNat_or, e1, e2, Nat.or_comm, ← Nat.shiftLeft_eq, ← Nat.shiftLeft_add_eq_or_of_lt ha, Nat.add_comm]
theorem or_addI {a b s : Int} (h0 : 0 ≤ s) (h1 : s < 32) (ha : 0 ≤ a ∧ a < p2 s) (hb : 0 ≤ b) (hab : b * p2 s < 4294967296) : ((BitVec.toNat ((BitVec.ofInt 32 a) ||| (BitVec.ofInt 32 (b * p2 s))) : Nat) : Int) = a + b * p2 s := by
  have e : p2 s = ((2 ^ s.toNat : Nat) : Int) := by unfold p2; simp
  obtain ⟨m, rfl⟩ : ∃ m : Nat, a = m := ⟨a.toNat, by omega⟩
  obtain ⟨n, rfl⟩ : ∃ n : Nat, b = n := ⟨b.toNat, by omega⟩
  rw [e] at ha hab ⊢
  have := or_add (a := m) (b := n) (s := s.toNat) (by omega) (by omega) (by rw [← Int.natCast_mul] at hab; omega)
  rw [← Int.natCast_mul, this]
  simp

noncomputable def h95 : DL [.sl (.int .u32), .int .i64] → Option (List Int) := fun (x : List Int × Int × Unit) => when (Wl x.1 ∧ 0 ≤ x.2.1 ∧ x.2.1 < 32) (Dn (x.1.length + 1) (V x.1 * p2 x.2.1))
theorem shl_step {a S T : Int} (hST : S * T = 4294967296) (a0 : 0 ≤ a) (a1 : a < 4294967296) (S0 : 0 < S) : (a * S) % 4294967296 = (a % T) * S ∧ 0 ≤ (a * S) / 4294967296 ∧ (a * S) / 4294967296 < S ∧ 0 ≤ a % T ∧ (a % T) * S + S ≤ 4294967296 := by
  have hT : 0 < T := by
    apply Classical.byContradiction
    intro hc
    have : S * T ≤ S * 0 := Int.mul_le_mul_of_nonneg_left (by omega) (by omega)
    omega
  have h1 : 0 ≤ a * S := Int.mul_nonneg a0 (by omega)
  have h2 : a * S < 4294967296 * S := Int.mul_lt_mul_of_pos_right a1 S0
  have h3 := Int.emod_nonneg a (show T ≠ 0 by omega)
  have h4 := Int.emod_lt_of_pos a hT
  have h5 : (a % T) * S + S ≤ T * S := by
    have : (a % T + 1) * S ≤ T * S := Int.mul_le_mul_of_nonneg_right (by omega) (by omega)
    rw [Int.add_mul] at this
    omega
  have h5' : T * S = 4294967296 := by rw [Int.mul_comm]; exact hST
  have h6 : a * S = (a % T) * S + 4294967296 * (a / T) := by
    have h7 := Int.emod_add_mul_ediv a T
    have h8 : a * S = (a % T + T * (a / T)) * S := by rw [h7]
    rw [h8, Int.add_mul, ← hST]
    grind
  have h9 : 0 ≤ (a % T) * S := Int.mul_nonneg h3 (by omega)
  refine ⟨by omega, by omega, by omega, h3, by omega⟩

theorem L95 (x : List Int) (s : Int) (hx : W x) (hl : x.length < 4194304) (s0 : 0 ≤ s) (s1 : s < 32) : ∀ k i : Nat, i + k = x.length → ∀ r : List Int, W r → r.length = x.length + 1 → (∀ j, i < j → r.getD j 0 = 0) → r.getD i 0 < p2 s → V r = V (x.take i) * p2 s → g95_L3 s x (x.length : Int) (i : Int) r = some (Dn (x.length + 1) (V x * p2 s)) := by
  intro k
  induction k with
  | zero =>
    intro i hi r hr hrl hz hlt he
    have : i = x.length := by omega
    subst this
    rw [List.take_length] at he
    rw [g95_L3_eq, ifd_f (by omega), ← he, ← hrl, Dn_V hr]
  | succ k ih =>
    intro i hi r hr hrl hz hlt he
    have hxi := hx.getD i
    have hri := hr.getD i
    have hS := p2_pos s
    have hS2 := p2_le s0 s1
    obtain ⟨t1, t2, t3, t4, t5⟩ := shl_step (p2_mul s0 s1) hxi.1 hxi.2 hS
    have hm : 0 ≤ x.getD i 0 * p2 s ∧ x.getD i 0 * p2 s < 18446744073709551616 := mul_lt64 hxi.1 hxi.2 (by omega) (by omega)
    rw [g95_L3_eq, ifd_t (by omega), ifdd_t (by omega) (by omega), ifd_f (by omega), ifdd_t (by omega) (by omega), ifdd_t (by omega) (by omega), wi64 (x := (i : Int) + 1) (by omega) (by omega), Int.toNat_natCast, List.length_set, ifdd_t (by omega) (by omega), p2_min s1]
    rw [wu64 (x := x.getD i 0) (by omega) (by omega), wu64 hm.1 hm.2, fd (by omega), IntKind.wrap_u32 (x.getD i 0 * p2 s), t1, or_addI s0 s1 ⟨hri.1, hlt⟩ t4 (by omega), wu32 (x := x.getD i 0 * p2 s / 4294967296) (by omega) (by omega)]
    have hn : 0 ≤ x.getD i 0 % p2 (32 - s) * p2 s := Int.mul_nonneg t4 (by omega)
    rw [wu32 (x := r.getD i 0 + x.getD i 0 % p2 (32 - s) * p2 s) (by omega) (by omega), show Int.toNat ((i : Int) + 1) = i + 1 by omega]
    refine ih (i + 1) (by omega) _ ((hr.set (by omega) (by omega)).set (by omega) (by omega)) (by simp [hrl]) (fun j hj => ?_) ?_ ?_
    · rw [getD_set_ne (by omega), getD_set_ne (by omega)]
      exact hz j (by omega)
    · rw [getD_set_eq (by simp; omega)]
      exact t3
    · rw [V_set (by simp; omega), V_set (by omega), getD_set_ne (by omega), hz (i + 1) (by omega), V_take_succ, P_succ, he]
      have e : (x.getD i 0 % p2 (32 - s) * p2 s) + 4294967296 * (x.getD i 0 * p2 s / 4294967296) = x.getD i 0 * p2 s := by omega
      generalize x.getD i 0 % p2 (32 - s) * p2 s = lo at *
      generalize x.getD i 0 * p2 s / 4294967296 = hi at *
      generalize x.getD i 0 = xi at *
      generalize r.getD i 0 = ri at *
      generalize V (x.take i) = vx at *
      generalize P i = pi at *
      generalize p2 s = S at *
      clear ih hz he hx hr hrl hri hxi hm
      grind
theorem s95 : SigNOk Try.prog 95 ⟨.int .u32, 22, [.sl (.int .u32), .int .i64], h95⟩ := ok95 fun (x : List Int × Int × Unit) r h => by
  obtain ⟨⟨⟨wa, la⟩, s0, s1⟩, rfl⟩ := when_some h
  obtain ⟨a, s, u⟩ := x
  simp only at wa la s0 s1
  show g95 (a, s, ()) = some (Dn (a.length + 1) (V a * p2 s))
  rw [g95_eq, wi64 (by omega) (by omega), ifddd_t (by omega) (by omega) (by omega), show Int.toNat ((a.length : Int) + 1) = a.length + 1 by omega]
  exact L95 a s wa la s0 s1 _ 0 (Nat.zero_add _) _ (W.replicate _) (by simp) (fun j _ => getD_replicate _ _) (by rw [getD_replicate]; exact p2_pos s) (by simp [V_replicate, V])

/-! ### To the right -/
noncomputable def h97 : DL [.sl (.int .u32), .int .i64] → Option (DL [.sl (.int .u32)]) := fun (x : List Int × Int × Unit) => when (Wl x.1 ∧ 0 ≤ x.2.1 ∧ x.2.1 < 32) (D (V x.1 / p2 x.2.1), ())
theorem shr_step {a b S T : Int} (hST : S * T = 4294967296) (S0 : 0 < S) (b0 : 0 ≤ b) (b1 : b < 4294967296) (a0 : 0 ≤ a) (a1 : a < 4294967296) : S * (((a * 4294967296 + b) / S) % 4294967296) = b - b % S + 4294967296 * (a % S) := by
  have hT : 0 < T := by
    apply Classical.byContradiction
    intro hc
    have : S * T ≤ S * 0 := Int.mul_le_mul_of_nonneg_left (by omega) (by omega)
    omega
  have e1 : (a * 4294967296 + b) / S = a * T + b / S := by
    rw [← hST, show a * (S * T) + b = b + S * (a * T) by grind, Int.add_mul_ediv_left _ _ (by omega)]
    omega
  have h1 := Int.emod_add_mul_ediv a S
  have h2 := Int.emod_add_mul_ediv b S
  have h3 := Int.emod_nonneg a (show S ≠ 0 by omega)
  have h4 := Int.emod_lt_of_pos a S0
  have h5 := Int.emod_nonneg b (show S ≠ 0 by omega)
  have hb : 0 ≤ b / S := Int.ediv_nonneg b0 (by omega)
  have hb1 : b / S < T := Int.ediv_lt_of_lt_mul S0 (by rw [Int.mul_comm, hST]; exact b1)
  have h6 : 0 ≤ (a % S) * T := Int.mul_nonneg h3 (by omega)
  have h7 : (a % S) * T + T ≤ S * T := by
    have : (a % S + 1) * T ≤ S * T := Int.mul_le_mul_of_nonneg_right (by omega) (by omega)
    rw [Int.add_mul] at this
    omega
  have e2 : a * T + b / S = ((a % S) * T + b / S) + 4294967296 * (a / S) := by
    have h8 : a * T = (a % S + S * (a / S)) * T := by rw [h1]
    rw [h8, Int.add_mul, ← hST]
    grind
  have e3 : (a * T + b / S) % 4294967296 = (a % S) * T + b / S := by omega
  rw [e1, e3, Int.mul_add, show S * (a % S * T) = S * T * (a % S) by grind, hST]
  omega

theorem L97 (x : List Int) (s : Int) (hx : W x) (hl : x.length < 4194304) (s0 : 0 ≤ s) (s1 : s < 32) : ∀ k i : Nat, i + k = x.length → ∀ r : List Int, W r → r.length = x.length → (∀ j, i ≤ j → r.getD j 0 = 0) → p2 s * V r = V (x.take i) - x.getD 0 0 % p2 s + (x.getD i 0 % p2 s) * P i → g97_L3 x s (x.length : Int) (i : Int) r = some (D (V x / p2 s), ()) := by
  intro k
  induction k with
  | zero =>
    intro i hi r hr hrl hz he
    have : i = x.length := by omega
    subst this
    have hS := p2_pos s
    rw [List.take_length, getD_out (Nat.le_refl _), Int.zero_emod, Int.zero_mul, Int.add_zero] at he
    rw [g97_L3_eq, ifd_f (by omega), e88 hr (by omega), Option.bind_some]
    have h1 := Int.emod_nonneg (x.getD 0 0) (show p2 s ≠ 0 by omega)
    have h2 := Int.emod_lt_of_pos (x.getD 0 0) hS
    rw [(div_end (v := V x) (d := p2 s) (q := V r) (r := x.getD 0 0 % p2 s) (by omega) h1 h2).1]
  | succ k ih =>
    intro i hi r hr hrl hz he
    have hxi := hx.getD i
    have hxj := hx.getD (i + 1)
    have hS := p2_pos s
    have hst := shr_step (p2_mul s0 s1) hS hxi.1 hxi.2 hxj.1 hxj.2
    rw [g97_L3_eq, ifd_t (by omega), wi64 (x := (i : Int) + 1) (by omega) (by omega), e83 hx (by omega), Option.bind_some]
    dsimp only
    rw [ifdd_t (by omega) (by omega), ifd_f (by omega), ifdd_t (by omega) (by omega), p2_min s1, Int.toNat_natCast, show Int.toNat ((i : Int) + 1) = i + 1 by omega]
    rw [wu64 (x := x.getD (i + 1) 0) (by omega) (by omega), wu64 (x := x.getD i 0) (by omega) (by omega), wu64 (x := x.getD (i + 1) 0 * 4294967296) (by omega) (by omega), or_words hxj.1 hxj.2 hxi.1 hxi.2, wu64 (by omega) (by omega), fd (by omega), IntKind.wrap_u32]
    refine ih (i + 1) (by omega) _ (hr.set (by omega) (by omega)) (by simp [hrl]) (fun j hj => ?_) ?_
    · rw [getD_set_ne (by omega)]
      exact hz j (by omega)
    · rw [V_set (by omega), hz i (by omega), V_take_succ, P_succ]
      generalize (x.getD (i + 1) 0 * 4294967296 + x.getD i 0) / p2 s % 4294967296 = w at *
      generalize x.getD i 0 % p2 s = u at *
      generalize x.getD (i + 1) 0 % p2 s = u' at *
      generalize x.getD 0 0 % p2 s = u0 at *
      generalize x.getD i 0 = xi at *
      generalize x.getD (i + 1) 0 = xj at *
      generalize V (x.take i) = vx at *
      generalize P i = pi at *
      generalize p2 s = S at *
      generalize V r = vr at *
      clear ih hz hx hr hrl hxi hxj
      grind
theorem s97 : SigOk Try.prog 97 ⟨[.sl (.int .u32), .int .i64], [.sl (.int .u32)], h97⟩ := ok97 fun (x : List Int × Int × Unit) r h => by
  obtain ⟨⟨⟨wa, la⟩, s0, s1⟩, rfl⟩ := when_some h
  obtain ⟨a, s, u⟩ := x
  simp only at wa la s0 s1
  show g97 (a, s, ()) = some (D (V a / p2 s), ())
  rw [g97_eq, ifddd_t (by omega) (by omega) (by omega), Int.toNat_natCast]
  exact L97 a s wa la s0 s1 _ 0 (Nat.zero_add _) _ (W.replicate _) (by simp) (fun j _ => getD_replicate _ _) (by simp [V_replicate, V, P_zero]; omega)

/-! ### Sums and comparing of whole numbers -/
noncomputable def h45 : DL [tInt, tInt] → Option (DL [tInt]) := HI2 (rts := [tInt]) fun y z => (enc (y + z), ())
theorem s45 : SigOk Try.prog 45 ⟨[tInt, tInt], [tInt], h45⟩ := ok45 (hi2 fun y z hy hz => by
  have hps := P_sum hy hz
  rw [g45_eq, enc_2 y, enc_2 z, enc_1 y, enc_1 z]
  by_cases hs : decide (y < 0) = decide (z < 0)
  · rw [ifb_t (by simpa using hs), e70 hy.wl hz.wl, Option.bind_some, V_dg, V_dg]
    dsimp only
    rw [e69 (Wl_D hps (by omega)), Option.bind_some, V_D (by omega)]
    have : sg (decide (y < 0)) ((y.natAbs : Int) + (z.natAbs : Int)) = y + z := by
      have hs' := decide_eq_decide.1 hs
      unfold sg
      by_cases h1 : y < 0
      · have h2 := hs'.1 h1
        simp [h1]; omega
      · have h2 : ¬ z < 0 := fun h => h1 (hs'.2 h)
        simp [h1]; omega
    rw [this]
  · have hs' : (y < 0) ≠ (z < 0) := fun h => hs (by simp [h])
    rw [ifb_f (by simpa using hs), e71 hy.nt hz.nt, Option.bind_some, V_dg, V_dg]
    dsimp only
    by_cases hc : cmpI (y.natAbs : Int) (z.natAbs : Int) < 0
    · have hlt := cmpI_neg.1 hc
      rw [ifd_t hc, e72 hz.wl hy.wl (by rw [V_dg, V_dg]; omega), Option.bind_some, V_dg, V_dg]
      dsimp only
      rw [e69 (Wl_D (k := 1048577) (by omega) (by omega)), Option.bind_some, V_D (by omega)]
      have : sg (decide (z < 0)) ((z.natAbs : Int) - (y.natAbs : Int)) = y + z := by
        unfold sg
        by_cases h1 : z < 0
        · have h2 : ¬ y < 0 := fun h => hs' (by simp [h, h1])
          simp [h1]; omega
        · have h2 : y < 0 := Classical.byContradiction fun h => hs' (by simp [h, h1])
          simp [h1]; omega
      rw [this]
    · have hlt : ¬ (y.natAbs : Int) < (z.natAbs : Int) := fun h => hc (cmpI_neg.2 h)
      rw [ifd_f hc, e72 hy.wl hz.wl (by rw [V_dg, V_dg]; omega), Option.bind_some, V_dg, V_dg]
      dsimp only
      rw [e69 (Wl_D (k := 1048577) (by omega) (by omega)), Option.bind_some, V_D (by omega)]
      have : sg (decide (y < 0)) ((y.natAbs : Int) - (z.natAbs : Int)) = y + z := by
        unfold sg
        by_cases h1 : y < 0
        · have h2 : ¬ z < 0 := fun h => hs' (by simp [h, h1])
          simp [h1]; omega
        · have h2 : z < 0 := Classical.byContradiction fun h => hs' (by simp [h, h1])
          simp [h1]; omega
      rw [this])
theorem e51 {z : Int} (h : Sm z) : h51 (enc z, ()) = some (sgn z, ()) := by
  show when (Is (enc z)) (sgn (dec (enc z)), ()) = _
  rw [when_pos (Is.enc h), dec_enc]
theorem e31 {z : Int} (h : Sm z) : h31 (enc z, ()) = some (sgn z, ()) := e51 h
noncomputable def h56 : DL [tInt, tInt] → Option (DL [.int .i64]) := HI2 (rts := [.int .i64]) fun y z => (cmpI y z, ())
theorem s56 : SigOk Try.prog 56 ⟨[tInt, tInt], [.int .i64], h56⟩ := ok56 (hi2 fun y z hy hz => by
  rw [g56_eq]
  have e1 : h51 (((enc y).1, ((enc y).2.1, ())), ()) = some (sgn y, ()) := e51 hy
  have e2 : h51 (((enc z).1, ((enc z).2.1, ())), ()) = some (sgn z, ()) := e51 hz
  rw [e1, e2, enc_2 y, enc_2 z, enc_1 y, enc_1 z]
  simp only [Option.bind_some, h78, e71 hy.nt hz.nt, e71 hz.nt hy.nt, V_dg]
  by_cases h1 : y < 0 <;> by_cases h2 : z < 0 <;> simp [h1, h2, cmpI, sgn] <;> (repeat' split) <;> omega)
end Go.Refl.S3
