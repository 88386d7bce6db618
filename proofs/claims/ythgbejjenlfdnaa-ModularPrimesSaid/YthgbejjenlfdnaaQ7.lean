import Derived.Test.YthgbejjenlfdnaaP4
/-
  Quotient and remainder of rows of words: what the program's function computes.
-/
set_option linter.unusedVariables false
set_option linter.unusedSimpArgs false
set_option maxRecDepth 100000
namespace Go.Refl.S3
open Go Go.Refl Go.Proofs

theorem V_lt_cut {l : List Int} (h : W l) {m : Nat} (hl : V l < P m) : V (l.take m) = V l ∧ V (l.drop m) = 0 := by
  by_cases hm : m ≤ l.length
  · have h1 := V_take_drop l m
    rw [Nat.min_eq_left hm] at h1
    have h2 := V_nonneg (h.take m)
    have h3 := V_nonneg (h.drop m)
    have hp := P_pos m
    have : V (l.drop m) = 0 := by
      apply Classical.byContradiction
      intro hc
      have : P m * 1 ≤ P m * V (l.drop m) := Int.mul_le_mul_of_nonneg_left (by omega) (by omega)
      omega
    rw [this] at h1 ⊢
    omega
  · rw [List.take_of_length_le (by omega), List.drop_eq_nil_of_le (by omega)]
    exact ⟨rfl, rfl⟩
theorem P_lt_inv {m n : Nat} (h : P m < P n) : m < n := by
  apply Classical.byContradiction
  intro hc
  have := P_le (show n ≤ m by omega)
  omega
theorem D_length_ge {z : Int} {n : Nat} (h0 : 0 ≤ z) (h : P n ≤ z) : n < (D z).length := by
  have h1 := V_lt (D_W z)
  rw [V_D h0] at h1
  exact P_lt_inv (by omega)
theorem top_pos {l : List Int} (hw : W l) (hc : Cn l) (h : l ≠ []) : 0 < l.getD (l.length - 1) 0 := by
  have h1 := hw.getD (l.length - 1)
  have hl : 0 < l.length := List.length_pos_iff.2 h
  have : l.getD (l.length - 1) 0 ≠ 0 := by
    unfold Cn at hc
    rw [List.getD_eq_getElem?_getD, List.getElem?_eq_getElem (by omega)] at hc ⊢
    exact hc
  omega
/-- Bounds by the highest word. -/
theorem V_top {l : List Int} (hw : W l) {n : Nat} (hl : l.length = n + 1) : P n * l.getD n 0 ≤ V l ∧ V l < P n * (l.getD n 0 + 1) := by
  have e : V l = V (l.take n) + P n * l.getD n 0 := by
    conv => lhs; rw [← List.take_of_length_le (show l.length ≤ n + 1 by omega)]
    rw [V_take_succ]
  have h1 := V_nonneg (hw.take n)
  have h2 := V_lt (hw.take n)
  rw [List.length_take, Nat.min_eq_left (by omega)] at h2
  rw [Int.mul_add, Int.mul_one]
  omega

noncomputable def h75 : DL [.sl (.int .u32), .sl (.int .u32)] → Option (DL [.sl (.int .u32), .sl (.int .u32)]) := fun (x : List Int × List Int × Unit) => when (Nt x.1 ∧ Nt x.2.1 ∧ V x.2.1 ≠ 0) (D (V x.1 / V x.2.1), (D (V x.1 % V x.2.1), ()))

theorem e96 {xs v : List Int} {lo n : Nat} (h : OkCut xs lo n v) : h96 xs lo n (v, ()) = some ((V ((xs.drop lo).take n) / V v, ()), xs.take lo ++ (Dn n (V ((xs.drop lo).take n) % V v) ++ xs.drop (lo + n))) := when_pos h
theorem e97 {l : List Int} {s : Int} (h : Wl l) (h0 : 0 ≤ s) (h1 : s < 32) : h97 (l, (s, ())) = some (D (V l / p2 s), ()) := when_pos ⟨h, h0, h1⟩
theorem e95 {l : List Int} {s : Int} (h : Wl l) (h0 : 0 ≤ s) (h1 : s < 32) : h95 (l, (s, ())) = some (Dn (l.length + 1) (V l * p2 s)) := when_pos ⟨h, h0, h1⟩
theorem e94 {a : Int} (h : 0 ≤ a ∧ a < 4294967296) : h94 (a, ()) = some (32 - (bl a.toNat : Int), ()) := when_pos h

theorem L75 (v : List Int) (hv : W v) (s : Int) (s0 : 0 ≤ s) (s1 : s < 32) (hv2 : 2 ≤ v.length) (hvl : v.length < 4194304) (ht : 0 < v.getD (v.length - 1) 0) (U : Int) (N : Nat) (hN : v.length + N < 4194306) : ∀ j : Nat, j ≤ N → ∀ u q : List Int, W u → u.length = v.length + N → W q → q.length = N → V u + V v * P j * V (q.drop j) = U → V (u.drop j) < V v →
    g75_L10 s v (N : Int) ((N : Int) - j) u q = some (D (U / V v), (D (U % V v / p2 s), ())) := by
  have hvp : 0 < V v := by
    have h1 := (V_top hv (n := v.length - 1) (by omega)).1
    have h2 := Int.mul_pos (P_pos (v.length - 1)) ht
    omega
  intro j
  induction j with
  | zero =>
    intro hj u q hu hul hq hql he hlt
    simp only [List.drop_zero, P_zero, Int.mul_one] at he hlt
    have hun := V_nonneg hu
    obtain ⟨e1, e2⟩ := div_end (v := U) (d := V v) (q := V q) (r := V u) (by omega) hun hlt
    rw [g75_L10_eq, ifd_f (by omega), e88 hq (by omega), Option.bind_some, e88 hu (by omega), Option.bind_some]
    dsimp only
    have hvlt := V_lt hv
    rw [e97 (Wl_D (k := v.length) (by omega) (by omega)) s0 s1, Option.bind_some, V_D hun, e1, e2]
  | succ j ih =>
    intro hj u q hu hul hq hql he hlt
    have ek : IntKind.wrap .i64 (IntKind.wrap .i64 ((q.length : Int) - 1) - ((N : Int) - ((j + 1 : Nat) : Int))) = (j : Int) := by
      rw [wi64 (x := (q.length : Int) - 1) (by omega) (by omega), wi64 (by omega) (by omega)]
      omega
    have hdj := V_drop (l := u) (i := j) (by omega)
    have huj := hu.getD j
    have hvlt := V_lt hv
    have hlt2 : V (u.drop j) < V v * 4294967296 := by omega
    have hcut := V_lt_cut (hu.drop j) (m := v.length + 1) (by rw [P_succ]; omega)
    rw [List.drop_drop] at hcut
    have hok : OkCut u j (v.length + 1) v := ⟨hu, hv, hv2, hvl, rfl, by omega, ht, by rw [hcut.1]; exact hlt2⟩
    have hdn := V_nonneg (hu.drop j)
    have q0 : 0 ≤ V (u.drop j) / V v := Int.ediv_nonneg hdn (by omega)
    have q1 : V (u.drop j) / V v < 4294967296 := Int.ediv_lt_of_lt_mul hvp (by omega)
    have m0 := Int.emod_nonneg (V (u.drop j)) (show V v ≠ 0 by omega)
    have m1 := Int.emod_lt_of_pos (V (u.drop j)) hvp
    have me := Int.mul_ediv_add_emod (V (u.drop j)) (V v)
    have hdd : V (Dn (v.length + 1) (V (u.drop j) % V v)) = V (u.drop j) % V v := by
      rw [V_Dn, Int.emod_eq_of_lt m0 (by rw [P_succ]; omega)]
    rw [g75_L10_eq, ek, ifd_t (by omega), wi64 (x := (j : Int) + (v.length : Int)) (by omega) (by omega), wi64 (x := (j : Int) + (v.length : Int) + 1) (by omega) (by omega), ifdd_t (by omega) (by omega), ifdd_t (by omega) (by omega)]
    rw [Int.toNat_natCast, show Int.toNat ((j : Int) + (v.length : Int) + 1) - j = v.length + 1 by omega, e96 hok, Option.bind_some, ifdd_t (by omega) (by omega), wi64 (by omega) (by omega), hcut.1]
    dsimp only
    rw [show (N : Int) - ((j + 1 : Nat) : Int) + 1 = (N : Int) - (j : Int) by omega]
    have hwn : W (u.take j ++ (Dn (v.length + 1) (V (u.drop j) % V v) ++ u.drop (j + (v.length + 1)))) := (hu.take j).append ((Dn_W _ _).append (hu.drop _))
    have hvr : V (Dn (v.length + 1) (V (u.drop j) % V v) ++ u.drop (j + (v.length + 1))) = V (u.drop j) % V v := by
      rw [V_append, hcut.2, hdd]
      omega
    refine ih (by omega) _ _ hwn (by simp [Dn_length]; omega) (hq.set q0 q1) (by simp [hql]) ?_ ?_
    · have e1 := V_take_drop u j
      rw [V_append, hvr, drop_set_self (by omega), List.length_take, Nat.min_eq_left (by omega)]
      rw [Nat.min_eq_left (by omega)] at e1
      rw [P_succ] at he
      generalize V (u.drop j) / V v = Q at *
      generalize V (u.drop j) % V v = R at *
      generalize V (u.drop j) = X at *
      generalize V (u.take j) = Y at *
      generalize V (q.drop (j + 1)) = Z at *
      generalize P j = pj at *
      generalize V v = vv at *
      generalize V u = uu at *
      clear ih hwn hvr hdd hok hcut hq hu
      grind
    · rw [List.drop_append, List.drop_eq_nil_of_le (by simp; omega), List.nil_append, List.length_take, show j - min j u.length = 0 by omega, List.drop_zero, hvr]
      exact m1

theorem s75 : SigOk Try.prog 75 ⟨[.sl (.int .u32), .sl (.int .u32)], [.sl (.int .u32), .sl (.int .u32)], h75⟩ := ok75 fun (x : List Int × List Int × Unit) r h => by
  obtain ⟨⟨⟨wa, ca, la⟩, ⟨wb, cb, lb⟩, hb0⟩, rfl⟩ := when_some h
  obtain ⟨a, b, u⟩ := x
  simp only at wa ca la wb cb lb hb0
  show g75 (a, b, ()) = some (D (V a / V b), (D (V a % V b), ()))
  have hbn : b ≠ [] := fun h => hb0 (by rw [h]; rfl)
  have hbl : 0 < b.length := List.length_pos_iff.2 hbn
  have ha0 := V_nonneg wa
  have hbp := V_nonneg wb
  have htop := top_pos wb cb hbn
  rw [g75_eq, e71 ⟨wa, ca, la⟩ ⟨wb, cb, lb⟩, Option.bind_some]
  dsimp only
  by_cases hc : cmpI (V a) (V b) < 0
  · have hlt := cmpI_neg.1 hc
    rw [ifd_t hc, Int.ediv_eq_zero_of_lt ha0 hlt, Int.emod_eq_of_lt ha0 hlt, D_V wa ca, D_zero]
  · have hle : V b ≤ V a := by
      apply Classical.byContradiction
      intro h
      exact hc (cmpI_neg.2 (by omega))
    rw [ifd_f hc]
    by_cases h1 : b.length = 1
    · obtain ⟨d, rfl⟩ : ∃ d, b = [d] := by
        match b, h1 with
        | [d], _ => exact ⟨d, rfl⟩
      have hd := wb.getD 0
      have hv : V [d] = d := by simp [V]
      have hd0 : d ≠ 0 := by rw [hv] at hb0; exact hb0
      simp only [List.getD_cons_zero] at hd
      have hm0 := Int.emod_nonneg (V a) hd0
      have hm1 := Int.emod_lt_of_pos (V a) (show 0 < d by omega)
      rw [ife_t (by simp), ifdd_t (by omega) (by simp)]
      simp only [show Int.toNat 0 = 0 from rfl, List.getD_cons_zero]
      rw [e93 ⟨wa, la⟩ (by omega) (by omega), Option.bind_some]
      dsimp only
      rw [e88 (by exact W.cons hm0 (by omega) W.nil) (by simp), Option.bind_some, hv]
      simp [V]
    · obtain ⟨n, hn⟩ : ∃ n, b.length = n + 2 := ⟨b.length - 2, by omega⟩
      have htw := wb.getD (n + 1)
      rw [hn, show n + 2 - 1 = n + 1 by omega] at htop
      have hbl1 : 1 ≤ bl (b.getD (n + 1) 0).toNat := by
        unfold bl
        rw [if_neg (by omega)]
        omega
      have hbl2 : bl (b.getD (n + 1) 0).toNat ≤ 32 := bl_small 32 (by omega)
      have hs0 : 0 ≤ 32 - (bl (b.getD (n + 1) 0).toNat : Int) := by omega
      have hs1 : 32 - (bl (b.getD (n + 1) 0).toNat : Int) < 32 := by omega
      have hS := p2_pos (32 - (bl (b.getD (n + 1) 0).toNat : Int))
      -- the highest word, shifted, stays a word
      have hfit : (b.getD (n + 1) 0 + 1) * p2 (32 - (bl (b.getD (n + 1) 0).toNat : Int)) ≤ 4294967296 := by
        have h2 := bl_lt (b.getD (n + 1) 0).toNat
        have h3 : b.getD (n + 1) 0 + 1 ≤ p2 (bl (b.getD (n + 1) 0).toNat : Int) := by
          unfold p2
          rw [Int.toNat_natCast]
          have e : (2 : Int) ^ bl (b.getD (n + 1) 0).toNat = ((2 ^ bl (b.getD (n + 1) 0).toNat : Nat) : Int) := by simp
          rw [e]
          omega
        have h4 : p2 (bl (b.getD (n + 1) 0).toNat : Int) * p2 (32 - (bl (b.getD (n + 1) 0).toNat : Int)) = 4294967296 := by
          unfold p2
          rw [← Int.pow_add, show (bl (b.getD (n + 1) 0).toNat : Int).toNat + (32 - (bl (b.getD (n + 1) 0).toNat : Int)).toNat = 32 by omega]
          rfl
        have h5 := Int.mul_le_mul_of_nonneg_right h3 (show 0 ≤ p2 (32 - (bl (b.getD (n + 1) 0).toNat : Int)) by omega)
        omega
      rw [ife_f (by omega), wi64 (x := (b.length : Int) - 1) (by omega) (by omega), ifdd_t (by omega) (by omega), show Int.toNat ((b.length : Int) - 1) = n + 1 by omega, e94 htw, Option.bind_some]
      dsimp only
      generalize 32 - (bl (b.getD (n + 1) 0).toNat : Int) = s at *
      rw [e95 ⟨wa, la⟩ hs0 hs1, Option.bind_some, e95 ⟨wb, lb⟩ hs0 hs1, Option.bind_some, e88 (Dn_W _ _) (by rw [Dn_length]; omega), Option.bind_some]
      dsimp only
      have htb := V_top wb (n := n + 1) (by omega)
      have hVa := V_lt wa
      have hPn := P_pos (n + 1)
      -- values
      have hUb0 : 0 ≤ V b * p2 s := Int.mul_nonneg hbp (by omega)
      have hUa0 : 0 ≤ V a * p2 s := Int.mul_nonneg ha0 (by omega)
      have hUb : V b * p2 s < P (n + 2) := by
        have h6 : V b * p2 s < P (n + 1) * (b.getD (n + 1) 0 + 1) * p2 s := Int.mul_lt_mul_of_pos_right htb.2 hS
        have h7 : P (n + 1) * ((b.getD (n + 1) 0 + 1) * p2 s) ≤ P (n + 1) * 4294967296 := Int.mul_le_mul_of_nonneg_left hfit (by omega)
        rw [Int.mul_assoc] at h6
        rw [P_succ]
        omega
      have hUb1 : P (n + 1) * p2 s ≤ V b * p2 s := by
        refine Int.mul_le_mul_of_nonneg_right ?_ (by omega)
        have : P (n + 1) * 1 ≤ P (n + 1) * b.getD (n + 1) 0 := Int.mul_le_mul_of_nonneg_left (by omega) (by omega)
        omega
      have hS1 : P (n + 1) ≤ P (n + 1) * p2 s := by
        have : P (n + 1) * 1 ≤ P (n + 1) * p2 s := Int.mul_le_mul_of_nonneg_left (by omega) (by omega)
        omega
      have hVDb : V (Dn (b.length + 1) (V b * p2 s)) = V b * p2 s := by
        rw [V_Dn, Int.emod_eq_of_lt hUb0]
        have := P_le (show n + 2 ≤ b.length + 1 by omega)
        omega
      have hVDa : V (Dn (a.length + 1) (V a * p2 s)) = V a * p2 s := by
        rw [V_Dn, Int.emod_eq_of_lt hUa0]
        have h8 : V a * p2 s < P a.length * p2 s := Int.mul_lt_mul_of_pos_right hVa hS
        have h9 : P a.length * p2 s ≤ P a.length * 4294967296 := Int.mul_le_mul_of_nonneg_left (by have := p2_le hs0 hs1; omega) (by have := P_pos a.length; omega)
        rw [P_succ]
        omega
      rw [hVDb]
      have hvW := D_W (V b * p2 s)
      have hvV := V_D hUb0
      have hvL1 := D_length hUb
      have hvL2 := D_length_ge hUb0 (show P (n + 1) ≤ V b * p2 s by omega)
      have hvC := D_Cn (V b * p2 s)
      have hvne : D (V b * p2 s) ≠ [] := by
        intro h
        rw [h] at hvL2
        simp at hvL2
      have hvt := top_pos hvW hvC hvne
      have hal : n + 2 ≤ a.length := by
        apply Classical.byContradiction
        intro h
        have := V_len_lt wa wb cb (by omega)
        omega
      generalize hv : D (V b * p2 s) = v at *
      have hvl : v.length = n + 2 := by omega
      have huW := Dn_W (a.length + 1) (V a * p2 s)
      have huL := Dn_length (a.length + 1) (V a * p2 s)
      generalize hu : Dn (a.length + 1) (V a * p2 s) = uu at *
      rw [huL, hvl, wi64 (by omega) (by omega), ifddd_t (by omega) (by omega) (by omega), List.length_replicate]
      rw [show Int.toNat (((a.length + 1 : Nat) : Int) - ((n + 2 : Nat) : Int)) = a.length + 1 - (n + 2) by omega]
      generalize hN : a.length + 1 - (n + 2) = N
      have := L75 v hvW s hs0 hs1 (by omega) (by omega) hvt (V a * p2 s) N (by omega) N (Nat.le_refl _) uu (List.replicate N 0) huW (by omega) (W.replicate _) (by simp) (by
        rw [List.drop_eq_nil_of_le (by simp), hVDa]
        simp [V]) (by
        have h1 := V_take_drop uu N
        rw [Nat.min_eq_left (by omega), hVDa] at h1
        have h2 := V_nonneg (huW.take N)
        have h3 : V a * p2 s < P a.length * p2 s := Int.mul_lt_mul_of_pos_right hVa hS
        have h4 : P a.length = P N * P (n + 1) := by rw [← P_add]; congr 1; omega
        rw [h4, Int.mul_assoc] at h3
        have h5 : P N * (P (n + 1) * p2 s) ≤ P N * (V b * p2 s) := Int.mul_le_mul_of_nonneg_left hUb1 (by have := P_pos N; omega)
        have h6 : P N * V (uu.drop N) < P N * (V b * p2 s) := by omega
        rw [hvV]
        exact Int.lt_of_mul_lt_mul_left h6 (by have := P_pos N; omega))
      rw [show (N : Int) - (N : Int) = 0 by omega] at this
      rw [this, hvV, Int.mul_ediv_mul_of_pos_left _ _ hS, Int.mul_comm (V a), Int.mul_comm (V b), Int.mul_emod_mul_of_pos _ _ hS, Int.mul_ediv_cancel_left _ (by omega)]
end Go.Refl.S3
/-
  One digit of a long quotient in the reference: guessed, taken away, restored.
-/
set_option linter.unusedVariables false
set_option linter.unusedSimpArgs false
set_option maxRecDepth 100000
namespace Go.Refl.S3
open Go Go.Refl Go.Proofs

/-! ### Guessing -/
theorem up2 {p v : List Int} {k : Nat} (hp : W p) (hv : W v) (lp : p.length = k + 3) (lv : v.length = k + 2) (ht : 0 < v.getD (k + 1) 0) {q : Int} (hq0 : 0 ≤ q) (hq : q < 4294967296)
    (h : q * (v.getD k 0 + 4294967296 * v.getD (k + 1) 0) ≤ p.getD k 0 + 4294967296 * (p.getD (k + 1) 0 + 4294967296 * p.getD (k + 2) 0)) : q ≤ V p / V v + 1 := by
  have e1 : V p = V (p.take k) + P k * (p.getD k 0 + 4294967296 * (p.getD (k + 1) 0 + 4294967296 * p.getD (k + 2) 0)) := by
    conv => lhs; rw [← List.take_of_length_le (show p.length ≤ k + 2 + 1 by omega)]
    simp only [V_take_succ, P_succ]
    generalize p.getD k 0 = a; generalize p.getD (k + 1) 0 = b; generalize p.getD (k + 2) 0 = c; generalize P k = d; generalize V (p.take k) = e
    clear hp hv lp lv h
    grind
  have e2 : V v = V (v.take k) + P k * (v.getD k 0 + 4294967296 * v.getD (k + 1) 0) := by
    conv => lhs; rw [← List.take_of_length_le (show v.length ≤ k + 1 + 1 by omega)]
    simp only [V_take_succ, P_succ]
    generalize v.getD k 0 = a; generalize v.getD (k + 1) 0 = b; generalize P k = d; generalize V (v.take k) = e
    clear e1 hp hv lp lv h
    grind
  have h1 := V_nonneg (hp.take k)
  have h2 := V_lt (hv.take k)
  rw [List.length_take, Nat.min_eq_left (by omega)] at h2
  have h2' := V_nonneg (hv.take k)
  have hk := P_pos k
  have hvk := hv.getD k
  have hvv : 4294967296 ≤ v.getD k 0 + 4294967296 * v.getD (k + 1) 0 := by omega
  generalize v.getD k 0 + 4294967296 * v.getD (k + 1) 0 = Y at *
  generalize p.getD k 0 + 4294967296 * (p.getD (k + 1) 0 + 4294967296 * p.getD (k + 2) 0) = X at *
  have h3 : P k * 4294967296 ≤ P k * Y := Int.mul_le_mul_of_nonneg_left hvv (by omega)
  have hvp : 0 < V v := by omega
  have h4 : q * V (v.take k) ≤ q * P k := Int.mul_le_mul_of_nonneg_left (by omega) hq0
  have h5 : q * P k ≤ 4294967295 * P k := Int.mul_le_mul_of_nonneg_right (by omega) (by omega)
  have h6 : P k * (q * Y) ≤ P k * X := Int.mul_le_mul_of_nonneg_left h (by omega)
  have h7 : (q - 1) * V v ≤ V p := by
    have : (q - 1) * V v = q * V (v.take k) + P k * (q * Y) - V v := by
      rw [Int.sub_mul, Int.one_mul]
      have : q * V v = q * V (v.take k) + P k * (q * Y) := by rw [e2]; grind
      omega
    omega
  have := (Int.le_ediv_iff_mul_le hvp).2 h7
  omega

theorem up1 {p v : List Int} {k : Nat} (hp : W p) (hv : W v) (lp : p.length = k + 3) (lv : v.length = k + 2) (ht : 0 < v.getD (k + 1) 0) {q : Int} (hq0 : 0 ≤ q) (hq : q ≤ 4294967296)
    (h : 4294967296 ≤ p.getD (k + 1) 0 + 4294967296 * p.getD (k + 2) 0 - q * v.getD (k + 1) 0) : q ≤ V p / V v := by
  have e1 : V p = V (p.take (k + 1)) + P (k + 1) * (p.getD (k + 1) 0 + 4294967296 * p.getD (k + 2) 0) := by
    conv => lhs; rw [← List.take_of_length_le (show p.length ≤ k + 2 + 1 by omega)]
    rw [V_take_succ, V_take_succ, P_succ (k + 1)]
    generalize p.getD (k + 1) 0 = b; generalize p.getD (k + 2) 0 = c; generalize P (k + 1) = d; generalize V (p.take (k + 1)) = e
    clear hp hv lp lv h
    grind
  have h2 := (V_top hv lv).2
  have h1 := V_nonneg (hp.take (k + 1))
  have hk := P_pos (k + 1)
  have hvp : 0 < V v := by
    have h1 := (V_top hv lv).1
    have h2 := Int.mul_pos hk ht
    omega
  generalize v.getD (k + 1) 0 = Y at *
  generalize p.getD (k + 1) 0 + 4294967296 * p.getD (k + 2) 0 = X at *
  have h3 : q * V v ≤ q * (P (k + 1) * (Y + 1)) := Int.mul_le_mul_of_nonneg_left (by omega) hq0
  have h4 : P (k + 1) * (q * Y + q) ≤ P (k + 1) * X := Int.mul_le_mul_of_nonneg_left (by omega) (by omega)
  have h5 : q * (P (k + 1) * (Y + 1)) = P (k + 1) * (q * Y + q) := by grind
  exact (Int.le_ediv_iff_mul_le hvp).2 (by omega)

/-- What is asked of a part and a divisor that is made great. -/
def OkPart (p v : List Int) : Prop := W p ∧ W v ∧ 2 ≤ v.length ∧ v.length < 4194304 ∧ p.length = v.length + 1 ∧ 2147483648 ≤ v.getD (v.length - 1) 0 ∧ V p < V v * 4294967296

theorem L85 (p v : List Int) (k : Nat) (hp : W p) (hv : W v) (lp : p.length = k + 3) (lv : v.length = k + 2) (hk : k < 4194304) (ht : 2147483648 ≤ v.getD (k + 1) 0) (hlt : V p < V v * 4294967296) : ∀ m : Nat, ∀ q r : Int, q = V p / V v + m → q ≤ 4294967297 → 0 ≤ r → r < 4294967296 → r = p.getD (k + 1) 0 + 4294967296 * p.getD (k + 2) 0 - q * v.getD (k + 1) 0 →
    ∃ d : Int, g85_L5 p v ((k + 2 : Nat) : Int) q r = some (d, ()) ∧ V p / V v ≤ d ∧ d ≤ V p / V v + 1 ∧ d ≤ 4294967296 := by
  have hvp : 0 < V v := by
    have h1 := (V_top hv lv).1
    have h2 := Int.mul_pos (P_pos (k + 1)) (show 0 < v.getD (k + 1) 0 by omega)
    omega
  have hpn := V_nonneg hp
  have q0 : 0 ≤ V p / V v := Int.ediv_nonneg hpn (by omega)
  have q1 : V p / V v < 4294967296 := Int.ediv_lt_of_lt_mul hvp (by rw [Int.mul_comm]; exact hlt)
  have hv1 := hv.getD (k + 1)
  have hv2 := hv.getD k
  have hp2 := hp.getD k
  have E2 := est2 hp hv lp lv q0 (Int.ediv_mul_le _ (by omega))
  intro m
  induction m with
  | zero =>
    intro q r hq hq2 r0 r1 hr
    have hqQ : q = V p / V v := by omega
    have hm := mul_lt32 q0 q1 hv2.1 hv2.2
    rw [← hqQ] at hm E2
    rw [Int.mul_add] at E2
    have e : q * (4294967296 * v.getD (k + 1) 0) = 4294967296 * (q * v.getD (k + 1) 0) := by grind
    rw [g85_L5_eq, ifd_f (by omega), wi64 (x := ((k + 2 : Nat) : Int) - 2) (by omega) (by omega), ifdd_t (by omega) (by omega), ifdd_t (by omega) (by omega), show Int.toNat (((k + 2 : Nat) : Int) - 2) = k by omega]
    rw [wu64 (x := v.getD k 0) (by omega) (by omega), wu64 (x := p.getD k 0) (by omega) (by omega), wu64 (x := r * 4294967296) (by omega) (by omega), wu64 (x := q * v.getD k 0) (by omega) (by omega), wu64 (x := r * 4294967296 + p.getD k 0) (by omega) (by omega), ifd_f (by omega)]
    have hlt' : q < 4294967296 := by rw [hqQ]; exact q1
    exact ⟨q, rfl, Int.le_of_eq hqQ.symm, by rw [hqQ]; exact Int.le_add_of_nonneg_right (by decide), Int.le_of_lt hlt'⟩
  | succ m ih =>
    intro q r hq hq2 r0 r1 hr
    have step : ∃ d : Int, (if (decide ((IntKind.wrap .u64 (r + (IntKind.wrap .u64 (List.getD v (Int.toNat (IntKind.wrap .i64 (((k + 2 : Nat) : Int) - 1))) 0)))) ≥ 4294967296)) = true then
        some ((IntKind.wrap .u64 (q - 1)), ())
      else (g85_L5 p v ((k + 2 : Nat) : Int) (IntKind.wrap .u64 (q - 1)) (IntKind.wrap .u64 (r + (IntKind.wrap .u64 (List.getD v (Int.toNat (IntKind.wrap .i64 (((k + 2 : Nat) : Int) - 1))) 0)))))) = some (d, ()) ∧ V p / V v ≤ d ∧ d ≤ V p / V v + 1 ∧ d ≤ 4294967296 := by
      rw [wi64 (x := ((k + 2 : Nat) : Int) - 1) (by omega) (by omega), show Int.toNat (((k + 2 : Nat) : Int) - 1) = k + 1 by omega, wu64 (x := v.getD (k + 1) 0) (by omega) (by omega), wu64 (x := r + v.getD (k + 1) 0) (by omega) (by omega), wu64 (x := q - 1) (by omega) (by omega)]
      have hr' : r + v.getD (k + 1) 0 = p.getD (k + 1) 0 + 4294967296 * p.getD (k + 2) 0 - (q - 1) * v.getD (k + 1) 0 := by
        rw [Int.sub_mul]
        omega
      by_cases h1 : r + v.getD (k + 1) 0 ≥ 4294967296
      · rw [ifd_t h1]
        have := up1 hp hv lp lv (by omega) (q := q - 1) (by omega) (by omega) (by omega)
        exact ⟨q - 1, rfl, by omega, by omega, by omega⟩
      · rw [ifd_f h1]
        exact ih (q - 1) (r + v.getD (k + 1) 0) (by omega) (by omega) (by omega) (by omega) hr'
    rw [g85_L5_eq]
    by_cases h0 : q ≥ 4294967296
    · rw [ifd_t h0, ifdd_t (by rw [wi64 (by omega) (by omega)]; omega) (by rw [wi64 (by omega) (by omega)]; omega)]
      exact step
    · have hm := mul_lt32 (show 0 ≤ q by omega) (by omega) hv2.1 hv2.2
      have hi : 0 ≤ IntKind.wrap .i64 (((k + 2 : Nat) : Int) - 1) ∧ IntKind.wrap .i64 (((k + 2 : Nat) : Int) - 1) < (v.length : Int) := by rw [wi64 (by omega) (by omega)]; omega
      rw [ifd_f h0, wi64 (x := ((k + 2 : Nat) : Int) - 2) (by omega) (by omega), ifdd_t (by omega) (by omega), ifdd_t (by omega) (by omega), show Int.toNat (((k + 2 : Nat) : Int) - 2) = k by omega]
      rw [wu64 (x := v.getD k 0) (by omega) (by omega), wu64 (x := p.getD k 0) (by omega) (by omega), wu64 (x := r * 4294967296) (by omega) (by omega), wu64 (x := q * v.getD k 0) (by omega) (by omega), wu64 (x := r * 4294967296 + p.getD k 0) (by omega) (by omega)]
      by_cases h2 : q * v.getD k 0 > r * 4294967296 + p.getD k 0
      · rw [ifd_t h2, ifdd_t hi.1 hi.2]
        exact step
      · rw [ifd_f h2]
        have := up2 hp hv lp lv (by omega) (q := q) (by omega) (by omega) (by
          rw [Int.mul_add]
          have e : q * (4294967296 * v.getD (k + 1) 0) = 4294967296 * (q * v.getD (k + 1) 0) := by grind
          omega)
        exact ⟨q, rfl, by rw [hq]; exact Int.le_add_of_nonneg_right (Int.natCast_nonneg _), this, Int.le_of_lt (Int.not_le.1 h0)⟩

open Classical in
noncomputable def h85 : DL [.sl (.int .u32), .sl (.int .u32)] → Option (DL [.int .u64]) := fun (x : List Int × List Int × Unit) => if OkPart x.1 x.2.1 then g85 x else none
theorem s85 : SigOk Try.prog 85 ⟨[.sl (.int .u32), .sl (.int .u32)], [.int .u64], h85⟩ := leaf (an := an85) Try.func85 rfl rfl fun (x : List Int × List Int × Unit) r h => by
  unfold h85 at h
  split at h
  · exact h
  · cases h
theorem e85 {p v : List Int} (h : OkPart p v) : ∃ d : Int, h85 (p, (v, ())) = some (d, ()) ∧ V p / V v ≤ d ∧ d ≤ V p / V v + 1 ∧ d ≤ 4294967296 := by
  have e : h85 (p, (v, ())) = g85 (p, (v, ())) := if_pos h
  obtain ⟨hp, hv, hv2, hvl, hpl, ht, hlt⟩ := h
  obtain ⟨k, hk⟩ : ∃ k, v.length = k + 2 := ⟨v.length - 2, by omega⟩
  rw [hk, show k + 2 - 1 = k + 1 by omega] at ht
  have hv1 := hv.getD (k + 1)
  have hu1 := hp.getD (k + 1)
  have hu0 := hp.getD (k + 2)
  have hu2 := hp.getD k
  have hv2' := hv.getD k
  have hvp : 0 < V v := by
    have h1 := (V_top hv hk).1
    have h2 := Int.mul_pos (P_pos (k + 1)) (show 0 < v.getD (k + 1) 0 by omega)
    omega
  have hpn := V_nonneg hp
  have q0 : 0 ≤ V p / V v := Int.ediv_nonneg hpn (by omega)
  have E2 := est2 hp hv (by omega) hk q0 (Int.ediv_mul_le _ (by omega))
  have E1 := est1 q0 hv2'.1 hu2.2 E2
  have hu : p.getD (k + 2) 0 ≤ v.getD (k + 1) 0 := by
    have h1 := (V_top hp (n := k + 2) (by omega)).1
    have h2 := (V_top hv hk).2
    have h3 := P_succ (k + 1)
    have h4 := P_pos (k + 1)
    have h5 : P (k + 1) * (4294967296 * p.getD (k + 2) 0) < P (k + 1) * (4294967296 * (v.getD (k + 1) 0 + 1)) := by
      have e1 : P (k + 1) * (4294967296 * p.getD (k + 2) 0) = P (k + 2) * p.getD (k + 2) 0 := by rw [h3]; grind
      have e2 : P (k + 1) * (4294967296 * (v.getD (k + 1) 0 + 1)) = P (k + 1) * (v.getD (k + 1) 0 + 1) * 4294967296 := by grind
      omega
    have := Int.lt_of_mul_lt_mul_left h5 (by omega)
    omega
  have hX0 : 0 ≤ p.getD (k + 2) 0 * 4294967296 + p.getD (k + 1) 0 := by omega
  have hq0 : 0 ≤ (p.getD (k + 2) 0 * 4294967296 + p.getD (k + 1) 0) / v.getD (k + 1) 0 := Int.ediv_nonneg hX0 (by omega)
  have hq1 : (p.getD (k + 2) 0 * 4294967296 + p.getD (k + 1) 0) / v.getD (k + 1) 0 < 4294967298 := Int.ediv_lt_of_lt_mul (by omega) (by omega)
  have m0 := Int.emod_nonneg (p.getD (k + 2) 0 * 4294967296 + p.getD (k + 1) 0) (show v.getD (k + 1) 0 ≠ 0 by omega)
  have m1 := Int.emod_lt_of_pos (p.getD (k + 2) 0 * 4294967296 + p.getD (k + 1) 0) (show 0 < v.getD (k + 1) 0 by omega)
  have me := Int.mul_ediv_add_emod (p.getD (k + 2) 0 * 4294967296 + p.getD (k + 1) 0) (v.getD (k + 1) 0)
  have hle : V p / V v ≤ (p.getD (k + 2) 0 * 4294967296 + p.getD (k + 1) 0) / v.getD (k + 1) 0 := (Int.le_ediv_iff_mul_le (by omega)).2 (by omega)
  rw [e, g85_eq, hk, ifdd_t (by omega) (by omega), wi64 (x := ((k + 2 : Nat) : Int) - 1) (by omega) (by omega), ifdd_t (by omega) (by omega), ifdd_t (by omega) (by omega), show Int.toNat (((k + 2 : Nat) : Int) - 1) = k + 1 by omega, Int.toNat_natCast]
  rw [wu64 (x := v.getD (k + 1) 0) (by omega) (by omega), ife_f (by omega), ifdd_t (by omega) (by omega), ife_f (by omega), wu64 (x := p.getD (k + 2) 0) (by omega) (by omega), wu64 (x := p.getD (k + 1) 0) (by omega) (by omega), wu64 (x := p.getD (k + 2) 0 * 4294967296) (by omega) (by omega), wu64 (x := p.getD (k + 2) 0 * 4294967296 + p.getD (k + 1) 0) (by omega) (by omega), td hX0, tm hX0, wu64 hq0 (by omega)]
  refine L85 p v k hp hv (by omega) hk (by omega) (by omega) hlt ((p.getD (k + 2) 0 * 4294967296 + p.getD (k + 1) 0) / v.getD (k + 1) 0 - V p / V v).toNat _ _ (by omega) (by omega) m0 (by omega) ?_
  rw [Int.mul_comm] at me
  omega

/-! ### Taking away, restoring -/
theorem L86 (A C v : List Int) (hv : W v) (k : Nat) (hlv : v.length = k + 2) (hk : k < 4194304) (p0 : List Int) (hp0 : W p0) (dg : Int) (d0 : 0 ≤ dg) (d1 : dg ≤ 4294967296) : ∀ m i : Nat, i + m = k + 3 → ∀ (p : List Int) (c b : Int), W p → p.length = k + 3 → 0 ≤ c → c < 4294967296 → (k + 2 < i → c = 0) → 0 ≤ b → b ≤ 1 → V p = V p0 - dg * V (v.take i) + P i * (c + b) →
    ∃ p' b', W p' ∧ p'.length = k + 3 ∧ 0 ≤ b' ∧ b' ≤ 1 ∧ V p' - P (k + 3) * b' = V p0 - dg * V v ∧ g86_L4 A.length (k + 3) v dg c b (i : Int) (A ++ (p ++ C)) = some (((b' == 1), ()), A ++ (p' ++ C)) := by
  intro m
  induction m with
  | zero =>
    intro i hi p c b hp hl c0 c1 hc b0 b1 he
    have : i = k + 3 := by omega
    subst this
    rw [List.take_of_length_le (by omega), hc (by omega)] at he
    refine ⟨p, b, hp, hl, b0, b1, ?_, ?_⟩
    · rw [he, Int.zero_add]
      omega
    · rw [g86_L4_eq, ifd_f (by omega)]
  | succ m ih =>
    intro i hi p c b hp hl c0 c1 hc b0 b1 he
    have hpi := hp.getD i
    have hvi := hv.getD i
    have hm0 : 0 ≤ dg * v.getD i 0 := Int.mul_nonneg d0 hvi.1
    have hm1 : dg * v.getD i 0 ≤ 4294967296 * 4294967295 := Int.mul_le_mul (by omega) (by omega) hvi.1 (by omega)
    rw [g86_L4_eq, ifd_t (by omega), e82 hv (by omega), Option.bind_some]
    dsimp only
    rw [ifdd_t (by omega) (by omega), ifdd_t (by omega) (by omega), Int.toNat_natCast, cut_getD (by omega), wu64 (x := dg * v.getD i 0) (by omega) (by omega), wu64 (x := dg * v.getD i 0 + c) (by omega) (by omega), td (by omega), tm (by omega), wu64 (x := p.getD i 0) (by omega) (by omega), wu64 (x := (dg * v.getD i 0 + c) / 4294967296) (by omega) (by omega)]
    have e : (dg * v.getD i 0 + c) % 4294967296 + 4294967296 * ((dg * v.getD i 0 + c) / 4294967296) = c + dg * v.getD i 0 := by omega
    have hlw : 0 ≤ (dg * v.getD i 0 + c) % 4294967296 ∧ (dg * v.getD i 0 + c) % 4294967296 < 4294967296 := by omega
    have hhg : 0 ≤ (dg * v.getD i 0 + c) / 4294967296 ∧ (dg * v.getD i 0 + c) / 4294967296 < 4294967296 := by omega
    have hz : k + 2 < i + 1 → (dg * v.getD i 0 + c) / 4294967296 = 0 := by
      intro h
      have : v.getD i 0 = 0 := getD_out (by omega)
      rw [this, Int.mul_zero]
      omega
    generalize (dg * v.getD i 0 + c) % 4294967296 = lw at *
    generalize (dg * v.getD i 0 + c) / 4294967296 = hg at *
    rw [wu64 (x := 4294967296 + p.getD i 0) (by omega) (by omega), wu64 (x := 4294967296 + p.getD i 0 - lw) (by omega) (by omega), wu64 (x := 4294967296 + p.getD i 0 - lw - b) (by omega) (by omega), td (by omega), tm (by omega), wu64 (x := (4294967296 + p.getD i 0 - lw - b) / 4294967296) (by omega) (by omega), wu64 (x := 1 - (4294967296 + p.getD i 0 - lw - b) / 4294967296) (by omega) (by omega), wu32 (by omega) (by omega), wi64 (by omega) (by omega), cut_set (by omega)]
    refine ih (i + 1) (by omega) _ _ _ (hp.set (by omega) (by omega)) (by simp [hl]) hhg.1 hhg.2 hz (by omega) (by omega) ?_
    rw [V_set (by omega), V_take_succ, P_succ]
    have e2 : (4294967296 + p.getD i 0 - lw - b) % 4294967296 - 4294967296 * (1 - (4294967296 + p.getD i 0 - lw - b) / 4294967296) = p.getD i 0 - lw - b := by omega
    generalize 1 - (4294967296 + p.getD i 0 - lw - b) / 4294967296 = b' at *
    generalize (4294967296 + p.getD i 0 - lw - b) % 4294967296 = w' at *
    clear ih
    grind

/-- What is asked where a multiple is taken away. -/
def OkLess (xs : List Int) (lo n : Nat) (v : List Int) (q : Int) : Prop := W xs ∧ W v ∧ 2 ≤ v.length ∧ v.length < 4194304 ∧ n = v.length + 1 ∧ lo + n ≤ xs.length ∧ 0 ≤ q ∧ q ≤ 4294967296
noncomputable def h86 : List Int → Nat → Nat → DL [.sl (.int .u32), .int .u64] → Option (DL [.bool] × List Int) := fun xs lo n (x : List Int × Int × Unit) =>
  when (OkLess xs lo n x.1 x.2.1 ∧ - P n ≤ V ((xs.drop lo).take n) - x.2.1 * V x.1) ((decide (V ((xs.drop lo).take n) - x.2.1 * V x.1 < 0), ()), xs.take lo ++ (Dn n (V ((xs.drop lo).take n) - x.2.1 * V x.1) ++ xs.drop (lo + n)))
theorem Dn_of {p : List Int} (hp : W p) {z : Int} {n : Nat} (hl : p.length = n) {b : Int} (he : V p - P n * b = z) : Dn n z = p := by
  refine W_ext (Dn_W _ _) hp (by rw [Dn_length, hl]) ?_
  rw [V_Dn]
  have h1 := V_nonneg hp
  have h2 := V_lt hp
  rw [hl] at h2
  have : z = V p + P n * (-b) := by rw [Int.mul_neg]; omega
  rw [this, Int.add_mul_emod_self_left, Int.emod_eq_of_lt h1 h2]
theorem s86 : SigMOk Try.prog 86 ⟨.int .u32, 22, [.sl (.int .u32), .int .u64], [.bool], h86⟩ := ok86 fun xs lo n (x : List Int × Int × Unit) r h => by
  obtain ⟨⟨⟨hw, hv, hv2, hvl, hn, hlo, q0, q1⟩, hneg⟩, rfl⟩ := when_some h
  obtain ⟨v, q, u⟩ := x
  simp only at hv hv2 hvl hn q0 q1 hneg
  show g86 xs lo n (v, q, ()) = some ((decide (V ((xs.drop lo).take n) - q * V v < 0), ()), xs.take lo ++ (Dn n (V ((xs.drop lo).take n) - q * V v) ++ xs.drop (lo + n)))
  obtain ⟨k, hk⟩ : ∃ k, v.length = k + 2 := ⟨v.length - 2, by omega⟩
  have hxs := cut_split xs lo n
  have hA : (xs.take lo).length = lo := by rw [List.length_take]; omega
  have hp : ((xs.drop lo).take n).length = k + 3 := by rw [List.length_take, List.length_drop]; omega
  generalize xs.drop (lo + n) = C at *
  generalize (xs.drop lo).take n = p at *
  generalize xs.take lo = A at *
  subst hxs
  obtain ⟨hwA, hwp, hwC⟩ := hw.cut
  have hn3 : n = k + 3 := by omega
  clear hn
  subst hn3
  subst hA
  obtain ⟨p', b', hp', hl', b0, b1, he, hgo⟩ := L86 A C v hv k hk (by omega) p hwp q q0 q1 (k + 3) 0 (by omega) p 0 0 hwp hp (by omega) (by omega) (by omega) (by omega) (by omega) (by simp [V])
  rw [show (((0 : Nat) : Int)) = 0 from rfl] at hgo
  rw [g86_eq, hgo, Dn_of hp' hl' he]
  have h1 := V_nonneg hp'
  have h2 := V_lt hp'
  rw [hl'] at h2
  have : (b' == 1) = decide (V p - q * V v < 0) := by
    rw [← he] at hneg ⊢
    have hb : b' = 0 ∨ b' = 1 := by omega
    rcases hb with rfl | rfl
    · simp; omega
    · simp; omega
  rw [this]

theorem L87 (A C v : List Int) (hv : W v) (k : Nat) (hlv : v.length = k + 2) (hk : k < 4194304) (p0 : List Int) (hp0 : W p0) : ∀ m i : Nat, i + m = k + 3 → ∀ (p : List Int) (c : Int), W p → p.length = k + 3 → 0 ≤ c → c ≤ 1 → V p + P i * c = V p0 + V (v.take i) →
    ∃ p' c', W p' ∧ p'.length = k + 3 ∧ V p' - P (k + 3) * c' = V p0 + V v ∧ g87_L2 A.length (k + 3) v c (i : Int) (A ++ (p ++ C)) = some ((), A ++ (p' ++ C)) := by
  intro m
  induction m with
  | zero =>
    intro i hi p c hp hl c0 c1 he
    have : i = k + 3 := by omega
    subst this
    rw [List.take_of_length_le (by omega)] at he
    refine ⟨p, -c, hp, hl, by rw [Int.mul_neg]; omega, ?_⟩
    rw [g87_L2_eq, ifd_f (by omega)]
  | succ m ih =>
    intro i hi p c hp hl c0 c1 he
    have hpi := hp.getD i
    have hvi := hv.getD i
    rw [g87_L2_eq, ifd_t (by omega), ifdd_t (by omega) (by omega), e82 hv (by omega), Option.bind_some]
    dsimp only
    rw [ifdd_t (by omega) (by omega), Int.toNat_natCast, cut_getD (by omega), wu64 (x := p.getD i 0) (by omega) (by omega), wu64 (x := p.getD i 0 + v.getD i 0) (by omega) (by omega), wu64 (x := p.getD i 0 + v.getD i 0 + c) (by omega) (by omega), td (by omega), tm (by omega), wu64 (by omega) (by omega), wu32 (by omega) (by omega), wi64 (by omega) (by omega), cut_set (by omega)]
    refine ih (i + 1) (by omega) _ _ (hp.set (by omega) (by omega)) (by simp [hl]) (by omega) (by omega) ?_
    rw [V_set (by omega), V_take_succ, P_succ]
    have e : (p.getD i 0 + v.getD i 0 + c) % 4294967296 + 4294967296 * ((p.getD i 0 + v.getD i 0 + c) / 4294967296) = p.getD i 0 + v.getD i 0 + c := by omega
    clear ih
    grind
noncomputable def h87 : List Int → Nat → Nat → DL [.sl (.int .u32)] → Option (DL [] × List Int) := fun xs lo n (x : List Int × Unit) =>
  when (OkLess xs lo n x.1 0) ((), xs.take lo ++ (Dn n (V ((xs.drop lo).take n) + V x.1) ++ xs.drop (lo + n)))
theorem s87 : SigMOk Try.prog 87 ⟨.int .u32, 22, [.sl (.int .u32)], [], h87⟩ := ok87 fun xs lo n (x : List Int × Unit) r h => by
  obtain ⟨⟨hw, hv, hv2, hvl, hn, hlo, q0, q1⟩, rfl⟩ := when_some h
  obtain ⟨v, u⟩ := x
  simp only at hv hv2 hvl hn
  show g87 xs lo n (v, ()) = some ((), xs.take lo ++ (Dn n (V ((xs.drop lo).take n) + V v) ++ xs.drop (lo + n)))
  obtain ⟨k, hk⟩ : ∃ k, v.length = k + 2 := ⟨v.length - 2, by omega⟩
  have hxs := cut_split xs lo n
  have hA : (xs.take lo).length = lo := by rw [List.length_take]; omega
  have hp : ((xs.drop lo).take n).length = k + 3 := by rw [List.length_take, List.length_drop]; omega
  generalize xs.drop (lo + n) = C at *
  generalize (xs.drop lo).take n = p at *
  generalize xs.take lo = A at *
  subst hxs
  obtain ⟨hwA, hwp, hwC⟩ := hw.cut
  have hn3 : n = k + 3 := by omega
  clear hn
  subst hn3
  subst hA
  obtain ⟨p', c', hp', hl', he, hgo⟩ := L87 A C v hv k hk (by omega) p hwp (k + 3) 0 (by omega) p 0 hwp hp (by omega) (by omega) (by simp [V])
  rw [show (((0 : Nat) : Int)) = 0 from rfl] at hgo
  rw [g87_eq, hgo, Dn_of hp' hl' he]
theorem e86 {xs v : List Int} {lo n : Nat} {q : Int} (h : OkLess xs lo n v q) (h2 : - P n ≤ V ((xs.drop lo).take n) - q * V v) : h86 xs lo n (v, (q, ())) = some ((decide (V ((xs.drop lo).take n) - q * V v < 0), ()), xs.take lo ++ (Dn n (V ((xs.drop lo).take n) - q * V v) ++ xs.drop (lo + n))) := when_pos ⟨h, h2⟩
theorem e87 {xs v : List Int} {lo n : Nat} (h : OkLess xs lo n v 0) : h87 xs lo n (v, ()) = some ((), xs.take lo ++ (Dn n (V ((xs.drop lo).take n) + V v) ++ xs.drop (lo + n))) := when_pos h
end Go.Refl.S3
