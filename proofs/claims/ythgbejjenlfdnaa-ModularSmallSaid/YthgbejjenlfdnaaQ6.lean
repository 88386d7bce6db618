/-
  Quotient and remainder of rows of words: what the program's function computes.
-/
import Derived.Test.YthgbejjenlfdnaaP4
set_option linter.unusedVariables false
set_option linter.unusedSimpArgs false
set_option maxRecDepth 100000
namespace Go.Refl.S3
open Go Go.Refl Go.Proofs

theorem V_lt_cut {l : List Int} (h : W l) {m : Nat} (hl : V l < P m) : V (l.take m) = V l ∧ V (l.drop m) = 0 := by
  by_cases hm : m ≤ l.length
  · have h1 := V_take_drop l m
    rw [Nat.min_eq_left hm] at h1
    have h2 := V_nonneg (h.take m)
    have h3 := V_nonneg (h.drop m)
    have hp := P_pos m
    have : V (l.drop m) = 0 := by
      apply Classical.byContradiction
      intro hc
      have : P m * 1 ≤ P m * V (l.drop m) := Int.mul_le_mul_of_nonneg_left (by omega) (by omega)
      omega
    rw [this] at h1 ⊢
    omega
  · rw [List.take_of_length_le (by omega), List.drop_eq_nil_of_le (by omega)]
    exact ⟨rfl, rfl⟩
theorem P_lt_inv {m n : Nat} (h : P m < P n) : m < n := by
  apply Classical.byContradiction
  intro hc
  have := P_le (show n ≤ m by omega)
  omega
theorem D_length_ge {z : Int} {n : Nat} (h0 : 0 ≤ z) (h : P n ≤ z) : n < (D z).length := by
  have h1 := V_lt (D_W z)
  rw [V_D h0] at h1
  exact P_lt_inv (by omega)
theorem top_pos {l : List Int} (hw : W l) (hc : Cn l) (h : l ≠ []) : 0 < l.getD (l.length - 1) 0 := by
  have h1 := hw.getD (l.length - 1)
  have hl : 0 < l.length := List.length_pos_iff.2 h
  have : l.getD (l.length - 1) 0 ≠ 0 := by
    unfold Cn at hc
    rw [List.getD_eq_getElem?_getD, List.getElem?_eq_getElem (by omega)] at hc ⊢
    exact hc
  omega
/-- Bounds by the highest word. -/
theorem V_top {l : List Int} (hw : W l) {n : Nat} (hl : l.length = n + 1) : P n * l.getD n 0 ≤ V l ∧ V l < P n * (l.getD n 0 + 1) := by
  have e : V l = V (l.take n) + P n * l.getD n 0 := by
    conv => lhs; rw [← List.take_of_length_le (show l.length ≤ n + 1 by omega)]
    rw [V_take_succ]
  have h1 := V_nonneg (hw.take n)
  have h2 := V_lt (hw.take n)
  rw [List.length_take, Nat.min_eq_left (by omega)] at h2
  rw [Int.mul_add, Int.mul_one]
  omega

noncomputable def h75 : DL [.sl (.int .u32), .sl (.int .u32)] → Option (DL [.sl (.int .u32), .sl (.int .u32)]) := fun (x : List Int × List Int × Unit) => when (Nt x.1 ∧ Nt x.2.1 ∧ V x.2.1 ≠ 0) (D (V x.1 / V x.2.1), (D (V x.1 % V x.2.1), ()))

theorem e96 {xs v : List Int} {lo n : Nat} (h : OkCut xs lo n v) : h96 xs lo n (v, ()) = some ((V ((xs.drop lo).take n) / V v, ()), xs.take lo ++ (Dn n (V ((xs.drop lo).take n) % V v) ++ xs.drop (lo + n))) := when_pos h
theorem e97 {l : List Int} {s : Int} (h : Wl l) (h0 : 0 ≤ s) (h1 : s < 32) : h97 (l, (s, ())) = some (D (V l / p2 s), ()) := when_pos ⟨h, h0, h1⟩
theorem e95 {l : List Int} {s : Int} (h : Wl l) (h0 : 0 ≤ s) (h1 : s < 32) : h95 (l, (s, ())) = some (Dn (l.length + 1) (V l * p2 s)) := when_pos ⟨h, h0, h1⟩
theorem e94 {a : Int} (h : 0 ≤ a ∧ a < 4294967296) : h94 (a, ()) = some (32 - (bl a.toNat : Int), ()) := when_pos h

theorem L75 (v : List Int) (hv : W v) (s : Int) (s0 : 0 ≤ s) (s1 : s < 32) (hv2 : 2 ≤ v.length) (hvl : v.length < 4194304) (ht : 0 < v.getD (v.length - 1) 0) (U : Int) (N : Nat) (hN : v.length + N < 4194306) : ∀ j : Nat, j ≤ N → ∀ u q : List Int, W u → u.length = v.length + N → W q → q.length = N → V u + V v * P j * V (q.drop j) = U → V (u.drop j) < V v →
    g75_L10 s v (N : Int) ((N : Int) - j) u q = some (D (U / V v), (D (U % V v / p2 s), ())) := by
  have hvp : 0 < V v := by
    have h1 := (V_top hv (n := v.length - 1) (by omega)).1
    have h2 := Int.mul_pos (P_pos (v.length - 1)) ht
    omega
  intro j
  induction j with
  | zero =>
    intro hj u q hu hul hq hql he hlt
    simp only [List.drop_zero, P_zero, Int.mul_one] at he hlt
    have hun := V_nonneg hu
    obtain ⟨e1, e2⟩ := div_end (v := U) (d := V v) (q := V q) (r := V u) (by omega) hun hlt
    rw [g75_L10_eq, ifd_f (by omega), e88 hq (by omega), Option.bind_some, e88 hu (by omega), Option.bind_some]
    dsimp only
    have hvlt := V_lt hv
    rw [e97 (Wl_D (k := v.length) (by omega) (by omega)) s0 s1, Option.bind_some, V_D hun, e1, e2]
  | succ j ih =>
    intro hj u q hu hul hq hql he hlt
    have ek : IntKind.wrap .i64 (IntKind.wrap .i64 ((q.length : Int) - 1) - ((N : Int) - ((j + 1 : Nat) : Int))) = (j : Int) := by
      rw [wi64 (x := (q.length : Int) - 1) (by omega) (by omega), wi64 (by omega) (by omega)]
      omega
    have hdj := V_drop (l := u) (i := j) (by omega)
    have huj := hu.getD j
    have hvlt := V_lt hv
    have hlt2 : V (u.drop j) < V v * 4294967296 := by omega
    have hcut := V_lt_cut (hu.drop j) (m := v.length + 1) (by rw [P_succ]; omega)
    rw [List.drop_drop] at hcut
    have hok : OkCut u j (v.length + 1) v := ⟨hu, hv, hv2, hvl, rfl, by omega, ht, by rw [hcut.1]; exact hlt2⟩
    have hdn := V_nonneg (hu.drop j)
    have q0 : 0 ≤ V (u.drop j) / V v := Int.ediv_nonneg hdn (by omega)
    have q1 : V (u.drop j) / V v < 4294967296 := Int.ediv_lt_of_lt_mul hvp (by omega)
    have m0 := Int.emod_nonneg (V (u.drop j)) (show V v ≠ 0 by omega)
    have m1 := Int.emod_lt_of_pos (V (u.drop j)) hvp
    have me := Int.mul_ediv_add_emod (V (u.drop j)) (V v)
    have hdd : V (Dn (v.length + 1) (V (u.drop j) % V v)) = V (u.drop j) % V v := by
      rw [V_Dn, Int.emod_eq_of_lt m0 (by rw [P_succ]; omega)]
    rw [g75_L10_eq, ek, ifd_t (by omega), wi64 (x := (j : Int) + (v.length : Int)) (by omega) (by omega), wi64 (x := (j : Int) + (v.length : Int) + 1) (by omega) (by omega), ifdd_t (by omega) (by omega), ifdd_t (by omega) (by omega)]
    rw [Int.toNat_natCast, show Int.toNat ((j : Int) + (v.length : Int) + 1) - j = v.length + 1 by omega, e96 hok, Option.bind_some, ifdd_t (by omega) (by omega), wi64 (by omega) (by omega), hcut.1]
    dsimp only
    rw [show (N : Int) - ((j + 1 : Nat) : Int) + 1 = (N : Int) - (j : Int) by omega]
    have hwn : W (u.take j ++ (Dn (v.length + 1) (V (u.drop j) % V v) ++ u.drop (j + (v.length + 1)))) := (hu.take j).append ((Dn_W _ _).append (hu.drop _))
    have hvr : V (Dn (v.length + 1) (V (u.drop j) % V v) ++ u.drop (j + (v.length + 1))) = V (u.drop j) % V v := by
      rw [V_append, hcut.2, hdd]
      omega
    refine ih (by omega) _ _ hwn (by simp [Dn_length]; omega) (hq.set q0 q1) (by simp [hql]) ?_ ?_
    · have e1 := V_take_drop u j
      rw [V_append, hvr, drop_set_self (by omega), List.length_take, Nat.min_eq_left (by omega)]
      rw [Nat.min_eq_left (by omega)] at e1
      rw [P_succ] at he
      generalize V (u.drop j) / V v = Q at *
      generalize V (u.drop j) % V v = R at *
      generalize V (u.drop j) = X at *
      generalize V (u.take j) = Y at *
      generalize V (q.drop (j + 1)) = Z at *
      generalize P j = pj at *
      generalize V v = vv at *
      generalize V u = uu at *
      clear ih hwn hvr hdd hok hcut hq hu
      grind
    · rw [List.drop_append, List.drop_eq_nil_of_le (by simp; omega), List.nil_append, List.length_take, show j - min j u.length = 0 by omega, List.drop_zero, hvr]
      exact m1

theorem s75 : SigOk Try.prog 75 ⟨[.sl (.int .u32), .sl (.int .u32)], [.sl (.int .u32), .sl (.int .u32)], h75⟩ := ok75 fun (x : List Int × List Int × Unit) r h => by
  obtain ⟨⟨⟨wa, ca, la⟩, ⟨wb, cb, lb⟩, hb0⟩, rfl⟩ := when_some h
  obtain ⟨a, b, u⟩ := x
  simp only at wa ca la wb cb lb hb0
  show g75 (a, b, ()) = some (D (V a / V b), (D (V a % V b), ()))
  have hbn : b ≠ [] := fun h => hb0 (by rw [h]; rfl)
  have hbl : 0 < b.length := List.length_pos_iff.2 hbn
  have ha0 := V_nonneg wa
  have hbp := V_nonneg wb
  have htop := top_pos wb cb hbn
  rw [g75_eq, e71 ⟨wa, ca, la⟩ ⟨wb, cb, lb⟩, Option.bind_some]
  dsimp only
  by_cases hc : cmpI (V a) (V b) < 0
  · have hlt := cmpI_neg.1 hc
    rw [ifd_t hc, Int.ediv_eq_zero_of_lt ha0 hlt, Int.emod_eq_of_lt ha0 hlt, D_V wa ca, D_zero]
  · have hle : V b ≤ V a := by
      apply Classical.byContradiction
      intro h
      exact hc (cmpI_neg.2 (by omega))
    rw [ifd_f hc]
    by_cases h1 : b.length = 1
    · obtain ⟨d, rfl⟩ : ∃ d, b = [d] := by
        match b, h1 with
        | [d], _ => exact ⟨d, rfl⟩
      have hd := wb.getD 0
      have hv : V [d] = d := by simp [V]
      have hd0 : d ≠ 0 := by rw [hv] at hb0; exact hb0
      simp only [List.getD_cons_zero] at hd
      have hm0 := Int.emod_nonneg (V a) hd0
      have hm1 := Int.emod_lt_of_pos (V a) (show 0 < d by omega)
      rw [ife_t (by simp), ifdd_t (by omega) (by simp)]
      simp only [show Int.toNat 0 = 0 from rfl, List.getD_cons_zero]
      rw [e93 ⟨wa, la⟩ (by omega) (by omega), Option.bind_some]
      dsimp only
      rw [e88 (by exact W.cons hm0 (by omega) W.nil) (by simp), Option.bind_some, hv]
      simp [V]
    · obtain ⟨n, hn⟩ : ∃ n, b.length = n + 2 := ⟨b.length - 2, by omega⟩
      have htw := wb.getD (n + 1)
      rw [hn, show n + 2 - 1 = n + 1 by omega] at htop
      have hbl1 : 1 ≤ bl (b.getD (n + 1) 0).toNat := by
        unfold bl
        rw [if_neg (by omega)]
        omega
      have hbl2 : bl (b.getD (n + 1) 0).toNat ≤ 32 := bl_small 32 (by omega)
      have hs0 : 0 ≤ 32 - (bl (b.getD (n + 1) 0).toNat : Int) := by omega
      have hs1 : 32 - (bl (b.getD (n + 1) 0).toNat : Int) < 32 := by omega
      have hS := p2_pos (32 - (bl (b.getD (n + 1) 0).toNat : Int))
      -- the highest word, shifted, stays a word
      have hfit : (b.getD (n + 1) 0 + 1) * p2 (32 - (bl (b.getD (n + 1) 0).toNat : Int)) ≤ 4294967296 := by
        have h2 := bl_lt (b.getD (n + 1) 0).toNat
        have h3 : b.getD (n + 1) 0 + 1 ≤ p2 (bl (b.getD (n + 1) 0).toNat : Int) := by
          unfold p2
          rw [Int.toNat_natCast]
          have e : (2 : Int) ^ bl (b.getD (n + 1) 0).toNat = ((2 ^ bl (b.getD (n + 1) 0).toNat : Nat) : Int) := by simp
          rw [e]
          omega
        have h4 : p2 (bl (b.getD (n + 1) 0).toNat : Int) * p2 (32 - (bl (b.getD (n + 1) 0).toNat : Int)) = 4294967296 := by
          unfold p2
          rw [← Int.pow_add, show (bl (b.getD (n + 1) 0).toNat : Int).toNat + (32 - (bl (b.getD (n + 1) 0).toNat : Int)).toNat = 32 by omega]
          rfl
        have h5 := Int.mul_le_mul_of_nonneg_right h3 (show 0 ≤ p2 (32 - (bl (b.getD (n + 1) 0).toNat : Int)) by omega)
        omega
      rw [ife_f (by omega), wi64 (x := (b.length : Int) - 1) (by omega) (by omega), ifdd_t (by omega) (by omega), show Int.toNat ((b.length : Int) - 1) = n + 1 by omega, e94 htw, Option.bind_some]
      dsimp only
      generalize 32 - (bl (b.getD (n + 1) 0).toNat : Int) = s at *
      rw [e95 ⟨wa, la⟩ hs0 hs1, Option.bind_some, e95 ⟨wb, lb⟩ hs0 hs1, Option.bind_some, e88 (Dn_W _ _) (by rw [Dn_length]; omega), Option.bind_some]
      dsimp only
      have htb := V_top wb (n := n + 1) (by omega)
      have hVa := V_lt wa
      have hPn := P_pos (n + 1)
      -- values
      have hUb0 : 0 ≤ V b * p2 s := Int.mul_nonneg hbp (by omega)
      have hUa0 : 0 ≤ V a * p2 s := Int.mul_nonneg ha0 (by omega)
      have hUb : V b * p2 s < P (n + 2) := by
        have h6 : V b * p2 s < P (n + 1) * (b.getD (n + 1) 0 + 1) * p2 s := Int.mul_lt_mul_of_pos_right htb.2 hS
        have h7 : P (n + 1) * ((b.getD (n + 1) 0 + 1) * p2 s) ≤ P (n + 1) * 4294967296 := Int.mul_le_mul_of_nonneg_left hfit (by omega)
        rw [Int.mul_assoc] at h6
        rw [P_succ]
        omega
      have hUb1 : P (n + 1) * p2 s ≤ V b * p2 s := by
        refine Int.mul_le_mul_of_nonneg_right ?_ (by omega)
        have : P (n + 1) * 1 ≤ P (n + 1) * b.getD (n + 1) 0 := Int.mul_le_mul_of_nonneg_left (by omega) (by omega)
        omega
      have hS1 : P (n + 1) ≤ P (n + 1) * p2 s := by
        have : P (n + 1) * 1 ≤ P (n + 1) * p2 s := Int.mul_le_mul_of_nonneg_left (by omega) (by omega)
        omega
      have hVDb : V (Dn (b.length + 1) (V b * p2 s)) = V b * p2 s := by
        rw [V_Dn, Int.emod_eq_of_lt hUb0]
        have := P_le (show n + 2 ≤ b.length + 1 by omega)
        omega
      have hVDa : V (Dn (a.length + 1) (V a * p2 s)) = V a * p2 s := by
        rw [V_Dn, Int.emod_eq_of_lt hUa0]
        have h8 : V a * p2 s < P a.length * p2 s := Int.mul_lt_mul_of_pos_right hVa hS
        have h9 : P a.length * p2 s ≤ P a.length * 4294967296 := Int.mul_le_mul_of_nonneg_left (by have := p2_le hs0 hs1; omega) (by have := P_pos a.length; omega)
        rw [P_succ]
        omega
      rw [hVDb]
      have hvW := D_W (V b * p2 s)
      have hvV := V_D hUb0
      have hvL1 := D_length hUb
      have hvL2 := D_length_ge hUb0 (show P (n + 1) ≤ V b * p2 s by omega)
      have hvC := D_Cn (V b * p2 s)
      have hvne : D (V b * p2 s) ≠ [] := by
        intro h
        rw [h] at hvL2
        simp at hvL2
      have hvt := top_pos hvW hvC hvne
      have hal : n + 2 ≤ a.length := by
        apply Classical.byContradiction
        intro h
        have := V_len_lt wa wb cb (by omega)
        omega
      generalize hv : D (V b * p2 s) = v at *
      have hvl : v.length = n + 2 := by omega
      have huW := Dn_W (a.length + 1) (V a * p2 s)
      have huL := Dn_length (a.length + 1) (V a * p2 s)
      generalize hu : Dn (a.length + 1) (V a * p2 s) = uu at *
      rw [huL, hvl, wi64 (by omega) (by omega), ifddd_t (by omega) (by omega) (by omega), List.length_replicate]
      rw [show Int.toNat (((a.length + 1 : Nat) : Int) - ((n + 2 : Nat) : Int)) = a.length + 1 - (n + 2) by omega]
      generalize hN : a.length + 1 - (n + 2) = N
      have := L75 v hvW s hs0 hs1 (by omega) (by omega) hvt (V a * p2 s) N (by omega) N (Nat.le_refl _) uu (List.replicate N 0) huW (by omega) (W.replicate _) (by simp) (by
        rw [List.drop_eq_nil_of_le (by simp), hVDa]
        simp [V]) (by
        have h1 := V_take_drop uu N
        rw [Nat.min_eq_left (by omega), hVDa] at h1
        have h2 := V_nonneg (huW.take N)
        have h3 : V a * p2 s < P a.length * p2 s := Int.mul_lt_mul_of_pos_right hVa hS
        have h4 : P a.length = P N * P (n + 1) := by rw [← P_add]; congr 1; omega
        rw [h4, Int.mul_assoc] at h3
        have h5 : P N * (P (n + 1) * p2 s) ≤ P N * (V b * p2 s) := Int.mul_le_mul_of_nonneg_left hUb1 (by have := P_pos N; omega)
        have h6 : P N * V (uu.drop N) < P N * (V b * p2 s) := by omega
        rw [hvV]
        exact Int.lt_of_mul_lt_mul_left h6 (by have := P_pos N; omega))
      rw [show (N : Int) - (N : Int) = 0 by omega] at this
      rw [this, hvV, Int.mul_ediv_mul_of_pos_left _ _ hS, Int.mul_comm (V a), Int.mul_comm (V b), Int.mul_emod_mul_of_pos _ _ hS, Int.mul_ediv_cancel_left _ (by omega)]
end Go.Refl.S3
