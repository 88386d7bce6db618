/-
  Quotients and remainders in the reference; whole numbers divided; greatest common divisors.
-/
import Derived.Test.YthgbejjenlfdnaaP5
set_option linter.unusedVariables false
set_option linter.unusedSimpArgs false
set_option maxRecDepth 100000
namespace Go.Refl.S3
open Go Go.Refl Go.Proofs

/-! ### The reference's long division -/
noncomputable def h66 : DL [.sl (.int .u32), .sl (.int .u32)] → Option (DL [.sl (.int .u32), .sl (.int .u32)]) := h75

theorem made_great {b d : Int} (b1 : 1 ≤ b) (b2 : b < 4294967296) (hd : d = 4294967296 / (b + 1)) : 2147483648 ≤ b * d ∧ 1 ≤ d ∧ d ≤ 2147483648 ∧ (b + 1) * d ≤ 4294967296 := by
  have h1 := Int.mul_ediv_add_emod 4294967296 (b + 1)
  have h2 := Int.emod_nonneg 4294967296 (show b + 1 ≠ 0 by omega)
  have h3 := Int.emod_lt_of_pos 4294967296 (show 0 < b + 1 by omega)
  rw [← hd] at h1
  have hd1 : 1 ≤ d := by rw [hd]; exact (Int.le_ediv_iff_mul_le (by omega)).2 (by omega)
  have hd2 : d ≤ 2147483648 := by
    have : d < 2147483649 := by rw [hd]; exact Int.ediv_lt_of_lt_mul (by omega) (by omega)
    omega
  have h5 : (b + 1) * d ≤ 4294967296 := by omega
  refine ⟨?_, hd1, hd2, h5⟩
  apply Classical.byContradiction
  intro hc
  by_cases hb : 2147483648 ≤ b
  · have : b * 1 ≤ b * d := Int.mul_le_mul_of_nonneg_left hd1 (by omega)
    omega
  · have h6 : 4294967296 - b ≤ (b + 1) * d := by omega
    have h7 : b * (4294967296 - b) ≤ b * ((b + 1) * d) := Int.mul_le_mul_of_nonneg_left h6 (by omega)
    have h8 : (b + 1) * (b * d) ≤ (b + 1) * 2147483647 := Int.mul_le_mul_of_nonneg_left (by omega) (by omega)
    have h9 : b * ((b + 1) * d) = (b + 1) * (b * d) := by grind
    have h10 : 0 ≤ (b - 1) * (2147483648 - b) := Int.mul_nonneg (by omega) (by omega)
    have h11 : (b - 1) * (2147483648 - b) = b * (4294967296 - b) - (b + 1) * 2147483647 - 1 := by grind
    omega

theorem e85' {p v : List Int} (h : OkPart p v) : ∃ d : Int, h85 (p, (v, ())) = some (d, ()) ∧ (d = V p / V v ∨ d = V p / V v + 1) := by
  obtain ⟨d, h1, h2, h3, h4⟩ := e85 h
  refine ⟨d, h1, ?_⟩
  generalize V p / V v = Q at *
  omega

theorem L66 (v : List Int) (hv : W v) (d : Int) (d0 : 0 < d) (d1 : d < 4294967296) (hv2 : 2 ≤ v.length) (hvl : v.length < 4194304) (ht : 2147483648 ≤ v.getD (v.length - 1) 0) (U : Int) (N : Nat) (hN : v.length + N < 4194306) : ∀ j : Nat, j ≤ N → ∀ u q : List Int, W u → u.length = v.length + N → W q → q.length = N → V u + V v * P j * V (q.drop j) = U → V (u.drop j) < V v →
    g66_L13 (v.length : Int) d v ((j : Int) - 1) u q = some (D (U / V v), (D (U % V v / d), ())) := by
  have hvp : 0 < V v := by
    have h1 := (V_top hv (n := v.length - 1) (by omega)).1
    have h2 := Int.mul_pos (P_pos (v.length - 1)) (show 0 < v.getD (v.length - 1) 0 by omega)
    omega
  intro j
  induction j with
  | zero =>
    intro hj u q hu hul hq hql he hlt
    simp only [List.drop_zero, P_zero, Int.mul_one] at he hlt
    have hun := V_nonneg hu
    obtain ⟨e1, e2⟩ := div_end (v := U) (d := V v) (q := V q) (r := V u) (by omega) hun hlt
    have hvlt := V_lt hv
    rw [g66_L13_eq, ifd_f (by omega), e74 hu (by omega), Option.bind_some]
    dsimp only
    rw [e84 (Wl_D (k := v.length) (by omega) (by omega)) d0 d1, Option.bind_some, e74 hq (by omega), Option.bind_some, V_D hun, e1, e2]
  | succ j ih =>
    intro hj u q hu hul hq hql he hlt
    have hdj := V_drop (l := u) (i := j) (by omega)
    have huj := hu.getD j
    have hvlt := V_lt hv
    have hlt2 : V (u.drop j) < V v * 4294967296 := by omega
    have hcut := V_lt_cut (hu.drop j) (m := v.length + 1) (by rw [P_succ]; omega)
    rw [List.drop_drop] at hcut
    have hpl : ((u.drop j).take (v.length + 1)).length = v.length + 1 := by rw [List.length_take, List.length_drop]; omega
    have hok : OkPart ((u.drop j).take (v.length + 1)) v := ⟨(hu.drop j).take _, hv, hv2, hvl, hpl, ht, by rw [hcut.1]; exact hlt2⟩
    have hdn := V_nonneg (hu.drop j)
    have q0 : 0 ≤ V (u.drop j) / V v := Int.ediv_nonneg hdn (by omega)
    have q1 : V (u.drop j) / V v < 4294967296 := Int.ediv_lt_of_lt_mul hvp (by omega)
    have m0 := Int.emod_nonneg (V (u.drop j)) (show V v ≠ 0 by omega)
    have m1 := Int.emod_lt_of_pos (V (u.drop j)) hvp
    have me := Int.mul_ediv_add_emod (V (u.drop j)) (V v)
    have hdd : V (Dn (v.length + 1) (V (u.drop j) % V v)) = V (u.drop j) % V v := by
      rw [V_Dn, Int.emod_eq_of_lt m0 (by rw [P_succ]; omega)]
    obtain ⟨dg, hdg, hor⟩ := e85' hok
    rw [hcut.1] at hor
    rw [show ((j + 1 : Nat) : Int) - 1 = (j : Int) by omega, g66_L13_eq, ifd_t (by omega), wi64 (x := (j : Int) + (v.length : Int)) (by omega) (by omega), wi64 (x := (j : Int) + (v.length : Int) + 1) (by omega) (by omega), ifdd_t (by omega) (by omega), ifdd_t (by omega) (by omega)]
    rw [Int.toNat_natCast, show Int.toNat ((j : Int) + (v.length : Int) + 1) - j = v.length + 1 by omega, hdg, Option.bind_some, wi64 (x := (j : Int) - 1) (by omega) (by omega)]
    dsimp only
    have hA : (u.take j).length = j := by rw [List.length_take]; omega
    -- the row behind it
    have hfin : g66_L13 (v.length : Int) d v ((j : Int) - 1) (u.take j ++ (Dn (v.length + 1) (V (u.drop j) % V v) ++ u.drop (j + (v.length + 1)))) (q.set j (V (u.drop j) / V v)) = some (D (U / V v), (D (U % V v / d), ())) := by
      have hwn : W (u.take j ++ (Dn (v.length + 1) (V (u.drop j) % V v) ++ u.drop (j + (v.length + 1)))) := (hu.take j).append ((Dn_W _ _).append (hu.drop _))
      have hvr : V (Dn (v.length + 1) (V (u.drop j) % V v) ++ u.drop (j + (v.length + 1))) = V (u.drop j) % V v := by
        rw [V_append, hcut.2, hdd]
        omega
      refine ih (by omega) _ _ hwn (by simp [Dn_length]; omega) (hq.set q0 q1) (by simp [hql]) ?_ ?_
      · have e1 := V_take_drop u j
        rw [V_append, hvr, drop_set_self (by omega), List.length_take, Nat.min_eq_left (by omega)]
        rw [Nat.min_eq_left (by omega)] at e1
        rw [P_succ] at he
        generalize V (u.drop j) / V v = Q at *
        generalize V (u.drop j) % V v = R at *
        generalize V (u.drop j) = X at *
        generalize V (u.take j) = Y at *
        generalize V (q.drop (j + 1)) = Z at *
        generalize P j = pj at *
        generalize V v = vv at *
        generalize V u = uu at *
        clear ih hwn hvr hdd hok hcut hq hu hdg hpl hA
        grind
      · rw [List.drop_append, List.drop_eq_nil_of_le (by simp; omega), List.nil_append, List.length_take, show j - min j u.length = 0 by omega, List.drop_zero, hvr]
        exact m1
    rcases hor with rfl | rfl
    · have hle : V (u.drop j) - V (u.drop j) / V v * V v = V (u.drop j) % V v := by
        rw [Int.mul_comm] at me
        omega
      have hpp := P_pos (v.length + 1)
      rw [e86 ⟨hu, hv, hv2, hvl, rfl, by omega, q0, by omega⟩ (by rw [hcut.1, hle]; omega), Option.bind_some, hcut.1, hle]
      dsimp only
      rw [ifd_f (by omega), ifdd_t (by omega) (by omega), wu32 q0 q1]
      exact hfin
    · have hle : V (u.drop j) - (V (u.drop j) / V v + 1) * V v = V (u.drop j) % V v - V v := by
        rw [Int.add_mul, Int.one_mul]
        rw [Int.mul_comm] at me
        omega
      have hpp := P_succ v.length
      rw [e86 ⟨hu, hv, hv2, hvl, rfl, by omega, by omega, by omega⟩ (by rw [hcut.1, hle]; omega), Option.bind_some, hcut.1, hle]
      dsimp only
      have hdw := Dn_W (v.length + 1) (V (u.drop j) % V v - V v)
      have hdl := Dn_length (v.length + 1) (V (u.drop j) % V v - V v)
      have hdv : V (Dn (v.length + 1) (V (u.drop j) % V v - V v)) = V (u.drop j) % V v - V v + P (v.length + 1) := by
        rw [V_Dn, ← Int.add_mul_emod_self_left (V (u.drop j) % V v - V v) (P (v.length + 1)) 1, Int.mul_one, Int.emod_eq_of_lt (by omega) (by omega)]
      have hdrop : (u.take j ++ (Dn (v.length + 1) (V (u.drop j) % V v - V v) ++ u.drop (j + (v.length + 1)))).drop j = Dn (v.length + 1) (V (u.drop j) % V v - V v) ++ u.drop (j + (v.length + 1)) := by
        rw [List.drop_append, List.drop_eq_nil_of_le (by omega), List.nil_append, hA, Nat.sub_self, List.drop_zero]
      have htake : (u.take j ++ (Dn (v.length + 1) (V (u.drop j) % V v - V v) ++ u.drop (j + (v.length + 1)))).take j = u.take j := by
        rw [List.take_append, hA, Nat.sub_self, List.take_zero, List.append_nil, List.take_of_length_le (by omega)]
      have hpart : ((u.take j ++ (Dn (v.length + 1) (V (u.drop j) % V v - V v) ++ u.drop (j + (v.length + 1)))).drop j).take (v.length + 1) = Dn (v.length + 1) (V (u.drop j) % V v - V v) := by
        rw [hdrop, List.take_append, hdl, Nat.sub_self, List.take_zero, List.append_nil, List.take_of_length_le (by omega)]
      have hrest : (u.take j ++ (Dn (v.length + 1) (V (u.drop j) % V v - V v) ++ u.drop (j + (v.length + 1)))).drop (j + (v.length + 1)) = u.drop (j + (v.length + 1)) := by
        rw [← List.drop_drop, hdrop, List.drop_append, List.drop_eq_nil_of_le (by omega), List.nil_append, hdl, Nat.sub_self, List.drop_zero]
      have hww : W (u.take j ++ (Dn (v.length + 1) (V (u.drop j) % V v - V v) ++ u.drop (j + (v.length + 1)))) := (hu.take j).append (hdw.append (hu.drop _))
      rw [ifd_t (by omega), e87 ⟨hww, hv, hv2, hvl, rfl, by simp [hdl]; omega, by omega, by omega⟩, Option.bind_some, ifdd_t (by omega) (by omega), wu64 (by omega) (by omega), wu32 (by omega) (by omega), htake, hpart, hrest, hdv]
      dsimp only
      have hback : Dn (v.length + 1) (V (u.drop j) % V v - V v + P (v.length + 1) + V v) = Dn (v.length + 1) (V (u.drop j) % V v) := by
        refine W_ext (Dn_W _ _) (Dn_W _ _) (by rw [Dn_length, Dn_length]) ?_
        rw [V_Dn, V_Dn, show V (u.drop j) % V v - V v + P (v.length + 1) + V v = V (u.drop j) % V v + P (v.length + 1) * 1 by omega, Int.add_mul_emod_self_left]
      rw [hback, show V (u.drop j) / V v + 1 - 1 = V (u.drop j) / V v by omega]
      exact hfin

theorem s66 : SigOk Try.prog 66 ⟨[.sl (.int .u32), .sl (.int .u32)], [.sl (.int .u32), .sl (.int .u32)], h66⟩ := ok66 fun (x : List Int × List Int × Unit) r h => by
  obtain ⟨⟨⟨wa, ca, la⟩, ⟨wb, cb, lb⟩, hb0⟩, rfl⟩ := when_some h
  obtain ⟨a, b, u⟩ := x
  simp only at wa ca la wb cb lb hb0
  show g66 (a, b, ()) = some (D (V a / V b), (D (V a % V b), ()))
  have hbn : b ≠ [] := fun h => hb0 (by rw [h]; rfl)
  have hbl : 0 < b.length := List.length_pos_iff.2 hbn
  have ha0 := V_nonneg wa
  have hbp := V_nonneg wb
  have htop := top_pos wb cb hbn
  rw [g66_eq, e50 ⟨wa, ca, la⟩ ⟨wb, cb, lb⟩, Option.bind_some]
  dsimp only
  by_cases hc : cmpI (V a) (V b) < 0
  · have hlt := cmpI_neg.1 hc
    rw [ifd_t hc, Int.ediv_eq_zero_of_lt ha0 hlt, Int.emod_eq_of_lt ha0 hlt, D_V wa ca, D_zero]
  · have hle : V b ≤ V a := by
      apply Classical.byContradiction
      intro h
      exact hc (cmpI_neg.2 (by omega))
    rw [ifd_f hc]
    by_cases h1 : b.length = 1
    · obtain ⟨d, rfl⟩ : ∃ d, b = [d] := by
        match b, h1 with
        | [d], _ => exact ⟨d, rfl⟩
      have hd := wb.getD 0
      have hv : V [d] = d := by simp [V]
      have hd0 : d ≠ 0 := by rw [hv] at hb0; exact hb0
      simp only [List.getD_cons_zero] at hd
      have hm0 := Int.emod_nonneg (V a) hd0
      have hm1 := Int.emod_lt_of_pos (V a) (show 0 < d by omega)
      rw [ife_t (by simp), ifdd_t (by omega) (by simp)]
      simp only [show Int.toNat 0 = 0 from rfl, List.getD_cons_zero]
      rw [wu64 (x := d) (by omega) (by omega), e84 ⟨wa, la⟩ (by omega) (by omega), Option.bind_some]
      dsimp only
      rw [e48 ⟨hm0, by omega⟩, Option.bind_some, hv]
    · obtain ⟨n, hn⟩ : ∃ n, b.length = n + 2 := ⟨b.length - 2, by omega⟩
      have htw := wb.getD (n + 1)
      rw [hn, show n + 2 - 1 = n + 1 by omega] at htop
      rw [ife_f (by omega), wi64 (x := (b.length : Int) - 1) (by omega) (by omega), ifdd_t (by omega) (by omega), show Int.toNat ((b.length : Int) - 1) = n + 1 by omega, wu64 (x := b.getD (n + 1) 0) (by omega) (by omega), wu64 (x := b.getD (n + 1) 0 + 1) (by omega) (by omega), ife_f (by omega), td (by omega)]
      obtain ⟨g1, g2, g3, g4⟩ := made_great (b := b.getD (n + 1) 0) (by omega) (by omega) rfl
      generalize hd : 4294967296 / (b.getD (n + 1) 0 + 1) = d at *
      rw [wu64 (x := d) (by omega) (by omega), e48 (by omega), Option.bind_some]
      have hdW : Wl (D d) := Wl_D64 (by omega)
      have hdV : V (D d) = d := V_D (by omega)
      dsimp only
      rw [e49 ⟨wb, lb⟩ hdW, Option.bind_some, wi64 (x := (a.length : Int) + 1) (by omega) (by omega), ifddd_t (by omega) (by omega) (by omega), Option.bind_some]
      dsimp only
      rw [e49 ⟨wa, la⟩ hdW, Option.bind_some, hdV]
      have htb := V_top wb (n := n + 1) (by omega)
      have hVa := V_lt wa
      have hPn := P_pos (n + 1)
      have hUb0 : 0 ≤ V b * d := Int.mul_nonneg hbp (by omega)
      have hUa0 : 0 ≤ V a * d := Int.mul_nonneg ha0 (by omega)
      have hUb : V b * d < P (n + 2) := by
        have h6 : V b * d < P (n + 1) * (b.getD (n + 1) 0 + 1) * d := Int.mul_lt_mul_of_pos_right htb.2 (by omega)
        have h7 : P (n + 1) * ((b.getD (n + 1) 0 + 1) * d) ≤ P (n + 1) * 4294967296 := Int.mul_le_mul_of_nonneg_left g4 (by omega)
        rw [Int.mul_assoc] at h6
        rw [P_succ]
        omega
      have hUb1 : P (n + 1) * (b.getD (n + 1) 0 * d) ≤ V b * d := by
        rw [← Int.mul_assoc]
        exact Int.mul_le_mul_of_nonneg_right htb.1 (by omega)
      have hUb2 : P (n + 1) * d ≤ V b * d := by
        refine Int.mul_le_mul_of_nonneg_right ?_ (by omega)
        have : P (n + 1) * 1 ≤ P (n + 1) * b.getD (n + 1) 0 := Int.mul_le_mul_of_nonneg_left (by omega) (by omega)
        omega
      have hS1 : P (n + 1) ≤ P (n + 1) * d := by
        have : P (n + 1) * 1 ≤ P (n + 1) * d := Int.mul_le_mul_of_nonneg_left (by omega) (by omega)
        omega
      have hUa1 : V a * d < P (a.length + 1) := by
        have h8 : V a * d < P a.length * d := Int.mul_lt_mul_of_pos_right hVa (by omega)
        have h9 : P a.length * d ≤ P a.length * 4294967296 := Int.mul_le_mul_of_nonneg_left (by omega) (by have := P_pos a.length; omega)
        rw [P_succ]
        omega
      have hvW := D_W (V b * d)
      have hvV := V_D hUb0
      have hvL1 := D_length hUb
      have hvL2 := D_length_ge hUb0 (show P (n + 1) ≤ V b * d by omega)
      have hal : n + 2 ≤ a.length := by
        apply Classical.byContradiction
        intro h
        have := V_len_lt wa wb cb (by omega)
        omega
      generalize hv : D (V b * d) = v at *
      have hvl : v.length = n + 2 := by omega
      have hvt : 2147483648 ≤ v.getD (v.length - 1) 0 := by
        rw [hvl, show n + 2 - 1 = n + 1 by omega]
        have h1 := (V_top hvW (n := n + 1) hvl).2
        have h2 : P (n + 1) * (b.getD (n + 1) 0 * d) < P (n + 1) * (v.getD (n + 1) 0 + 1) := by omega
        have := Int.lt_of_mul_lt_mul_left h2 (by omega)
        omega
      -- the row
      have huL0 := D_length hUa1
      have huE : List.take (List.replicate (Int.toNat ((a.length : Int) + 1)) (0 : Int)).length (D (V a * d)) ++ List.drop (D (V a * d)).length (List.replicate (Int.toNat ((a.length : Int) + 1)) (0 : Int)) = D (V a * d) ++ List.replicate (a.length + 1 - (D (V a * d)).length) 0 := by
        rw [List.length_replicate, show Int.toNat ((a.length : Int) + 1) = a.length + 1 by omega, List.take_of_length_le huL0, List.drop_replicate]
      rw [huE, wi64 (x := (a.length : Int) - (b.length : Int)) (by omega) (by omega), wi64 (x := (a.length : Int) - (b.length : Int) + 1) (by omega) (by omega), ifddd_t (by omega) (by omega) (by omega)]
      have huW : W (D (V a * d) ++ List.replicate (a.length + 1 - (D (V a * d)).length) 0) := (D_W _).append (W.replicate _)
      have huL : (D (V a * d) ++ List.replicate (a.length + 1 - (D (V a * d)).length) (0 : Int)).length = a.length + 1 := by simp; omega
      have huV : V (D (V a * d) ++ List.replicate (a.length + 1 - (D (V a * d)).length) 0) = V a * d := by
        rw [V_append, V_replicate, V_D hUa0]
        omega
      generalize D (V a * d) ++ List.replicate (a.length + 1 - (D (V a * d)).length) (0 : Int) = uu at *
      rw [show Int.toNat ((a.length : Int) - (b.length : Int) + 1) = a.length + 1 - (n + 2) by omega]
      generalize hN : a.length + 1 - (n + 2) = N
      have := L66 v hvW d (by omega) (by omega) (by omega) (by omega) hvt (V a * d) N (by omega) N (Nat.le_refl _) uu (List.replicate N 0) huW (by omega) (W.replicate _) (by simp) (by
        rw [List.drop_eq_nil_of_le (by simp), huV]
        simp [V]) (by
        have h1 := V_take_drop uu N
        rw [Nat.min_eq_left (by omega), huV] at h1
        have h2 := V_nonneg (huW.take N)
        have h3 : V a * d < P a.length * d := Int.mul_lt_mul_of_pos_right hVa (by omega)
        have h4 : P a.length = P N * P (n + 1) := by rw [← P_add]; congr 1; omega
        rw [h4, Int.mul_assoc] at h3
        have h5 : P N * (P (n + 1) * d) ≤ P N * (V b * d) := Int.mul_le_mul_of_nonneg_left hUb2 (by have := P_pos N; omega)
        have h6 : P N * V (uu.drop N) < P N * (V b * d) := by omega
        rw [hvV]
        exact Int.lt_of_mul_lt_mul_left h6 (by have := P_pos N; omega))
      rw [show (a.length : Int) - (b.length : Int) = (N : Int) - 1 by omega, show (b.length : Int) = (v.length : Int) by omega]
      have hd0 : 0 < d := by omega
      rw [this, hvV, Int.mul_ediv_mul_of_pos_left _ _ hd0, Int.mul_comm (V a), Int.mul_comm (V b), Int.mul_emod_mul_of_pos _ _ hd0, Int.mul_ediv_cancel_left _ (by omega)]

/-! ### Whole numbers divided -/
theorem div_uniq {a b q r : Int} (hb : b ≠ 0) (h : a = b * q + r) (r0 : 0 ≤ r) (r1 : r < (b.natAbs : Int)) : a / b = q ∧ a % b = r := by
  by_cases hp : 0 < b
  · exact div_end h r0 (by omega)
  · obtain ⟨h1, h2⟩ := div_end (v := a) (d := -b) (q := -q) (r := r) (by rw [h, Int.neg_mul_neg]) r0 (by omega)
    rw [Int.ediv_neg] at h1
    rw [Int.emod_neg] at h2
    exact ⟨by omega, h2⟩
theorem e75 {a b : List Int} (ha : Nt a) (hb : Nt b) (h : V b ≠ 0) : h75 (a, (b, ())) = some (D (V a / V b), (D (V a % V b), ())) := when_pos ⟨ha, hb, h⟩
theorem e66 {a b : List Int} (ha : Nt a) (hb : Nt b) (h : V b ≠ 0) : h66 (a, (b, ())) = some (D (V a / V b), (D (V a % V b), ())) := when_pos ⟨ha, hb, h⟩
/-- What quotient and remainder are. -/
noncomputable def qr (a b : Int) : DL [tInt, tInt, .int .i64] := open Classical in if b = 0 then (enc 0, (enc 0, (10, ()))) else (enc (a / b), (enc (a % b), (0, ())))
theorem qr_neg {a b : Int} (hb : b ≠ 0) (ha : a < 0) (hr : (a.natAbs : Int) % (b.natAbs : Int) ≠ 0) : a / b = sg (!(decide (a < 0) == decide (b < 0))) ((a.natAbs : Int) / (b.natAbs : Int) + 1) ∧ a % b = (b.natAbs : Int) - (a.natAbs : Int) % (b.natAbs : Int) := by
  have h1 := Int.mul_ediv_add_emod (a.natAbs : Int) (b.natAbs : Int)
  have h2 := Int.emod_nonneg (a.natAbs : Int) (show (b.natAbs : Int) ≠ 0 by omega)
  have h3 := Int.emod_lt_of_pos (a.natAbs : Int) (show 0 < (b.natAbs : Int) by omega)
  generalize (a.natAbs : Int) / (b.natAbs : Int) = Q at *
  generalize (a.natAbs : Int) % (b.natAbs : Int) = R at *
  refine div_uniq hb ?_ (by omega) (by omega)
  unfold sg
  by_cases hbn : b < 0
  · simp only [ha, hbn, decide_true, BEq.rfl, Bool.not_true, Bool.false_eq_true, if_false]
    have : (b.natAbs : Int) = -b := by omega
    rw [this] at h1 ⊢
    have : (a.natAbs : Int) = -a := by omega
    rw [this] at h1
    clear hr h2 h3
    grind
  · simp only [ha, hbn, decide_true, decide_false, Bool.true_beq, Bool.not_false, if_true]
    have : (b.natAbs : Int) = b := by omega
    rw [this] at h1 ⊢
    have : (a.natAbs : Int) = -a := by omega
    rw [this] at h1
    clear hr h2 h3
    grind
theorem qr_pos {a b : Int} (hb : b ≠ 0) (ha : ¬ a < 0 ∨ (a.natAbs : Int) % (b.natAbs : Int) = 0) : a / b = sg (!(decide (a < 0) == decide (b < 0))) ((a.natAbs : Int) / (b.natAbs : Int)) ∧ a % b = (a.natAbs : Int) % (b.natAbs : Int) := by
  have h1 := Int.mul_ediv_add_emod (a.natAbs : Int) (b.natAbs : Int)
  have h2 := Int.emod_nonneg (a.natAbs : Int) (show (b.natAbs : Int) ≠ 0 by omega)
  have h3 := Int.emod_lt_of_pos (a.natAbs : Int) (show 0 < (b.natAbs : Int) by omega)
  generalize (a.natAbs : Int) / (b.natAbs : Int) = Q at *
  generalize (a.natAbs : Int) % (b.natAbs : Int) = R at *
  refine div_uniq hb ?_ h2 h3
  unfold sg
  by_cases han : a < 0
  · have hR : R = 0 := by
      rcases ha with ha | ha
      · exact (ha han).elim
      · exact ha
    subst hR
    by_cases hbn : b < 0
    · simp only [han, hbn, decide_true, BEq.rfl, Bool.not_true, Bool.false_eq_true, if_false]
      have : (b.natAbs : Int) = -b := by omega
      rw [this] at h1
      have : (a.natAbs : Int) = -a := by omega
      rw [this] at h1
      clear ha h2 h3
      grind
    · simp only [han, hbn, decide_true, decide_false, Bool.true_beq, Bool.not_false, if_true]
      have : (b.natAbs : Int) = b := by omega
      rw [this] at h1
      have : (a.natAbs : Int) = -a := by omega
      rw [this] at h1
      clear ha h2 h3
      grind
  · have : (a.natAbs : Int) = a := by omega
    rw [this] at h1
    by_cases hbn : b < 0
    · simp only [han, hbn, decide_true, decide_false, Bool.false_beq, Bool.not_true, Bool.not_false, if_true]
      have : (b.natAbs : Int) = -b := by omega
      rw [this] at h1
      clear ha h2 h3
      grind
    · simp only [han, hbn, decide_false, BEq.rfl, Bool.not_true, Bool.false_eq_true, if_false]
      have : (b.natAbs : Int) = b := by omega
      rw [this] at h1
      clear ha h2 h3
      grind
theorem dg_len_zero {z : Int} : (((dg z.natAbs).length : Int) = 0) ↔ z = 0 := by
  constructor
  · intro h
    apply Classical.byContradiction
    intro hc
    have := dg_length_pos (n := z.natAbs) (by omega)
    omega
  · rintro rfl
    simp [dg_zero]
theorem abs_lt {z : Int} (h : Sm z) : (z.natAbs : Int) < P 1048577 := by
  have h1 := h.lt
  have h2 := P_le (show 1048576 ≤ 1048577 by omega)
  omega
theorem quot_le {a b : Int} (a0 : 0 ≤ a) (b0 : 0 < b) : 0 ≤ a / b ∧ a / b ≤ a ∧ 0 ≤ a % b ∧ a % b < b :=
  ⟨Int.ediv_nonneg a0 (by omega), Int.ediv_le_self _ a0, Int.emod_nonneg _ (by omega), Int.emod_lt_of_pos _ b0⟩
theorem sg_false (z : Int) : sg false z = z := by simp [sg]

noncomputable def h52 : DL [tInt, tInt] → Option (DL [tInt, tInt, .int .i64]) := HI2 (rts := [tInt, tInt, .int .i64]) qr
theorem s52 : SigOk Try.prog 52 ⟨[tInt, tInt], [tInt, tInt, .int .i64], h52⟩ := ok52 (hi2 fun y z hy hz => by
  rw [g52_eq, enc_2 y, enc_2 z, enc_1 y, enc_1 z]
  unfold qr
  by_cases h0 : z = 0
  · rw [ife_t (dg_len_zero.2 h0), if_pos h0]
    simp [enc, dg_zero]
  · have hzp : 0 < (z.natAbs : Int) := by omega
    obtain ⟨q0, q1, m0, m1⟩ := quot_le (a := (y.natAbs : Int)) (b := (z.natAbs : Int)) (by omega) hzp
    have hyl := abs_lt hy
    have hzl := abs_lt hz
    have hyl' := hy.lt
    have hP : P 1048577 = 4294967296 * P 1048576 := P_succ 1048576
    have hPp := P_pos 1048576
    rw [ife_f (fun h => h0 (dg_len_zero.1 h)), if_neg h0, e75 hy.nt hz.nt (by rw [V_dg]; omega), Option.bind_some, V_dg, V_dg]
    dsimp only
    have hD := D_len_pos m0
    by_cases hn : y < 0
    · rw [ifb_t (by simpa using hn)]
      by_cases hr : (y.natAbs : Int) % (z.natAbs : Int) ≠ 0
      · obtain ⟨e1, e2⟩ := qr_neg h0 hn hr
        rw [ifd_t (hD.2 hr), e68 (by omega), Option.bind_some]
        dsimp only
        rw [e70 (Wl_D (k := 1048577) (by omega) (by omega)) (Wl_D64 (by omega)), Option.bind_some, V_D q0, V_D (z := 1) (by omega)]
        dsimp only
        rw [e72 hz.wl (Wl_D (k := 1048577) (by omega) (by omega)) (by rw [V_dg, V_D m0]; omega), Option.bind_some, V_dg, V_D m0]
        dsimp only
        rw [e69 (Wl_D (k := 1048577) (by omega) (by omega)), Option.bind_some, e69 (Wl_D (k := 1048577) (by omega) (by omega)), Option.bind_some, V_D (by omega), V_D (by omega), e1, e2, sg_false]
      · obtain ⟨e1, e2⟩ := qr_pos (a := y) h0 (.inr (by omega))
        rw [ifd_f (fun h => hr (hD.1 h)), e69 (Wl_D (k := 1048577) (by omega) (by omega)), Option.bind_some, e69 (Wl_D (k := 1048577) (by omega) (by omega)), Option.bind_some, V_D q0, V_D m0, e1, e2, sg_false]
    · obtain ⟨e1, e2⟩ := qr_pos (a := y) h0 (.inl hn)
      rw [ifb_f (by simpa using hn), e69 (Wl_D (k := 1048577) (by omega) (by omega)), Option.bind_some, e69 (Wl_D (k := 1048577) (by omega) (by omega)), Option.bind_some, V_D q0, V_D m0, e1, e2, sg_false])

/-! ### Differences -/
theorem Sm.neg {z : Int} (h : Sm z) : Sm (-z) := by
  unfold Sm at *
  rw [Int.natAbs_neg]
  exact h
noncomputable def h53 : DL [tInt, tInt] → Option (DL [tInt]) := HI2 (rts := [tInt]) fun y z => (enc (y - z), ())
noncomputable def h59 : DL [tInt, tInt] → Option (DL [tInt]) := HI2 (rts := [tInt]) fun y z => (enc (y - z), ())
theorem s53 : SigOk Try.prog 53 ⟨[tInt, tInt], [tInt], h53⟩ := ok53 (hi2 fun y z hy hz => by
  have e1 : h57 (((enc z).1, ((enc z).2.1, ())), ()) = some (enc (-z), ()) := HI1_eq hz
  have e2 : h45 (((enc y).1, ((enc y).2.1, ())), (enc (-z), ())) = some (enc (y + -z), ()) := HI2_eq hy hz.neg
  rw [g53_eq, e1, Option.bind_some]
  dsimp only
  rw [e2, Option.bind_some, Int.sub_eq_add_neg])
theorem s59 : SigOk Try.prog 59 ⟨[tInt, tInt], [tInt], h59⟩ := ok59 (hi2 fun y z hy hz => by
  have e1 : h35 (((enc z).1, ((enc z).2.1, ())), ()) = some (enc (-z), ()) := HI1_eq hz
  have e2 : h39 (((enc y).1, ((enc y).2.1, ())), (enc (-z), ())) = some (enc (y + -z), ()) := HI2_eq hy hz.neg
  rw [g59_eq, e1, Option.bind_some]
  dsimp only
  rw [e2, Option.bind_some, Int.sub_eq_add_neg])

/-! ### Greatest common divisors -/
noncomputable def h58 : DL [tInt, tInt] → Option (DL [tInt]) := HI2 (rts := [tInt]) fun y z => (enc (Int.gcd y z : Nat), ())
theorem Nt_D {z : Int} {k : Nat} (h : z < P k) (hk : k < 4194304) : Nt (D z) := ⟨D_W _, D_Cn _, by have := D_length h; omega⟩
theorem L58 (b : Bool) (l : List Int) : ∀ k : Nat, ∀ x y : Int, 0 ≤ x → 0 ≤ y → y.toNat ≤ k → x < P 1048577 → y < P 1048577 → g58_L2 (D x) (D y) b l = some (enc ((Int.gcd x y : Nat) : Int), ()) := by
  intro k
  induction k with
  | zero =>
    intro x y x0 y0 hk hx hy
    have : y = 0 := by omega
    subst this
    rw [g58_L2_eq, ifd_f (by simp [D_zero]), e69 (Wl_D hx (by omega)), Option.bind_some, V_D x0, sg_false, Int.gcd_zero_right, show ((x.natAbs : Nat) : Int) = x by omega]
  | succ k ih =>
    intro x y x0 y0 hk hx hy
    rw [g58_L2_eq]
    by_cases h0 : y = 0
    · subst h0
      rw [ifd_f (by simp [D_zero]), e69 (Wl_D hx (by omega)), Option.bind_some, V_D x0, sg_false, Int.gcd_zero_right, show ((x.natAbs : Nat) : Int) = x by omega]
    · obtain ⟨q0, q1, m0, m1⟩ := quot_le (a := x) (b := y) x0 (by omega)
      rw [ifd_t ((D_len_pos y0).2 h0), e75 (Nt_D hx (by omega)) (Nt_D hy (by omega)) (by rw [V_D y0]; exact h0), Option.bind_some, V_D x0, V_D y0]
      dsimp only
      rw [ih y (x % y) y0 m0 (by omega) hy (by omega), gcd_step x0 (by omega)]
theorem s58 : SigOk Try.prog 58 ⟨[tInt, tInt], [tInt], h58⟩ := ok58 (hi2 fun y z hy hz => by
  rw [g58_eq, enc_2 y, enc_2 z, dg_D y, dg_D z, L58 _ _ _ _ _ (by omega) (by omega) (Nat.le_refl _) (abs_lt hy) (abs_lt hz)]
  simp only [Int.gcd, Int.natAbs_natCast])
end Go.Refl.S3
