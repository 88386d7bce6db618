import Derived.Test.YthgbejjenlfdnaaP5
/-
  Quotients and remainders in the reference; whole numbers divided; greatest common divisors.
-/
set_option linter.unusedVariables false
set_option linter.unusedSimpArgs false
set_option maxRecDepth 100000
namespace Go.Refl.S3
open Go Go.Refl Go.Proofs

/-! ### The reference's long division -/
noncomputable def h66 : DL [.sl (.int .u32), .sl (.int .u32)] → Option (DL [.sl (.int .u32), .sl (.int .u32)]) := h75

theorem made_great {b d : Int} (b1 : 1 ≤ b) (b2 : b < 4294967296) (hd : d = 4294967296 / (b + 1)) : 2147483648 ≤ b * d ∧ 1 ≤ d ∧ d ≤ 2147483648 ∧ (b + 1) * d ≤ 4294967296 := by
  have h1 := Int.mul_ediv_add_emod 4294967296 (b + 1)
  have h2 := Int.emod_nonneg 4294967296 (show b + 1 ≠ 0 by omega)
  have h3 := Int.emod_lt_of_pos 4294967296 (show 0 < b + 1 by omega)
  rw [← hd] at h1
  have hd1 : 1 ≤ d := by rw [hd]; exact (Int.le_ediv_iff_mul_le (by omega)).2 (by omega)
  have hd2 : d ≤ 2147483648 := by
    have : d < 2147483649 := by rw [hd]; exact Int.ediv_lt_of_lt_mul (by omega) (by omega)
    omega
  have h5 : (b + 1) * d ≤ 4294967296 := by omega
  refine ⟨?_, hd1, hd2, h5⟩
  apply Classical.byContradiction
  intro hc
  by_cases hb : 2147483648 ≤ b
  · have : b * 1 ≤ b * d := Int.mul_le_mul_of_nonneg_left hd1 (by omega)
    omega
  · have h6 : 4294967296 - b ≤ (b + 1) * d := by omega
    have h7 : b * (4294967296 - b) ≤ b * ((b + 1) * d) := Int.mul_le_mul_of_nonneg_left h6 (by omega)
    have h8 : (b + 1) * (b * d) ≤ (b + 1) * 2147483647 := Int.mul_le_mul_of_nonneg_left (by omega) (by omega)
    have h9 : b * ((b + 1) * d) = (b + 1) * (b * d) := by grind
    have h10 : 0 ≤ (b - 1) * (2147483648 - b) := Int.mul_nonneg (by omega) (by omega)
    have h11 : (b - 1) * (2147483648 - b) = b * (4294967296 - b) - (b + 1) * 2147483647 - 1 := by grind
    omega

theorem e85' {p v : List Int} (h : OkPart p v) : ∃ d : Int, h85 (p, (v, ())) = some (d, ()) ∧ (d = V p / V v ∨ d = V p / V v + 1) := by
  obtain ⟨d, h1, h2, h3, h4⟩ := e85 h
  refine ⟨d, h1, ?_⟩
  generalize V p / V v = Q at *
  omega

theorem L66 (v : List Int) (hv : W v) (d : Int) (d0 : 0 < d) (d1 : d < 4294967296) (hv2 : 2 ≤ v.length) (hvl : v.length < 4194304) (ht : 2147483648 ≤ v.getD (v.length - 1) 0) (U : Int) (N : Nat) (hN : v.length + N < 4194306) : ∀ j : Nat, j ≤ N → ∀ u q : List Int, W u → u.length = v.length + N → W q → q.length = N → V u + V v * P j * V (q.drop j) = U → V (u.drop j) < V v →
    g66_L13 (v.length : Int) d v ((j : Int) - 1) u q = some (D (U / V v), (D (U % V v / d), ())) := by
  have hvp : 0 < V v := by
    have h1 := (V_top hv (n := v.length - 1) (by omega)).1
    have h2 := Int.mul_pos (P_pos (v.length - 1)) (show 0 < v.getD (v.length - 1) 0 by omega)
    omega
  intro j
  induction j with
  | zero =>
    intro hj u q hu hul hq hql he hlt
    simp only [List.drop_zero, P_zero, Int.mul_one] at he hlt
    have hun := V_nonneg hu
    obtain ⟨e1, e2⟩ := div_end (v := U) (d := V v) (q := V q) (r := V u) (by omega) hun hlt
    have hvlt := V_lt hv
    rw [g66_L13_eq, ifd_f (by omega), e74 hu (by omega), Option.bind_some]
    dsimp only
    rw [e84 (Wl_D (k := v.length) (by omega) (by omega)) d0 d1, Option.bind_some, e74 hq (by omega), Option.bind_some, V_D hun, e1, e2]
  | succ j ih =>
    intro hj u q hu hul hq hql he hlt
    have hdj := V_drop (l := u) (i := j) (by omega)
    have huj := hu.getD j
    have hvlt := V_lt hv
    have hlt2 : V (u.drop j) < V v * 4294967296 := by omega
    have hcut := V_lt_cut (hu.drop j) (m := v.length + 1) (by rw [P_succ]; omega)
    rw [List.drop_drop] at hcut
    have hpl : ((u.drop j).take (v.length + 1)).length = v.length + 1 := by rw [List.length_take, List.length_drop]; omega
    have hok : OkPart ((u.drop j).take (v.length + 1)) v := ⟨(hu.drop j).take _, hv, hv2, hvl, hpl, ht, by rw [hcut.1]; exact hlt2⟩
    have hdn := V_nonneg (hu.drop j)
    have q0 : 0 ≤ V (u.drop j) / V v := Int.ediv_nonneg hdn (by omega)
    have q1 : V (u.drop j) / V v < 4294967296 := Int.ediv_lt_of_lt_mul hvp (by omega)
    have m0 := Int.emod_nonneg (V (u.drop j)) (show V v ≠ 0 by omega)
    have m1 := Int.emod_lt_of_pos (V (u.drop j)) hvp
    have me := Int.mul_ediv_add_emod (V (u.drop j)) (V v)
    have hdd : V (Dn (v.length + 1) (V (u.drop j) % V v)) = V (u.drop j) % V v := by
      rw [V_Dn, Int.emod_eq_of_lt m0 (by rw [P_succ]; omega)]
    obtain ⟨dg, hdg, hor⟩ := e85' hok
    rw [hcut.1] at hor
    rw [show ((j + 1 : Nat) : Int) - 1 = (j : Int) by omega, g66_L13_eq, ifd_t (by omega), wi64 (x := (j : Int) + (v.length : Int)) (by omega) (by omega), wi64 (x := (j : Int) + (v.length : Int) + 1) (by omega) (by omega), ifdd_t (by omega) (by omega), ifdd_t (by omega) (by omega)]
    rw [Int.toNat_natCast, show Int.toNat ((j : Int) + (v.length : Int) + 1) - j = v.length + 1 by omega, hdg, Option.bind_some, wi64 (x := (j : Int) - 1) (by omega) (by omega)]
    dsimp only
    have hA : (u.take j).length = j := by rw [List.length_take]; omega
    -- the row behind it
    have hfin : g66_L13 (v.length : Int) d v ((j : Int) - 1) (u.take j ++ (Dn (v.length + 1) (V (u.drop j) % V v) ++ u.drop (j + (v.length + 1)))) (q.set j (V (u.drop j) / V v)) = some (D (U / V v), (D (U % V v / d), ())) := by
      have hwn : W (u.take j ++ (Dn (v.length + 1) (V (u.drop j) % V v) ++ u.drop (j + (v.length + 1)))) := (hu.take j).append ((Dn_W _ _).append (hu.drop _))
      have hvr : V (Dn (v.length + 1) (V (u.drop j) % V v) ++ u.drop (j + (v.length + 1))) = V (u.drop j) % V v := by
        rw [V_append, hcut.2, hdd]
        omega
      refine ih (by omega) _ _ hwn (by simp [Dn_length]; omega) (hq.set q0 q1) (by simp [hql]) ?_ ?_
      · have e1 := V_take_drop u j
        rw [V_append, hvr, drop_set_self (by omega), List.length_take, Nat.min_eq_left (by omega)]
        rw [Nat.min_eq_left (by omega)] at e1
        rw [P_succ] at he
        generalize V (u.drop j) / V v = Q at *
        generalize V (u.drop j) % V v = R at *
        generalize V (u.drop j) = X at *
        generalize V (u.take j) = Y at *
        generalize V (q.drop (j + 1)) = Z at *
        generalize P j = pj at *
        generalize V v = vv at *
        generalize V u = uu at *
        clear ih hwn hvr hdd hok hcut hq hu hdg hpl hA
        grind
      · rw [List.drop_append, List.drop_eq_nil_of_le (by simp; omega), List.nil_append, List.length_take, show j - min j u.length = 0 by omega, List.drop_zero, hvr]
        exact m1
    rcases hor with rfl | rfl
    · have hle : V (u.drop j) - V (u.drop j) / V v * V v = V (u.drop j) % V v := by
        rw [Int.mul_comm] at me
        omega
      have hpp := P_pos (v.length + 1)
      rw [e86 ⟨hu, hv, hv2, hvl, rfl, by omega, q0, by omega⟩ (by rw [hcut.1, hle]; omega), Option.bind_some, hcut.1, hle]
      dsimp only
      rw [ifd_f (by omega), ifdd_t (by omega) (by omega), wu32 q0 q1]
      exact hfin
    · have hle : V (u.drop j) - (V (u.drop j) / V v + 1) * V v = V (u.drop j) % V v - V v := by
        rw [Int.add_mul, Int.one_mul]
        rw [Int.mul_comm] at me
        omega
      have hpp := P_succ v.length
      rw [e86 ⟨hu, hv, hv2, hvl, rfl, by omega, by omega, by omega⟩ (by rw [hcut.1, hle]; omega), Option.bind_some, hcut.1, hle]
      dsimp only
      have hdw := Dn_W (v.length + 1) (V (u.drop j) % V v - V v)
      have hdl := Dn_length (v.length + 1) (V (u.drop j) % V v - V v)
      have hdv : V (Dn (v.length + 1) (V (u.drop j) % V v - V v)) = V (u.drop j) % V v - V v + P (v.length + 1) := by
        rw [V_Dn, ← Int.add_mul_emod_self_left (V (u.drop j) % V v - V v) (P (v.length + 1)) 1, Int.mul_one, Int.emod_eq_of_lt (by omega) (by omega)]
      have hdrop : (u.take j ++ (Dn (v.length + 1) (V (u.drop j) % V v - V v) ++ u.drop (j + (v.length + 1)))).drop j = Dn (v.length + 1) (V (u.drop j) % V v - V v) ++ u.drop (j + (v.length + 1)) := by
        rw [List.drop_append, List.drop_eq_nil_of_le (by omega), List.nil_append, hA, Nat.sub_self, List.drop_zero]
      have htake : (u.take j ++ (Dn (v.length + 1) (V (u.drop j) % V v - V v) ++ u.drop (j + (v.length + 1)))).take j = u.take j := by
        rw [List.take_append, hA, Nat.sub_self, List.take_zero, List.append_nil, List.take_of_length_le (by omega)]
      have hpart : ((u.take j ++ (Dn (v.length + 1) (V (u.drop j) % V v - V v) ++ u.drop (j + (v.length + 1)))).drop j).take (v.length + 1) = Dn (v.length + 1) (V (u.drop j) % V v - V v) := by
        rw [hdrop, List.take_append, hdl, Nat.sub_self, List.take_zero, List.append_nil, List.take_of_length_le (by omega)]
      have hrest : (u.take j ++ (Dn (v.length + 1) (V (u.drop j) % V v - V v) ++ u.drop (j + (v.length + 1)))).drop (j + (v.length + 1)) = u.drop (j + (v.length + 1)) := by
        rw [← List.drop_drop, hdrop, List.drop_append, List.drop_eq_nil_of_le (by omega), List.nil_append, hdl, Nat.sub_self, List.drop_zero]
      have hww : W (u.take j ++ (Dn (v.length + 1) (V (u.drop j) % V v - V v) ++ u.drop (j + (v.length + 1)))) := (hu.take j).append (hdw.append (hu.drop _))
      rw [ifd_t (by omega), e87 ⟨hww, hv, hv2, hvl, rfl, by simp [hdl]; omega, by omega, by omega⟩, Option.bind_some, ifdd_t (by omega) (by omega), wu64 (by omega) (by omega), wu32 (by omega) (by omega), htake, hpart, hrest, hdv]
      dsimp only
      have hback : Dn (v.length + 1) (V (u.drop j) % V v - V v + P (v.length + 1) + V v) = Dn (v.length + 1) (V (u.drop j) % V v) := by
        refine W_ext (Dn_W _ _) (Dn_W _ _) (by rw [Dn_length, Dn_length]) ?_
        rw [V_Dn, V_Dn, show V (u.drop j) % V v - V v + P (v.length + 1) + V v = V (u.drop j) % V v + P (v.length + 1) * 1 by omega, Int.add_mul_emod_self_left]
      rw [hback, show V (u.drop j) / V v + 1 - 1 = V (u.drop j) / V v by omega]
      exact hfin

theorem s66 : SigOk Try.prog 66 ⟨[.sl (.int .u32), .sl (.int .u32)], [.sl (.int .u32), .sl (.int .u32)], h66⟩ := ok66 fun (x : List Int × List Int × Unit) r h => by
  obtain ⟨⟨⟨wa, ca, la⟩, ⟨wb, cb, lb⟩, hb0⟩, rfl⟩ := when_some h
  obtain ⟨a, b, u⟩ := x
  simp only at wa ca la wb cb lb hb0
  show g66 (a, b, ()) = some (D (V a / V b), (D (V a % V b), ()))
  have hbn : b ≠ [] := fun h => hb0 (by rw [h]; rfl)
  have hbl : 0 < b.length := List.length_pos_iff.2 hbn
  have ha0 := V_nonneg wa
  have hbp := V_nonneg wb
  have htop := top_pos wb cb hbn
  rw [g66_eq, e50 ⟨wa, ca, la⟩ ⟨wb, cb, lb⟩, Option.bind_some]
  dsimp only
  by_cases hc : cmpI (V a) (V b) < 0
  · have hlt := cmpI_neg.1 hc
    rw [ifd_t hc, Int.ediv_eq_zero_of_lt ha0 hlt, Int.emod_eq_of_lt ha0 hlt, D_V wa ca, D_zero]
  · have hle : V b ≤ V a := by
      apply Classical.byContradiction
      intro h
      exact hc (cmpI_neg.2 (by omega))
    rw [ifd_f hc]
    by_cases h1 : b.length = 1
    · obtain ⟨d, rfl⟩ : ∃ d, b = [d] := by
        match b, h1 with
        | [d], _ => exact ⟨d, rfl⟩
      have hd := wb.getD 0
      have hv : V [d] = d := by simp [V]
      have hd0 : d ≠ 0 := by rw [hv] at hb0; exact hb0
      simp only [List.getD_cons_zero] at hd
      have hm0 := Int.emod_nonneg (V a) hd0
      have hm1 := Int.emod_lt_of_pos (V a) (show 0 < d by omega)
      rw [ife_t (by simp), ifdd_t (by omega) (by simp)]
      simp only [show Int.toNat 0 = 0 from rfl, List.getD_cons_zero]
      rw [wu64 (x := d) (by omega) (by omega), e84 ⟨wa, la⟩ (by omega) (by omega), Option.bind_some]
      dsimp only
      rw [e48 ⟨hm0, by omega⟩, Option.bind_some, hv]
    · obtain ⟨n, hn⟩ : ∃ n, b.length = n + 2 := ⟨b.length - 2, by omega⟩
      have htw := wb.getD (n + 1)
      rw [hn, show n + 2 - 1 = n + 1 by omega] at htop
      rw [ife_f (by omega), wi64 (x := (b.length : Int) - 1) (by omega) (by omega), ifdd_t (by omega) (by omega), show Int.toNat ((b.length : Int) - 1) = n + 1 by omega, wu64 (x := b.getD (n + 1) 0) (by omega) (by omega), wu64 (x := b.getD (n + 1) 0 + 1) (by omega) (by omega), ife_f (by omega), td (by omega)]
      obtain ⟨g1, g2, g3, g4⟩ := made_great (b := b.getD (n + 1) 0) (by omega) (by omega) rfl
      generalize hd : 4294967296 / (b.getD (n + 1) 0 + 1) = d at *
      rw [wu64 (x := d) (by omega) (by omega), e48 (by omega), Option.bind_some]
      have hdW : Wl (D d) := Wl_D64 (by omega)
      have hdV : V (D d) = d := V_D (by omega)
      dsimp only
      rw [e49 ⟨wb, lb⟩ hdW, Option.bind_some, wi64 (x := (a.length : Int) + 1) (by omega) (by omega), ifddd_t (by omega) (by omega) (by omega), Option.bind_some]
      dsimp only
      rw [e49 ⟨wa, la⟩ hdW, Option.bind_some, hdV]
      have htb := V_top wb (n := n + 1) (by omega)
      have hVa := V_lt wa
      have hPn := P_pos (n + 1)
      have hUb0 : 0 ≤ V b * d := Int.mul_nonneg hbp (by omega)
      have hUa0 : 0 ≤ V a * d := Int.mul_nonneg ha0 (by omega)
      have hUb : V b * d < P (n + 2) := by
        have h6 : V b * d < P (n + 1) * (b.getD (n + 1) 0 + 1) * d := Int.mul_lt_mul_of_pos_right htb.2 (by omega)
        have h7 : P (n + 1) * ((b.getD (n + 1) 0 + 1) * d) ≤ P (n + 1) * 4294967296 := Int.mul_le_mul_of_nonneg_left g4 (by omega)
        rw [Int.mul_assoc] at h6
        rw [P_succ]
        omega
      have hUb1 : P (n + 1) * (b.getD (n + 1) 0 * d) ≤ V b * d := by
        rw [← Int.mul_assoc]
        exact Int.mul_le_mul_of_nonneg_right htb.1 (by omega)
      have hUb2 : P (n + 1) * d ≤ V b * d := by
        refine Int.mul_le_mul_of_nonneg_right ?_ (by omega)
        have : P (n + 1) * 1 ≤ P (n + 1) * b.getD (n + 1) 0 := Int.mul_le_mul_of_nonneg_left (by omega) (by omega)
        omega
      have hS1 : P (n + 1) ≤ P (n + 1) * d := by
        have : P (n + 1) * 1 ≤ P (n + 1) * d := Int.mul_le_mul_of_nonneg_left (by omega) (by omega)
        omega
      have hUa1 : V a * d < P (a.length + 1) := by
        have h8 : V a * d < P a.length * d := Int.mul_lt_mul_of_pos_right hVa (by omega)
        have h9 : P a.length * d ≤ P a.length * 4294967296 := Int.mul_le_mul_of_nonneg_left (by omega) (by have := P_pos a.length; omega)
        rw [P_succ]
        omega
      have hvW := D_W (V b * d)
      have hvV := V_D hUb0
      have hvL1 := D_length hUb
      have hvL2 := D_length_ge hUb0 (show P (n + 1) ≤ V b * d by omega)
      have hal : n + 2 ≤ a.length := by
        apply Classical.byContradiction
        intro h
        have := V_len_lt wa wb cb (by omega)
        omega
      generalize hv : D (V b * d) = v at *
      have hvl : v.length = n + 2 := by omega
      have hvt : 2147483648 ≤ v.getD (v.length - 1) 0 := by
        rw [hvl, show n + 2 - 1 = n + 1 by omega]
        have h1 := (V_top hvW (n := n + 1) hvl).2
        have h2 : P (n + 1) * (b.getD (n + 1) 0 * d) < P (n + 1) * (v.getD (n + 1) 0 + 1) := by omega
        have := Int.lt_of_mul_lt_mul_left h2 (by omega)
        omega
      -- the row
      have huL0 := D_length hUa1
      have huE : List.take (List.replicate (Int.toNat ((a.length : Int) + 1)) (0 : Int)).length (D (V a * d)) ++ List.drop (D (V a * d)).length (List.replicate (Int.toNat ((a.length : Int) + 1)) (0 : Int)) = D (V a * d) ++ List.replicate (a.length + 1 - (D (V a * d)).length) 0 := by
        rw [List.length_replicate, show Int.toNat ((a.length : Int) + 1) = a.length + 1 by omega, List.take_of_length_le huL0, List.drop_replicate]
      rw [huE, wi64 (x := (a.length : Int) - (b.length : Int)) (by omega) (by omega), wi64 (x := (a.length : Int) - (b.length : Int) + 1) (by omega) (by omega), ifddd_t (by omega) (by omega) (by omega)]
      have huW : W (D (V a * d) ++ List.replicate (a.length + 1 - (D (V a * d)).length) 0) := (D_W _).append (W.replicate _)
      have huL : (D (V a * d) ++ List.replicate (a.length + 1 - (D (V a * d)).length) (0 : Int)).length = a.length + 1 := by simp; omega
      have huV : V (D (V a * d) ++ List.replicate (a.length + 1 - (D (V a * d)).length) 0) = V a * d := by
        rw [V_append, V_replicate, V_D hUa0]
        omega
      generalize D (V a * d) ++ List.replicate (a.length + 1 - (D (V a * d)).length) (0 : Int) = uu at *
      rw [show Int.toNat ((a.length : Int) - (b.length : Int) + 1) = a.length + 1 - (n + 2) by omega]
      generalize hN : a.length + 1 - (n + 2) = N
      have := L66 v hvW d (by omega) (by omega) (by omega) (by omega) hvt (V a * d) N (by omega) N (Nat.le_refl _) uu (List.replicate N 0) huW (by omega) (W.replicate _) (by simp) (by
        rw [List.drop_eq_nil_of_le (by simp), huV]
        simp [V]) (by
        have h1 := V_take_drop uu N
        rw [Nat.min_eq_left (by omega), huV] at h1
        have h2 := V_nonneg (huW.take N)
        have h3 : V a * d < P a.length * d := Int.mul_lt_mul_of_pos_right hVa (by omega)
        have h4 : P a.length = P N * P (n + 1) := by rw [← P_add]; congr 1; omega
        rw [h4, Int.mul_assoc] at h3
        have h5 : P N * (P (n + 1) * d) ≤ P N * (V b * d) := Int.mul_le_mul_of_nonneg_left hUb2 (by have := P_pos N; omega)
        have h6 : P N * V (uu.drop N) < P N * (V b * d) := by omega
        rw [hvV]
        exact Int.lt_of_mul_lt_mul_left h6 (by have := P_pos N; omega))
      rw [show (a.length : Int) - (b.length : Int) = (N : Int) - 1 by omega, show (b.length : Int) = (v.length : Int) by omega]
      have hd0 : 0 < d := by omega
      rw [this, hvV, Int.mul_ediv_mul_of_pos_left _ _ hd0, Int.mul_comm (V a), Int.mul_comm (V b), Int.mul_emod_mul_of_pos _ _ hd0, Int.mul_ediv_cancel_left _ (by omega)]

/-! ### Whole numbers divided -/
theorem div_uniq {a b q r : Int} (hb : b ≠ 0) (h : a = b * q + r) (r0 : 0 ≤ r) (r1 : r < (b.natAbs : Int)) : a / b = q ∧ a % b = r := by
  by_cases hp : 0 < b
  · exact div_end h r0 (by omega)
  · obtain ⟨h1, h2⟩ := div_end (v := a) (d := -b) (q := -q) (r := r) (by rw [h, Int.neg_mul_neg]) r0 (by omega)
    rw [Int.ediv_neg] at h1
    rw [Int.emod_neg] at h2
    exact ⟨by omega, h2⟩
theorem e75 {a b : List Int} (ha : Nt a) (hb : Nt b) (h : V b ≠ 0) : h75 (a, (b, ())) = some (D (V a / V b), (D (V a % V b), ())) := when_pos ⟨ha, hb, h⟩
theorem e66 {a b : List Int} (ha : Nt a) (hb : Nt b) (h : V b ≠ 0) : h66 (a, (b, ())) = some (D (V a / V b), (D (V a % V b), ())) := when_pos ⟨ha, hb, h⟩
/-- What quotient and remainder are. -/
noncomputable def qr (a b : Int) : DL [tInt, tInt, .int .i64] := open Classical in if b = 0 then (enc 0, (enc 0, (10, ()))) else (enc (a / b), (enc (a % b), (0, ())))
theorem qr_neg {a b : Int} (hb : b ≠ 0) (ha : a < 0) (hr : (a.natAbs : Int) % (b.natAbs : Int) ≠ 0) : a / b = sg (!(decide (a < 0) == decide (b < 0))) ((a.natAbs : Int) / (b.natAbs : Int) + 1) ∧ a % b = (b.natAbs : Int) - (a.natAbs : Int) % (b.natAbs : Int) := by
  have h1 := Int.mul_ediv_add_emod (a.natAbs : Int) (b.natAbs : Int)
  have h2 := Int.emod_nonneg (a.natAbs : Int) (show (b.natAbs : Int) ≠ 0 by omega)
  have h3 := Int.emod_lt_of_pos (a.natAbs : Int) (show 0 < (b.natAbs : Int) by omega)
  generalize (a.natAbs : Int) / (b.natAbs : Int) = Q at *
  generalize (a.natAbs : Int) % (b.natAbs : Int) = R at *
  refine div_uniq hb ?_ (by omega) (by omega)
  unfold sg
  by_cases hbn : b < 0
  · simp only [ha, hbn, decide_true, BEq.rfl, Bool.not_true, Bool.false_eq_true, if_false]
    have : (b.natAbs : Int) = -b := by omega
    rw [this] at h1 ⊢
    have : (a.natAbs : Int) = -a := by omega
    rw [this] at h1
    clear hr h2 h3
    grind
  · simp only [ha, hbn, decide_true, decide_false, Bool.true_beq, Bool.not_false, if_true]
    have : (b.natAbs : Int) = b := by omega
    rw [this] at h1 ⊢
    have : (a.natAbs : Int) = -a := by omega
    rw [this] at h1
    clear hr h2 h3
    grind
theorem qr_pos {a b : Int} (hb : b ≠ 0) (ha : ¬ a < 0 ∨ (a.natAbs : Int) % (b.natAbs : Int) = 0) : a / b = sg (!(decide (a < 0) == decide (b < 0))) ((a.natAbs : Int) / (b.natAbs : Int)) ∧ a % b = (a.natAbs : Int) % (b.natAbs : Int) := by
  have h1 := Int.mul_ediv_add_emod (a.natAbs : Int) (b.natAbs : Int)
  have h2 := Int.emod_nonneg (a.natAbs : Int) (show (b.natAbs : Int) ≠ 0 by omega)
  have h3 := Int.emod_lt_of_pos (a.natAbs : Int) (show 0 < (b.natAbs : Int) by omega)
  generalize (a.natAbs : Int) / (b.natAbs : Int) = Q at *
  generalize (a.natAbs : Int) % (b.natAbs : Int) = R at *
  refine div_uniq hb ?_ h2 h3
  unfold sg
  by_cases han : a < 0
  · have hR : R = 0 := by
      rcases ha with ha | ha
      · exact (ha han).elim
      · exact ha
    subst hR
    by_cases hbn : b < 0
    · simp only [han, hbn, decide_true, BEq.rfl, Bool.not_true, Bool.false_eq_true, if_false]
      have : (b.natAbs : Int) = -b := by omega
      rw [this] at h1
      have : (a.natAbs : Int) = -a := by omega
      rw [this] at h1
      clear ha h2 h3
      grind
    · simp only [han, hbn, decide_true, decide_false, Bool.true_beq, Bool.not_false, if_true]
      have : (b.natAbs : Int) = b := by omega
      rw [this] at h1
      have : (a.natAbs : Int) = -a := by omega
      rw [this] at h1
      clear ha h2 h3
      grind
  · have : (a.natAbs : Int) = a := by omega
    rw [this] at h1
    by_cases hbn : b < 0
    · simp only [han, hbn, decide_true, decide_false, Bool.false_beq, Bool.not_true, Bool.not_false, if_true]
      have : (b.natAbs : Int) = -b := by omega
      rw [this] at h1
      clear ha h2 h3
      grind
    · simp only [han, hbn, decide_false, BEq.rfl, Bool.not_true, Bool.false_eq_true, if_false]
      have : (b.natAbs : Int) = b := by omega
      rw [this] at h1
      clear ha h2 h3
      grind
theorem dg_len_zero {z : Int} : (((dg z.natAbs).length : Int) = 0) ↔ z = 0 := by
  constructor
  · intro h
    apply Classical.byContradiction
    intro hc
    have := dg_length_pos (n := z.natAbs) (by omega)
    omega
  · rintro rfl
    simp [dg_zero]
theorem abs_lt {z : Int} (h : Sm z) : (z.natAbs : Int) < P 1048577 := by
  have h1 := h.lt
  have h2 := P_le (show 1048576 ≤ 1048577 by omega)
  omega
theorem quot_le {a b : Int} (a0 : 0 ≤ a) (b0 : 0 < b) : 0 ≤ a / b ∧ a / b ≤ a ∧ 0 ≤ a % b ∧ a % b < b :=
  ⟨Int.ediv_nonneg a0 (by omega), Int.ediv_le_self _ a0, Int.emod_nonneg _ (by omega), Int.emod_lt_of_pos _ b0⟩
theorem sg_false (z : Int) : sg false z = z := by simp [sg]

noncomputable def h52 : DL [tInt, tInt] → Option (DL [tInt, tInt, .int .i64]) := HI2 (rts := [tInt, tInt, .int .i64]) qr
theorem s52 : SigOk Try.prog 52 ⟨[tInt, tInt], [tInt, tInt, .int .i64], h52⟩ := ok52 (hi2 fun y z hy hz => by
  rw [g52_eq, enc_2 y, enc_2 z, enc_1 y, enc_1 z]
  unfold qr
  by_cases h0 : z = 0
  · rw [ife_t (dg_len_zero.2 h0), if_pos h0]
    simp [enc, dg_zero]
  · have hzp : 0 < (z.natAbs : Int) := by omega
    obtain ⟨q0, q1, m0, m1⟩ := quot_le (a := (y.natAbs : Int)) (b := (z.natAbs : Int)) (by omega) hzp
    have hyl := abs_lt hy
    have hzl := abs_lt hz
    have hyl' := hy.lt
    have hP : P 1048577 = 4294967296 * P 1048576 := P_succ 1048576
    have hPp := P_pos 1048576
    rw [ife_f (fun h => h0 (dg_len_zero.1 h)), if_neg h0, e75 hy.nt hz.nt (by rw [V_dg]; omega), Option.bind_some, V_dg, V_dg]
    dsimp only
    have hD := D_len_pos m0
    by_cases hn : y < 0
    · rw [ifb_t (by simpa using hn)]
      by_cases hr : (y.natAbs : Int) % (z.natAbs : Int) ≠ 0
      · obtain ⟨e1, e2⟩ := qr_neg h0 hn hr
        rw [ifd_t (hD.2 hr), e68 (by omega), Option.bind_some]
        dsimp only
        rw [e70 (Wl_D (k := 1048577) (by omega) (by omega)) (Wl_D64 (by omega)), Option.bind_some, V_D q0, V_D (z := 1) (by omega)]
        dsimp only
        rw [e72 hz.wl (Wl_D (k := 1048577) (by omega) (by omega)) (by rw [V_dg, V_D m0]; omega), Option.bind_some, V_dg, V_D m0]
        dsimp only
        rw [e69 (Wl_D (k := 1048577) (by omega) (by omega)), Option.bind_some, e69 (Wl_D (k := 1048577) (by omega) (by omega)), Option.bind_some, V_D (by omega), V_D (by omega), e1, e2, sg_false]
      · obtain ⟨e1, e2⟩ := qr_pos (a := y) h0 (.inr (by omega))
        rw [ifd_f (fun h => hr (hD.1 h)), e69 (Wl_D (k := 1048577) (by omega) (by omega)), Option.bind_some, e69 (Wl_D (k := 1048577) (by omega) (by omega)), Option.bind_some, V_D q0, V_D m0, e1, e2, sg_false]
    · obtain ⟨e1, e2⟩ := qr_pos (a := y) h0 (.inl hn)
      rw [ifb_f (by simpa using hn), e69 (Wl_D (k := 1048577) (by omega) (by omega)), Option.bind_some, e69 (Wl_D (k := 1048577) (by omega) (by omega)), Option.bind_some, V_D q0, V_D m0, e1, e2, sg_false])

/-! ### Differences -/
theorem Sm.neg {z : Int} (h : Sm z) : Sm (-z) := by
  unfold Sm at *
  rw [Int.natAbs_neg]
  exact h
noncomputable def h53 : DL [tInt, tInt] → Option (DL [tInt]) := HI2 (rts := [tInt]) fun y z => (enc (y - z), ())
noncomputable def h59 : DL [tInt, tInt] → Option (DL [tInt]) := HI2 (rts := [tInt]) fun y z => (enc (y - z), ())
theorem s53 : SigOk Try.prog 53 ⟨[tInt, tInt], [tInt], h53⟩ := ok53 (hi2 fun y z hy hz => by
  have e1 : h57 (((enc z).1, ((enc z).2.1, ())), ()) = some (enc (-z), ()) := HI1_eq hz
  have e2 : h45 (((enc y).1, ((enc y).2.1, ())), (enc (-z), ())) = some (enc (y + -z), ()) := HI2_eq hy hz.neg
  rw [g53_eq, e1, Option.bind_some]
  dsimp only
  rw [e2, Option.bind_some, Int.sub_eq_add_neg])
theorem s59 : SigOk Try.prog 59 ⟨[tInt, tInt], [tInt], h59⟩ := ok59 (hi2 fun y z hy hz => by
  have e1 : h35 (((enc z).1, ((enc z).2.1, ())), ()) = some (enc (-z), ()) := HI1_eq hz
  have e2 : h39 (((enc y).1, ((enc y).2.1, ())), (enc (-z), ())) = some (enc (y + -z), ()) := HI2_eq hy hz.neg
  rw [g59_eq, e1, Option.bind_some]
  dsimp only
  rw [e2, Option.bind_some, Int.sub_eq_add_neg])

/-! ### Greatest common divisors -/
noncomputable def h58 : DL [tInt, tInt] → Option (DL [tInt]) := HI2 (rts := [tInt]) fun y z => (enc (Int.gcd y z : Nat), ())
theorem Nt_D {z : Int} {k : Nat} (h : z < P k) (hk : k < 4194304) : Nt (D z) := ⟨D_W _, D_Cn _, by have := D_length h; omega⟩
theorem L58 (b : Bool) (l : List Int) : ∀ k : Nat, ∀ x y : Int, 0 ≤ x → 0 ≤ y → y.toNat ≤ k → x < P 1048577 → y < P 1048577 → g58_L2 (D x) (D y) b l = some (enc ((Int.gcd x y : Nat) : Int), ()) := by
  intro k
  induction k with
  | zero =>
    intro x y x0 y0 hk hx hy
    have : y = 0 := by omega
    subst this
    rw [g58_L2_eq, ifd_f (by simp [D_zero]), e69 (Wl_D hx (by omega)), Option.bind_some, V_D x0, sg_false, Int.gcd_zero_right, show ((x.natAbs : Nat) : Int) = x by omega]
  | succ k ih =>
    intro x y x0 y0 hk hx hy
    rw [g58_L2_eq]
    by_cases h0 : y = 0
    · subst h0
      rw [ifd_f (by simp [D_zero]), e69 (Wl_D hx (by omega)), Option.bind_some, V_D x0, sg_false, Int.gcd_zero_right, show ((x.natAbs : Nat) : Int) = x by omega]
    · obtain ⟨q0, q1, m0, m1⟩ := quot_le (a := x) (b := y) x0 (by omega)
      rw [ifd_t ((D_len_pos y0).2 h0), e75 (Nt_D hx (by omega)) (Nt_D hy (by omega)) (by rw [V_D y0]; exact h0), Option.bind_some, V_D x0, V_D y0]
      dsimp only
      rw [ih y (x % y) y0 m0 (by omega) hy (by omega), gcd_step x0 (by omega)]
theorem s58 : SigOk Try.prog 58 ⟨[tInt, tInt], [tInt], h58⟩ := ok58 (hi2 fun y z hy hz => by
  rw [g58_eq, enc_2 y, enc_2 z, dg_D y, dg_D z, L58 _ _ _ _ _ (by omega) (by omega) (Nat.le_refl _) (abs_lt hy) (abs_lt hz)]
  simp only [Int.gcd, Int.natAbs_natCast])
end Go.Refl.S3
/-
  The test for primes, the next prime, inverses: what the functions compute.
-/
set_option linter.unusedVariables false
set_option linter.unusedSimpArgs false
set_option maxRecDepth 100000
namespace Go.Refl.S3
open Go Go.Refl Go.Proofs

/-! ### The test -/
def mrSq (n : Int) : Nat → Int → Bool → Bool
  | 0, _, p => p
  | k + 1, x, p => mrSq n k (x * x % n) (p || (x * x % n == n - 1))
def mrL (n d s : Int) : List Int → Bool
  | [] => true
  | w :: ws => if n = w then true else if w ^ d.toNat % n = 1 ∨ w ^ d.toNat % n = n - 1 then mrL n d s ws else if mrSq n (s - 1).toNat (w ^ d.toNat % n) false = true then mrL n d s ws else false
/-- Halved as long as it goes. -/
def tz : Nat → Int → Int → Int × Int
  | 0, d, s => (d, s)
  | k + 1, d, s => if d % 2 = 0 then tz k (d / 2) (s + 1) else (d, s)
def mr (n : Int) : Bool := if n < 2 ∨ n ≥ 2147483648 then false else mrL n (tz 64 (n - 1) 0).1 (tz 64 (n - 1) 0).2 [2, 3, 5, 7]

noncomputable def h13 : DL [.int .u64] → Option (DL [.bool]) := fun (x : Int × Unit) => when (0 ≤ x.1 ∧ x.1 < 18446744073709551616) (mr x.1, ())

theorem tz_bounds : ∀ k : Nat, ∀ d s : Int, 0 < d → d < 18446744073709551616 → 0 ≤ s → 0 < (tz k d s).1 ∧ (tz k d s).1 ≤ d ∧ 0 ≤ (tz k d s).2 ∧ (tz k d s).2 ≤ s + k := by
  intro k
  induction k with
  | zero => intro d s h1 h2 h3; simp only [tz]; omega
  | succ k ih =>
    intro d s h1 h2 h3
    simp only [tz]
    split
    · have := ih (d / 2) (s + 1) (by omega) (by omega) (by omega)
      omega
    · simp only; omega

theorem L13b (n d s : Int) (hn : 2 ≤ n) (hn1 : n < 2147483648) (hs : s < 1000) (i : Nat) (hi : i < 4) (R : Option (DL [.bool])) (hR : g13_L7 n d s [2, 3, 5, 7] ((i : Int) + 1) = R) : ∀ k : Nat, ∀ x j : Int, ∀ p : Bool, 0 ≤ x → x < n → 0 ≤ j → j < 2000 → k = (s - 1 - j).toNat →
    g13_L15 n d s x p [2, 3, 5, 7] (i : Int) (s - 1) j = if mrSq n k x p = true then R else some (false, ()) := by
  intro k
  induction k with
  | zero =>
    intro x j p x0 x1 j0 j1 hk
    rw [g13_L15_eq, ifd_f (by omega), wi64 (by omega) (by omega), hR]
    cases p <;> simp [mrSq]
  | succ k ih =>
    intro x j p x0 x1 j0 j1 hk
    have hm := mul_lt64 x0 (by omega) x0 (by omega)
    have q1 := Int.emod_nonneg (x * x) (show n ≠ 0 by omega)
    have q2 := Int.emod_lt_of_pos (x * x) (show 0 < n by omega)
    rw [g13_L15_eq, ifd_t (by omega), ife_f (by omega), wu64 hm.1 hm.2, tm hm.1, wi64 (by omega) (by omega), wu64 (x := n - 1) (by omega) (by omega)]
    cases p with
    | true =>
      rw [ifb_t rfl, ih (x * x % n) (j + 1) true q1 q2 (by omega) (by omega) (by omega)]
      simp [mrSq]
    | false =>
      rw [ifb_f rfl, ih (x * x % n) (j + 1) _ q1 q2 (by omega) (by omega) (by omega)]
      simp only [mrSq, Bool.false_or]

theorem e20 {a n p : Int} (ha : 0 ≤ a ∧ a < 18446744073709551616) (hn : 0 ≤ n ∧ n < 18446744073709551616) (hp : 0 < p ∧ p < 4294967296) : h20 (a, (n, (p, ()))) = some (a ^ n.toNat % p, ()) := when_pos ⟨ha, hn, hp⟩

theorem L13a (n d s : Int) (hn : 2 ≤ n) (hn1 : n < 2147483648) (hs0 : 0 ≤ s) (hs : s < 1000) (hd : 0 ≤ d ∧ d < 18446744073709551616) : ∀ m i : Nat, i + m = 4 → g13_L7 n d s [2, 3, 5, 7] (i : Int) = some (mrL n d s (([2, 3, 5, 7] : List Int).drop i), ()) := by
  intro m
  induction m with
  | zero =>
    intro i hi
    have : i = 4 := by omega
    subst this
    rw [g13_L7_eq, ifd_f (by omega)]
    simp only [List.drop_succ_cons, List.drop_zero, mrL]
    rw [decide_eq_true (by omega)]
  | succ m ih =>
    intro i hi
    obtain ⟨w, ws, hw, hdr, hws, hwl⟩ : ∃ w ws, ([2, 3, 5, 7] : List Int).getD i 0 = w ∧ ([2, 3, 5, 7] : List Int).drop i = w :: ws ∧ ([2, 3, 5, 7] : List Int).drop (i + 1) = ws ∧ (0 ≤ w ∧ w < 18446744073709551616) := by
      match i, hi with
      | 0, _ => exact ⟨_, _, rfl, rfl, rfl, by decide⟩
      | 1, _ => exact ⟨_, _, rfl, rfl, rfl, by decide⟩
      | 2, _ => exact ⟨_, _, rfl, rfl, rfl, by decide⟩
      | 3, _ => exact ⟨_, _, rfl, rfl, rfl, by decide⟩
      | n + 4, h => exact absurd h (by omega)
    have q1 := Int.emod_nonneg (w ^ d.toNat) (show n ≠ 0 by omega)
    have q2 := Int.emod_lt_of_pos (w ^ d.toNat) (show 0 < n by omega)
    have ihn := ih (i + 1) (by omega)
    rw [hws] at ihn
    rw [g13_L7_eq, ifd_t (by omega), ifdd_t (by omega) (by omega), Int.toNat_natCast, hw, hdr]
    simp only [mrL]
    by_cases h1 : n = w
    · rw [ife_t h1, if_pos h1]
    · rw [ife_f h1, if_neg h1, e20 hwl hd (by omega), Option.bind_some]
      dsimp only
      rw [wi64 (x := (i : Int) + 1) (by omega) (by omega), wu64 (x := n - 1) (by omega) (by omega), wi64 (x := s - 1) (by omega) (by omega), show (i : Int) + 1 = ((i + 1 : Nat) : Int) by omega]
      by_cases h2 : w ^ d.toNat % n = 1
      · rw [ife_t h2, ihn, if_pos (.inl h2)]
      · rw [ife_f h2]
        by_cases h3 : w ^ d.toNat % n = n - 1
        · rw [ife_t h3, ihn, if_pos (.inr h3)]
        · rw [ife_f h3, if_neg (fun h => h.elim h2 h3), L13b n d s hn hn1 hs i (by omega) _ ihn (s - 1 - 0).toNat _ 0 false q1 q2 (by omega) (by omega) rfl, Int.sub_zero]
          split <;> rfl

theorem L13c (n : Int) : ∀ k : Nat, ∀ d s : Int, 0 < d → d < 2 ^ k → d < 18446744073709551616 → 0 ≤ s → s + k < 1000 → g13_L4 n d s = g13_L7 n (tz k d s).1 (tz k d s).2 [2, 3, 5, 7] 0 := by
  intro k
  induction k with
  | zero => intro d s h0 h1 h2 h3; omega
  | succ k ih =>
    intro d s h0 h1 h2 h3 h4
    rw [g13_L4_eq, tm (by omega), td (by omega), wu64 (by omega) (by omega), wi64 (by omega) (by omega)]
    simp only [tz]
    by_cases h : d % 2 = 0
    · rw [ife_t h, if_pos h]
      refine ih (d / 2) (s + 1) (by omega) ?_ (by omega) (by omega) (by omega)
      rw [Int.pow_succ] at h1
      omega
    · rw [ife_f h, if_neg h]
      simp only [h38, Option.bind_some]

theorem s13 : SigOk Try.prog 13 ⟨[.int .u64], [.bool], h13⟩ := ok13 fun (x : Int × Unit) r h => by
  obtain ⟨⟨a0, a1⟩, rfl⟩ := when_some h
  obtain ⟨n, u⟩ := x
  simp only at a0 a1
  show g13 (n, ()) = some (mr n, ())
  unfold mr
  rw [g13_eq]
  by_cases h1 : n < 2
  · rw [ifd_t h1, if_pos (.inl h1)]
  · rw [ifd_f h1]
    by_cases h2 : n ≥ 2147483648
    · rw [ifd_t h2, if_pos (.inr h2)]
    · have ht := tz_bounds 64 (n - 1) 0 (by omega) (by omega) (by omega)
      rw [ifd_f h2, if_neg (fun h => h.elim h1 h2), wu64 (by omega) (by omega), L13c n 64 (n - 1) 0 (by omega) (by omega) (by omega) (by omega) (by omega)]
      exact L13a n _ _ (by omega) (by omega) ht.2.2.1 (by omega) (by omega) 4 0 rfl

/-! ### The next one -/
open Classical in
/-- The least number above n with a property. -/
noncomputable def nxt (p : Int → Prop) (n : Int) : Int := if h : ∃ m, n < m ∧ p m ∧ ∀ k, n < k → k < m → ¬ p k then Classical.choose h else 0
theorem nxt_eq {p : Int → Prop} {n m : Int} (h1 : n < m) (h2 : p m) (h3 : ∀ k, n < k → k < m → ¬ p k) : nxt p n = m := by
  have h : ∃ m, n < m ∧ p m ∧ ∀ k, n < k → k < m → ¬ p k := ⟨m, h1, h2, h3⟩
  unfold nxt
  rw [dif_pos h]
  obtain ⟨e1, e2, e3⟩ := Classical.choose_spec h
  apply Classical.byContradiction
  intro hc
  rcases Int.lt_or_gt_of_ne hc with hlt | hgt
  · exact h3 _ e1 hlt e2
  · exact e3 _ h1 hgt h2
theorem nxt_spec {p : Int → Prop} {n : Int} (h : ∃ m, n < m ∧ p m) : n < nxt p n ∧ p (nxt p n) ∧ ∀ k, n < k → k < nxt p n → ¬ p k := by
  have key : ∀ k : Nat, ∀ m, n < m → p m → (m - n).toNat ≤ k → ∃ m, n < m ∧ p m ∧ ∀ k, n < k → k < m → ¬ p k := by
    intro k
    induction k with
    | zero => intro m h1 h2 h3; omega
    | succ k ih =>
      intro m h1 h2 h3
      by_cases hx : ∃ j, n < j ∧ j < m ∧ p j
      · obtain ⟨j, e1, e2, e3⟩ := hx
        exact ih j e1 e3 (by omega)
      · exact ⟨m, h1, h2, fun j e1 e2 e3 => hx ⟨j, e1, e2, e3⟩⟩
  obtain ⟨m, h1, h2⟩ := h
  obtain ⟨m, e1, e2, e3⟩ := key _ m h1 h2 (Nat.le_refl _)
  rw [nxt_eq e1 e2 e3]
  exact ⟨e1, e2, e3⟩

/-- Looked through in halves. -/
def allR (f : Nat → Bool) : Nat → Nat → Bool
  | 0, a => f a
  | k + 1, a => allR f k a && allR f k (a + 2 ^ k)
theorem allR_sound {f : Nat → Bool} : ∀ (k a : Nat), allR f k a = true → ∀ x, a ≤ x → x < a + 2 ^ k → f x = true
  | 0, a, h, x, h1, h2 => by
    have : x = a := by simp at h2; omega
    subst this
    exact h
  | k + 1, a, h, x, h1, h2 => by
    simp only [allR, Bool.and_eq_true] at h
    rw [Nat.pow_succ] at h2
    by_cases hx : x < a + 2 ^ k
    · exact allR_sound k a h.1 x h1 hx
    · exact allR_sound k (a + 2 ^ k) h.2 x (by omega) (by omega)
theorem last_chk : allR (fun d => Nat.blt d 2 || (2147483647 % d != 0)) 16 0 = true := by decide +kernel
theorem Pri_last : Pri 2147483647 := by
  refine ⟨by omega, fun d h1 h2 h3 => ?_⟩
  have hd : d < 46341 := by
    apply Classical.byContradiction
    intro hc
    have : (46341 : Int) * 46341 ≤ d * d := Int.mul_le_mul (by omega) (by omega) (by omega) (by omega)
    omega
  have := allR_sound 16 0 last_chk d.toNat (by omega) (by omega)
  simp only [Bool.or_eq_true, Nat.blt_eq, bne_iff_ne, ne_eq] at this
  rcases this with h | h
  · omega
  · apply h
    have e : ((2147483647 % d.toNat : Nat) : Int) = 2147483647 % d := by
      rw [Int.natCast_emod, Int.toNat_of_nonneg (by omega)]
      rfl
    omega

noncomputable def h12 : DL [.int .u64] → Option (DL [.int .u64, .int .i64]) := fun (x : Int × Unit) => when (0 ≤ x.1 ∧ x.1 < 18446744073709551616) (open Classical in if x.1 ≥ 2147483647 then (0, (1, ())) else (nxt Pri x.1, (0, ())))
theorem nxt_Pri {n : Int} (h : n < 2147483647) : n < nxt Pri n ∧ Pri (nxt Pri n) ∧ nxt Pri n ≤ 2147483647 ∧ ∀ k, n < k → k < nxt Pri n → ¬ Pri k := by
  obtain ⟨h1, h2, h3⟩ := nxt_spec (p := Pri) ⟨2147483647, h, Pri_last⟩
  refine ⟨h1, h2, ?_, h3⟩
  apply Classical.byContradiction
  intro hc
  exact h3 2147483647 h (by omega) Pri_last
theorem e14 {n : Int} (h : 0 ≤ n ∧ n < 18446744073709551616) : h14 (n, ()) = some (open Classical in decide (Pri n ∧ n ≤ 2147483647), ()) := when_pos h
theorem L12 (m : Int) (hm : Pri m) (hm1 : m ≤ 2147483647) : ∀ k : Nat, ∀ t : Int, 0 ≤ t → t + k = m → (∀ j, t ≤ j → j < m → ¬ Pri j) → g12_L4 t = some (m, (0, ())) := by
  intro k
  induction k with
  | zero =>
    intro t h0 h1 h2
    have : t = m := by omega
    subst this
    rw [g12_L4_eq, e14 (by omega), Option.bind_some]
    dsimp only
    rw [ifnot_f (by simp [hm, hm1])]
  | succ k ih =>
    intro t h0 h1 h2
    rw [g12_L4_eq, e14 (by omega), Option.bind_some]
    dsimp only
    have hp := h2 t (Int.le_refl _) (by omega)
    rw [ifnot_t (by simp [hp]), wu64 (by omega) (by omega)]
    exact ih (t + 1) (by omega) (by omega) fun j h3 h4 => h2 j (by omega) h4
theorem s12 : SigOk Try.prog 12 ⟨[.int .u64], [.int .u64, .int .i64], h12⟩ := ok12 fun (x : Int × Unit) r h => by
  obtain ⟨⟨a0, a1⟩, rfl⟩ := when_some h
  obtain ⟨n, u⟩ := x
  simp only at a0 a1
  show g12 (n, ()) = some (open Classical in if n ≥ 2147483647 then (0, (1, ())) else (nxt Pri n, (0, ())))
  rw [g12_eq]
  by_cases h1 : n ≥ 2147483647
  · rw [ifd_t h1, if_pos h1]
  · obtain ⟨e1, e2, e3, e4⟩ := nxt_Pri (n := n) (by omega)
    rw [ifd_f h1, if_neg h1, wu64 (by omega) (by omega)]
    exact L12 _ e2 e3 (nxt Pri n - (n + 1)).toNat (n + 1) (by omega) (by omega) fun j h3 h4 => e4 j (by omega) h4

/-! ### Inverses -/
/-- The cofactor of the extended Euclidean algorithm. -/
def eiv (x y u v : Int) : Int := if h : 0 < y then eiv y (x % y) v (u - x / y * v) else u
termination_by y.toNat
decreasing_by
  have := Int.emod_lt_of_pos x h
  have := Int.emod_nonneg x (show y ≠ 0 by omega)
  omega
def inv (a p : Int) : Int := (eiv p (a % p) 0 1 + p) % p
theorem eiv_zero (x u v : Int) : eiv x 0 u v = u := by
  rw [eiv]
  simp
theorem eiv_pos {x y u v : Int} (h : 0 < y) : eiv x y u v = eiv y (x % y) v (u - x / y * v) := by
  rw [eiv]
  simp [h]
noncomputable def h16 : DL [.int .u64, .int .u64] → Option (DL [.int .u64, .int .i64]) := fun (x : Int × Int × Unit) =>
  when ((0 ≤ x.1 ∧ x.1 < 18446744073709551616) ∧ 1 ≤ x.2.1 ∧ x.2.1 < 2147483648) (if x.1 % x.2.1 = 0 then (0, (10, ())) else (inv x.1 x.2.1, (0, ())))

/-- How the two cofactors stand to each other: e is 1 or -1. -/
theorem eiv_bound {p x y u v e : Int} (hp : 0 < p) (he : e = 1 ∨ e = -1) (hx : 1 ≤ x) (hy : 0 ≤ y) (hv : 0 ≤ e * v) (hu : 0 ≤ -e * u) (h : e * v * x + -e * u * y = p) (hub : -e * u ≤ p) : -p ≤ u ∧ u ≤ p ∧ -p ≤ v ∧ v ≤ p := by
  have h1 : 0 ≤ -e * u * y := Int.mul_nonneg hu hy
  have h2 : e * v * 1 ≤ e * v * x := Int.mul_le_mul_of_nonneg_left hx hv
  rcases he with rfl | rfl <;> omega

theorem L16 (p : Int) (hp0 : 0 < p) (hp : p < 2147483648) : ∀ k : Nat, ∀ x y u v e : Int, y.toNat ≤ k → 0 ≤ y → y < x → x ≤ p → (e = 1 ∨ e = -1) → 0 ≤ e * v → 0 ≤ -e * u → e * v * x + -e * u * y = p → -e * u ≤ p →
    g16_L4 p x y u v = some ((eiv x y u v + p) % p, (0, ())) := by
  intro k
  induction k with
  | zero =>
    intro x y u v e hk hy hyx hxp he hv hu h hub
    obtain ⟨b1, b2, b3, b4⟩ := eiv_bound hp0 he (by omega) hy hv hu h hub
    have : y = 0 := by omega
    subst this
    rw [g16_L4_eq, ifn_f rfl, wi64 (x := p) (by omega) (by omega), ife_f (by omega), wi64 (x := u + p) (by omega) (by omega), tm (by omega), eiv_zero]
    have q1 := Int.emod_nonneg (u + p) (show p ≠ 0 by omega)
    have q2 := Int.emod_lt_of_pos (u + p) hp0
    rw [wu64 q1 (by omega)]
  | succ k ih =>
    intro x y u v e hk hy hyx hxp he hv hu h hub
    obtain ⟨b1, b2, b3, b4⟩ := eiv_bound hp0 he (by omega) hy hv hu h hub
    rw [g16_L4_eq]
    by_cases h0 : y = 0
    · subst h0
      rw [ifn_f rfl, wi64 (x := p) (by omega) (by omega), ife_f (by omega), wi64 (x := u + p) (by omega) (by omega), tm (by omega), eiv_zero]
      have q1 := Int.emod_nonneg (u + p) (show p ≠ 0 by omega)
      have q2 := Int.emod_lt_of_pos (u + p) hp0
      rw [wu64 q1 (by omega)]
    · have hyp : 0 < y := by omega
      obtain ⟨q0, q1, m0, m1⟩ := quot_le (a := x) (b := y) (by omega) hyp
      have me := Int.mul_ediv_add_emod x y
      have hqy : 0 ≤ x / y * y ∧ x / y * y ≤ x := by
        rw [Int.mul_comm]
        have := Int.mul_nonneg (show 0 ≤ y by omega) q0
        omega
      have hv' : 0 ≤ (-e) * (u - x / y * v) := by
        have : 0 ≤ x / y * (e * v) := Int.mul_nonneg q0 hv
        have e2 : (-e) * (u - x / y * v) = -e * u + x / y * (e * v) := by grind
        omega
      have hu' : 0 ≤ - -e * v := by rw [Int.neg_neg]; exact hv
      have hsum : (-e) * (u - x / y * v) * y + - -e * v * (x % y) = p := by
        have e3 : x % y = x - y * (x / y) := by omega
        rw [e3]
        clear ih hv' hu' hqy me m0 m1 q0 q1 b1 b2 b3 b4 hub hu hv hyx hxp e3
        grind
      have hub' : - -e * v ≤ p := by
        rw [Int.neg_neg]
        rcases he with rfl | rfl <;> omega
      obtain ⟨c1, c2, c3, c4⟩ := eiv_bound hp0 (e := -e) (by rcases he with rfl | rfl <;> simp) (by omega) m0 hv' hu' hsum hub'
      have hqv : -2 * p ≤ x / y * v ∧ x / y * v ≤ 2 * p := by omega
      rw [ifn_t h0, ife_f h0, td (by omega), wi64 (x := x / y) (by omega) (by omega), wi64 (x := x / y * y) (by omega) (by omega), wi64 (x := x / y * v) (by omega) (by omega), wi64 (x := x - x / y * y) (by omega) (by omega), wi64 (x := u - x / y * v) (by omega) (by omega), eiv_pos hyp, show x - x / y * y = x % y by rw [Int.mul_comm (x / y)]; omega]
      exact ih y (x % y) v (u - x / y * v) (-e) (by omega) m0 m1 (by omega) (by rcases he with rfl | rfl <;> simp) hv' hu' hsum hub'
theorem s16 : SigOk Try.prog 16 ⟨[.int .u64, .int .u64], [.int .u64, .int .i64], h16⟩ := leaf (an := an16) Try.func16 rfl rfl fun (x : Int × Int × Unit) r h => by
  obtain ⟨⟨ha, p0, p1⟩, rfl⟩ := when_some h
  obtain ⟨a, p, u⟩ := x
  simp only at ha p0 p1
  show g16 (a, p, ()) = some (if a % p = 0 then (0, (10, ())) else (inv a p, (0, ())))
  have m0 := Int.emod_nonneg a (show p ≠ 0 by omega)
  have m1 := Int.emod_lt_of_pos a (show 0 < p by omega)
  rw [g16_eq, ife_f (by omega), tm ha.1, wi64 (x := a % p) (by omega) (by omega), wi64 (x := p) (by omega) (by omega)]
  by_cases h0 : a % p = 0
  · rw [ife_t h0, if_pos h0]
  · rw [ife_f h0, if_neg h0]
    exact L16 p (by omega) (by omega) _ p (a % p) 0 1 1 (Nat.le_refl _) m0 m1 (Int.le_refl _) (.inl rfl) (by omega) (by omega) (by omega) (by omega)
end Go.Refl.S3
