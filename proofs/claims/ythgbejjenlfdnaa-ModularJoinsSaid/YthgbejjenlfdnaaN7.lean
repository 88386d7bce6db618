/-
  ModularJoins: the function answers true.
-/
import Derived.Test.YthgbejjenlfdnaaP18
set_option linter.unusedVariables false
set_option linter.unusedSimpArgs false
set_option maxRecDepth 100000
namespace Go.Refl.S3
open Go Go.Refl Go.Proofs

theorem e26n {a p : List Int} (ha : WU a) (hp : WU p) (hs : p.length < 1000) (hl : a.length ≠ p.length) : h26 (a, (p, ())) = some (chiR none) := by
  show when (WU a ∧ WU p ∧ p.length < 1000) (open Classical in if a.length ≠ p.length then chiR none else chiR (chi a p 0 1)) = _
  rw [when_pos ⟨ha, hp, hs⟩, if_pos hl]
theorem WU.append {a b : List Int} (ha : WU a) (hb : WU b) : WU (a ++ b) := fun w hw => by
  rcases List.mem_append.1 hw with h | h
  · exact ha w h
  · exact hb w h
theorem drop_cons (l : List Int) (i : Nat) (h : i < l.length) : l.drop i = l.getD i 0 :: l.drop (i + 1) := by
  rw [List.drop_eq_getElem_cons h, List.getD_eq_getElem?_getD, List.getElem?_eq_getElem h]
  rfl

theorem L7b (k : Nat) (hk : k ≤ 4) (A L : List Int) (hA : A.length = k) (hL : L.length = k) (wA : WU A) (wL : WU L) (hq : ∀ q ∈ L, Pri q ∧ q < 2147483648) (u : Int) (su : Sm u) (hzip : ∀ x ∈ A.zip L, x.2 ∣ u - x.1) (r : Int × Int) (hchi : chi A L 0 1 = some r) :
    ∀ j i : Nat, i + j = k → g7_L19 true (k : Int) L (i : Int) A (enc u).1 (enc u).2.1 = some (true, ())
  | 0, i, hi => by
    have w1 : WU [1] := WU.cons (by omega) WU.nil
    have w12 : WU [1, 2] := WU.cons (by omega) (WU.cons (by omega) WU.nil)
    have w22 : WU [2, 2] := WU.cons (by omega) (WU.cons (by omega) WU.nil)
    have w4 : WU [4] := WU.cons (by omega) WU.nil
    have E1 : h26 (A ++ List.set (List.replicate 1 (0 : Int)) 0 1, (L, ())) = some (chiR none) := e26n (a := A ++ [1]) (wA.append w1) wL (by omega) (by rw [List.length_append, hA, hL]; simp)
    have E2 : h26 ((List.replicate 0 (0 : Int) ++ A) ++ List.set (List.set (List.replicate 2 (0 : Int)) 0 1) 1 2, ((List.replicate 0 (0 : Int) ++ L) ++ List.set (List.set (List.replicate 2 (0 : Int)) 0 2) 1 2, ())) = some (chiR none) := by
      refine (e26 (a := A ++ [1, 2]) (p := L ++ [2, 2]) (wA.append w12) (wL.append w22) ?_ ?_).trans ?_
      · rw [List.length_append, hL]; simp; omega
      · rw [List.length_append, List.length_append, hA, hL]; rfl
      · rw [chi_append A L [1, 2] [2, 2] 0 1 (by omega), hchi, Option.bind_some, chi_twos]
    have E3 : h26 (List.set (List.replicate 1 (0 : Int)) 0 1, (List.set (List.replicate 1 (0 : Int)) 0 4, ())) = some (chiR none) := by
      refine (e26 (a := [1]) (p := [4]) w1 w4 (by decide) rfl).trans ?_
      rw [chi_four]
    rw [g7_L19_eq, ifd_f (by omega), ifd_t (by omega), E1, Option.bind_some, ifd_t (by omega), ifd_t (by rw [List.length_append, hA]; simp; omega), ifd_t (by omega), ifd_t (by rw [List.length_append, hL]; simp; omega), E2, Option.bind_some, E3, Option.bind_some]
    unfold chiR
    dsimp only
    rw [ife_t rfl, ife_t rfl, ife_t rfl]
  | j + 1, i, hi => by
    have hm : L.getD i 0 ∈ L := by
      rw [List.getD_eq_getElem?_getD, List.getElem?_eq_getElem (by omega)]
      exact List.getElem_mem _
    obtain ⟨q1, q2⟩ := hq _ hm
    have q3 := q1.1
    have hz := emod_of_dvd (hzip _ (zip_get A L i (by omega) (by omega)))
    simp only at hz
    have hAi := wA.getD i
    have E : h22 (((enc u).1, ((enc u).2.1, ())), (L.getD i 0, ())) = some (u % L.getD i 0, ()) := e22 su (by omega)
    have ih := L7b k hk A L hA hL wA wL hq u su hzip r hchi j (i + 1) (by omega)
    rw [g7_L19_eq, ifd_t (by omega), ifdd_t (by omega) (by omega), Int.toNat_natCast, E, Option.bind_some, ifdd_t (by omega) (by omega), ifdd_t (by omega) (by omega), ife_f (by omega)]
    dsimp only
    rw [tm hAi.1, ifn_f hz, wi64 (by omega) (by omega)]
    exact ih

theorem L7a (k : Nat) (hk : k ≤ 4) (A L : List Int) (hA : A.length = k) (hL : L.length = k) (wA : WU A) (wL : WU L) (hq : ∀ q ∈ L, Pri q ∧ q < 2147483648) (u : Int) (hu0 : 0 ≤ u) (hu1 : u < prd L) (hm4 : 0 < prd L ∧ prd L ≤ P 4)
    (hzip : ∀ x ∈ A.zip L, x.2 ∣ u - x.1) (hchi : chi A L 0 1 = some (u, prd L)) (hrev : chi A.reverse L.reverse 0 1 = some (u, prd L)) :
    ∀ j : Nat, j ≤ k → g7_L11 true (k : Int) L 0 ((j : Int) - 1) A (enc u).1 (enc u).2.1 (enc (prd L)).1 (enc (prd L)).2.1 (enc (prd (L.drop j))).1 (enc (prd (L.drop j))).2.1 (A.drop j).reverse (L.drop j).reverse = some (true, ())
  | 0, _ => by
    have su : Sm u := Sm.of (k := 4) (by omega) (by omega)
    have sm : Sm (prd L) := Sm.of (k := 5) (by have := P_pos 4; rw [P_succ]; omega) (by omega)
    have E26 : h26 (A.reverse, (L.reverse, ())) = some (chiR (some (u, prd L))) := by
      rw [e26 (fun w hw => wA w (List.mem_reverse.1 hw)) (fun w hw => wL w (List.mem_reverse.1 hw)) (by rw [List.length_reverse]; omega) (by rw [List.length_reverse, List.length_reverse]; omega), hrev]
    have h29' : ∀ z, Sm z → h29 (((enc z).1, ((enc z).2.1, ())), ()) = some (true, ()) := fun z hz => by
      show when (Is (enc z)) (true, ()) = _
      rw [when_pos (Is.enc hz)]
    have E30 : ∀ y, Sm y → h30 (((enc y).1, ((enc y).2.1, ())), (((enc y).1, ((enc y).2.1, ())), ())) = some (true, ()) := fun y hy => (e30 hy hy).trans (by simp)
    have E31 : h31 (((enc u).1, ((enc u).2.1, ())), ()) = some (sgn u, ()) := e31 su
    have E32 : h32 (((enc u).1, ((enc u).2.1, ())), (((enc (prd L)).1, ((enc (prd L)).2.1, ())), ())) = some (cmpI u (prd L), ()) := e32 su sm
    rw [List.drop_zero, List.drop_zero, g7_L11_eq, ifd_f (by omega), E26, Option.bind_some, ifn_f rfl]
    unfold chiR
    dsimp only
    rw [ifn_f rfl, h29' u su, Option.bind_some]
    dsimp only
    rw [ifnot_f rfl, E30 _ sm, Option.bind_some]
    dsimp only
    rw [ifnot_f rfl, E30 _ su, Option.bind_some]
    dsimp only
    rw [ifnot_f rfl, Option.bind_some]
    dsimp only
    rw [ifnot_f rfl, E31, Option.bind_some]
    dsimp only
    rw [ifd_f (fun h => by have := sgn_neg.1 h; omega), E32, Option.bind_some]
    dsimp only
    rw [ifd_f (by unfold cmpI; rw [if_pos (by omega)]; omega)]
    exact L7b k hk A L hA hL wA wL hq u su hzip _ hchi k 0 (by omega)
  | j + 1, hj => by
    have hm : L.getD j 0 ∈ L := by
      rw [List.getD_eq_getElem?_getD, List.getElem?_eq_getElem (by omega)]
      exact List.getElem_mem _
    obtain ⟨q1, q2⟩ := hq _ hm
    have q3 := q1.1
    have hb : ∀ i, 0 < prd (L.drop i) ∧ prd (L.drop i) ≤ P (L.drop i).length := fun i => prd_bound _ fun q hq' => by
      have := hq q (List.mem_of_mem_drop hq')
      have := this.1.1
      omega
    have s1 : Sm (prd (L.drop (j + 1))) := by
      obtain ⟨b1, b2⟩ := hb (j + 1)
      have b3 : P (L.drop (j + 1)).length ≤ P 4 := P_le (by rw [List.length_drop]; omega)
      exact Sm.of (k := 5) (by have := P_pos 4; rw [P_succ]; omega) (by omega)
    have E27 : h27 (L.getD j 0, ()) = some (enc (L.getD j 0), ()) := e27 (by omega)
    have E28 : h28 (((enc (prd (L.drop (j + 1)))).1, ((enc (prd (L.drop (j + 1)))).2.1, ())), (enc (L.getD j 0), ())) = some (enc (prd (L.drop j)), ()) := by
      refine (HI2_eq s1 (Sm.small (by omega))).trans ?_
      rw [drop_cons L j (by omega), prd, Int.mul_comm]
    have ih := L7a k hk A L hA hL wA wL hq u hu0 hu1 hm4 hzip hchi hrev j (by omega)
    rw [drop_cons L j (by omega), drop_cons A j (by omega), List.reverse_cons, List.reverse_cons, ← drop_cons L j (by omega)] at ih
    rw [g7_L11_eq, show ((j + 1 : Nat) : Int) - 1 = (j : Int) by omega, ifd_t (by omega), ifdd_t (by omega) (by omega), Int.toNat_natCast, wi64 (by omega) (by omega), E27, Option.bind_some]
    dsimp only
    rw [E28, Option.bind_some, ifdd_t (by omega) (by omega), ifd_t (by rw [List.length_reverse, List.length_drop]; simp only [List.length_set, List.length_replicate]; omega), ifdd_t (by omega) (by omega), ifd_t (by rw [List.length_reverse, List.length_drop]; simp only [List.length_set, List.length_replicate]; omega), wi64 (by omega) (by omega)]
    exact ih

noncomputable def h7 : DL [.arr 4 (.int .u64), .int .u32, .int .u8] → Option (DL [.bool]) := fun (x : List Int × Int × Int × Unit) => when ((x.1.length = 4 ∧ WU x.1) ∧ (0 ≤ x.2.1 ∧ x.2.1 < 4294967296) ∧ 0 ≤ x.2.2.1 ∧ x.2.2.1 ≤ 255) (true, ())
theorem s7 : SigOk Try.prog 7 ⟨[.arr 4 (.int .u64), .int .u32, .int .u8], [.bool], h7⟩ := ok7 fun (x : List Int × Int × Int × Unit) r h => by
  obtain ⟨⟨⟨ha, wa⟩, hb, hc⟩, rfl⟩ := when_some h
  obtain ⟨a, b, c, u⟩ := x
  simp only at ha wa hb hc
  show g7 (a, b, c, ()) = some (true, ())
  have hroom : Room (c % 5).toNat (b % 2147000000) := Room_le (k := 8) (by omega) (Room_eight (by omega) (by omega))
  obtain ⟨c1, c2, c3⟩ := chs_spec _ _ hroom
  have hc5 : 0 ≤ c % 5 ∧ c % 5 < 1000 := by omega
  have E25 : h25 (b, (c % 5, ())) = some (chs (c % 5).toNat (b % 2147000000), ()) := when_pos ⟨hb.1, hc5.1, hc5.2, hroom⟩
  obtain ⟨k, hk⟩ : ∃ k : Nat, c % 5 = k := ⟨(c % 5).toNat, by omega⟩
  rw [g7_eq, e10, Option.bind_some]
  dsimp only
  rw [ifnot_f rfl, tm hc.1, wi64 (x := c % 5) (by omega) (by omega), E25, Option.bind_some]
  dsimp only
  have hk4 : k ≤ 4 := by omega
  clear E25 hroom
  rw [hk] at c1 c2 c3 ⊢
  rw [Int.toNat_natCast] at c1 c2 c3 ⊢
  generalize chs k (b % 2147000000) = L at *
  have hA : (List.take k a).length = k := by rw [List.length_take]; omega
  have wA : WU (List.take k a) := fun w hw => wa w (List.mem_of_mem_take hw)
  generalize hAe : List.take k a = A at *
  have hq : ∀ q ∈ L, Pri q ∧ q < 2147483648 := fun q hq => by
    obtain ⟨x1, _, x3⟩ := c1 q hq
    exact ⟨x1, by omega⟩
  have wL : WU L := fun w hw => by
    obtain ⟨x1, x2⟩ := hq w hw
    have := x1.1
    omega
  obtain ⟨v, t1, t2, t3, t4, t5⟩ := chi_turn (a := A) (p := L) (by omega) hq c2
  have hpb := prd_bound L fun q hq' => by
    obtain ⟨x1, x2⟩ := hq q hq'
    have := x1.1
    omega
  have hp4 : P L.length ≤ P 4 := P_le (by omega)
  have E26 : h26m (List.replicate 0 (0 : Int) ++ A) 0 (List.replicate 0 (0 : Int) ++ A).length (L, ()) = some (chiR (some (v, prd L)), A) := by
    refine (e26m (a := A) (p := L) wA wL (by omega) (by omega)).trans ?_
    rw [t1]
  rw [ifdd_t (by omega) (by omega), ifd_t (by omega), E26, Option.bind_some, e27 (by omega), Option.bind_some, wi64 (by omega) (by omega)]
  have hl := L7a k hk4 A L hA c3 wA wL hq v t3 t4 ⟨hpb.1, by omega⟩ t5 t1 t2 k (Nat.le_refl _)
  rw [List.drop_eq_nil_of_le (by omega), List.drop_eq_nil_of_le (by omega)] at hl
  exact hl
end Go.Refl.S3
