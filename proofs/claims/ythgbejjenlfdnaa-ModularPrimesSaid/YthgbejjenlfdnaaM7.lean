/-
  Plain laws: the Chinese remainder doesn't depend on the order.
-/
import Derived.Test.YthgbejjenlfdnaaQ18
set_option linter.unusedVariables false
set_option linter.unusedSimpArgs false
set_option maxRecDepth 100000
namespace Go.Refl.S3
open Go Go.Refl Go.Proofs

theorem mr4 : mr 4 = false := by decide +kernel
theorem chi_append : ∀ (l p l2 p2 : List Int) (u m : Int), l.length = p.length → chi (l ++ l2) (p ++ p2) u m = (chi l p u m).bind fun r => chi l2 p2 r.1 r.2
  | [], [], l2, p2, u, m, _ => by rw [List.nil_append, List.nil_append, show chi [] [] u m = some (u, m) by simp only [chi], Option.bind_some]
  | [], q :: p, _, _, _, _, h => by simp at h
  | a :: l, [], _, _, _, _, h => by simp at h
  | a :: l, q :: p, l2, p2, u, m, h => by
    rw [List.cons_append, List.cons_append]
    simp only [chi]
    split
    · rfl
    · split
      · rfl
      · exact chi_append l p l2 p2 _ _ (by simpa using h)
theorem chi_twos (u m : Int) : chi [1, 2] [2, 2] u m = none := by
  simp only [chi]
  rw [if_neg (by rw [mr2]; simp)]
  split
  · rfl
  · rw [if_neg (by rw [mr2]; simp), if_pos (by omega)]
theorem chi_four : chi [1] [4] 0 1 = none := by
  simp only [chi]
  rw [if_pos mr4]
theorem prd_append : ∀ a b : List Int, prd (a ++ b) = prd a * prd b
  | [], b => by rw [List.nil_append, prd, Int.one_mul]
  | x :: a, b => by rw [List.cons_append, prd, prd, prd_append a b, Int.mul_assoc]
theorem prd_reverse : ∀ a : List Int, prd a.reverse = prd a
  | [] => rfl
  | x :: a => by
    rw [List.reverse_cons, prd_append, prd_reverse a]
    simp only [prd]
    rw [Int.mul_one, Int.mul_comm]
theorem zip_rev_mem : ∀ (l p : List Int) (x : Int × Int), l.length = p.length → x ∈ l.zip p → x ∈ l.reverse.zip p.reverse
  | [], _, x, _, h => by simp at h
  | a :: l, [], x, h, _ => by simp at h
  | a :: l, q :: p, x, h, hx => by
    have hl : l.length = p.length := by simpa using h
    rw [List.reverse_cons, List.reverse_cons, List.zip_append (by rw [List.length_reverse, List.length_reverse, hl])]
    rw [List.zip_cons_cons] at hx
    rcases List.mem_cons.1 hx with rfl | hx
    · exact List.mem_append_right _ (by simp)
    · exact List.mem_append_left _ (zip_rev_mem l p x hl hx)
theorem zip_ex : ∀ (l p : List Int) (q : Int), l.length = p.length → q ∈ p → ∃ w, (w, q) ∈ l.zip p
  | [], [], q, _, h => by cases h
  | a :: l, [], q, h, _ => by simp at h
  | [], r :: p, q, h, _ => by simp at h
  | a :: l, r :: p, q, h, hq => by
    rw [List.zip_cons_cons]
    rcases List.mem_cons.1 hq with rfl | hq
    · exact ⟨a, List.mem_cons_self⟩
    · obtain ⟨w, hw⟩ := zip_ex l p q (by simpa using h) hq
      exact ⟨w, List.mem_cons_of_mem _ hw⟩
theorem zip_get : ∀ (l p : List Int) (i : Nat), l.length = p.length → i < p.length → (l.getD i 0, p.getD i 0) ∈ l.zip p
  | [], [], i, _, h => by simp at h
  | a :: l, [], i, h, _ => by simp at h
  | [], r :: p, i, h, _ => by simp at h
  | a :: l, r :: p, 0, h, _ => by rw [List.zip_cons_cons]; exact List.mem_cons_self
  | a :: l, r :: p, i + 1, h, hi => by
    rw [List.zip_cons_cons]
    exact List.mem_cons_of_mem _ (by simpa using zip_get l p i (by simpa using h) (by simpa using hi))
theorem chi_turn {a p : List Int} (hl : a.length = p.length) (h : ∀ q ∈ p, Pri q ∧ q < 2147483648) (hn : p.Nodup) :
    ∃ u, chi a p 0 1 = some (u, prd p) ∧ chi a.reverse p.reverse 0 1 = some (u, prd p) ∧ 0 ≤ u ∧ u < prd p ∧ ∀ x ∈ a.zip p, x.2 ∣ u - x.1 := by
  have one : ∀ q : Int, Pri q → (1 : Int) % q ≠ 0 := fun q hq => by
    have := hq.1
    rw [Int.emod_eq_of_lt (by omega) (by omega)]
    omega
  obtain ⟨u, r1, r2, r3, _, r5⟩ := chi_spec a p 0 1 hl (fun q hq => ⟨(h q hq).1, (h q hq).2, one q (h q hq).1⟩) hn (by omega) (by omega)
  obtain ⟨v, s1, s2, s3, _, s5⟩ := chi_spec a.reverse p.reverse 0 1 (by rw [List.length_reverse, List.length_reverse, hl]) (fun q hq => by
    have hq' := h q (List.mem_reverse.1 hq)
    exact ⟨hq'.1, hq'.2, one q hq'.1⟩) (List.pairwise_reverse.2 (List.Pairwise.imp (fun h e => h e.symm) hn)) (by omega) (by omega)
  rw [prd_reverse, Int.one_mul] at s1 s3
  rw [Int.one_mul] at r1 r3
  have hd : prd p ∣ u - v := prd_dvd p _ (fun q hq => (h q hq).1) hn fun q hq => by
    obtain ⟨w, hw⟩ := zip_ex a p q hl hq
    obtain ⟨c, hc⟩ := r5 _ hw
    obtain ⟨c', hc'⟩ := s5 _ (zip_rev_mem a p _ hl hw)
    simp only at hc hc'
    refine ⟨c - c', ?_⟩
    grind
  have huv : u = v := by
    have := emod_of_dvd hd
    rw [Int.emod_eq_of_lt r2 r3, Int.emod_eq_of_lt s2 s3] at this
    exact this
  subst huv
  exact ⟨u, r1, s1, r2, r3, r5⟩
end Go.Refl.S3
