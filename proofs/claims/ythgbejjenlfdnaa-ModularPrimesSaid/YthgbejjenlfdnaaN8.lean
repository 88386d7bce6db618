import Derived.Test.YthgbejjenlfdnaaM5
import Derived.Test.YthgbejjenlfdnaaQ17
import Derived.KernelRfl
/-
  Plain laws: the Chinese remainder of distinct primes.
-/
set_option linter.unusedVariables false
set_option linter.unusedSimpArgs false
set_option maxRecDepth 100000
namespace Go.Refl.S3
open Go Go.Refl Go.Proofs

theorem chs_spec : ∀ (k : Nat) (p : Int), Room k p → (∀ q ∈ chs k p, Pri q ∧ p < q ∧ q ≤ 2147483647) ∧ (chs k p).Nodup ∧ (chs k p).length = k
  | 0, p, _ => ⟨(fun q h => by simp only [chs] at h; cases h), (by simp only [chs]; exact List.nodup_nil), rfl⟩
  | k + 1, p, h => by
    obtain ⟨n1, n2, n3, _⟩ := nxt_Pri h.2.1
    obtain ⟨c1, c2, c3⟩ := chs_spec k _ h.2.2
    simp only [chs]
    refine ⟨fun q hq => ?_, List.nodup_cons.2 ⟨fun hm => ?_, c2⟩, by rw [List.length_cons, c3]⟩
    · rcases List.mem_cons.1 hq with rfl | hq
      · exact ⟨n2, n1, n3⟩
      · obtain ⟨a, b, c⟩ := c1 q hq
        exact ⟨a, by omega, c⟩
    · have := (c1 _ hm).2.1
      omega

/-! ### Products of distinct primes -/
theorem Pri_ne {p q : Int} (hp : Pri p) (hq : Pri q) (h : p ≠ q) : q % p ≠ 0 := by
  intro hz
  have := hp.1
  rcases Pri_dvd hq (Int.dvd_of_emod_eq_zero hz) (by omega) with e | e
  · omega
  · exact h e
theorem prd_mod {q : Int} (hq : Pri q) : ∀ p : List Int, (∀ x ∈ p, x % q ≠ 0) → prd p % q ≠ 0 := fun p h => prd_ne hq p h
theorem Pri_co {p a : Int} (hp : Pri p) (h : a % p ≠ 0) : Int.gcd a p = 1 := by
  have p2 := hp.1
  have hg : 0 < Int.gcd a p := Nat.gcd_pos_of_pos_right _ (by omega)
  rcases Pri_dvd hp (d := ((Int.gcd a p : Nat) : Int)) (Int.gcd_dvd_right ..) (by omega) with h1 | h1
  · omega
  · have h2 : ((Int.gcd a p : Nat) : Int) ∣ a := Int.gcd_dvd_left ..
    rw [h1] at h2
    exact (h (Int.emod_eq_zero_of_dvd h2)).elim
theorem prd_dvd : ∀ (p : List Int) (z : Int), (∀ q ∈ p, Pri q) → p.Nodup → (∀ q ∈ p, q ∣ z) → prd p ∣ z
  | [], z, _, _, _ => ⟨z, by simp [prd]⟩
  | q :: p, z, h1, h2, h3 => by
    obtain ⟨w, hw⟩ := h3 q List.mem_cons_self
    have hq := h1 q List.mem_cons_self
    obtain ⟨v, hv⟩ := prd_dvd p w (fun x hx => h1 x (List.mem_cons_of_mem _ hx)) (List.nodup_cons.1 h2).2 (fun x hx => by
      have hx1 := h1 x (List.mem_cons_of_mem _ hx)
      refine Int.dvd_of_emod_eq_zero (Pri_mul hx1 ?_ (Pri_ne hx1 hq (fun e => (List.nodup_cons.1 h2).1 (e ▸ hx))))
      rw [← hw]
      exact Int.emod_eq_zero_of_dvd (h3 x (List.mem_cons_of_mem _ hx)))
    exact ⟨v, by rw [hw, hv, prd]; grind⟩
theorem prd_gcd {d : Int} : ∀ p : List Int, (∀ q ∈ p, Pri q ∧ d % q ≠ 0) → Int.gcd d (prd p) = 1
  | [], _ => by simp [prd]
  | q :: p, h => by
    have h1 := prd_gcd p fun x hx => h x (List.mem_cons_of_mem _ hx)
    obtain ⟨hq, hd⟩ := h q List.mem_cons_self
    have h2 : Int.gcd d q = 1 := Pri_co hq hd
    unfold Int.gcd at *
    rw [prd, Int.natAbs_mul]
    exact Nat.Coprime.mul_right h2 h1
theorem prd_bound : ∀ p : List Int, (∀ q ∈ p, 0 < q ∧ q < 4294967296) → 0 < prd p ∧ prd p ≤ P p.length
  | [], _ => by simp [prd, P]
  | q :: p, h => by
    obtain ⟨b1, b2⟩ := prd_bound p fun x hx => h x (List.mem_cons_of_mem _ hx)
    obtain ⟨q1, q2⟩ := h q List.mem_cons_self
    rw [prd, List.length_cons, P_succ]
    exact ⟨Int.mul_pos q1 b1, Int.mul_le_mul (by omega) b2 (by omega) (by omega)⟩

/-! ### The Chinese remainder -/
theorem chi_spec : ∀ (l p : List Int) (u m : Int), l.length = p.length → (∀ q ∈ p, Pri q ∧ q < 2147483648 ∧ m % q ≠ 0) → p.Nodup → 0 ≤ u → u < m →
    ∃ u', chi l p u m = some (u', m * prd p) ∧ 0 ≤ u' ∧ u' < m * prd p ∧ m ∣ u' - u ∧ ∀ x ∈ l.zip p, x.2 ∣ u' - x.1
  | [], [], u, m, _, _, _, h0, h1 => ⟨u, by simp [chi, prd], h0, by simpa [prd] using h1, ⟨0, by omega⟩, fun x h => by cases h⟩
  | [], q :: p, u, m, hl, _, _, _, _ => by simp at hl
  | a :: l, [], u, m, hl, _, _, _, _ => by simp at hl
  | a :: l, q :: p, u, m, hl, h, hn, h0, h1 => by
    obtain ⟨hq, hq1, hmq⟩ := h q List.mem_cons_self
    have hq2 := hq.1
    have hrange : 0 ≤ (a % q + q - u % q) % q * inv (m % q) q % q ∧ (a % q + q - u % q) % q * inv (m % q) q % q < q := ⟨Int.emod_nonneg _ (by omega), Int.emod_lt_of_pos _ (by omega)⟩
    have hinv := inv_mul hq hmq
    rw [← inv_emod] at hinv
    -- the new one
    have hnew : q ∣ (u + m * ((a % q + q - u % q) % q * inv (m % q) q % q)) - a := by
      generalize inv (m % q) q = i at *
      have e1 : q ∣ m * ((a % q + q - u % q) % q * i % q) - m * ((a % q + q - u % q) * i) := by
        apply dvd_of_emod
        rw [Int.mul_emod, Int.emod_emod, Int.mul_emod ((a % q + q - u % q) % q), Int.emod_emod, ← Int.mul_emod (a % q + q - u % q), ← Int.mul_emod]
      have e2 : q ∣ i * m - 1 := dvd_of_emod (by rw [hinv]; exact (Int.emod_eq_of_lt (by omega) (by omega)).symm)
      obtain ⟨c1, hc1⟩ := e1
      obtain ⟨c2, hc2⟩ := e2
      have e3 := Int.mul_ediv_add_emod a q
      have e4 := Int.mul_ediv_add_emod u q
      refine ⟨c1 + (a % q + q - u % q) * c2 + 1 - a / q + u / q, ?_⟩
      generalize m * ((a % q + q - u % q) % q * i % q) = t at *
      generalize a / q = A at *
      generalize a % q = A' at *
      generalize u / q = B at *
      generalize u % q = B' at *
      clear hinv hrange h hn hl hq hq1 hq2 hmq h0 h1
      grind
    have hst : 0 ≤ u + m * ((a % q + q - u % q) % q * inv (m % q) q % q) ∧ u + m * ((a % q + q - u % q) % q * inv (m % q) q % q) < m * q := by
      generalize (a % q + q - u % q) % q * inv (m % q) q % q = t at *
      have k1 : 0 ≤ m * t := Int.mul_nonneg (by omega) hrange.1
      have k2 : m * t ≤ m * (q - 1) := Int.mul_le_mul_of_nonneg_left (by omega) (by omega)
      have k3 : m * (q - 1) = m * q - m := by grind
      omega
    generalize hU : u + m * ((a % q + q - u % q) % q * inv (m % q) q % q) = U at *
    obtain ⟨u', r1, r2, r3, r4, r5⟩ := chi_spec l p U (m * q) (by simpa using hl) (fun x hx => by
      obtain ⟨x1, x2, x3⟩ := h x (List.mem_cons_of_mem _ hx)
      exact ⟨x1, x2, mul_ne x1 x3 (Pri_ne x1 hq (fun e => (List.nodup_cons.1 hn).1 (e ▸ hx)))⟩) (List.nodup_cons.1 hn).2 hst.1 hst.2
    have hassoc : m * prd (q :: p) = m * q * prd p := by rw [prd]; grind
    refine ⟨u', ?_, r2, by rw [hassoc]; exact r3, ?_, fun x hx => ?_⟩
    · rw [hassoc, ← r1, ← hU]
      simp only [chi]
      rw [if_neg (by rw [mr_pri hq hq1]; simp), if_neg hmq]
    · obtain ⟨c, hc⟩ := r4
      refine ⟨q * c + ((a % q + q - u % q) % q * inv (m % q) q % q), ?_⟩
      generalize (a % q + q - u % q) % q * inv (m % q) q % q = t at *
      grind
    · rw [List.zip_cons_cons] at hx
      rcases List.mem_cons.1 hx with rfl | hx
      · obtain ⟨c, hc⟩ := r4
        obtain ⟨c', hc'⟩ := hnew
        exact ⟨m * c + c', by grind⟩
      · exact r5 x hx
end Go.Refl.S3
/-
  PRINTED BY PROGRAM: what the bodies of some functions compute, loop by loop; each equation is checked by the kernel.
-/
set_option linter.unusedVariables false
set_option maxRecDepth 100000
namespace Go.Refl.S3
open Go Go.Refl Go.Proofs

noncomputable def cx8 : Cx := { types := T, sigs := [(10, ⟨[], [.bool], h10⟩), (15, ⟨[(.pair (.int .i8) (.pair (.int .i8) (.pair (.int .u8) .unit)))], [(.pair (.pair .bool (.pair (.sl (.int .u32)) .unit)) (.pair (.pair .bool (.pair (.sl (.int .u32)) .unit)) .unit))], h15⟩), (19, ⟨[(.pair (.pair .bool (.pair (.sl (.int .u32)) .unit)) (.pair (.pair .bool (.pair (.sl (.int .u32)) .unit)) .unit)), (.int .u64)], [(.int .u64), (.int .i64)], h19⟩), (25, ⟨[(.int .u32), (.int .i64)], [(.sl (.int .u64))], h25⟩), (26, ⟨[(.sl (.int .u64)), (.sl (.int .u64))], [(.pair .bool (.pair (.sl (.int .u32)) .unit)), (.pair .bool (.pair (.sl (.int .u32)) .unit)), (.int .i64)], h26⟩), (29, ⟨[(.pair .bool (.pair (.sl (.int .u32)) .unit))], [.bool], h29⟩), (30, ⟨[(.pair .bool (.pair (.sl (.int .u32)) .unit)), (.pair .bool (.pair (.sl (.int .u32)) .unit))], [.bool], h30⟩), (31, ⟨[(.pair .bool (.pair (.sl (.int .u32)) .unit))], [(.int .i64)], h31⟩), (32, ⟨[(.pair .bool (.pair (.sl (.int .u32)) .unit)), (.pair .bool (.pair (.sl (.int .u32)) .unit))], [(.int .i64)], h32⟩), (33, ⟨[(.pair .bool (.pair (.sl (.int .u32)) .unit)), (.pair .bool (.pair (.sl (.int .u32)) .unit))], [(.pair (.pair .bool (.pair (.sl (.int .u32)) .unit)) (.pair (.pair .bool (.pair (.sl (.int .u32)) .unit)) .unit)), .bool], h33⟩), (34, ⟨[(.pair .bool (.pair (.sl (.int .u32)) .unit))], [(.pair .bool (.pair (.sl (.int .u32)) .unit))], h34⟩), (35, ⟨[(.pair .bool (.pair (.sl (.int .u32)) .unit))], [(.pair .bool (.pair (.sl (.int .u32)) .unit))], h35⟩), (36, ⟨[(.pair .bool (.pair (.sl (.int .u32)) .unit)), (.pair .bool (.pair (.sl (.int .u32)) .unit))], [(.pair (.pair .bool (.pair (.sl (.int .u32)) .unit)) (.pair (.pair .bool (.pair (.sl (.int .u32)) .unit)) .unit)), .bool], h36⟩)], muts := [] }
def an8 : List (Nat × Ann) := [(8, { keep := 8064 })]
noncomputable def g8 : DL [(.pair (.int .i8) (.pair (.int .i8) (.pair (.int .u8) .unit))), (.int .u32), (.int .u8)] → Option (DL [.bool]) := Fn cx8 an8 Try.f8 [(.pair (.int .i8) (.pair (.int .i8) (.pair (.int .u8) .unit))), (.int .u32), (.int .u8)] [.bool]
noncomputable def g8_L8 (t7 : Bool) (t9 : (List Int)) (t12 : Int) (v4098 : Bool) (v4098_1 : (List Int)) (v4098_1_2 : Bool) (v4098_1_2_3 : (List Int)) (r6144 : List Int) (r6145 : List Int) : Option (DL [.bool]) := Lp cx8 an8 Try.f8 [.bool] [true, true, true, true, true, true, false, true, false] ⟨[.undef, .undef, .undef, .undef, .undef, .undef, .undef, .val .bool t7, .ptr 4098 [], .val (.sl (.int .u64)) t9, .own 6144 0, .own 6145 0, .val (.int .i64) t12, .undef, .undef, .undef, .undef, .undef, .undef, .undef, .undef, .undef, .undef, .undef, .undef, .undef, .undef, .undef, .undef, .undef, .undef, .undef, .undef, .undef, .undef, .undef, .undef, .undef, .undef, .undef, .undef, .undef, .undef, .undef, .undef, .undef, .undef, .undef, .undef, .undef, .undef, .undef, .undef, .undef, .undef, .undef, .undef, .undef, .undef, .undef, .undef, .undef, .undef, .undef, .undef, .undef, .undef, .undef, .undef, .undef, .undef, .undef, .undef, .undef, .undef, .undef, .undef, .undef, .undef, .undef, .undef, .undef, .undef, .undef, .undef, .undef, .undef, .undef, .undef, .undef, .undef, .undef, .undef, .undef, .undef, .undef, .undef, .undef, .undef, .undef, .undef, .undef, .undef, .undef, .undef, .undef, .undef, .undef, .undef, .undef, .undef, .undef, .undef, .undef, .undef, .undef, .undef, .undef, .undef, .undef, .undef, .undef, .undef, .undef, .undef, .undef, .undef, .undef, .undef, .undef, .undef, .undef, .undef, .undef, .undef, .undef, .undef, .undef, .undef, .undef, .undef, .undef, .undef, .undef, .undef, .undef, .undef, .undef, .undef, .undef, .undef, .undef, .undef, .undef, .undef, .undef, .undef, .undef], ofL [(4098, (.var (.pair (.pair .bool (.pair (.sl (.int .u32)) .unit)) (.pair (.pair .bool (.pair (.sl (.int .u32)) .unit)) .unit)) (.pr (.pr (.val .bool v4098) (.pr (.val (.sl (.int .u32)) v4098_1) (.un))) (.pr (.pr (.val .bool v4098_1_2) (.pr (.val (.sl (.int .u32)) v4098_1_2_3) (.un))) (.un))), false)), (6144, (.row 23 (.int .u64) r6144 0, false)), (6145, (.row 23 (.int .u64) r6145 0, false))], [4098, 6144, 6145], []⟩
theorem g8_L8_eq (t7 : Bool) (t9 : (List Int)) (t12 : Int) (v4098 : Bool) (v4098_1 : (List Int)) (v4098_1_2 : Bool) (v4098_1_2_3 : (List Int)) (r6144 : List Int) (r6145 : List Int) : g8_L8 t7 t9 t12 v4098 v4098_1 v4098_1_2 v4098_1_2_3 r6144 r6145 =
  if (decide (t12 < ((List.length t9) : Int))) = true then
    if ((decide (0 ≤ t12)) && (decide (t12 < ((List.length t9) : Int)))) = true then
      Option.bind (h19 (((v4098, (v4098_1, ())), ((v4098_1_2, (v4098_1_2_3, ())), ())), ((List.getD t9 (Int.toNat t12) 0), ()))) fun (y3 : (Int × (Int × Unit))) =>
      if (y3.2.1 == 0) = true then
        if ((decide (0 ≤ t12)) && (decide (t12 < ((List.length t9) : Int)))) = true then
          if (decide ((((List.length r6144) + (List.length (List.set (List.replicate 1 (0 : Int)) 0 (List.getD t9 (Int.toNat t12) 0)))) * 8) ≤ 140737488355328)) = true then
            if (decide ((((List.length r6145) + (List.length (List.set (List.replicate 1 (0 : Int)) 0 y3.1))) * 8) ≤ 140737488355328)) = true then
              (g8_L8 t7 t9 (IntKind.wrap .i64 (t12 + 1)) v4098 v4098_1 v4098_1_2 v4098_1_2_3 (r6144 ++ (List.set (List.replicate 1 (0 : Int)) 0 (List.getD t9 (Int.toNat t12) 0))) (r6145 ++ (List.set (List.replicate 1 (0 : Int)) 0 y3.1)))
            else none
          else none
        else none
      else (g8_L8 t7 t9 (IntKind.wrap .i64 (t12 + 1)) v4098 v4098_1 v4098_1_2 v4098_1_2_3 r6144 r6145)
    else none
  else Option.bind (h26 (r6145, (r6144, ()))) fun (y4 : ((Bool × ((List Int) × Unit)) × ((Bool × ((List Int) × Unit)) × (Int × Unit)))) =>
  if (y4.2.2.1 != 0) = true then
    some (false, ())
  else Option.bind (h29 ((y4.1.1, (y4.1.2.1, ())), ())) fun (y5 : (Bool × Unit)) =>
  if (!y5.1) = true then
    some (false, ())
  else Option.bind (h29 ((y4.2.1.1, (y4.2.1.2.1, ())), ())) fun (y6 : (Bool × Unit)) =>
  if (!y6.1) = true then
    some (false, ())
  else Option.bind (h31 ((y4.2.1.1, (y4.2.1.2.1, ())), ())) fun (y7 : (Int × Unit)) =>
  if (decide (y7.1 ≤ 0)) = true then
    some (false, ())
  else Option.bind (h33 ((y4.1.1, (y4.1.2.1, ())), ((y4.2.1.1, (y4.2.1.2.1, ())), ()))) fun (y8 : (((Bool × ((List Int) × Unit)) × ((Bool × ((List Int) × Unit)) × Unit)) × (Bool × Unit))) =>
  Option.bind (h34 ((y4.2.1.1, (y4.2.1.2.1, ())), ())) fun (y9 : ((Bool × ((List Int) × Unit)) × Unit)) =>
  Option.bind (h31 ((v4098, (v4098_1, ())), ())) fun (y10 : (Int × Unit)) =>
  if (decide (y10.1 < 0)) = true then
    Option.bind (h35 ((v4098, (v4098_1, ())), ())) fun (y11 : ((Bool × ((List Int) × Unit)) × Unit)) =>
    Option.bind (h32 ((y11.1.1, (y11.1.2.1, ())), ((y9.1.1, (y9.1.2.1, ())), ()))) fun (y12 : (Int × Unit)) =>
    if (decide (y12.1 ≤ 0)) = true then
      Option.bind (h32 ((v4098_1_2, (v4098_1_2_3, ())), ((y9.1.1, (y9.1.2.1, ())), ()))) fun (y13 : (Int × Unit)) =>
      if (decide (y13.1 ≤ 0)) = true then
        if y8.2.1 = true then
          Option.bind (h30 ((y8.1.1.1, (y8.1.1.2.1, ())), ((v4098, (v4098_1, ())), ()))) fun (y14 : (Bool × Unit)) =>
          if y14.1 = true then
            Option.bind (h30 ((y8.1.2.1.1, (y8.1.2.1.2.1, ())), ((v4098_1_2, (v4098_1_2_3, ())), ()))) fun (y15 : (Bool × Unit)) =>
            if y15.1 = true then
              some (t7, ())
            else some (false, ())
          else some (false, ())
        else some (false, ())
      else Option.bind (h36 ((y4.1.1, (y4.1.2.1, ())), ((y4.2.1.1, (y4.2.1.2.1, ())), ()))) fun (y16 : (((Bool × ((List Int) × Unit)) × ((Bool × ((List Int) × Unit)) × Unit)) × (Bool × Unit))) =>
      if (y8.2.1 == y16.2.1) = true then
        Option.bind (h30 ((y8.1.1.1, (y8.1.1.2.1, ())), ((y16.1.1.1, (y16.1.1.2.1, ())), ()))) fun (y17 : (Bool × Unit)) =>
        if y17.1 = true then
          Option.bind (h30 ((y8.1.2.1.1, (y8.1.2.1.2.1, ())), ((y16.1.2.1.1, (y16.1.2.1.2.1, ())), ()))) fun (y18 : (Bool × Unit)) =>
          if y18.1 = true then
            some (t7, ())
          else some (false, ())
        else some (false, ())
      else some (false, ())
    else Option.bind (h36 ((y4.1.1, (y4.1.2.1, ())), ((y4.2.1.1, (y4.2.1.2.1, ())), ()))) fun (y19 : (((Bool × ((List Int) × Unit)) × ((Bool × ((List Int) × Unit)) × Unit)) × (Bool × Unit))) =>
    if (y8.2.1 == y19.2.1) = true then
      Option.bind (h30 ((y8.1.1.1, (y8.1.1.2.1, ())), ((y19.1.1.1, (y19.1.1.2.1, ())), ()))) fun (y20 : (Bool × Unit)) =>
      if y20.1 = true then
        Option.bind (h30 ((y8.1.2.1.1, (y8.1.2.1.2.1, ())), ((y19.1.2.1.1, (y19.1.2.1.2.1, ())), ()))) fun (y21 : (Bool × Unit)) =>
        if y21.1 = true then
          some (t7, ())
        else some (false, ())
      else some (false, ())
    else some (false, ())
  else Option.bind (h32 ((v4098, (v4098_1, ())), ((y9.1.1, (y9.1.2.1, ())), ()))) fun (y22 : (Int × Unit)) =>
  if (decide (y22.1 ≤ 0)) = true then
    Option.bind (h32 ((v4098_1_2, (v4098_1_2_3, ())), ((y9.1.1, (y9.1.2.1, ())), ()))) fun (y23 : (Int × Unit)) =>
    if (decide (y23.1 ≤ 0)) = true then
      if y8.2.1 = true then
        Option.bind (h30 ((y8.1.1.1, (y8.1.1.2.1, ())), ((v4098, (v4098_1, ())), ()))) fun (y24 : (Bool × Unit)) =>
        if y24.1 = true then
          Option.bind (h30 ((y8.1.2.1.1, (y8.1.2.1.2.1, ())), ((v4098_1_2, (v4098_1_2_3, ())), ()))) fun (y25 : (Bool × Unit)) =>
          if y25.1 = true then
            some (t7, ())
          else some (false, ())
        else some (false, ())
      else some (false, ())
    else Option.bind (h36 ((y4.1.1, (y4.1.2.1, ())), ((y4.2.1.1, (y4.2.1.2.1, ())), ()))) fun (y26 : (((Bool × ((List Int) × Unit)) × ((Bool × ((List Int) × Unit)) × Unit)) × (Bool × Unit))) =>
    if (y8.2.1 == y26.2.1) = true then
      Option.bind (h30 ((y8.1.1.1, (y8.1.1.2.1, ())), ((y26.1.1.1, (y26.1.1.2.1, ())), ()))) fun (y27 : (Bool × Unit)) =>
      if y27.1 = true then
        Option.bind (h30 ((y8.1.2.1.1, (y8.1.2.1.2.1, ())), ((y26.1.2.1.1, (y26.1.2.1.2.1, ())), ()))) fun (y28 : (Bool × Unit)) =>
        if y28.1 = true then
          some (t7, ())
        else some (false, ())
      else some (false, ())
    else some (false, ())
  else Option.bind (h36 ((y4.1.1, (y4.1.2.1, ())), ((y4.2.1.1, (y4.2.1.2.1, ())), ()))) fun (y29 : (((Bool × ((List Int) × Unit)) × ((Bool × ((List Int) × Unit)) × Unit)) × (Bool × Unit))) =>
  if (y8.2.1 == y29.2.1) = true then
    Option.bind (h30 ((y8.1.1.1, (y8.1.1.2.1, ())), ((y29.1.1.1, (y29.1.1.2.1, ())), ()))) fun (y30 : (Bool × Unit)) =>
    if y30.1 = true then
      Option.bind (h30 ((y8.1.2.1.1, (y8.1.2.1.2.1, ())), ((y29.1.2.1.1, (y29.1.2.1.2.1, ())), ()))) fun (y31 : (Bool × Unit)) =>
      if y31.1 = true then
        some (t7, ())
      else some (false, ())
    else some (false, ())
  else some (false, ()) := (Lp_eq cx8 an8 Try.f8 [.bool] [true, true, true, true, true, true, false, true, false] _).trans (by kernel_rfl)
theorem g8_eq (a : (Int × (Int × (Int × Unit)))) (b : Int) (c : Int) : g8 (a, b, c, ()) =
  Option.bind (h10 ()) fun (y0 : (Bool × Unit)) =>
  if (!y0.1) = true then
    some (false, ())
  else Option.bind (h15 ((a.1, (a.2.1, (a.2.2.1, ()))), ())) fun (y1 : (((Bool × ((List Int) × Unit)) × ((Bool × ((List Int) × Unit)) × Unit)) × Unit)) =>
  Option.bind (h25 (b, ((IntKind.wrap .i64 (Int.tmod c 9)), ()))) fun (y2 : ((List Int) × Unit)) =>
  (g8_L8 y0.1 y2.1 0 y1.1.1.1 y1.1.1.2.1 y1.1.2.1.1 y1.1.2.1.2.1 (List.replicate 0 (0 : Int)) (List.replicate 0 (0 : Int))) := (Fn_eq rfl).trans (by kernel_rfl)


theorem so8 : SigsOk Try.prog cx8 := ⟨(lookAll_cons s10 (lookAll_cons s15 (lookAll_cons s19 (lookAll_cons s25 (lookAll_cons s26 (lookAll_cons s29 (lookAll_cons s30 (lookAll_cons s31 (lookAll_cons s32 (lookAll_cons s33 (lookAll_cons s34 (lookAll_cons s35 (lookAll_cons s36 lookAll_nil))))))))))))), lookAll_nil, lookAll_nil⟩
theorem in8 : ∀ f p, look cx8.inl f = some p → Try.prog.funcs[f]? = some p.1 ∧ (p.1.name == "runtime.NumGoroutine") = false := lookAll_nil
theorem ok8 {h : DL [(.pair (.int .i8) (.pair (.int .i8) (.pair (.int .u8) .unit))), (.int .u32), (.int .u8)] → Option (DL [.bool])} (hw : ∀ x r, h x = some r → g8 x = some r) : SigOk Try.prog 8 ⟨[(.pair (.int .i8) (.pair (.int .i8) (.pair (.int .u8) .unit))), (.int .u32), (.int .u8)], [.bool], h⟩ := (Fn_ok (anns := an8) mixed T_ok so8 in8 (f := 8) (fn := Try.f8) rfl rfl rfl [(.pair (.int .i8) (.pair (.int .i8) (.pair (.int .u8) .unit))), (.int .u32), (.int .u8)] [.bool]).weaken hw

end Go.Refl.S3
/-
  ModularRebuilds: the function answers true.
-/
set_option linter.unusedVariables false
set_option linter.unusedSimpArgs false
set_option maxRecDepth 100000
namespace Go.Refl.S3
open Go Go.Refl Go.Proofs

/-- The reference's residue of a fraction. -/
def rdv (n d q : Int) : Int := n % q * ((d % q) ^ (q - 2).toNat % q) % q
theorem rdv_dvd {n d q : Int} (hq : Pri q) (hd : d % q ≠ 0) : q ∣ n - rdv n d q * d := by
  have hq2 := hq.1
  have hf : (d % q) ^ (q - 2).toNat * (d % q) % q = 1 := by
    rw [← Int.pow_succ, show (q - 2).toNat.succ = (q - 1).toNat by omega]
    exact fermat hq (by rw [Int.emod_emod]; exact hd)
  have h1 : rdv n d q * d % q = n % q := by
    unfold rdv
    generalize (d % q) ^ (q - 2).toNat = w at *
    have e1 : (n % q * (w % q) % q * d) % q = (n * (w * (d % q) % q)) % q := by
      rw [Int.mul_emod (n % q * (w % q) % q), Int.emod_emod, ← Int.mul_emod n w, ← Int.mul_emod, Int.mul_emod n (w * (d % q) % q), Int.emod_emod, Int.mul_emod w (d % q), Int.emod_emod, ← Int.mul_emod w d, ← Int.mul_emod n (w * d), Int.mul_assoc]
    rw [e1, hf, Int.mul_one]
  exact dvd_of_emod h1.symm
theorem rdv_range {n d q : Int} (hq : 2 ≤ q) : 0 ≤ rdv n d q ∧ rdv n d q < q := ⟨Int.emod_nonneg _ (by omega), Int.emod_lt_of_pos _ (by omega)⟩
def okp (d : Int) (l : List Int) : List Int := l.filter fun q => decide (d % q ≠ 0)
theorem e19r {n d p : Int} (hn : Sm n) (hd : Sm d) (hp : 2 ≤ p ∧ p < 2147483648) : h19 (encR n d, (p, ())) = some (if d % p = 0 then (0, (30, ())) else (rdv n d p, (0, ()))) := by
  rw [e19 hn hd hp]
  by_cases h : d % p = 0
  · rw [if_pos h, if_pos h]
  · rw [if_neg h, if_neg h]
    rfl

theorem L8a (n d : Int) (hn : Sm n) (hd : Sm d) (L : List Int) (hL : L.length < 1000) (hq : ∀ q ∈ L, 2 ≤ q ∧ q < 2147483648) : ∀ (rest done ps rs : List Int), L = done ++ rest → ps.length ≤ done.length → rs.length ≤ done.length →
    g8_L8 true L (done.length : Int) (enc n).1 (enc n).2.1 (enc d).1 (enc d).2.1 ps rs = g8_L8 true L (L.length : Int) (enc n).1 (enc n).2.1 (enc d).1 (enc d).2.1 (ps ++ okp d rest) (rs ++ (okp d rest).map (rdv n d))
  | [], done, ps, rs, h, _, _ => by
    rw [List.append_nil] at h
    rw [h]
    simp [okp]
  | q :: rest, done, ps, rs, h, hp, hr => by
    have hlen : L.length = done.length + (rest.length + 1) := by rw [h, List.length_append, List.length_cons]
    have hget : List.getD L (Int.toNat (done.length : Int)) 0 = q := by
      rw [Int.toNat_natCast, h, List.getD_eq_getElem?_getD, List.getElem?_append_right (Nat.le_refl _), Nat.sub_self]
      rfl
    have hmem : q ∈ L := by rw [h]; exact List.mem_append_right _ List.mem_cons_self
    obtain ⟨q1, q2⟩ := hq q hmem
    have E : h19 ((((enc n).1, ((enc n).2.1, ())), (((enc d).1, ((enc d).2.1, ())), ())), (q, ())) = some (if d % q = 0 then (0, (30, ())) else (rdv n d q, (0, ()))) := e19r hn hd ⟨q1, q2⟩
    have hdone : (done ++ [q]).length = done.length + 1 := by rw [List.length_append]; rfl
    rw [g8_L8_eq, ifd_t (by omega), ifdd_t (by omega) (by omega), hget, E, Option.bind_some]
    by_cases hz : d % q = 0
    · rw [if_pos hz]
      dsimp only
      rw [ife_f (by omega), wi64 (by omega) (by omega)]
      have := L8a n d hn hd L hL hq rest (done ++ [q]) ps rs (by rw [h, List.append_assoc]; rfl) (by omega) (by omega)
      rw [hdone] at this
      rw [show (done.length : Int) + 1 = ((done.length + 1 : Nat) : Int) by omega, this]
      have e : okp d (q :: rest) = okp d rest := by unfold okp; rw [List.filter_cons_of_neg (by simpa using hz)]
      rw [e]
    · rw [if_neg hz]
      dsimp only
      rw [ife_t rfl, ifdd_t (by omega) (by omega), show List.set (List.replicate 1 (0 : Int)) 0 q = [q] from rfl, show List.set (List.replicate 1 (0 : Int)) 0 (rdv n d q) = [rdv n d q] from rfl, ifd_t (by simp only [List.length_cons, List.length_nil]; omega), ifd_t (by simp only [List.length_cons, List.length_nil]; omega), wi64 (by omega) (by omega)]
      have := L8a n d hn hd L hL hq rest (done ++ [q]) (ps ++ [q]) (rs ++ [rdv n d q]) (by rw [h, List.append_assoc]; rfl) (by rw [List.length_append, hdone]; simp only [List.length_cons, List.length_nil]; omega) (by rw [List.length_append, hdone]; simp only [List.length_cons, List.length_nil]; omega)
      rw [hdone] at this
      rw [show (done.length : Int) + 1 = ((done.length + 1 : Nat) : Int) by omega, this]
      have e : okp d (q :: rest) = q :: okp d rest := by unfold okp; rw [List.filter_cons_of_pos (by simpa using hz)]
      rw [e, List.append_assoc, List.append_assoc]
      rfl

theorem rbR_parts {u m : Int} (hm : 0 < m) (hm1 : m < P 99) : ∃ N D : Int, ∃ B : Bool, rbR (rb u m) = ((enc N, (enc D, ())), (B, ())) ∧ Sm N ∧ Sm D ∧ ∀ n d, rb u m = some (n, d) → N = n ∧ D = d ∧ B = true := by
  have hP : P 100 = 4294967296 * P 99 := P_succ 99
  have hPp := P_pos 99
  cases hF : rb u m with
  | none =>
    refine ⟨0, 0, false, rfl, Sm.small (by omega), Sm.small (by omega), fun n d h => by cases h⟩
  | some nd =>
    obtain ⟨n, d⟩ := nd
    have hf := (rb_iff hm).1 hF
    have b1 := (le_root hm (show 0 ≤ d by have := hf.d1; omega)).2 hf.d2
    have b2 := (le_root hm (show 0 ≤ (n.natAbs : Int) by omega)).2 (by rw [Int.natAbs_mul_self']; exact hf.n2)
    have b3 := isq_le (show 0 ≤ (m - 1) / 2 by omega)
    have := hf.d1
    refine ⟨n, d, true, rfl, Sm.of (k := 100) (by omega) (by omega), Sm.of (k := 100) (by omega) (by omega), fun n' d' h => ?_⟩
    cases h
    exact ⟨rfl, rfl, rfl⟩

theorem L8b (n d u m : Int) (hn : Sm n) (hd : Sm d) (L ps rs : List Int) (h26' : h26 (rs, (ps, ())) = some (chiR (some (u, m)))) (hm : 0 < m) (hm1 : m < P 99) (hu : 0 ≤ u ∧ u < m) (hd0 : 0 < d) (hmod : m ∣ n - u * d) (hg : Int.gcd d m = 1) (hnd : Int.gcd n d = 1) :
    g8_L8 true L (L.length : Int) (enc n).1 (enc n).2.1 (enc d).1 (enc d).2.1 ps rs = some (true, ()) := by
  have hP : P 100 = 4294967296 * P 99 := P_succ 99
  have hPp := P_pos 99
  have S : ∀ z : Int, (z.natAbs : Int) < P 100 → Sm z := fun z hz => Sm.of (k := 100) hz (by omega)
  have su : Sm u := S u (by omega)
  have sm : Sm m := S m (by omega)
  have h29' : ∀ z, Sm z → h29 (((enc z).1, ((enc z).2.1, ())), ()) = some (true, ()) := fun z hz => by
    show when (Is (enc z)) (true, ()) = _
    rw [when_pos (Is.enc hz)]
  have E31 : h31 (((enc m).1, ((enc m).2.1, ())), ()) = some (sgn m, ()) := e31 sm
  have E33 : h33 (((enc u).1, ((enc u).2.1, ())), (((enc m).1, ((enc m).2.1, ())), ())) = some (rbR (rb u m)) := e33 su sm hm1
  have E36 : h36 (((enc u).1, ((enc u).2.1, ())), (((enc m).1, ((enc m).2.1, ())), ())) = some (rbR (rb u m)) := E33
  have E34 : h34 (((enc m).1, ((enc m).2.1, ())), ()) = some (enc (isq ((m - 1) / 2)), ()) := e34 (by omega) hm1
  have E31n : h31 (((enc n).1, ((enc n).2.1, ())), ()) = some (sgn n, ()) := e31 hn
  have E35 : h35 (((enc n).1, ((enc n).2.1, ())), ()) = some (enc (-n), ()) := e35 hn
  have b3 := isq_le (show 0 ≤ (m - 1) / 2 by omega)
  have b4 := (isq_spec (show 0 ≤ (m - 1) / 2 by omega)).1
  have sb : Sm (isq ((m - 1) / 2)) := S _ (by omega)
  obtain ⟨N, D, B, hR, sN, sD, hF⟩ := rbR_parts (u := u) hm hm1
  have fit : (n.natAbs : Int) ≤ isq ((m - 1) / 2) → d ≤ isq ((m - 1) / 2) → N = n ∧ D = d ∧ B = true := fun h1 h2 => by
    refine hF n d ((rb_iff hm).2 ⟨by omega, (le_root hm (by omega)).1 h2, ?_, hmod, hg, hnd⟩)
    have := (le_root hm (show 0 ≤ (n.natAbs : Int) by omega)).1 h1
    rw [Int.natAbs_mul_self'] at this
    exact this
  have E32 : ∀ z, Sm z → h32 (((enc z).1, ((enc z).2.1, ())), (((enc (isq ((m - 1) / 2))).1, ((enc (isq ((m - 1) / 2))).2.1, ())), ())) = some (cmpI z (isq ((m - 1) / 2)), ()) := fun z hz => e32 hz sb
  have E30 : ∀ y z, Sm y → Sm z → h30 (((enc y).1, ((enc y).2.1, ())), (((enc z).1, ((enc z).2.1, ())), ())) = some (decide (y = z), ()) := fun y z hy hz => e30 hy hz
  have hBB : (B == B) = true := beq_self_eq_true B
  rw [g8_L8_eq, ifd_f (by omega), h26', Option.bind_some]
  unfold chiR
  dsimp only
  rw [ifn_f rfl, h29' u su, Option.bind_some]
  dsimp only
  rw [ifnot_f rfl, h29' m sm, Option.bind_some]
  dsimp only
  rw [ifnot_f rfl, E31, Option.bind_some]
  dsimp only
  rw [ifd_f (fun h => by have := sgn_le.1 h; omega), E33, hR, Option.bind_some, E34, Option.bind_some, E31n, Option.bind_some]
  dsimp only
  rw [E36, hR]
  by_cases h0 : n < 0
  · rw [ifd_t (sgn_neg.2 h0), E35, Option.bind_some]
    dsimp only
    rw [E32 _ hn.neg, Option.bind_some]
    dsimp only
    by_cases h1 : -n ≤ isq ((m - 1) / 2)
    · rw [ifd_t (cmpI_le.2 h1), E32 _ hd, Option.bind_some]
      dsimp only
      by_cases h2 : d ≤ isq ((m - 1) / 2)
      · obtain ⟨rfl, rfl, rfl⟩ := fit (by omega) h2
        rw [ifd_t (cmpI_le.2 h2), if_pos rfl, E30 _ _ sN sN, Option.bind_some, ifb_t (by simp), E30 _ _ sD sD, Option.bind_some, ifb_t (by simp)]
      · rw [ifd_f (fun h => h2 (cmpI_le.1 h)), Option.bind_some]
        dsimp only
        rw [if_pos hBB, E30 _ _ sN sN, Option.bind_some, ifb_t (by simp), E30 _ _ sD sD, Option.bind_some, ifb_t (by simp)]
    · rw [ifd_f (fun h => h1 (cmpI_le.1 h)), Option.bind_some]
      dsimp only
      rw [if_pos hBB, E30 _ _ sN sN, Option.bind_some, ifb_t (by simp), E30 _ _ sD sD, Option.bind_some, ifb_t (by simp)]
  · rw [ifd_f (fun h => h0 (sgn_neg.1 h)), E32 _ hn, Option.bind_some]
    dsimp only
    by_cases h1 : n ≤ isq ((m - 1) / 2)
    · rw [ifd_t (cmpI_le.2 h1), E32 _ hd, Option.bind_some]
      dsimp only
      by_cases h2 : d ≤ isq ((m - 1) / 2)
      · obtain ⟨rfl, rfl, rfl⟩ := fit (by omega) h2
        rw [ifd_t (cmpI_le.2 h2), if_pos rfl, E30 _ _ sN sN, Option.bind_some, ifb_t (by simp), E30 _ _ sD sD, Option.bind_some, ifb_t (by simp)]
      · rw [ifd_f (fun h => h2 (cmpI_le.1 h)), Option.bind_some]
        dsimp only
        rw [if_pos hBB, E30 _ _ sN sN, Option.bind_some, ifb_t (by simp), E30 _ _ sD sD, Option.bind_some, ifb_t (by simp)]
    · rw [ifd_f (fun h => h1 (cmpI_le.1 h)), Option.bind_some]
      dsimp only
      rw [if_pos hBB, E30 _ _ sN sN, Option.bind_some, ifb_t (by simp), E30 _ _ sD sD, Option.bind_some, ifb_t (by simp)]

theorem mem_zip_map (f : Int → Int) : ∀ (l : List Int) (x : Int × Int), x ∈ (l.map f).zip l → x.1 = f x.2 ∧ x.2 ∈ l
  | [], x, h => by cases h
  | q :: l, x, h => by
    rw [List.map_cons, List.zip_cons_cons] at h
    rcases List.mem_cons.1 h with rfl | h
    · exact ⟨rfl, List.mem_cons_self⟩
    · obtain ⟨a, b⟩ := mem_zip_map f l x h
      exact ⟨a, List.mem_cons_of_mem _ b⟩
theorem zip_map_mem (f : Int → Int) : ∀ (l : List Int) (q : Int), q ∈ l → (f q, q) ∈ (l.map f).zip l
  | p :: l, q, h => by
    rw [List.map_cons, List.zip_cons_cons]
    rcases List.mem_cons.1 h with rfl | h
    · exact List.mem_cons_self
    · exact List.mem_cons_of_mem _ (zip_map_mem f l q h)
theorem low_gcd {n d : Int} (hd : d ≠ 0) : Int.gcd (lowN n d) (lowD n d) = 1 ∧ 0 < lowD n d := by
  have hg : 0 < Int.gcd n d := Nat.gcd_pos_of_pos_right _ (by omega)
  have ha := lowG_abs n d
  obtain ⟨m1, m2⟩ := low_mul n d
  have hg0 : lowG n d ≠ 0 := by omega
  constructor
  · have e : Int.gcd (lowN n d * lowG n d) (lowD n d * lowG n d) = Int.gcd (lowN n d) (lowD n d) * (lowG n d).natAbs := Int.gcd_mul_right ..
    rw [m1, m2, ha] at e
    have := Nat.eq_of_mul_eq_mul_right hg (show 1 * Int.gcd n d = Int.gcd (lowN n d) (lowD n d) * Int.gcd n d by omega)
    exact this.symm
  · apply Classical.byContradiction
    intro hc
    unfold lowG at m2 hg0
    by_cases h0 : d < 0
    · rw [if_pos h0] at m2
      have : 0 ≤ lowD n d * -((Int.gcd n d : Nat) : Int) := Int.mul_nonneg_of_nonpos_of_nonpos (by omega) (by omega)
      omega
    · rw [if_neg h0] at m2
      have : lowD n d * ((Int.gcd n d : Nat) : Int) ≤ 0 := Int.mul_nonpos_of_nonpos_of_nonneg (by omega) (by omega)
      omega
theorem md_small {x : DRaw} (h : OkRaw x) : Sm (mdN x) ∧ Sm (mdD x) ∧ Int.gcd (mdN x) (mdD x) = 1 ∧ 0 < mdD x := by
  obtain ⟨r1, r2, r3, _⟩ := rw_bounds h
  obtain ⟨l1, l2⟩ := low_abs (rwN x) (rwD x)
  obtain ⟨g1, g2⟩ := low_gcd (n := rwN x) r3
  exact ⟨Sm.ten (by rw [P_ten]; unfold mdN; omega), Sm.ten (by rw [P_ten]; unfold mdD; omega), g1, g2⟩
noncomputable def h8 : DL [tRaw, .int .u32, .int .u8] → Option (DL [.bool]) := fun (x : DRaw × Int × Int × Unit) => when (OkRaw x.1 ∧ (0 ≤ x.2.1 ∧ x.2.1 < 4294967296) ∧ 0 ≤ x.2.2.1 ∧ x.2.2.1 ≤ 255) (true, ())
theorem s8 : SigOk Try.prog 8 ⟨[tRaw, .int .u32, .int .u8], [.bool], h8⟩ := ok8 fun (x : DRaw × Int × Int × Unit) r h => by
  obtain ⟨⟨hx, hb, hc⟩, rfl⟩ := when_some h
  obtain ⟨x, b, c, u⟩ := x
  simp only at hx hb hc
  show g8 (x, b, c, ()) = some (true, ())
  obtain ⟨sn, sd, hg, hd⟩ := md_small hx
  have X15 : h15 ((x.1, (x.2.1, (x.2.2.1, ()))), ()) = some (encR (mdN x) (mdD x), ()) := e15 hx
  have hroom : Room (c % 9).toNat (b % 2147000000) := Room_le (k := 8) (by omega) (Room_eight (by omega) (by omega))
  obtain ⟨c1, c2, c3⟩ := chs_spec _ _ hroom
  have hc9 : 0 ≤ c % 9 ∧ c % 9 < 1000 := by omega
  have E25 : h25 (b, (c % 9, ())) = some (chs (c % 9).toNat (b % 2147000000), ()) := when_pos ⟨hb.1, hc9.1, hc9.2, hroom⟩
  rw [g8_eq, e10, Option.bind_some]
  dsimp only
  rw [ifnot_f rfl, X15, Option.bind_some, tm hc.1, wi64 (by omega) (by omega), E25, Option.bind_some]
  dsimp only
  generalize mdN x = n at *
  generalize mdD x = d at *
  have hk : (c % 9).toNat ≤ 8 := by omega
  generalize (c % 9).toNat = k at *
  generalize chs k (b % 2147000000) = L at *
  have hL := L8a n d sn sd L (by omega) (fun q hq => by obtain ⟨a, _, e⟩ := c1 q hq; have := a.1; omega) L [] [] [] rfl (Nat.le_refl _) (Nat.le_refl _)
  refine Eq.trans hL ?_
  rw [List.nil_append, List.nil_append]
  have hok : ∀ q ∈ okp d L, Pri q ∧ q < 2147483648 ∧ d % q ≠ 0 ∧ 2 ≤ q := fun q hq => by
    obtain ⟨m1, m2⟩ := List.mem_filter.1 hq
    obtain ⟨a, _, e⟩ := c1 q m1
    exact ⟨a, by omega, by simpa using m2, a.1⟩
  have hlen : (okp d L).length ≤ L.length := List.length_filter_le ..
  have hnd : (okp d L).Nodup := List.Pairwise.filter _ c2
  generalize okp d L = p at *
  obtain ⟨u', r1, r2, r3, _, r5⟩ := chi_spec (p.map (rdv n d)) p 0 1 (by rw [List.length_map]) (fun q hq => by
    obtain ⟨a1, a2, a3, a4⟩ := hok q hq
    exact ⟨a1, a2, by rw [Int.emod_eq_of_lt (by omega) (by omega)]; omega⟩) hnd (by omega) (by omega)
  rw [Int.one_mul] at r1 r3
  obtain ⟨b1, b2⟩ := prd_bound p fun q hq => by obtain ⟨_, a2, _, a4⟩ := hok q hq; omega
  have b3 : P p.length ≤ P 98 := P_le (by omega)
  have b4 : P 99 = 4294967296 * P 98 := P_succ 98
  refine L8b n d u' (prd p) sn sd L p _ ?_ b1 (by have := P_pos 98; omega) ⟨r2, r3⟩ hd ?_ (prd_gcd p fun q hq => ⟨(hok q hq).1, (hok q hq).2.2.1⟩) hg
  · rw [e26 ?_ ?_ (by omega) (by rw [List.length_map]), r1]
    · intro w hw
      obtain ⟨q, hq, rfl⟩ := List.mem_map.1 hw
      obtain ⟨a1, a2, a3, a4⟩ := hok q hq
      have := rdv_range (n := n) (d := d) a4
      omega
    · intro w hw
      obtain ⟨a1, a2, a3, a4⟩ := hok w hw
      omega
  · refine prd_dvd p _ (fun q hq => (hok q hq).1) hnd fun q hq => ?_
    obtain ⟨a1, a2, a3, a4⟩ := hok q hq
    obtain ⟨c, hc⟩ := r5 _ (zip_map_mem (rdv n d) p q hq)
    obtain ⟨c', hc'⟩ := rdv_dvd (n := n) a1 a3
    simp only at hc
    refine ⟨c' - c * d, ?_⟩
    grind
end Go.Refl.S3
