/-
  Plain numbers: a number below 2^31 that passes the powers of the bases 2, 3, 5 and 7, whose prime
  factors have the same signatures, is prime, if a search through the products of primes says so.
-/
set_option linter.unusedVariables false
set_option linter.unusedSimpArgs false
set_option maxRecDepth 100000
namespace Go.Refl.K

/-- A prime number. -/
def NP (p : Nat) : Prop := 2 ≤ p ∧ ∀ d, d ∣ p → d = 1 ∨ d = p
theorem NP.cop {p a : Nat} (hp : NP p) (h : ¬ p ∣ a) : Nat.Coprime p a := by
  rcases hp.2 _ (Nat.gcd_dvd_left p a) with e | e
  · exact e
  · exact absurd (e ▸ Nat.gcd_dvd_right p a) h
theorem NP.mul {p a b : Nat} (hp : NP p) (h : p ∣ a * b) : p ∣ a ∨ p ∣ b := by
  by_cases ha : p ∣ a
  · exact .inl ha
  · exact .inr ((hp.cop ha).dvd_of_dvd_mul_left h)
theorem NP.not1 {p : Nat} (hp : NP p) : ¬ p ∣ 1 := fun h => by
  have := Nat.le_of_dvd (by omega) h
  have := hp.1
  omega
theorem NP.eq {p q : Nat} (hp : NP p) (hq : NP q) (h : p ∣ q) : p = q := by
  rcases hq.2 _ h with e | e
  · have := hp.1
    omega
  · exact e
def prodN : List Nat → Nat
  | [] => 1
  | a :: l => a * prodN l
theorem prodN_append : ∀ a b : List Nat, prodN (a ++ b) = prodN a * prodN b
  | [], b => by simp [prodN]
  | x :: a, b => by rw [List.cons_append, prodN, prodN, prodN_append a b, Nat.mul_assoc]
theorem NP.prod {p : Nat} (hp : NP p) : ∀ l : List Nat, p ∣ prodN l → ∃ a ∈ l, p ∣ a
  | [], h => absurd h hp.not1
  | a :: l, h => by
    rcases hp.mul h with h | h
    · exact ⟨a, List.mem_cons_self, h⟩
    · obtain ⟨b, h1, h2⟩ := NP.prod hp l h
      exact ⟨b, List.mem_cons_of_mem _ h1, h2⟩
theorem dvd_prodN {a : Nat} : ∀ l : List Nat, a ∈ l → a ∣ prodN l
  | b :: l, h => by
    rcases List.mem_cons.1 h with rfl | h
    · exact Nat.dvd_mul_right _ _
    · exact Nat.dvd_trans (dvd_prodN l h) (Nat.dvd_mul_left _ _)
theorem least (P : Nat → Prop) : ∀ n, P n → ∃ m, P m ∧ ∀ k, P k → m ≤ k := by
  intro n
  induction n using Nat.strongRecOn with
  | ind n ih =>
    intro h
    by_cases hc : ∃ k, k < n ∧ P k
    · obtain ⟨k, h1, h2⟩ := hc
      exact ih k h1 h2
    · exact ⟨n, h, fun k hk => Nat.le_of_not_lt fun hl => hc ⟨k, hl, hk⟩⟩
/-- The least factor is prime. -/
theorem lowfac {n : Nat} (h : 2 ≤ n) : ∃ p, NP p ∧ p ∣ n ∧ ∀ d, 2 ≤ d → d ∣ n → p ≤ d := by
  obtain ⟨p, ⟨h1, h2⟩, h3⟩ := least (fun d => 2 ≤ d ∧ d ∣ n) n ⟨h, Nat.dvd_refl n⟩
  refine ⟨p, ⟨h1, fun d hd => ?_⟩, h2, fun d a b => h3 d ⟨a, b⟩⟩
  by_cases h0 : d = 0
  · subst h0
    have := Nat.eq_zero_of_zero_dvd hd
    omega
  by_cases h4 : d = 1
  · exact .inl h4
  · have h5 := h3 d ⟨by omega, Nat.dvd_trans hd h2⟩
    have h6 := Nat.le_of_dvd (by omega) hd
    exact .inr (by omega)
/-- The prime factors of a number without square factors, in their order. -/
theorem factors : ∀ (k n b : Nat), n ≤ k → 1 ≤ n → (∀ d, 2 ≤ d → d ∣ n → b < d) → (∀ p, NP p → ¬ p * p ∣ n) →
    ∃ l : List Nat, l.Pairwise (· < ·) ∧ (∀ p ∈ l, NP p ∧ b < p) ∧ prodN l = n := by
  intro k
  induction k with
  | zero => intro n b h1 h2; omega
  | succ k ih =>
    intro n b hk h1 hb hs
    by_cases h : n = 1
    · exact ⟨[], List.Pairwise.nil, (fun p hp => absurd hp List.not_mem_nil), h.symm⟩
    · obtain ⟨p, hp, ⟨m, hm⟩, hlow⟩ := lowfac (n := n) (by omega)
      have p2 := hp.1
      have hm1 : 1 ≤ m := by
        rcases Nat.eq_zero_or_pos m with e | e
        · subst e; omega
        · exact e
      have hmk : m ≤ k := by
        have : 2 * m ≤ p * m := Nat.mul_le_mul_right _ p2
        omega
      obtain ⟨l, a1, a2, a3⟩ := ih m p hmk hm1 (fun d hd hdm => by
        have h3 := hlow d hd (Nat.dvd_trans hdm ⟨p, by rw [hm, Nat.mul_comm]⟩)
        rcases Nat.lt_or_eq_of_le h3 with e | e
        · exact e
        · exact absurd (by rw [hm]; exact Nat.mul_dvd_mul_left p (e ▸ hdm)) (hs p hp)) (fun q hq hqm => hs q hq (Nat.dvd_trans hqm ⟨p, by rw [hm, Nat.mul_comm]⟩))
      refine ⟨p :: l, List.Pairwise.cons (fun x hx => (a2 x hx).2) a1, fun x hx => ?_, by rw [prodN, a3, hm]⟩
      rcases List.mem_cons.1 hx with rfl | hx
      · exact ⟨hp, hb _ p2 ⟨m, hm⟩⟩
      · have := a2 x hx
        have := hb p p2 ⟨m, hm⟩
        exact ⟨(a2 x hx).1, by omega⟩

/-! Searches that the kernel carries out. -/
noncomputable def kall {α : Type} (f : α → Bool) (l : List α) : Bool := List.rec (motive := fun _ => Bool) true (fun a _ ih => Bool.rec false ih (f a)) l
theorem kall_iff {α : Type} (f : α → Bool) : ∀ l : List α, kall f l = true → ∀ a ∈ l, f a = true
  | [], _, a, h => by cases h
  | b :: l, h, a, ha => by
    have e : kall f (b :: l) = Bool.rec false (kall f l) (f b) := rfl
    rw [e] at h
    cases hb : f b with
    | false => rw [hb] at h; cases h
    | true =>
      rw [hb] at h
      rcases List.mem_cons.1 ha with rfl | ha
      · exact hb
      · exact kall_iff f l h a ha
noncomputable def allR (f : Nat → Bool) (k : Nat) : Nat → Bool := Nat.rec (motive := fun _ => Nat → Bool) f (fun k ih a => Bool.rec false (ih (Nat.add a (Nat.pow 2 k))) (ih a)) k
theorem allR_iff (f : Nat → Bool) : ∀ k a, allR f k a = true → ∀ i, a ≤ i → i < a + 2 ^ k → f i = true
  | 0, a, h, i, h1, h2 => by
    rw [Nat.pow_zero] at h2
    rw [show i = a by omega]
    exact h
  | k + 1, a, h, i, h1, h2 => by
    have e : allR f (k + 1) a = Bool.rec false (allR f k (a + 2 ^ k)) (allR f k a) := rfl
    rw [e] at h
    cases hb : allR f k a with
    | false => rw [hb] at h; cases h
    | true =>
      rw [hb] at h
      by_cases hi : i < a + 2 ^ k
      · exact allR_iff f k a hb i h1 hi
      · exact allR_iff f k (a + 2 ^ k) h i (by omega) (by rw [Nat.pow_succ] at h2; omega)
/-- 'and' and 'or' that look at the second only where it is needed. -/
noncomputable def kand (a b : Bool) : Bool := Bool.rec false b a
noncomputable def kor (a b : Bool) : Bool := Bool.rec b true a
noncomputable def kno (a : Bool) : Bool := Bool.rec true false a
theorem kand_iff {a b : Bool} : kand a b = true ↔ a = true ∧ b = true := by cases a <;> cases b <;> decide
theorem kor_iff {a b : Bool} : kor a b = true ↔ a = true ∨ b = true := by cases a <;> cases b <;> decide
theorem kno_iff {a : Bool} : kno a = true ↔ a = false := by cases a <;> decide

/-- Some base has another power than one. -/
noncomputable def oneN (n p w : Nat) : Bool := Nat.beq (Nat.mod (Nat.pow w (Nat.mod (Nat.pred n) (Nat.pred p))) p) 1
noncomputable def outN (n p : Nat) : Bool := kno (kand (oneN n p 2) (kand (oneN n p 3) (kand (oneN n p 5) (oneN n p 7))))
noncomputable def tst (n : Nat) (C : List Nat) : Bool := List.rec (motive := fun _ => Bool) false (fun p _ ih => kor ih (outN n p)) C
theorem tst_iff (n : Nat) : ∀ C : List Nat, tst n C = true → ∃ p ∈ C, outN n p = true
  | p :: C, h => by
    have e : tst n (p :: C) = kor (tst n C) (outN n p) := rfl
    rw [e, kor_iff] at h
    rcases h with h | h
    · obtain ⟨q, h1, h2⟩ := tst_iff n C h
      exact ⟨q, List.mem_cons_of_mem _ h1, h2⟩
    · exact ⟨p, List.mem_cons_self, h⟩
/-- The tree of the products. -/
noncomputable def tre (N : Nat) (T : Nat → List Nat → Bool) (L : List Nat) : List Nat → Nat → Bool :=
  List.rec (motive := fun _ => List Nat → Nat → Bool) (fun _ _ => true)
    (fun c _ ih C P => Bool.rec (kand (T (Nat.mul P c) (List.cons c C)) (kand (ih (List.cons c C) (Nat.mul P c)) (ih C P))) true (Nat.ble N (Nat.mul P c))) L
theorem prodN_pos : ∀ l : List Nat, (∀ p ∈ l, 1 ≤ p) → 1 ≤ prodN l
  | [], _ => Nat.le_refl _
  | a :: l, h => Nat.mul_le_mul (h a List.mem_cons_self) (prodN_pos l fun p hp => h p (List.mem_cons_of_mem _ hp))
theorem tre_spec {N : Nat} {T : Nat → List Nat → Bool} : ∀ (L : List Nat), L.Pairwise (· < ·) → (∀ p ∈ L, 1 ≤ p) → ∀ (C : List Nat) (P : Nat), tre N T L C P = true →
    ∀ S : List Nat, S.Sublist L → S ≠ [] → P * prodN S < N → ∃ C', C' = S.reverse ++ C ∧ T (P * prodN S) C' = true
  | [], _, _, C, P, h, S, hs, h0, hN => absurd (List.eq_nil_of_sublist_nil hs) h0
  | c :: L, hp, h1, C, P, h, S, hs, h0, hN => by
    have e : tre N T (c :: L) C P = Bool.rec (kand (T (P * c) (c :: C)) (kand (tre N T L (c :: C) (P * c)) (tre N T L C P))) true (Nat.ble N (P * c)) := rfl
    rw [e] at h
    have hL1 : ∀ p ∈ L, 1 ≤ p := fun p hp => h1 p (List.mem_cons_of_mem _ hp)
    cases hb : Nat.ble N (P * c) with
    | true =>
      exfalso
      have hb := Nat.le_of_ble_eq_true hb
      cases S with
      | nil => exact h0 rfl
      | cons s S =>
        have hsc : c ≤ s := by
          have hm : s ∈ c :: L := hs.subset List.mem_cons_self
          rcases List.mem_cons.1 hm with rfl | hm
          · exact Nat.le_refl _
          · exact Nat.le_of_lt ((List.pairwise_cons.1 hp).1 s hm)
        have hS1 := prodN_pos S fun p hp' => h1 p (hs.subset (List.mem_cons_of_mem _ hp'))
        have h3 : P * c ≤ P * prodN (s :: S) := by
          refine Nat.mul_le_mul_left _ ?_
          rw [prodN]
          calc c = c * 1 := (Nat.mul_one c).symm
            _ ≤ s * prodN S := Nat.mul_le_mul hsc hS1
        omega
    | false =>
      rw [hb] at h
      obtain ⟨t1, h⟩ := kand_iff.1 h
      obtain ⟨t2, t3⟩ := kand_iff.1 h
      have hp' := (List.pairwise_cons.1 hp).2
      cases hs with
      | cons _ hs => exact tre_spec L hp' hL1 C P t3 S hs h0 hN
      | cons_cons _ hs =>
        rename_i S
        by_cases hS : S = []
        · subst hS
          refine ⟨_, rfl, ?_⟩
          rw [prodN, prodN, Nat.mul_one]
          exact t1
        · obtain ⟨C', h5, h6⟩ := tre_spec L hp' hL1 (c :: C) (P * c) t2 S hs hS (by rw [prodN, ← Nat.mul_assoc] at hN; exact hN)
          refine ⟨_, rfl, ?_⟩
          rw [prodN, ← Nat.mul_assoc, List.reverse_cons, List.append_assoc]
          rw [h5] at h6
          exact h6
end Go.Refl.K
