/-
  What a table of types says of a program's types; one step of memory.
-/
import Derived.Test.YthgbejjenlfdnaaAbs3
set_option linter.unusedVariables false
namespace Go.Refl
open Go Go.RowKit

/-! ### The program's types -/
def zeroChk : Ty → List Value → Bool
  | .int k, [.int k' n] => decide (k = k') && n == 0
  | .bool, [.bool b] => !b
  | .str, [.string s] => s.data.toList.isEmpty
  | .unit, [] => true
  | .opq, [v] => v.oneCell'
  | .pair a b, cs => zeroChk a (cs.take a.size) && zeroChk b (cs.drop a.size)
  | .arr n t, cs => cs.length == n * t.size && (List.range n).all fun i => zeroChk t (piece cs (i * t.size) t.size)
  | .sl _, [.slice none 0 0] => true
  | _, _ => false

theorem RepL.of_pieces {α : Type} {R : α → List Value → Prop} {x : α} {k : Nat} : ∀ (n : Nat) (cs : List Value), cs.length = n * k → (∀ i, i < n → R x (piece cs (i * k) k)) → RepL R (List.replicate n x) cs
  | 0, cs, hl, _ => List.eq_nil_of_length_eq_zero (by simpa using hl)
  | n + 1, cs, hl, h => by
    refine ⟨cs.take k, cs.drop k, (List.take_append_drop k cs).symm, by simpa [piece] using h 0 (by omega), RepL.of_pieces (k := k) n _ ?_ fun i hi => ?_⟩
    · rw [List.length_drop, hl, Nat.succ_mul]; omega
    · have := h (i + 1) (by omega)
      unfold piece at *
      rw [List.drop_drop, show k + i * k = (i + 1) * k by rw [Nat.succ_mul, Nat.add_comm]]
      exact this

theorem zeroChk_rep {w : World} {Fr : Nat → Prop} : ∀ (t : Ty) (cs : List Value), zeroChk t cs = true → RepV w Fr t t.zero cs
  | .int k, cs, h => by
    rcases cs with _ | ⟨v, _ | ⟨_, _⟩⟩ <;> (try (simp [zeroChk] at h; done))
    cases v <;> (try (simp [zeroChk] at h; done))
    simp only [zeroChk, Bool.and_eq_true, decide_eq_true_eq, beq_iff_eq] at h
    obtain ⟨rfl, rfl⟩ := h
    rfl
  | .bool, cs, h => by
    unfold zeroChk at h
    split at h <;> simp_all
    rfl
  | .str, cs, h => by
    unfold zeroChk at h
    split at h <;> simp_all
    rename_i s
    obtain ⟨d⟩ := s
    have : d = #[] := by simpa using h
    subst this
    rfl
  | .unit, cs, h => by
    unfold zeroChk at h
    split at h <;> simp_all
    rfl
  | .opq, cs, h => by
    unfold zeroChk at h
    split at h <;> simp_all
    exact ⟨_, rfl, h⟩
  | .pair a b, cs, h => by
    simp only [zeroChk, Bool.and_eq_true] at h
    exact ⟨_, _, (List.take_append_drop a.size cs).symm, zeroChk_rep a _ h.1, zeroChk_rep b _ h.2⟩
  | .arr n t, cs, h => by
    simp only [zeroChk, Bool.and_eq_true, beq_iff_eq, List.all_eq_true, List.mem_range] at h
    exact ⟨by simp [Ty.zero], RepL.of_pieces n cs h.1 fun i hi => zeroChk_rep t _ (h.2 i hi)⟩
  | .sl t, cs, h => by
    unfold zeroChk at h
    split at h <;> simp_all
    exact ⟨none, 0, [], rfl, Nat.le_refl _, rfl, .inl rfl⟩

def fieldsChk (T : List (TypeId × TI)) : List Field → Nat → Ty → Bool
  | [], _, .unit => true
  | f :: fs, off, .pair a b => f.offset == off && a.size != 0 && (match look T f.type with
    | some te => decide (te.ty = a)
    | none => false) && fieldsChk T fs (off + a.size) b
  | _, _, _ => false

def undChk (P : Program) (T : List (TypeId × TI)) (t : TypeId) (ti : TI) : Bool :=
  match ti.ty, P.underlying t with
  | .int k, some (.int k') => decide (k = k')
  | .bool, some .bool => true
  | .str, some .string => true
  | .opq, some (.pointer _) | .opq, some (.func ..) | .opq, some (.map ..) => true
  | .sl u, some (.slice e) => Nat.beq e ti.elem && (match look T e, P.info? e with
    | some te, some i => decide (te.ty = u) && Nat.beq i.bytes ti.bytes && Nat.blt 0 ti.bytes && Nat.blt 0 u.size
    | _, _ => false)
  | .arr n u, some (.array n' e) => Nat.beq n n' && Nat.beq e ti.elem && (match look T e with
    | some te => decide (te.ty = u) && Nat.blt 0 u.size
    | none => false)
  | .unit, some (.struct fs) => fieldsChk T fs.toList 0 .unit
  | .pair a b, some (.struct fs) => fieldsChk T fs.toList 0 (.pair a b)
  | _, _ => false

def tyChk (P : Program) (T : List (TypeId × TI)) (t : TypeId) (ti : TI) : Bool :=
  undChk P T t ti && match P.info? t with
    | some i => Nat.beq i.size ti.ty.size && (match i.zero with
      | some z => zeroChk ti.ty z.cells.toList && ((match z with | .agg _ => true | _ => false) == ti.ty.agg)
      | none => false)
    | none => false

def typesChk (P : Program) (T : List (TypeId × TI)) : Bool := T.all fun x => tyChk P T x.1 x.2

theorem look_mem {α : Type} : ∀ {l : List (Nat × α)} {n : Nat} {a : α}, look l n = some a → (n, a) ∈ l
  | (i, b) :: l, n, a, h => by
    simp only [look] at h
    split at h
    · rename_i e
      injection h with h
      subst e; subst h
      exact .head _
    · exact .tail _ (look_mem h)

structure TyFact (P : Program) (T : List (TypeId × TI)) (t : TypeId) (ti : TI) : Prop where
  und : undChk P T t ti = true
  info : ∃ i z, P.info? t = some i ∧ i.size = ti.ty.size ∧ i.zero = some z ∧ zeroChk ti.ty z.cells.toList = true ∧ (ti.ty.agg = true → ∃ cs, z = .agg cs)

theorem tyFact_of {P : Program} {T : List (TypeId × TI)} (h : typesChk P T = true) {t : TypeId} {ti : TI} (hl : look T t = some ti) : TyFact P T t ti := by
  have := List.all_eq_true.1 h _ (look_mem hl)
  simp only [tyChk, Bool.and_eq_true] at this
  obtain ⟨h1, h2⟩ := this
  refine ⟨h1, ?_⟩
  split at h2
  · rename_i i hi
    simp only [Bool.and_eq_true] at h2
    obtain ⟨h3, h4⟩ := h2
    split at h4
    · rename_i z hz
      simp only [Bool.and_eq_true] at h4
      refine ⟨i, z, hi, Nat.eq_of_beq_eq_true h3, hz, h4.1, fun ha => ?_⟩
      rw [ha] at h4
      have := h4.2
      cases z <;> simp at this
      exact ⟨_, rfl⟩
    · cases h4
  · cases h2

section
variable {P : Program} {T : List (TypeId × TI)} {t : TypeId} {ti : TI}

theorem TyFact.isAgg (h : TyFact P T t ti) (w : World) : (isAgg t).run P w = .ok ti.ty.agg w := by
  have hu := h.und
  unfold undChk at hu
  split at hu <;> (try (cases hu; done)) <;> (rename_i e1 e2; simp [Go.isAgg, run_underlying e2, e1, Ty.agg])
theorem TyFact.sizeOf (h : TyFact P T t ti) (w : World) : (Go.sizeOf t).run P w = .ok ti.ty.size w := by
  obtain ⟨i, z, hi, hs, _⟩ := h.info
  simp [Go.sizeOf, typeInfo, hi, hs]
theorem TyFact.cellsOf (h : TyFact P T t ti) : P.cellsOf t = ti.ty.size := by
  obtain ⟨i, z, hi, hs, _⟩ := h.info
  simp [Program.cellsOf, hi, hs]
theorem TyFact.int {k : IntKind} {e : TypeId} {b : Nat} (h : TyFact P T t ⟨.int k, e, b⟩) : P.underlying t = some (.int k) := by
  have hu := h.und
  unfold undChk at hu
  split at hu <;> simp_all
theorem TyFact.bool {e : TypeId} {b : Nat} (h : TyFact P T t ⟨.bool, e, b⟩) : P.underlying t = some .bool := by
  have hu := h.und
  unfold undChk at hu
  split at hu <;> simp_all
theorem TyFact.str {e : TypeId} {b : Nat} (h : TyFact P T t ⟨.str, e, b⟩) : P.underlying t = some .string := by
  have hu := h.und
  unfold undChk at hu
  split at hu <;> simp_all
theorem TyFact.sl {u : Ty} {e : TypeId} {b : Nat} (h : TyFact P T t ⟨.sl u, e, b⟩) : P.underlying t = some (.slice e) ∧ 0 < u.size ∧ (∃ te, look T e = some te ∧ te.ty = u) ∧ ∃ i, P.info? e = some i ∧ i.bytes = b ∧ 0 < b := by
  have hu := h.und
  unfold undChk at hu
  split at hu <;> (try (simp_all; done))
  rename_i e' h1 h2
  simp only [Ty.sl.injEq] at h1
  subst h1
  simp only [Bool.and_eq_true] at hu
  obtain ⟨h3, h4⟩ := hu
  have h3 := Nat.eq_of_beq_eq_true h3
  subst h3
  split at h4
  · rename_i te i hte hi
    simp only [Bool.and_eq_true, decide_eq_true_eq] at h4
    exact ⟨h2, by have := h4.2; simp [Nat.blt] at this; omega, ⟨te, hte, h4.1.1.1⟩, i, hi, Nat.eq_of_beq_eq_true h4.1.1.2, by have := h4.1.2; simp [Nat.blt] at this; omega⟩
  · cases h4
theorem TyFact.arr {n : Nat} {u : Ty} {e : TypeId} {b : Nat} (h : TyFact P T t ⟨.arr n u, e, b⟩) : P.underlying t = some (.array n e) ∧ 0 < u.size ∧ ∃ te, look T e = some te ∧ te.ty = u := by
  have hu := h.und
  unfold undChk at hu
  split at hu <;> (try (simp_all; done))
  rename_i n' e' h1 h2
  simp only [Ty.arr.injEq] at h1
  obtain ⟨rfl, rfl⟩ := h1
  simp only [Bool.and_eq_true] at hu
  obtain ⟨⟨h3, h3'⟩, h4⟩ := hu
  have h3 := Nat.eq_of_beq_eq_true h3
  have h3' := Nat.eq_of_beq_eq_true h3'
  subst h3; subst h3'
  split at h4
  · rename_i te hte
    simp only [Bool.and_eq_true, decide_eq_true_eq] at h4
    exact ⟨h2, by have := h4.2; simp [Nat.blt] at this; omega, te, hte, h4.1⟩
  · cases h4
theorem fieldsChk_at : ∀ {fs : List Field} {off : Nat} {t : Ty} {j : Nat} {u : Ty}, fieldsChk T fs off t = true → tyF t j = some u → ∃ f, fs[j]? = some f ∧ f.offset = off + offF t j ∧ u.size ≠ 0 ∧ ∃ te, look T f.type = some te ∧ te.ty = u
  | [], off, .unit, j, u, _, h => by simp [tyF] at h
  | f :: fs, off, .pair a b, j, u, hc, h => by
    simp only [fieldsChk, Bool.and_eq_true] at hc
    obtain ⟨⟨⟨h1, h2⟩, h3⟩, h4⟩ := hc
    cases j with
    | zero =>
      simp [tyF] at h
      subst h
      split at h3
      · rename_i te hte
        exact ⟨f, rfl, by simpa [offF] using h1, by simpa using h2, te, hte, by simpa using h3⟩
      · cases h3
    | succ j =>
      obtain ⟨g, hg, ho, hr⟩ := fieldsChk_at h4 (by simpa [tyF] using h)
      exact ⟨g, by simpa using hg, by rw [ho, offF]; omega, hr⟩
  | [], _, .int _, _, _, hc, _ | [], _, .bool, _, _, hc, _ | [], _, .str, _, _, hc, _ | [], _, .opq, _, _, hc, _ | [], _, .pair .., _, _, hc, _ | [], _, .arr .., _, _, hc, _ | [], _, .sl _, _, _, hc, _
  | _ :: _, _, .int _, _, _, hc, _ | _ :: _, _, .bool, _, _, hc, _ | _ :: _, _, .str, _, _, hc, _ | _ :: _, _, .opq, _, _, hc, _ | _ :: _, _, .unit, _, _, hc, _ | _ :: _, _, .arr .., _, _, hc, _
  | _ :: _, _, .sl _, _, _, hc, _ => by simp [fieldsChk] at hc
theorem TyFact.field {j : Nat} {u : Ty} (h : TyFact P T t ti) (hf : tyF ti.ty j = some u) : ∃ fs f, P.underlying t = some (.struct fs) ∧ fs[j]? = some f ∧ f.offset = offF ti.ty j ∧ u.size ≠ 0 ∧ ∃ te, look T f.type = some te ∧ te.ty = u := by
  have hu := h.und
  unfold undChk at hu
  split at hu <;> (try (cases hu; done)) <;> (rename_i e1 e2; try (rw [e1] at hf; simp [tyF] at hf; done))
  rename_i a b fs
  rw [e1] at hf ⊢
  obtain ⟨f, hf1, hf2, hf3⟩ := fieldsChk_at hu hf
  exact ⟨_, f, e2, by simpa using hf1, by simpa using hf2, hf3⟩
end

/-! ### One step of memory -/
section
variable {B : Nat} {F : Nat → Prop} {w0 : World} {lim : Nat} {m : Mem} {G : Nat → Value} {w : World}

theorem CnOk.no {b : Nat} {c : Cn} (h : CnOk B F m G w b c) {k : Nat} (hk : hdNo (G b) = some k) : B ≤ k ∧ k < w.heap.size := by
  cases c with
  | var T c =>
    obtain ⟨g, arr, e, h1, h2, h3, _⟩ := h
    rw [h1] at hk
    simp [hdNo] at hk
    subst hk
    exact ⟨h2, (Array.getElem?_eq_some_iff.1 h3).1⟩
  | row e t xs v =>
    obtain ⟨cells, h1, _⟩ := h
    have : (G b).ownBlock = some k := by
      rcases h1.2 with ⟨h2, _⟩ | ⟨g, cap, cur, h2, _⟩
      · rw [h2] at hk; simp [hdNo] at hk
      · rw [h2] at hk ⊢; simpa [hdNo, Value.ownBlock] using hk
    exact h1.lt k this

/-- What is known of a block stays known where neither it nor its header has turned. -/
theorem CnOk.mono {m' : Mem} {G' : Nat → Value} {w' : World} (ht : Tr B F m G w m' G' w') {b : Nat} {c : Cn} (h : CnOk B F m G w b c) (hg : G' b = G b) (hk : ∀ k, hdNo (G b) = some k → w'.heap[k]? = w.heap[k]?) : CnOk B F m' G' w' b c := by
  cases c with
  | var T c =>
    obtain ⟨g, arr, e, h1, h2, h3, h4, h5⟩ := h
    exact ⟨g, arr, e, hg.trans h1, h2, (hk g (by rw [h1]; rfl)).trans h3, h4, repA.mono ht _ _ _ h5⟩
  | row e t xs v =>
    obtain ⟨cells, h1, h2, h3⟩ := h
    refine ⟨cells, ?_, h2.mono fun x cs hx => RepV.mono ht.fr _ _ _ hx, h3⟩
    rw [hg]
    refine ⟨h1.1, ?_⟩
    rcases h1.2 with h2 | ⟨g, cap, cur, h2, h4, h5, h6⟩
    · exact .inl h2
    · exact .inr ⟨g, cap, cur, h2, h4, (hk g (by rw [h2]; rfl)).trans h5, h6⟩

def upd (G : Nat → Value) (b : Nat) (v : Value) : Nat → Value := fun i => if i = b then v else G i

/-- One block changes, or comes into being. -/
theorem MemOk.step (h : MemOk B F w0 lim m G w) {b0 : Nat} {c0 : Cn} {z0 : Bool} {g0 : Value} {w' : World}
    (hb : Below B w w') (hheap : ∀ k, k < w.heap.size → (∀ c, m b0 = some (c, false) → hdNo (G b0) ≠ some k) → w'.heap[k]? = w.heap[k]?)
    (hnum : ∀ k, hdNo g0 = some k → ((∃ x, m b0 = some x) ∧ hdNo (G b0) = some k) ∨ (w.heap.size ≤ k))
    (hold : ∀ c z, m b0 = some (c, z) → compat c c0 ∧ (sameHead c c0 → g0 = G b0) ∧ (z = true → z0 = true))
    (hlim : b0 < lim)
    (hc : Tr B F m G w (m.set b0 (c0, z0)) (upd G b0 g0) w' → CnOk B F (m.set b0 (c0, z0)) (upd G b0 g0) w' b0 c0) :
    MemOk B F w0 lim (m.set b0 (c0, z0)) (upd G b0 g0) w' ∧ Tr B F m G w (m.set b0 (c0, z0)) (upd G b0 g0) w' := by
  have htr : Tr B F m G w (m.set b0 (c0, z0)) (upd G b0 g0) w' := by
    refine ⟨fun k hk => ?_, fun b c z hbc => ?_⟩
    · rcases hk with ⟨h1, h2⟩ | ⟨h1, h2, h3⟩
      · exact ⟨.inl ⟨h1, h2⟩, hb.block k h1⟩
      · refine ⟨.inr ⟨h1, by have := hb.size; omega, fun b c hbc => ?_⟩, hheap k h2 fun c hc => h3 b0 c hc⟩
        unfold Mem.set at hbc
        unfold upd
        split
        · rename_i e
          subst e
          rw [if_pos rfl] at hbc
          injection hbc with hbc
          injection hbc with _ hz
          subst hz
          intro hk
          rcases hnum k hk with ⟨⟨⟨c', z'⟩, hx⟩, hk'⟩ | hk'
          · cases z' with
            | true => have := (hold c' true hx).2.2 rfl; cases this
            | false => exact h3 b c' hx hk'
          · omega
        · rename_i e
          rw [if_neg e] at hbc
          exact h3 b c hbc
    · by_cases e : b = b0
      · subst e
        obtain ⟨k1, k2, _⟩ := hold c z hbc
        exact ⟨c0, z0, by simp [Mem.set], k1, fun hs => by rw [upd, if_pos rfl]; exact k2 hs⟩
      · exact ⟨c, z, by simpa [Mem.set, e] using hbc, compat.refl c, fun _ => by simp [upd, e]⟩
  refine ⟨⟨h.below.trans hb, Nat.le_trans h.base hb.size, fun b c z hbc => ?_, fun b b' x y hne hx hy k hk => ?_, fun b x hx => ?_⟩, htr⟩
  · by_cases e : b = b0
    · subst e
      simp [Mem.set] at hbc
      obtain ⟨rfl, rfl⟩ := hbc
      exact hc htr
    · have hbc' : m b = some (c, z) := by simpa [Mem.set, e] using hbc
      have hok := h.blk b c z hbc'
      refine hok.mono htr (by simp [upd, e]) fun k hk => ?_
      refine hheap k (hok.no hk).2 fun c' hc' hk' => ?_
      exact h.dist b b0 _ _ e hbc' hc' k hk hk'
  · have key : ∀ b, b ≠ b0 → ∀ x, m b = some x → ∀ k, hdNo g0 = some k → hdNo (G b) ≠ some k := by
      intro b hb x hx k hk hk'
      rcases hnum k hk with ⟨⟨y, hy⟩, h2⟩ | h2
      · exact h.dist b b0 _ _ hb hx hy k hk' h2
      · have := ((h.blk b x.1 x.2 hx).no hk').2
        omega
    by_cases e : b = b0
    · subst e
      have e' : b' ≠ b := fun q => hne q.symm
      rw [upd, if_pos rfl] at hk
      rw [upd, if_neg e']
      exact key b' e' y (by simpa [Mem.set, e'] using hy) k hk
    · have hx' : m b = some x := by simpa [Mem.set, e] using hx
      rw [upd, if_neg e] at hk
      by_cases e' : b' = b0
      · subst e'
        rw [upd, if_pos rfl]
        exact fun hk' => key b e x hx' k hk' hk
      · rw [upd, if_neg e']
        exact h.dist b b' x y hne hx' (by simpa [Mem.set, e'] using hy) k hk
  · by_cases e : b = b0
    · subst e; exact hlim
    · exact h.lim b x (by simpa [Mem.set, e] using hx)

/-- A block is frozen. -/
theorem MemOk.freeze (h : MemOk B F w0 lim m G w) {b0 : Nat} {c0 : Cn} {z0 : Bool} (hm : m b0 = some (c0, z0)) :
    MemOk B F w0 lim (m.set b0 (c0, true)) G w ∧ Tr B F m G w (m.set b0 (c0, true)) G w := by
  have hg : upd G b0 (G b0) = G := by
    funext i
    unfold upd
    split
    · rename_i e; rw [e]
    · rfl
  have := h.step (b0 := b0) (c0 := c0) (z0 := true) (g0 := G b0) (w' := w) (Below.refl _ _) (fun _ _ _ => rfl) (fun k hk => .inl ⟨⟨_, hm⟩, hk⟩)
    (fun c z hc => by rw [hm] at hc; injection hc with hc; injection hc with h1 h2; subst h1; exact ⟨compat.refl _, fun _ => rfl, fun _ => rfl⟩) (h.lim _ _ hm)
    (fun ht => (h.blk _ _ _ hm).mono ht (by simp [upd]) fun _ _ => rfl)
  rwa [hg] at this

/-- The world grows; no block that was there turns. -/
theorem MemOk.grown (h : MemOk B F w0 lim m G w) {w' : World} (hb : Below w.heap.size w w') : MemOk B F w0 lim m G w' ∧ Tr B F m G w m G w' := by
  have htr : Tr B F m G w m G w' := by
    refine ⟨fun k hk => ?_, fun b c z hbc => ⟨c, z, hbc, compat.refl c, fun _ => rfl⟩⟩
    rcases hk with ⟨h1, h2⟩ | ⟨h1, h2, h3⟩
    · exact ⟨.inl ⟨h1, h2⟩, hb.block k (by have := h.base; omega)⟩
    · exact ⟨.inr ⟨h1, by have := hb.size; omega, h3⟩, hb.block k h2⟩
  refine ⟨⟨h.below.trans (hb.mono h.base), Nat.le_trans h.base hb.size, fun b c z hbc => ?_, h.dist, h.lim⟩, htr⟩
  have hok := h.blk b c z hbc
  exact hok.mono htr rfl fun k hk => hb.block k (hok.no hk).2

theorem MemOk.frz_live (h : MemOk B F w0 lim m G w) {b : Nat} {c : Cn} {k : Nat} (hm : m b = some (c, true)) (hk : hdNo (G b) = some k) : Frz B F m G w k := by
  have := (h.blk _ _ _ hm).no hk
  refine .inr ⟨this.1, this.2, fun b' c' hb' hk' => ?_⟩
  by_cases e : b' = b
  · subst e
    rw [hm] at hb'
    injection hb' with hb'
    injection hb' with _ hz
    cases hz
  · exact h.dist b b' _ _ (fun q => e q.symm) hm hb' k hk hk'
end
end Go.Refl
