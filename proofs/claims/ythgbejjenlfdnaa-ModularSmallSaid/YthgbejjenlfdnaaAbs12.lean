/-
  Operations that don't meet may stand in either order.
-/
import Derived.Test.YthgbejjenlfdnaaAbs11
set_option linter.unusedVariables false
set_option linter.unusedSimpArgs false
namespace Go.Refl
open Go Go.RowKit

/-! ### What an effect leaves alone -/
def cont (x : Option (Cn × Bool)) : Option Cn := x.map (·.1)

/-- Two memories look alike to a footprint. -/
def Alike (q : FP) (m m2 : Mem) : Prop := ∀ b, ((b, 2) ∈ q → m2 b = m b) ∧ ((∃ k, (b, k) ∈ q) → cont (m2 b) = cont (m b))

/-- What a footprint's effect did to a memory. -/
structure Did (q : FP) (m m' : Mem) : Prop where
  same : ∀ b, (b, 1) ∉ q → (b, 2) ∉ q → m' b = m b
  froze : ∀ b, (b, 1) ∈ q → (b, 2) ∉ q → ∃ c z, m b = some (c, z) ∧ m' b = some (c, true)

theorem go_frame {α : Type} : ∀ (e : Eff α) {m m' : Mem} {p p' : FP} {x : α}, (e.go m p).run = some (x, m', p') → ∃ q, p' = q ++ p ∧ (∀ y ∈ q, y.2 < 3) ∧ Did q m m' ∧
    ∀ (m2 : Mem) (p2 : FP), Alike q m m2 → ∃ m2', (e.go m2 p2).run = some (x, m2', q ++ p2) ∧ ∀ b, (((b, 1) ∈ q ∨ (b, 2) ∈ q) → m2' b = m' b) ∧ ((b, 1) ∉ q → (b, 2) ∉ q → m2' b = m2 b)
  | .ret a, m, m', p, p', x, h => by
    simp only [Eff.go, Pr.run] at h
    injection h with h
    injection h with h1 h2
    injection h2 with h2 h3
    subst h1; subst h2; subst h3
    exact ⟨[], rfl, by simp, ⟨fun _ _ _ => rfl, by simp⟩, fun m2 p2 _ => ⟨m2, rfl, by simp⟩⟩
  | .fail, m, m', p, p', x, h => by cases h
  | .tst c y n, m, m', p, p', x, h => by
    rw [go_tst] at h
    cases c with
    | true =>
      obtain ⟨q, h1, h2, h3, h4⟩ := go_frame y (by simpa using h)
      exact ⟨q, h1, h2, h3, fun m2 p2 ha => by simpa [go_tst] using h4 m2 p2 ha⟩
    | false =>
      obtain ⟨q, h1, h2, h3, h4⟩ := go_frame n (by simpa using h)
      exact ⟨q, h1, h2, h3, fun m2 p2 ha => by simpa [go_tst] using h4 m2 p2 ha⟩
  | .ask y k, m, m', p, p', x, h => by
    obtain ⟨b, hb, h⟩ := ask_some h
    subst hb
    obtain ⟨q, h1, h2, h3, h4⟩ := go_frame (k b) h
    exact ⟨q, h1, h2, h3, fun m2 p2 ha => h4 m2 p2 ha⟩
  | .rd b k, m, m', p, p', x, h => by
    obtain ⟨c, z, hc, h⟩ := rd_some h
    obtain ⟨q, h1, h2, h3, h4⟩ := go_frame (k c) h
    refine ⟨q ++ [(b, 0)], by rw [h1, List.append_assoc]; rfl, ?_, ⟨fun b' n1 n2 => h3.same b' (fun q => n1 (List.mem_append_left _ q)) (fun q => n2 (List.mem_append_left _ q)), fun b' n1 n2 => ?_⟩, fun m2 p2 ha => ?_⟩
    · intro y hy
      rcases List.mem_append.1 hy with hy | hy
      · exact h2 y hy
      · simp at hy; subst hy; simp
    · rcases List.mem_append.1 n1 with n1 | n1
      · exact h3.froze b' n1 fun q => n2 (List.mem_append_left _ q)
      · simp at n1
    · have hb := (ha b).2 ⟨0, by simp⟩
      rw [hc] at hb
      obtain ⟨z2, hz2⟩ : ∃ z2, m2 b = some (c, z2) := by
        cases hm2 : m2 b with
        | none => rw [hm2] at hb; cases hb
        | some y =>
          rw [hm2] at hb
          simp [cont] at hb
          exact ⟨y.2, by rw [← hb]⟩
      obtain ⟨m2', r1, r2⟩ := h4 m2 ((b, 0) :: p2) fun b' => ⟨fun hq => (ha b').1 (List.mem_append_left _ hq), fun ⟨k, hq⟩ => (ha b').2 ⟨k, List.mem_append_left _ hq⟩⟩
      refine ⟨m2', ?_, fun b' => ?_⟩
      · simp only [Eff.go, hz2]
        rw [r1]
        simp
      · simpa using r2 b'
  | .wr b c k, m, m', p, p', x, h => by
    obtain ⟨c0, hc, h⟩ := wr_some h
    obtain ⟨q, h1, h2, h3, h4⟩ := go_frame k h
    refine ⟨q ++ [(b, 2)], by rw [h1, List.append_assoc]; rfl, ?_, ⟨fun b' n1 n2 => ?_, fun b' n1 n2 => ?_⟩, fun m2 p2 ha => ?_⟩
    · intro y hy
      rcases List.mem_append.1 hy with hy | hy
      · exact h2 y hy
      · simp at hy; subst hy; simp
    · have hne : b' ≠ b := fun e => n2 (by subst e; simp)
      rw [h3.same b' (fun q => n1 (List.mem_append_left _ q)) (fun q => n2 (List.mem_append_left _ q))]
      simp [Mem.set, hne]
    · have hne : b' ≠ b := fun e => n2 (by subst e; simp)
      rcases List.mem_append.1 n1 with n1 | n1
      · obtain ⟨c', z', q1, q2⟩ := h3.froze b' n1 fun q => n2 (List.mem_append_left _ q)
        exact ⟨c', z', by simpa [Mem.set, hne] using q1, q2⟩
      · simp at n1
    · have hb := (ha b).1 (by simp)
      have ha' : Alike q (m.set b (c, false)) (m2.set b (c, false)) := fun b' => by
        by_cases e : b' = b
        · subst e; simp [Mem.set]
        · simp only [Mem.set, if_neg e]
          exact ⟨fun hq => (ha b').1 (List.mem_append_left _ hq), fun ⟨k, hq⟩ => (ha b').2 ⟨k, List.mem_append_left _ hq⟩⟩
      obtain ⟨m2', r1, r2⟩ := h4 (m2.set b (c, false)) ((b, 2) :: p2) ha'
      refine ⟨m2', ?_, fun b' => ?_⟩
      · simp only [Eff.go, hb, hc]
        rw [r1]
        simp
      · by_cases e : b' = b
        · subst e
          refine ⟨fun _ => ?_, fun _ n2 => (n2 (by simp)).elim⟩
          by_cases hq : (b', 1) ∈ q ∨ (b', 2) ∈ q
          · exact (r2 b').1 hq
          · have hq1 : (b', 1) ∉ q := fun h => hq (.inl h)
            have hq2 : (b', 2) ∉ q := fun h => hq (.inr h)
            rw [(r2 b').2 hq1 hq2, h3.same b' hq1 hq2]
            simp [Mem.set]
        · have := r2 b'
          simp only [List.mem_append, List.mem_singleton, Prod.mk.injEq, e, false_and, or_false]
          refine ⟨this.1, fun n1 n2 => ?_⟩
          rw [this.2 n1 n2]
          simp [Mem.set, e]
  | .fz b k, m, m', p, p', x, h => by
    obtain ⟨c, z, hc, h⟩ := fz_some h
    obtain ⟨q, h1, h2, h3, h4⟩ := go_frame k h
    refine ⟨q ++ [(b, 1)], by rw [h1, List.append_assoc]; rfl, ?_, ⟨fun b' n1 n2 => ?_, fun b' n1 n2 => ?_⟩, fun m2 p2 ha => ?_⟩
    · intro y hy
      rcases List.mem_append.1 hy with hy | hy
      · exact h2 y hy
      · simp at hy; subst hy; simp
    · have hne : b' ≠ b := fun e => n1 (by subst e; simp)
      rw [h3.same b' (fun q => n1 (List.mem_append_left _ q)) (fun q => n2 (List.mem_append_left _ q))]
      simp [Mem.set, hne]
    · have n2' : (b', 2) ∉ q := fun q => n2 (List.mem_append_left _ q)
      by_cases e : b' = b
      · subst e
        refine ⟨c, z, hc, ?_⟩
        by_cases hq : (b', 1) ∈ q
        · obtain ⟨c', z', q1, q2⟩ := h3.froze b' hq n2'
          simp [Mem.set] at q1
          rw [q2, q1.1]
        · rw [h3.same b' hq n2']
          simp [Mem.set]
      · rcases List.mem_append.1 n1 with n1 | n1
        · obtain ⟨c', z', q1, q2⟩ := h3.froze b' n1 n2'
          exact ⟨c', z', by simpa [Mem.set, e] using q1, q2⟩
        · simp [e] at n1
    · have hb := (ha b).2 ⟨1, by simp⟩
      rw [hc] at hb
      obtain ⟨z2, hz2⟩ : ∃ z2, m2 b = some (c, z2) := by
        cases hm2 : m2 b with
        | none => rw [hm2] at hb; cases hb
        | some y =>
          rw [hm2] at hb
          simp [cont] at hb
          exact ⟨y.2, by rw [← hb]⟩
      have ha' : Alike q (m.set b (c, true)) (m2.set b (c, true)) := fun b' => by
        by_cases e : b' = b
        · subst e; simp [Mem.set]
        · simp only [Mem.set, if_neg e]
          exact ⟨fun hq => (ha b').1 (List.mem_append_left _ hq), fun ⟨k, hq⟩ => (ha b').2 ⟨k, List.mem_append_left _ hq⟩⟩
      obtain ⟨m2', r1, r2⟩ := h4 (m2.set b (c, true)) ((b, 1) :: p2) ha'
      refine ⟨m2', ?_, fun b' => ?_⟩
      · simp only [Eff.go, hz2]
        rw [r1]
        simp
      · by_cases e : b' = b
        · subst e
          refine ⟨fun _ => ?_, fun n1 _ => (n1 (by simp)).elim⟩
          by_cases hq : (b', 1) ∈ q ∨ (b', 2) ∈ q
          · exact (r2 b').1 hq
          · have hq1 : (b', 1) ∉ q := fun h => hq (.inl h)
            have hq2 : (b', 2) ∉ q := fun h => hq (.inr h)
            rw [(r2 b').2 hq1 hq2, h3.same b' hq1 hq2]
            simp [Mem.set]
        · have := r2 b'
          simp only [List.mem_append, List.mem_singleton, Prod.mk.injEq, e, false_and, or_false]
          refine ⟨this.1, fun n1 n2 => ?_⟩
          rw [this.2 n1 n2]
          simp [Mem.set, e]
  | .nw b c k, m, m', p, p', x, h => by
    obtain ⟨hc, h⟩ := nw_some h
    obtain ⟨q, h1, h2, h3, h4⟩ := go_frame k h
    refine ⟨q ++ [(b, 2)], by rw [h1, List.append_assoc]; rfl, ?_, ⟨fun b' n1 n2 => ?_, fun b' n1 n2 => ?_⟩, fun m2 p2 ha => ?_⟩
    · intro y hy
      rcases List.mem_append.1 hy with hy | hy
      · exact h2 y hy
      · simp at hy; subst hy; simp
    · have hne : b' ≠ b := fun e => n2 (by subst e; simp)
      rw [h3.same b' (fun q => n1 (List.mem_append_left _ q)) (fun q => n2 (List.mem_append_left _ q))]
      simp [Mem.set, hne]
    · have hne : b' ≠ b := fun e => n2 (by subst e; simp)
      rcases List.mem_append.1 n1 with n1 | n1
      · obtain ⟨c', z', q1, q2⟩ := h3.froze b' n1 fun q => n2 (List.mem_append_left _ q)
        exact ⟨c', z', by simpa [Mem.set, hne] using q1, q2⟩
      · simp at n1
    · have hb := (ha b).1 (by simp)
      have ha' : Alike q (m.set b (c, false)) (m2.set b (c, false)) := fun b' => by
        by_cases e : b' = b
        · subst e; simp [Mem.set]
        · simp only [Mem.set, if_neg e]
          exact ⟨fun hq => (ha b').1 (List.mem_append_left _ hq), fun ⟨k, hq⟩ => (ha b').2 ⟨k, List.mem_append_left _ hq⟩⟩
      obtain ⟨m2', r1, r2⟩ := h4 (m2.set b (c, false)) ((b, 2) :: p2) ha'
      refine ⟨m2', ?_, fun b' => ?_⟩
      · simp only [Eff.go, hb, hc]
        rw [r1]
        simp
      · by_cases e : b' = b
        · subst e
          refine ⟨fun _ => ?_, fun _ n2 => (n2 (by simp)).elim⟩
          by_cases hq : (b', 1) ∈ q ∨ (b', 2) ∈ q
          · exact (r2 b').1 hq
          · have hq1 : (b', 1) ∉ q := fun h => hq (.inl h)
            have hq2 : (b', 2) ∉ q := fun h => hq (.inr h)
            rw [(r2 b').2 hq1 hq2, h3.same b' hq1 hq2]
            simp [Mem.set]
        · have := r2 b'
          simp only [List.mem_append, List.mem_singleton, Prod.mk.injEq, e, false_and, or_false]
          refine ⟨this.1, fun n1 n2 => ?_⟩
          rw [this.2 n1 n2]
          simp [Mem.set, e]

/-- Footprints that leave each other alone. -/
theorem apartF_spec {p q : FP} (h : apartF p q = true) {b k k' : Nat} (hp : (b, k) ∈ p) (hq : (b, k') ∈ q) : k < 2 ∧ k' < 2 := by
  have := List.all_eq_true.1 (List.all_eq_true.1 h _ hp) _ hq
  simp only [apartX, Bool.or_eq_true, Bool.and_eq_true, Bool.not_eq_true'] at this
  rcases this with this | this
  · have h1 : Nat.beq b b = true := Nat.beq_refl b
    rw [h1] at this
    cases this
  · simp [Nat.blt] at this
    omega

theorem cont_did {q : FP} {m m' : Mem} (h : Did q m m') {b : Nat} (hb : (b, 2) ∉ q) : cont (m' b) = cont (m b) := by
  by_cases h1 : (b, 1) ∈ q
  · obtain ⟨c, z, q1, q2⟩ := h.froze b h1 hb
    rw [q1, q2]
    rfl
  · rw [h.same b h1 hb]

/-- Two effects that leave each other alone, in the other order. -/
theorem eff_swap {α β : Type} {e : Eff α} {f : Eff β} {m m1 m2 : Mem} {x : α} {y : β} {p q : FP} (he : (e.go m []).run = some (x, m1, p)) (hf : (f.go m1 []).run = some (y, m2, q)) (ha : apartF p q = true) :
    ∃ my, (f.go m []).run = some (y, my, q) ∧ (e.go my []).run = some (x, m2, p) ∧ (∀ z ∈ q, present m z.1 = present m1 z.1) ∧ (∀ z ∈ p, present my z.1 = present m z.1) := by
  obtain ⟨p', e1, _, hd, hfr⟩ := go_frame e he
  obtain ⟨q', e2, _, hd2, hfr2⟩ := go_frame f hf
  rw [List.append_nil] at e1 e2
  subst e1; subst e2
  have hlow : ∀ {b k k'}, (b, k) ∈ p → (b, k') ∈ q → k < 2 ∧ k' < 2 := fun hp hq => apartF_spec ha hp hq
  have a1 : Alike q m1 m := fun b => by
    refine ⟨fun hq => ?_, fun ⟨k, hq⟩ => ?_⟩
    · rw [hd.same b (fun hp => by have := (hlow hp hq).2; omega) (fun hp => by have := (hlow hp hq).2; omega)]
    · rw [cont_did hd fun hp => by have := (hlow hp hq).1; omega]
  obtain ⟨my, r1, r2⟩ := hfr2 m [] a1
  rw [List.append_nil] at r1
  have a2 : Alike p m my := fun b => by
    by_cases hq : (b, 1) ∈ q ∨ (b, 2) ∈ q
    · refine ⟨fun hp => ?_, fun ⟨k, hp⟩ => ?_⟩
      · rcases hq with hq | hq <;> (have := (hlow hp hq).1; omega)
      · have hq2 : (b, 2) ∉ q := fun hq => by have := (hlow hp hq).2; omega
        have hp2 : (b, 2) ∉ p := fun hp => by rcases hq with hq | hq <;> (have := (hlow hp hq).1; omega)
        rw [(r2 b).1 hq, cont_did hd2 hq2, cont_did hd hp2]
    · have h1 : (b, 1) ∉ q := fun h => hq (.inl h)
      have h2 : (b, 2) ∉ q := fun h => hq (.inr h)
      rw [(r2 b).2 h1 h2]
      exact ⟨fun _ => rfl, fun _ => rfl⟩
  obtain ⟨m3, s1, s2⟩ := hfr my [] a2
  rw [List.append_nil] at s1
  have hpc : ∀ {a b : Option (Cn × Bool)}, cont a = cont b → a.isSome = b.isSome := by
    intro a b h
    cases a <;> cases b <;> simp [cont] at h ⊢
  refine ⟨my, r1, ?_, fun z hz => hpc ((a1 z.1).2 ⟨z.2, hz⟩), fun z hz => hpc ((a2 z.1).2 ⟨z.2, hz⟩)⟩
  have : m3 = m2 := by
    funext b
    by_cases hp : (b, 1) ∈ p ∨ (b, 2) ∈ p
    · rw [(s2 b).1 hp]
      by_cases hq : (b, 1) ∈ q ∨ (b, 2) ∈ q
      · have hq2 : (b, 2) ∉ q := fun hq => by rcases hp with hp | hp <;> (have := (hlow hp hq).2; omega)
        have hq1 : (b, 1) ∈ q := hq.resolve_right hq2
        have hp2 : (b, 2) ∉ p := fun hp => by have := (hlow hp hq1).1; omega
        have hp1 : (b, 1) ∈ p := hp.resolve_right hp2
        obtain ⟨c, z, t1, t2⟩ := hd.froze b hp1 hp2
        obtain ⟨c', z', t3, t4⟩ := hd2.froze b hq1 hq2
        rw [t2] at t3
        injection t3 with t3
        injection t3 with t3 _
        rw [t2, t4, t3]
      · rw [hd2.same b (fun h => hq (.inl h)) (fun h => hq (.inr h))]
    · have hp1 : (b, 1) ∉ p := fun h => hp (.inl h)
      have hp2 : (b, 2) ∉ p := fun h => hp (.inr h)
      rw [(s2 b).2 hp1 hp2]
      by_cases hq : (b, 1) ∈ q ∨ (b, 2) ∈ q
      · exact (r2 b).1 hq
      · have hq1 : (b, 1) ∉ q := fun h => hq (.inl h)
        have hq2 : (b, 2) ∉ q := fun h => hq (.inr h)
        rw [(r2 b).2 hq1 hq2, hd2.same b hq1 hq2, hd.same b hp1 hp2]
  rw [← this]
  exact s1

/-! ### One operation, told plainly -/
/-- Is the operation wanted, by the temporaries? -/
def gv (ops : List Oper) (o : Oper) (env : List AV) : Option Bool := match o.guard with
  | none => some true
  | some (j, want) => match (ops[j]?).bind (·.dst) with
    | some d => match env.getD d .undef with
      | .val .bool b => some (b == want)
      | .tp .un => some false
      | _ => none
    | none => none

theorem set_getD_self {l : List AV} {d : Nat} {v : AV} (h : l.getD d .undef = v) (hv : v ≠ .undef) : l.set d v = l := by
  have hd : d < l.length := by
    rcases Nat.lt_or_ge d l.length with hd | hd
    · exact hd
    · rw [List.getD_eq_getElem?_getD, List.getElem?_eq_none hd] at h
      exact (hv h.symm).elim
  rw [List.getD_eq_getElem?_getD, List.getElem?_eq_getElem hd] at h
  subst h
  simp

theorem wantedK_run {β : Type} {ops : List Oper} {o : Oper} {env : List AV} {kn : List Nat} {k : Bool → List AV → List Nat → Pr β} : ∃ kn', (wantedK ops o env kn k).run = (gv ops o env).bind fun w => (k w env kn').run := by
  unfold wantedK gv
  cases o.guard with
  | none => exact ⟨kn, rfl⟩
  | some jw =>
    obtain ⟨j, want⟩ := jw
    simp only
    cases (ops[j]?).bind (·.dst) with
    | none => exact ⟨kn, rfl⟩
    | some d =>
      simp only
      generalize hb : env.getD d .undef = av
      cases av with
      | val t b =>
        cases t <;> try exact ⟨kn, rfl⟩
        have hs := set_getD_self hb (by simp)
        change Bool at b
        cases hk : kn.any (Nat.beq d) with
        | true =>
          refine ⟨kn, ?_⟩
          cases b <;> cases want <;> rfl
        | false =>
          refine ⟨d :: kn, ?_⟩
          cases b
          · simp only [Pr.run, Bool.false_eq_true, if_false, hs, Option.bind_some]
            cases want <;> rfl
          · simp only [Pr.run, if_true, hs, Option.bind_some]
            cases want <;> rfl
      | tp l => cases l <;> exact ⟨kn, rfl⟩
      | _ => exact ⟨kn, rfl⟩

theorem opEffK_run {cx : Cx} {site : Nat} {env : List AV} {kn : List Nat} {op : Op} {m : Mem} {p : FP} : ((opEffK cx site env kn op).go m p).run = ((opEff cx site (ev env) op).go m p).run := by
  unfold opEffK
  split
  · split
    · rename_i t _ ht
      simp only [opEff, ht]
      change Bool at t
      cases t <;> rfl
    · rfl
  · rfl

theorem bind_run {α β : Type} : ∀ (x : Pr α) (f : α → Pr β), (x.bind f).run = x.run.bind fun a => (f a).run
  | .ret _, _ => rfl
  | .fail, _ => rfl
  | .tst c y n, f => by
    simp only [Pr.bind, Pr.run, bind_run y f, bind_run n f]
    split <;> rfl
  | .ask m k, f => by
    simp only [Pr.bind, Pr.run]
    cases m with
    | none => rfl
    | some b => exact bind_run (k b) f

theorem runK_run {α γ : Type} : ∀ (x : Pr α) (K : α → Option γ), x.runK K = x.run.bind K
  | .ret _, _ => rfl
  | .fail, _ => rfl
  | .tst c y n, K => by
    simp only [Pr.runK, Pr.run, runK_run y K, runK_run n K]
    split <;> rfl
  | .ask m k, K => by
    simp only [Pr.runK, Pr.run]
    cases m with
    | none => rfl
    | some b => exact runK_run (k b) K

/-- One operation that isn't a call that is walked into. -/
inductive Stp (cx : Cx) (inl : Inl) (fb base : Nat) (ops : List Oper) (i : Nat) (o : Oper) : List AV × Mem → List AV × Mem → FP → Prop
  | run {env : List AV} {m m' : Mem} {av : AV} {p : FP} (hg : gv ops o env = some true) (hn : inlined inl (base + i) env o.op = none) (hl : base + i < fb + 1000000) (h : ((opEff cx (base + i) (ev env) o.op).go m []).run = some (av, m', p))
      (hq : (p.all fun x => Nat.ble fb x.1 || present m x.1) = true) : Stp cx inl fb base ops i o (env, m) (putEnv env o.dst av, m') p
  | skip {env : List AV} {m : Mem} (hg : gv ops o env = some false) : Stp cx inl fb base ops i o (env, m) (putEnv env o.dst (.tp .un), m) []

/-- What a step comes to: a plain operation, or a call that is walked into. -/
theorem stepR_some {cx : Cx} {inl : Inl} {ids : List Nat} {fb base : Nat} {ops : List Oper} {i : Nat} {o : Oper} {env env' : List AV} {m m' : Mem} {kn kn' : List Nat} {p : FP} (h : (stepR cx inl ids fb ops (base + i) o env m kn).run = some (env', m', p, kn')) :
    Stp cx inl fb base ops i o (env, m) (env', m') p ∨
    (gv ops o env = some true ∧ p = [(0, 3)] ∧ ∃ run av, inlined inl (base + i) env o.op = some run ∧ (run m ids).run = some (av, m') ∧ closed m' env [] = true ∧ env' = putEnv env o.dst av) := by
  unfold stepR at h
  obtain ⟨kn1, hw⟩ := wantedK_run (ops := ops) (o := o) (env := env) (kn := kn) (k := fun w env kn =>
    match w with
    | true => match inlined inl (base + i) env o.op with
      | some run => (run m ids).bind fun r => if closed r.2 env [] then .ret (putEnv env o.dst r.1, r.2, [(0, 3)], putKn kn o.dst false) else .fail
      | none => if base + i < fb + 1000000 then ((opEffK cx (base + i) env kn o.op).go m []).bind fun r =>
          if (r.2.2.all fun x => Nat.ble fb x.1 || present m x.1) = true then .ret (putEnv env o.dst r.1, r.2.1, r.2.2, putKn kn o.dst (hint kn env o.op)) else .fail
        else .fail
    | false => (.ret (putEnv env o.dst (.tp .un), m, [], putKn kn o.dst false) : Pr (List AV × Mem × FP × List Nat)))
  replace h := hw.symm.trans h
  clear hw
  cases hg : gv ops o env with
  | none => rw [hg] at h; cases h
  | some w =>
    rw [hg] at h
    simp only [Option.bind_some] at h
    cases w with
    | true =>
      simp only at h
      split at h
      · rename_i run hi
        rw [bind_run] at h
        obtain ⟨⟨av, m1⟩, h1, h2⟩ := Option.bind_eq_some_iff.1 h
        split at h2
        · rename_i hc
          simp only [Pr.run] at h2
          injection h2 with h2
          injection h2 with q1 q2
          injection q2 with q2 q3
          injection q3 with q3 _
          subst q1; subst q2; subst q3
          exact .inr ⟨rfl, rfl, run, av, hi, h1, hc, rfl⟩
        · cases h2
      · rename_i hi
        split at h
        · rename_i hl
          rw [bind_run, opEffK_run] at h
          obtain ⟨⟨av, m1, p1⟩, h1, h2⟩ := Option.bind_eq_some_iff.1 h
          split at h2
          · rename_i hq
            simp only [Pr.run] at h2
            injection h2 with h2
            injection h2 with q1 q2
            injection q2 with q2 q3
            injection q3 with q3 _
            subst q1; subst q2; subst q3
            exact .inl (.run hg hi hl h1 hq)
          · cases h2
        · cases h
    | false =>
      simp only [Pr.run] at h
      injection h with h
      injection h with q1 q2
      injection q2 with q2 q3
      injection q3 with q3 _
      subst q1; subst q2; subst q3
      exact .inl (.skip hg)

/-! ### Temporaries -/
theorem ev_congr {env env' : List AV} {x : Operand} (h : ∀ t, x = .tmp t → env'.getD t .undef = env.getD t .undef) : ev env' x = ev env x := by
  cases x with
  | tmp t => exact h t rfl
  | _ => rfl

theorem putEnv_getD {env : List AV} {dst : Option Tmp} {v : AV} {t : Nat} (h : dst ≠ some t) : (putEnv env dst v).getD t .undef = env.getD t .undef := by
  cases dst with
  | none => rfl
  | some d =>
    simp only [putEnv, List.getD_eq_getElem?_getD]
    rw [List.getElem?_set_ne (by intro e; exact h (by rw [e]))]

theorem putEnv_comm {env : List AV} {d e : Option Tmp} {u v : AV} (h : ∀ t, d = some t → e ≠ some t) : putEnv (putEnv env d u) e v = putEnv (putEnv env e v) d u := by
  cases d with
  | none => rfl
  | some d =>
    cases e with
    | none => rfl
    | some e =>
      simp only [putEnv]
      exact List.set_comm _ _ (by intro q; exact h d rfl (by rw [q]))

theorem gv_congr {ops : List Oper} {o : Oper} {env env' : List AV} (h : ∀ t ∈ guardTmp ops o, env'.getD t .undef = env.getD t .undef) : gv ops o env' = gv ops o env := by
  unfold gv
  unfold guardTmp at h
  split
  · rfl
  · rename_i j want hg
    rw [hg] at h
    simp only at h
    split
    · rename_i d hd
      rw [hd] at h
      rw [h d (by simp)]
    · rfl

theorem map_congr {ρ ρ' : Operand → AV} : ∀ {l : List Operand}, (∀ x ∈ l, ρ' x = ρ x) → l.map ρ' = l.map ρ
  | [], _ => rfl
  | x :: l, h => by rw [List.map_cons, List.map_cons, h x (.head _), map_congr fun y hy => h y (.tail _ hy)]

theorem mapP_congr {ρ ρ' : Operand → AV} : ∀ {l : List (Nat × Operand)}, (∀ x ∈ l, ρ' x.2 = ρ x.2) → (l.map fun q => (q.1, ρ' q.2)) = l.map fun q => (q.1, ρ q.2)
  | [], _ => rfl
  | x :: l, h => by rw [List.map_cons, List.map_cons, h x (.head _), mapP_congr fun y hy => h y (.tail _ hy)]

theorem opEff_congr {cx : Cx} {site : Nat} {ρ ρ' : Operand → AV} (op : Op) (h : ∀ x ∈ op.operands.toList, ρ' x = ρ x) : opEff cx site ρ' op = opEff cx site ρ op := by
  cases op with
  | call c =>
    have ha : c.args.toList.map ρ' = c.args.toList.map ρ := map_congr fun x hx => h x (by simp only [Op.operands, Call.operands]; simp; exact .inr (by simpa using hx))
    have ha' : ∀ x ∈ c.args.toList, ρ' x = ρ x := fun x hx => h x (by simp only [Op.operands, Call.operands]; simp; exact .inr (by simpa using hx))
    simp only [opEff]
    split
    · split
      · rename_i h1 _ _; rw [h1] at ha'; simp only [ha' _ (.head _)]
      · rename_i h1 _ _; rw [h1] at ha'; simp only [ha' _ (.head _), ha' _ (.tail _ (.head _))]
      · rename_i h1 _ _; rw [h1] at ha'; simp only [ha' _ (.head _), ha' _ (.tail _ (.head _))]
      · rw [ha]
      · rw [ha]
      · rfl
    · rename_i f hf
      rw [ha, h f (by simp [Op.operands, Call.operands, hf])]
    · rfl
  | build t ps =>
    simp only [opEff]
    rw [mapP_congr fun q hq => h q.2 (by simp only [Op.operands]; simp; exact ⟨q.1, by simpa using hq⟩)]
  | buildSlice t l ps =>
    simp only [opEff]
    rw [mapP_congr fun q hq => h q.2 (by simp only [Op.operands]; simp; exact ⟨q.1, by simpa using hq⟩)]
  | makeFunc fn first cap =>
    cases fn with
    | func f =>
      simp only [opEff]
      rw [map_congr fun x hx => h x (by simp [Op.operands]; exact .inl (by simpa using hx)), map_congr fun x hx => h x (by simp [Op.operands]; exact .inr (by simpa using hx))]
    | _ => rfl
  | slice t x lo hi mx =>
    simp only [opEff]
    rw [h x (by simp [Op.operands])]
    have h1 : lo.map ρ' = lo.map ρ := by
      cases lo with
      | none => rfl
      | some y => rw [Option.map_some, Option.map_some, h y (by simp [Op.operands])]
    have h2 : hi.map ρ' = hi.map ρ := by
      cases hi with
      | none => rfl
      | some y => rw [Option.map_some, Option.map_some, h y (by simp [Op.operands])]
    have h3 : mx.map ρ' = mx.map ρ := by
      cases mx with
      | none => rfl
      | some y => rw [Option.map_some, Option.map_some, h y (by simp [Op.operands])]
    rw [h1, h2, h3]
  | pick c x y =>
    simp only [opEff]
    rw [h c (by simp [Op.operands]), h x (by simp [Op.operands]), h y (by simp [Op.operands])]
  | store t x y =>
    simp only [opEff]
    rw [h x (by simp [Op.operands]), h y (by simp [Op.operands])]
  | binOp op t x y t' =>
    simp only [opEff]
    rw [h x (by simp [Op.operands]), h y (by simp [Op.operands])]
  | makeSlice t x y =>
    simp only [opEff]
    rw [h x (by simp [Op.operands]), h y (by simp [Op.operands])]
  | indexAddr t x y =>
    simp only [opEff]
    rw [h x (by simp [Op.operands]), h y (by simp [Op.operands])]
  | index t x y =>
    simp only [opEff]
    rw [h x (by simp [Op.operands]), h y (by simp [Op.operands])]
  | move x => simp only [opEff]; rw [h x (by simp [Op.operands])]
  | assign x => simp only [opEff]; rw [h x (by simp [Op.operands])]
  | box t x => simp only [opEff]; rw [h x (by simp [Op.operands])]
  | load t x => simp only [opEff]; rw [h x (by simp [Op.operands])]
  | nilCheck x => simp only [opEff]; rw [h x (by simp [Op.operands])]
  | unOp op t x => simp only [opEff]; rw [h x (by simp [Op.operands])]
  | convert s d x => simp only [opEff]; rw [h x (by simp [Op.operands])]
  | fieldAddr t x f => simp only [opEff]; rw [h x (by simp [Op.operands])]
  | field t x f => simp only [opEff]; rw [h x (by simp [Op.operands])]
  | extract x f => simp only [opEff]; rw [h x (by simp [Op.operands])]
  | _ => rfl

theorem inlined_congr {inl : Inl} {site : Nat} {env env' : List AV} (op : Op) (h : ∀ x ∈ op.operands.toList, ev env' x = ev env x) : inlined inl site env' op = inlined inl site env op := by
  cases op with
  | call c =>
    have ha : c.args.toList.map (ev env') = c.args.toList.map (ev env) := map_congr fun x hx => h x (by simp only [Op.operands, Call.operands]; simp; exact .inr (by simpa using hx))
    simp only [inlined]
    split
    · rename_i f hf
      rw [ha, h f (by simp [Op.operands, Call.operands, hf])]
    · rfl
  | _ => rfl

theorem temps_mem {o : Oper} {t : Nat} (h : Operand.tmp t ∈ o.op.operands.toList) : t ∈ temps o := by
  unfold temps
  exact List.mem_filterMap.2 ⟨_, h, rfl⟩

/-- Two steps that leave each other alone, in the other order. -/
theorem stp_swap {cx : Cx} {inl : Inl} {fb base : Nat} {ops : List Oper} {i j : Nat} {o u : Oper} {s s1 s2 : List AV × Mem} {p q : FP} (h1 : Stp cx inl fb base ops j o s s1 p) (h2 : Stp cx inl fb base ops i u s1 s2 q) (hF : apartF p q = true)
    (hT : apartT ops o u = true) : ∃ sy, Stp cx inl fb base ops i u s sy q ∧ Stp cx inl fb base ops j o sy s2 p := by
  simp only [apartT, Bool.and_eq_true] at hT
  obtain ⟨t1, t2⟩ := hT
  -- what u looks at, o doesn't write; what o looks at, u doesn't write
  have d1 : ∀ t, t ∈ looks ops u → o.dst ≠ some t := by
    intro t ht e
    rw [e] at t1
    simp only [Bool.and_eq_true, Bool.not_eq_true', List.contains_eq_mem, decide_eq_false_iff_not] at t1
    exact t1.1 ht
  have d2 : ∀ t, t ∈ looks ops o → u.dst ≠ some t := by
    intro t ht e
    rw [e] at t2
    simp only [Bool.not_eq_true', List.contains_eq_mem, decide_eq_false_iff_not] at t2
    exact t2 ht
  have d3 : ∀ t, o.dst = some t → u.dst ≠ some t := by
    intro t e e'
    rw [e] at t1
    simp only [Bool.and_eq_true, Bool.not_eq_true', List.contains_eq_mem, decide_eq_false_iff_not] at t1
    exact t1.2 (by simp [e'])
  have eq : ∀ {env : List AV} {x : Oper} {dst : Option Tmp} {v : AV}, (∀ t, t ∈ looks ops x → dst ≠ some t) → gv ops x (putEnv env dst v) = gv ops x env ∧ (∀ y ∈ x.op.operands.toList, ev (putEnv env dst v) y = ev env y) := by
    intro env x dst v hd
    refine ⟨gv_congr fun t ht => putEnv_getD (hd t (List.mem_append_right _ ht)), fun y hy => ev_congr fun t e => putEnv_getD (hd t (List.mem_append_left _ (temps_mem (e ▸ hy))))⟩
  cases h1 with
  | skip hg =>
    rename_i env m
    cases h2 with
    | skip hg2 =>
      refine ⟨(putEnv env u.dst (.tp .un), m), .skip (by rw [← (eq d1).1]; exact hg2), ?_⟩
      rw [putEnv_comm d3]
      exact .skip (by rw [(eq d2).1]; exact hg)
    | run hg2 hn hl h hq =>
      rename_i m' av
      obtain ⟨g1, g2⟩ := eq (env := env) (v := .tp .un) d1
      refine ⟨(putEnv env u.dst av, m'), .run (by rw [← g1]; exact hg2) (by rw [← inlined_congr u.op g2]; exact hn) hl (by rw [← opEff_congr u.op g2]; exact h) hq, ?_⟩
      rw [putEnv_comm d3]
      exact .skip (by rw [(eq d2).1]; exact hg)
  | run hg hn hl h hq =>
    rename_i env m m1 av
    cases h2 with
    | skip hg2 =>
      obtain ⟨g1, g2⟩ := eq (env := env) (v := .tp .un) d2
      refine ⟨(putEnv env u.dst (.tp .un), m), .skip (by rw [← (eq d1).1]; exact hg2), ?_⟩
      rw [putEnv_comm d3]
      exact .run (by rw [g1]; exact hg) (by rw [inlined_congr o.op g2]; exact hn) hl (by rw [opEff_congr o.op g2]; exact h) hq
    | run hg2 hn2 hl2 h2 hq2 =>
      rename_i m2 av2
      obtain ⟨g1, g2⟩ := eq (env := env) (v := av) d1
      obtain ⟨k1, k2⟩ := eq (env := env) (v := av2) d2
      rw [opEff_congr u.op g2] at h2
      obtain ⟨my, r1, r2, r3, r4⟩ := eff_swap h h2 hF
      have hall : ∀ {q : FP} {a b : Mem}, (∀ z ∈ q, present b z.1 = present a z.1) → (q.all fun x => Nat.ble fb x.1 || present a x.1) = true → (q.all fun x => Nat.ble fb x.1 || present b x.1) = true := by
        intro q a b h1 h2
        rw [List.all_eq_true] at h2 ⊢
        intro z hz
        rw [h1 z hz]
        exact h2 z hz
      refine ⟨(putEnv env u.dst av2, my), .run (by rw [← g1]; exact hg2) (by rw [← inlined_congr u.op g2]; exact hn2) hl2 r1 (hall r3 hq2), ?_⟩
      rw [putEnv_comm d3]
      exact .run (by rw [k1]; exact hg) (by rw [inlined_congr o.op k2]; exact hn) hl (by rw [opEff_congr o.op k2]; exact r2) (hall r4 hq)

/-! ### Chains of steps -/
inductive Chn (cx : Cx) (inl : Inl) (fb base : Nat) (ops : List Oper) : List (Nat × Oper × FP) → List AV × Mem → List AV × Mem → Prop
  | nil {s : List AV × Mem} : Chn cx inl fb base ops [] s s
  | cons {i : Nat} {o : Oper} {p : FP} {l : List (Nat × Oper × FP)} {s s1 s2 : List AV × Mem} (h : Stp cx inl fb base ops i o s s1 p) (t : Chn cx inl fb base ops l s1 s2) : Chn cx inl fb base ops ((i, o, p) :: l) s s2

/-- What may stand in either order. -/
def Free (ops : List Oper) (x y : Nat × Oper × FP) : Prop := waitsFor y.2.1 x.1 = true ∨ (apartF x.2.2 y.2.2 = true ∧ apartT ops x.2.1 y.2.1 = true)

/-- An operation that waits for none of those ahead of it may be brought to the front. -/
theorem Chn.front {cx : Cx} {inl : Inl} {fb base : Nat} {ops : List Oper} {x : Nat × Oper × FP} : ∀ {pre post : List (Nat × Oper × FP)} {s s2 : List AV × Mem}, Chn cx inl fb base ops (pre ++ x :: post) s s2 →
    (∀ y ∈ pre, Free ops y x) → (∀ y ∈ pre, waitsFor x.2.1 y.1 = false) → Chn cx inl fb base ops (x :: (pre ++ post)) s s2
  | [], post, s, s2, h, _, _ => h
  | (i, o, p) :: pre, post, s, s2, .cons h t, hf, hw => by
    have ht := Chn.front t (fun y hy => hf y (.tail _ hy)) (fun y hy => hw y (.tail _ hy))
    obtain ⟨j, u, q⟩ := x
    cases ht with
    | cons h2 t2 =>
      have := hf (i, o, p) (.head _)
      rcases this with hx | ⟨hx, hy⟩
      · rw [hw (i, o, p) (.head _)] at hx
        cases hx
      · obtain ⟨sy, r1, r2⟩ := stp_swap h h2 hx hy
        exact .cons r1 (.cons r2 t2)
end Go.Refl
