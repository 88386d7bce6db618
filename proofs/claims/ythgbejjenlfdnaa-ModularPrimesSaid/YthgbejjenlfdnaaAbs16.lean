import Derived.Test.YthgbejjenlfdnaaAbs12
import Derived.RegionTactic
import Derived.Deep.LoopGhost
/-
  Regions: in the order of the text, or in whatever order the model draws.
-/
set_option linter.unusedVariables false
set_option linter.unusedSimpArgs false
namespace Go.Refl
open Go Go.RowKit

/-- What a stretch of code does to memory, as those see it whose blocks lie below fb. -/
structure TrF (fb B : Nat) (F : Nat → Prop) (m : Mem) (G : Nat → Value) (w : World) (m' : Mem) (G' : Nat → Value) (w' : World) : Prop where
  fr0 : ∀ k, Frz B (fun _ => True) m G w k → Frz B (fun _ => True) m' G' w' k ∧ w'.heap[k]? = w.heap[k]?
  blk : ∀ b c z, b < fb → m b = some (c, z) → m' b = none ∨ ∃ c' z', m' b = some (c', z') ∧ compat c c' ∧ (sameHead c c' → G' b = G b)
  new : ∀ b, b < fb → m b = none → m' b = none

section
variable {fb B : Nat} {F : Nat → Prop} {m m' m'' : Mem} {G G' G'' : Nat → Value} {w w' w'' : World}
theorem TrF.fr (h : TrF fb B F m G w m' G' w') (k : Nat) (hk : Frz B F m G w k) : Frz B F m' G' w' k ∧ w'.heap[k]? = w.heap[k]? := by
  obtain ⟨h1, h2, h3⟩ := hk
  obtain ⟨⟨_, k2, k3⟩, k4⟩ := h.fr0 k ⟨trivial, h2, h3⟩
  exact ⟨⟨h1, k2, k3⟩, k4⟩
theorem TrF.refl : TrF fb B F m G w m G w := ⟨fun _ h => ⟨h, rfl⟩, fun b c z _ h => .inr ⟨c, z, h, compat.refl c, fun _ => rfl⟩, fun _ _ h => h⟩
theorem TrF.trans (h : TrF fb B F m G w m' G' w') (k : TrF fb B F m' G' w' m'' G'' w'') : TrF fb B F m G w m'' G'' w'' := by
  refine ⟨fun j hj => ?_, fun b c z hb hbc => ?_, fun b hb hn => k.new b hb (h.new b hb hn)⟩
  · obtain ⟨h1, h2⟩ := h.fr0 j hj
    obtain ⟨k1, k2⟩ := k.fr0 j h1
    exact ⟨k1, k2.trans h2⟩
  · rcases h.blk b c z hb hbc with h1 | ⟨c', z', h1, h2, h3⟩
    · exact .inl (k.new b hb h1)
    · rcases k.blk b c' z' hb h1 with k1 | ⟨c'', z'', k1, k2, k3⟩
      · exact .inl k1
      · refine .inr ⟨c'', z'', k1, h2.trans k2, fun hs => ?_⟩
        obtain ⟨s1, s2⟩ := sameHead.trans h2 k2 hs
        rw [k3 s2, h3 s1]
theorem Tr.toF (h : Tr B F m G w m' G' w') (hn : ∀ b, b < fb → m b = none → m' b = none) : TrF fb B F m G w m' G' w' :=
  ⟨h.fr0, fun b c z _ hbc => .inr (h.blk b c z hbc), hn⟩
theorem TrF.mono {fb' : Nat} (h : TrF fb B F m G w m' G' w') (hb : fb' ≤ fb) : TrF fb' B F m G w m' G' w' :=
  ⟨h.fr0, fun b c z hlt => h.blk b c z (by omega), fun b hlt => h.new b (by omega)⟩

/-- A value stays what it is where all blocks that it names are still there. -/
theorem repS.keep (hfr : ∀ k, Frz B F m G w k → Frz B F m' G' w' k ∧ w'.heap[k]? = w.heap[k]?) : ∀ {a : AV} {v : Value}, (∀ b ∈ a.refs, ∀ c z, m b = some (c, z) → ∃ c' z', m' b = some (c', z') ∧ compat c c' ∧ (sameHead c c' → G' b = G b)) →
    repS w (Frz B F m G w) m G a v → repS w' (Frz B F m' G' w') m' G' a v
  | .nn t xs, v, _, ⟨h1, h2⟩ => ⟨RepV.mono hfr _ _ _ h1, h2⟩
  | .nil, _, _, hr => hr
  | .nptr, _, _, hr => hr
  | .ptr b p, v, hb, ⟨T, c, z, g, h1, h2, h3, h4⟩ => by
    obtain ⟨c', z', k1, k2, k3⟩ := hb b (by simp [AV.refs]) _ z h1
    cases c' <;> simp [compat] at k2
    subst k2
    exact ⟨_, _, z', g, k1, h2, by rw [k3 trivial]; exact h3, h4⟩
  | .rptr b ve i p, v, hb, ⟨h0, e, t, xs, v', z, h1, h2, h3, h4⟩ => by
    obtain ⟨c', z', k1, k2, k3⟩ := hb b (by simp [AV.refs]) _ z h1
    cases c' <;> simp [compat] at k2
    obtain ⟨rfl, rfl, k4, k5⟩ := k2
    refine ⟨h0, _, _, _, _, z', k1, by omega, h3, fun hv => ?_⟩
    have : ve = v' := by omega
    obtain ⟨q1, q2⟩ := h4 this
    subst this
    rw [k3 hv]
    exact ⟨by rw [← k5 hv]; exact q1, q2⟩
  | .ref t x, v, _, ⟨ad, h1, h2, cs, h3, h4⟩ => by
    obtain ⟨q1, q2⟩ := hfr _ h2
    refine ⟨ad, h1, q1, cs, RepV.mono hfr _ _ _ h3, fun j u hu => ?_⟩
    rw [World.cell?_of_block (w := w) (by rw [add_block]; exact q2)]
    exact h4 j u hu
  | .own b ve, v, hb, ⟨h0, e, t, xs, v', z, h1, h2, h3⟩ => by
    obtain ⟨c', z', k1, k2, k3⟩ := hb b (by simp [AV.refs]) _ z h1
    cases c' <;> simp [compat] at k2
    obtain ⟨rfl, rfl, k4, k5⟩ := k2
    refine ⟨h0, _, _, _, _, z', k1, by omega, fun hv => ?_⟩
    have : ve = v' := by omega
    rw [h3 this]
    subst this
    exact (k3 hv).symm
  | .sub b ve lo n, v, hb, ⟨h0, e, t, xs, v', z, h1, h2, h3⟩ => by
    obtain ⟨c', z', k1, k2, k3⟩ := hb b (by simp [AV.refs]) _ z h1
    cases c' <;> simp [compat] at k2
    obtain ⟨rfl, rfl, k4, k5⟩ := k2
    refine ⟨h0, _, _, _, _, z', k1, by omega, fun hv => ?_⟩
    have : ve = v' := by omega
    obtain ⟨q1, q2⟩ := h3 this
    subst this
    rw [k3 hv, ← k5 hv]
    exact ⟨q1, q2⟩
  | .undef, _, _, hr => hr

theorem repA.keep (hfr : ∀ k, Frz B F m G w k → Frz B F m' G' w' k ∧ w'.heap[k]? = w.heap[k]?) : ∀ (a : AV) (md : Md) (vs : List Value), (∀ b ∈ a.refs, ∀ c z, m b = some (c, z) → ∃ c' z', m' b = some (c', z') ∧ compat c c' ∧ (sameHead c c' → G' b = G b)) →
    repA w (Frz B F m G w) m G a md vs → repA w' (Frz B F m' G' w') m' G' a md vs
  | .val t x, .one, vs, _, ⟨v, e, hr⟩ => ⟨v, e, hr.mono hfr⟩
  | .val t x, .cells, cs, _, hr => RepV.mono hfr _ _ _ hr
  | .pr a b, .one, vs, hb, ⟨c1, c2, e, h1, h2⟩ => ⟨c1, c2, e, repA.keep hfr a _ _ (fun x hx => hb x (List.mem_append_left _ hx)) h1, repA.keep hfr b _ _ (fun x hx => hb x (List.mem_append_right _ hx)) h2⟩
  | .pr a b, .cells, vs, hb, ⟨c1, c2, e, h1, h2⟩ => ⟨c1, c2, e, repA.keep hfr a _ _ (fun x hx => hb x (List.mem_append_left _ hx)) h1, repA.keep hfr b _ _ (fun x hx => hb x (List.mem_append_right _ hx)) h2⟩
  | .pr a b, .chain, vs, hb, ⟨v, l, e, h1, h2⟩ => ⟨v, l, e, repA.keep hfr a _ _ (fun x hx => hb x (List.mem_append_left _ hx)) h1, repA.keep hfr b _ _ (fun x hx => hb x (List.mem_append_right _ hx)) h2⟩
  | .un, .one, _, _, hr => hr
  | .un, .cells, _, _, hr => hr
  | .un, .chain, _, _, hr => hr
  | .tp l, .one, _, hb, ⟨ws, e, hr⟩ => ⟨ws, e, repA.keep hfr l _ _ hb hr⟩
  | .fn f a b, .one, vs, hb, ⟨x, y, e, h1, h2⟩ => ⟨x, y, e, repA.keep hfr a _ _ (fun x hx => hb x (List.mem_append_left _ hx)) h1, repA.keep hfr b _ _ (fun x hx => hb x (List.mem_append_right _ hx)) h2⟩
  | .fn f a b, .cells, vs, hb, ⟨x, y, e, h1, h2⟩ => ⟨x, y, e, repA.keep hfr a _ _ (fun x hx => hb x (List.mem_append_left _ hx)) h1, repA.keep hfr b _ _ (fun x hx => hb x (List.mem_append_right _ hx)) h2⟩
  | .undef, .one, _, _, hr => hr
  | .undef, .cells, _, hb, ⟨v, e, hr⟩ => ⟨v, e, repS.keep hfr hb hr⟩
  | .nn .., .one, _, hb, ⟨v, e, hr⟩ => ⟨v, e, repS.keep hfr hb hr⟩
  | .nn .., .cells, _, hb, ⟨v, e, hr⟩ => ⟨v, e, repS.keep hfr hb hr⟩
  | .nil, .one, _, hb, ⟨v, e, hr⟩ => ⟨v, e, repS.keep (a := .nil) hfr hb hr⟩
  | .nil, .cells, _, hb, ⟨v, e, hr⟩ => ⟨v, e, repS.keep (a := .nil) hfr hb hr⟩
  | .nptr, .one, _, hb, ⟨v, e, hr⟩ => ⟨v, e, repS.keep (a := .nptr) hfr hb hr⟩
  | .nptr, .cells, _, hb, ⟨v, e, hr⟩ => ⟨v, e, repS.keep (a := .nptr) hfr hb hr⟩
  | .ptr .., .one, _, hb, ⟨v, e, hr⟩ => ⟨v, e, repS.keep hfr hb hr⟩
  | .ptr .., .cells, _, hb, ⟨v, e, hr⟩ => ⟨v, e, repS.keep hfr hb hr⟩
  | .rptr .., .one, _, hb, ⟨v, e, hr⟩ => ⟨v, e, repS.keep hfr hb hr⟩
  | .rptr .., .cells, _, hb, ⟨v, e, hr⟩ => ⟨v, e, repS.keep hfr hb hr⟩
  | .ref .., .one, _, hb, ⟨v, e, hr⟩ => ⟨v, e, repS.keep hfr hb hr⟩
  | .ref .., .cells, _, hb, ⟨v, e, hr⟩ => ⟨v, e, repS.keep hfr hb hr⟩
  | .own .., .one, _, hb, ⟨v, e, hr⟩ => ⟨v, e, repS.keep hfr hb hr⟩
  | .own .., .cells, _, hb, ⟨v, e, hr⟩ => ⟨v, e, repS.keep hfr hb hr⟩
  | .sub .., .one, _, hb, ⟨v, e, hr⟩ => ⟨v, e, repS.keep hfr hb hr⟩
  | .sub .., .cells, _, hb, ⟨v, e, hr⟩ => ⟨v, e, repS.keep hfr hb hr⟩
end

/-! ### The frame -/
structure RelG (B : Nat) (F : Nat → Prop) (w0 : World) (fb : Nat) (G : Nat → Value) (env : List AV) (m : Mem) (a : Act) (w : World) : Prop where
  size : a.tmps.size = env.length
  defs : a.defers = []
  mem : MemOk B F w0 (fb + 1000000) m G w
  env : ∀ i, i < env.length → repA w (Frz B F m G w) m G (env.getD i .undef) .one [a.tmps.getD i undef]

/-- Bodies that are walked into do what their run says. -/
def InlOk (P : Program) (B : Nat) (F : Nat → Prop) (w0 : World) (inl : Inl) : Prop :=
  ∀ f fb run, inl f fb = some run → (∃ fn, P.funcs[f]? = some fn ∧ (fn.name == "runtime.NumGoroutine") = false ∧ fn.body.isNone = false) ∧
    ∀ args m ids av m', (run args m ids).run = some (av, m') → ∀ G w vs, MemOk B F w0 fb m G w → repsL w (Frz B F m G w) m G args vs →
      Calls P f vs.toArray w fun e w' => match e with
        | .returned v => ∃ G', MemOk B F w0 fb m' G' w' ∧ TrF fb B F m G w m' G' w' ∧ repA w' (Frz B F m' G' w') m' G' av .one [v]
        | _ => False

section
variable {P : Program} {B : Nat} {F : Nat → Prop} {w0 : World} {fb : Nat} {m m' : Mem} {G : Nat → Value} {w : World} {cx : Cx} {inl : Inl} {env env' : List AV} {a : Act}

theorem RelG.eval (h : RelG B F w0 fb G env m a w) (x : Operand) : repA w (Frz B F m G w) m G (ev env x) .one [a.eval x] := by
  cases x with
  | tmp t =>
    rcases Nat.lt_or_ge t env.length with ht | ht
    · exact h.env t ht
    · have : ev env (.tmp t) = .undef := by simp [ev, List.getD_eq_getElem?_getD, List.getElem?_eq_none ht]
      rw [this]
      exact ⟨_, rfl⟩
  | const v =>
    cases v with
    | int k n => exact mk_int k n
    | bool b => exact mk_bool b
    | string s =>
      have : (Value.string s) = .string ⟨s.data.toList.toArray⟩ := by simp
      show repA w _ m G (.val .str s.data.toList) .one [Value.string s]
      rw [this]
      exact mk_str _
    | slice A n c =>
      cases A with
      | some _ => exact ⟨_, rfl⟩
      | none =>
        cases n with
        | succ _ => exact ⟨_, rfl⟩
        | zero =>
          cases c with
          | succ _ => exact ⟨_, rfl⟩
          | zero => exact ⟨_, rfl, rfl⟩
    | pointer A =>
      cases A with
      | some _ => exact ⟨_, rfl⟩
      | none => exact ⟨_, rfl, rfl⟩
    | _ => exact ⟨_, rfl⟩
  | func f => exact ⟨[], [], rfl, rfl, rfl⟩
  | global g => exact ⟨_, rfl⟩

theorem put_getD {t : Array Value} {d i : Nat} {v : Value} (hd : d < t.size) : (t.setIfInBounds d v).getD i undef = if i = d then v else t.getD i undef := by
  simp only [Array.getD_eq_getD_getElem?, Array.getElem?_setIfInBounds]
  by_cases e : i = d
  · subst e; simp [hd]
  · simp [e, Ne.symm e]

theorem set_getD {l : List AV} {d i : Nat} {v : AV} (hd : d < l.length) : (l.set d v).getD i .undef = if i = d then v else l.getD i .undef := by
  simp only [List.getD_eq_getElem?_getD, List.getElem?_set]
  by_cases e : i = d
  · subst e; simp [hd]
  · simp [e, Ne.symm e]

/-- The frame behind a value that was put. -/
theorem RelG.put (h : RelG B F w0 fb G env m a w) {m' : Mem} {G' : Nat → Value} {w' : World} (hm : MemOk B F w0 (fb + 1000000) m' G' w') (hk : ∀ i, i < env.length → repA w' (Frz B F m' G' w') m' G' (env.getD i .undef) .one [a.tmps.getD i undef])
    {dst : Option Tmp} {av : AV} {cv : Value} (hv : repA w' (Frz B F m' G' w') m' G' av .one [cv]) : RelG B F w0 fb G' (putEnv env dst av) m' (a.put dst cv) w' := by
  cases dst with
  | none => exact ⟨h.size, h.defs, hm, hk⟩
  | some d =>
    refine ⟨by simp [Act.put, putEnv, h.size], h.defs, hm, fun i hi => ?_⟩
    simp only [putEnv, List.length_set] at hi
    by_cases hd : d < env.length
    · simp only [putEnv, Act.put]
      rw [set_getD hd, put_getD (by rw [h.size]; exact hd)]
      split
      · exact hv
      · exact hk i hi
    · simp only [putEnv, Act.put]
      rw [List.set_eq_of_length_le (Nat.le_of_not_lt hd)]
      have : a.tmps.setIfInBounds d cv = a.tmps := by
        unfold Array.setIfInBounds
        rw [dif_neg (by rw [h.size]; exact hd)]
      rw [this]
      exact hk i hi

theorem go_new {cx : Cx} {site : Nat} {ρ : Operand → AV} {op : Op} {av : AV} {p : FP} (h : ((opEff cx site ρ op).go m []).run = some (av, m', p)) (hq : (p.all fun x => Nat.ble fb x.1 || present m x.1) = true) : ∀ b, b < fb → m b = none → m' b = none := by
  intro b hb hn
  obtain ⟨q, e, _, hd, _⟩ := go_frame _ h
  rw [List.append_nil] at e
  have hq' := hq
  rw [e] at hq'
  have key : ∀ k, (b, k) ∉ q ∨ False := by
    intro k
    left
    intro hk
    have := List.all_eq_true.1 hq' _ hk
    simp only [Bool.or_eq_true] at this
    rcases this with this | this
    · have := Nat.le_of_ble_eq_true this
      omega
    · simp [present, hn] at this
  rw [hd.same b ((key 1).resolve_right id) ((key 2).resolve_right id)]
  exact hn

theorem gv_wanted (h : RelG B F w0 fb G env m a w) {ops : Array Oper} {o : Oper} {b : Bool} (hg : gv ops.toList o env = some b) : Region.wanted o (yielded ops a.tmps) = b := by
  unfold gv at hg
  unfold Region.wanted
  split at hg
  · rename_i hgu
    rw [hgu]
    injection hg
  · rename_i j want hgu
    rw [hgu]
    split at hg
    · rename_i d hd
      split at hg
      · rename_i b' hb
        injection hg with hg
        have hlt : d < env.length := by
          rcases Nat.lt_or_ge d env.length with hlt | hge
          · exact hlt
          · rw [List.getD_eq_getElem?_getD, List.getElem?_eq_none hge] at hb
            cases hb
        have hv := h.env d hlt
        rw [hb] at hv
        have hv := one_bool hv
        have hsz : d < a.tmps.size := by rw [h.size]; exact hlt
        have ht : a.tmps[d]? = some (.bool b') := by
          rw [Array.getElem?_eq_getElem hsz]
          rw [Array.getD_eq_getD_getElem?, Array.getElem?_eq_getElem hsz] at hv
          simpa using hv
        have hd' : (ops[j]?).bind (·.dst) = some d := by simpa using hd
        simp only [yielded, hd', Option.bind_some, ht]
        rw [← hg]
        cases b' <;> cases want <;> rfl
      · rename_i hb
        injection hg with hg
        have hlt : d < env.length := by
          rcases Nat.lt_or_ge d env.length with hlt | hge
          · exact hlt
          · rw [List.getD_eq_getElem?_getD, List.getElem?_eq_none hge] at hb
            cases hb
        have hv := h.env d hlt
        rw [hb] at hv
        obtain ⟨ws, hws, hnil⟩ := hv
        rw [show ws = [] from hnil] at hws
        have hsz : d < a.tmps.size := by rw [h.size]; exact hlt
        have ht : a.tmps[d]? = some (.tuple #[]) := by
          rw [Array.getElem?_eq_getElem hsz]
          rw [Array.getD_eq_getD_getElem?, Array.getElem?_eq_getElem hsz] at hws
          simpa using hws
        have hd' : (ops[j]?).bind (·.dst) = some d := by simpa using hd
        simp only [yielded, hd', Option.bind_some, ht]
        rw [← hg]
        rfl
      · cases hg
    · cases hg

/-- A plain step. -/
theorem stp_sound (hT : typesChk P cx.types = true) (hS : SigsOk P cx) (h : RelG B F w0 fb G env m a w) {ops : Array Oper} {base i : Nat} {o : Oper} {p : FP} (hi : ops[i]? = some o)
    (hs : Stp cx inl fb base ops.toList i o (env, m) (env', m') p) {K : Act → World → Prop} {Q : Exit → Act → World → Prop} (hk : ∀ a1 w1 G1, RelG B F w0 fb G1 env' m' a1 w1 → TrF fb B F m G w m' G1 w1 → K a1 w1) : wpOp P ops Q i K a w := by
  unfold wpOp
  rw [hi]
  cases hs with
  | skip hg =>
    simp only
    rw [gv_wanted h hg]
    simp only [Bool.false_eq_true, if_false]
    exact hk _ _ G (h.put h.mem h.env ⟨[], rfl, rfl⟩) TrF.refl
  | run hg hn hl he hq =>
    rename_i av
    simp only
    rw [gv_wanted h hg]
    simp only [if_true]
    refine .inl (op_gives hT hS h.mem hl (fun x _ => h.eval x) he _ _ fun G' w' cv h1 h2 h3 => ?_)
    exact hk _ _ G' (h.put h1 (fun j hj => repA.mono h2 _ _ _ (h.env j hj)) h3) (h2.toF (go_new he hq))

theorem closed_env {m : Mem} {env : List AV} : ∀ {l : List (Nat × (Cn × Bool))}, closed m env l = true → ∀ a ∈ env, ∀ b ∈ a.refs, ∃ x, m b = some x
  | [], h, a, ha, b, hb => by
    have := List.all_eq_true.1 (List.all_eq_true.1 h a ha) b hb
    exact Option.isSome_iff_exists.1 this
  | (_, .var T c, _) :: l, h, a, ha, b, hb => by
    simp only [closed, Bool.and_eq_true] at h
    exact closed_env h.2 a ha b hb
  | (_, .row .., _) :: l, h, a, ha, b, hb => closed_env (l := l) h a ha b hb

theorem refs_there (h : RelG B F w0 fb G env m a w) : True := trivial

/-- One operation of a region, whatever it is. -/
theorem stepR_sound (hT : typesChk P cx.types = true) (hS : SigsOk P cx) (hI : InlOk P B F w0 inl) (h : RelG B F w0 fb G env m a w) {ops : Array Oper} {base i : Nat} {o : Oper} {p : FP} {ids : List Nat} (hi : ops[i]? = some o) (hb : fb ≤ base)
    {kn kn' : List Nat} (hs : (stepR cx inl ids fb ops.toList (base + i) o env m kn).run = some (env', m', p, kn')) {K : Act → World → Prop} {Q : Exit → Act → World → Prop} (hk : ∀ a1 w1 G1, RelG B F w0 fb G1 env' m' a1 w1 → TrF fb B F m G w m' G1 w1 → K a1 w1) : wpOp P ops Q i K a w := by
  rcases stepR_some hs with hs | ⟨hg, _, run, av, hin, hrun, hcl, he⟩
  · exact stp_sound hT hS h hi hs hk
  · unfold wpOp
    rw [hi]
    simp only
    rw [gv_wanted h hg]
    simp only [if_true]
    left
    unfold inlined at hin
    split at hin
    · rename_i c hop
      split at hin
      · rename_i f hf
        split at hin
        · rename_i pr htg
          obtain ⟨g, args⟩ := pr
          split at hin
          · rename_i r hr
            injection hin with hin
            subst hin
            obtain ⟨⟨fn, hf1, hf2, hf3⟩, hok⟩ := hI g _ r hr
            have ha : repsL w (Frz B F m G w) m G (c.args.toList.map (ev env)) (c.args.toList.map a.eval) := reps_map fun x _ => h.eval x
            obtain ⟨x, y, q1, q2⟩ := target_some htg (h.eval f) ha
            have hlim : MemOk B F w0 ((base + i + 1) * 1000000) m G w := ⟨h.mem.below, h.mem.base, h.mem.blk, h.mem.dist, fun b x hx => by have := h.mem.lim b x hx; omega, h.mem.nw, h.mem.hd⟩
            have hc := hok args m ids av m' hrun G w _ hlim q2
            unfold Oper.wp
            have hr1 : (callFunc g (x ++ c.args.toList.map a.eval ++ y).toArray).run P w = .ok (.enter g (x ++ c.args.toList.map a.eval ++ y).toArray) w := by
              simp only [callFunc, Sem.run_bind, run_program, Result.andThen_ok, hf1, hf2, hf3, Bool.false_eq_true, if_false, Sem.run_pure]
            rw [run_callValue hf hop q1, hr1]
            refine hc.mono fun e w' hR => ?_
            cases e with
            | returned v =>
              obtain ⟨G', hm', htr, hv⟩ := hR
              rw [he] at hk
              have hm2 : MemOk B F w0 (fb + 1000000) m' G' w' := ⟨hm'.below, hm'.base, hm'.blk, hm'.dist, fun b x hx => by
                cases hmb : m b with
                | none =>
                  have := htr.new b (hm'.lim b x hx) hmb
                  rw [this] at hx
                  cases hx
                | some y => exact h.mem.lim b y hmb, hm'.nw, hm'.hd⟩
              refine hk _ _ G' (h.put hm2 (fun j hj => ?_) hv) (htr.mono (by omega))
              have hmem : env.getD j .undef ∈ env := by
                rw [List.getD_eq_getElem?_getD, List.getElem?_eq_getElem hj]
                simp
              refine repA.keep htr.fr _ _ _ (fun b hb c z hbc => ?_) (h.env j hj)
              obtain ⟨x, hx⟩ := closed_env hcl _ hmem b hb
              rcases htr.blk b c z (by have := h.mem.lim b _ hbc; omega) hbc with hn | hn
              · rw [hn] at hx; cases hx
              · exact hn
            | panicked c => exact hR.elim
            | outgrown => exact hR.elim
          · cases hin
        · cases hin
      · cases hin
    · cases hin

/-! ### Regions in the order of the text -/
theorem runR_sound (hT : typesChk P cx.types = true) (hS : SigsOk P cx) (hI : InlOk P B F w0 inl) {ops : Array Oper} {base : Nat} {ids : List Nat} (hb : fb ≤ base) {Q : Exit → Act → World → Prop} (l : List (Nat × Oper)) :
    ∀ (env : List AV) (m : Mem) (kn kn' : List Nat) (G : Nat → Value) (a : Act) (w : World) (fps : List FP), (∀ x ∈ l, ops[x.1]? = some x.2) → RelG B F w0 fb G env m a w → (runR cx inl ids fb base ops.toList l env m kn).run = some (env', m', fps, kn') →
    (∀ a1 w1 G1, RelG B F w0 fb G1 env' m' a1 w1 → TrF fb B F m G w m' G1 w1 → Q .normal a1 w1) → wpOps P ops Q (l.map (·.1)) a w := by
  induction l with
  | nil =>
    intro env m kn kn' G a w fps _ h hr hq
    simp only [runR, Pr.run] at hr
    injection hr with hr
    injection hr with h1 h2
    injection h2 with h2 _
    subst h1; subst h2
    exact hq a w G h TrF.refl
  | cons x l ih =>
    intro env m kn kn' G a w fps hl h hr hq
    obtain ⟨i, o⟩ := x
    simp only [runR] at hr
    rw [bind_run] at hr
    obtain ⟨⟨env1, m1, p, kn1⟩, h1, hr⟩ := Option.bind_eq_some_iff.1 hr
    rw [bind_run] at hr
    obtain ⟨⟨env2, m2, ps, kn2⟩, h2, hr⟩ := Option.bind_eq_some_iff.1 hr
    simp only [Pr.run] at hr
    injection hr with hr
    injection hr with e1 e2
    injection e2 with e2 _
    subst e1; subst e2
    rw [List.map_cons, wpOps_cons]
    exact stepR_sound hT hS hI h (hl _ (.head _)) hb h1 fun a1 w1 G1 r1 t1 => ih _ _ _ _ _ _ _ _ (fun x hx => hl x (.tail _ hx)) r1 h2 fun a2 w2 G2 r2 t2 => hq a2 w2 G2 r2 (t1.trans t2)

theorem numbered_map (l : List Oper) : ∀ (k : Nat), (numbered k l).map (·.1) = List.range' k l.length := by
  induction l with
  | nil => intro k; rfl
  | cons o l ih =>
    intro k
    simp only [numbered, List.map_cons, List.length_cons, List.range'_succ]
    rw [ih (k + 1)]

theorem numbered_get (l : List Oper) : ∀ (k : Nat) (x : Nat × Oper), x ∈ numbered k l → k ≤ x.1 ∧ l[x.1 - k]? = some x.2 := by
  induction l with
  | nil => intro k x h; cases h
  | cons o l ih =>
    intro k x h
    simp only [numbered, List.mem_cons] at h
    rcases h with rfl | h
    · simp
    · obtain ⟨h1, h2⟩ := ih (k + 1) x h
      refine ⟨by omega, ?_⟩
      rw [show x.1 - k = (x.1 - (k + 1)) + 1 by omega]
      simpa using h2

/-! ### Regions in whatever order -/
/-- The run of a region as a chain. -/
theorem runR_chain {base : Nat} {ids : List Nat} {ops : List Oper} (l : List (Nat × Oper)) : ∀ (env env' : List AV) (m m' : Mem) (kn kn' : List Nat) (fps : List FP), (runR cx inl ids fb base ops l env m kn).run = some (env', m', fps, kn') → (∀ p ∈ fps, ∀ x ∈ p, x.2 ≠ 3) →
    ∃ c : List (Nat × Oper × FP), c.map (fun x => (x.1, x.2.1)) = l ∧ c.map (fun x => x.2.2) = fps ∧ Chn cx inl fb base ops c (env, m) (env', m') := by
  induction l with
  | nil =>
    intro env env' m m' kn kn' fps h _
    simp only [runR, Pr.run] at h
    injection h with h
    injection h with h1 h2
    injection h2 with h2 h3
    injection h3 with h3 _
    subst h1; subst h2; subst h3
    exact ⟨[], rfl, rfl, .nil⟩
  | cons x l ih =>
    intro env env' m m' kn kn' fps h h3
    obtain ⟨i, o⟩ := x
    simp only [runR] at h
    rw [bind_run] at h
    obtain ⟨⟨env1, m1, p, kn1⟩, h1, h⟩ := Option.bind_eq_some_iff.1 h
    rw [bind_run] at h
    obtain ⟨⟨env2, m2, ps, kn2⟩, h2, h⟩ := Option.bind_eq_some_iff.1 h
    simp only [Pr.run] at h
    injection h with h
    injection h with e1 e2
    injection e2 with e2 e3
    injection e3 with e3 _
    subst e1; subst e2; subst e3
    obtain ⟨c, q1, q2, q3⟩ := ih _ _ _ _ _ _ _ h2 fun p hp => h3 p (.tail _ hp)
    rcases stepR_some h1 with hs | ⟨_, hp, _⟩
    · exact ⟨(i, o, p) :: c, by simp [q1], by simp [q2], .cons hs q3⟩
    · exact (h3 p (.head _) (0, 3) (by rw [hp]; exact .head _) rfl).elim

theorem apartAll_spec {ops : List Oper} : ∀ {c seen : List (Nat × Oper × FP)}, apartAll ops seen (c.map fun x => (x.1, x.2.1)) (c.map fun x => x.2.2) = true →
    (∀ x ∈ c, (∀ y ∈ seen, Free ops y x) ∧ (x.2.1.after.toList.all fun e => !Region.binds .any e || Nat.blt e.on x.1) = true ∧ ∀ z ∈ x.2.2, z.2 ≠ 3) ∧ c.Pairwise (Free ops)
  | [], seen, _ => ⟨by simp, .nil⟩
  | (i, o, p) :: c, seen, h => by
    simp only [List.map_cons, apartAll, Bool.and_eq_true] at h
    obtain ⟨⟨⟨h1, h2⟩, h3⟩, h4⟩ := h
    obtain ⟨k1, k2⟩ := apartAll_spec h4
    refine ⟨fun x hx => ?_, List.Pairwise.cons (fun x hx => (k1 x hx).1 _ (.head _)) k2⟩
    rcases List.mem_cons.1 hx with rfl | hx
    · refine ⟨fun y hy => ?_, h2, fun z hz => ?_⟩
      · have := List.all_eq_true.1 h1 y hy
        simp only [Bool.or_eq_true, Bool.and_eq_true] at this
        exact this
      · have := List.all_eq_true.1 h3 z hz
        simpa using this
    · exact ⟨fun y hy => (k1 x hx).1 y (.tail _ hy), (k1 x hx).2⟩

theorem getD_set {l : Array Bool} {i j : Nat} {d : Bool} : (l.setIfInBounds i true).getD j d = if i = j ∧ i < l.size then true else l.getD j d := by
  simp only [Array.getD_eq_getD_getElem?, Array.getElem?_setIfInBounds]
  by_cases e : i = j
  · subst e
    by_cases h : i < l.size
    · simp [h]
    · simp [h, Array.getElem?_eq_none (Nat.le_of_not_lt h)]
  · simp [e]

theorem any_sound (hT : typesChk P cx.types = true) (hS : SigsOk P cx) {ops : Array Oper} {base : Nat} {Q : Exit → Act → World → Prop} :
    ∀ {n : Nat} {c : List (Nat × Oper × FP)} {listed : Array Bool} {env : List AV} {m : Mem} {G : Nat → Value} {a : Act} {w : World}, c.length = n → listed.size = ops.size → (∀ x ∈ c, ops[x.1]? = some x.2.1) →
    (∀ i, i < ops.size → (listed.getD i true = false ↔ ∃ x ∈ c, x.1 = i)) → c.Pairwise (fun x y => x.1 < y.1) → c.Pairwise (Free ops.toList) → (∀ x ∈ c, (x.2.1.after.toList.all fun e => !Region.binds .any e || Nat.blt e.on x.1) = true) →
    RelG B F w0 fb G env m a w → Chn cx inl fb base ops.toList c (env, m) (env', m') → (∀ a1 w1 G1, RelG B F w0 fb G1 env' m' a1 w1 → TrF fb B F m G w m' G1 w1 → Q .normal a1 w1) → wpAny P .any ops Q n listed a w := by
  intro n
  induction n with
  | zero =>
    intro c listed env m G a w hn hsz hops hlist hord hfree hafter hrel hch hq
    have : c = [] := List.eq_nil_of_length_eq_zero hn
    subst this
    cases hch
    refine ⟨?_, hq a w G hrel TrF.refl⟩
    unfold Region.ready
    rw [List.filter_eq_nil_iff]
    intro i hi
    have hi := List.mem_range.1 hi
    simp only [Bool.and_eq_true, not_and, Bool.not_eq_true', Bool.not_eq_true]
    intro hl
    obtain ⟨x, hx, _⟩ := (hlist i hi).1 hl
    cases hx
  | succ n ih =>
    intro c listed env m G a w hn hsz hops hlist hord hfree hafter hrel hch hq
    refine ⟨fun hempty => ?_, fun i hi => ?_⟩
    · -- the first that is left is ready
      exfalso
      cases c with
      | nil => cases hn
      | cons x c =>
        have hx := hops x (.head _)
        have hlt : x.1 < ops.size := (Array.getElem?_eq_some_iff.1 hx).1
        have hl : listed.getD x.1 true = false := (hlist x.1 hlt).2 ⟨x, .head _, rfl⟩
        have : x.1 ∈ Region.ready .any ops listed := by
          unfold Region.ready
          refine List.mem_filter.2 ⟨List.mem_range.2 hlt, ?_⟩
          simp only [hl, Bool.not_false, Bool.true_and, hx, Option.map_some, Option.getD_some]
          rw [← Array.all_toList, List.all_eq_true]
          intro e he
          have ha := List.all_eq_true.1 (hafter x (.head _)) e he
          simp only [Bool.or_eq_true, Bool.not_eq_true'] at ha ⊢
          rcases ha with ha | ha
          · exact .inl ha
          · right
            have hlt2 : e.on < x.1 := by
              unfold Nat.blt at ha
              exact Nat.le_of_ble_eq_true ha
            have hin : e.on < ops.size := by omega
            have hng : ¬ (listed.getD e.on true = false) := fun hf => by
              obtain ⟨y, hy, hye⟩ := (hlist e.on hin).1 hf
              rcases List.mem_cons.1 hy with rfl | hy
              · omega
              · have := (List.pairwise_cons.1 hord).1 y hy
                omega
            have hd : listed.getD e.on true = listed.getD e.on false := by
              simp only [Array.getD_eq_getD_getElem?]
              rw [Array.getElem?_eq_getElem (by rw [hsz]; exact hin)]
              rfl
            rw [hd] at hng
            simpa using hng
        rw [hempty] at this
        cases this
    · -- whichever is ready comes to the front
      unfold Region.ready at hi
      obtain ⟨hr, hi⟩ := List.mem_filter.1 hi
      have hlt := List.mem_range.1 hr
      simp only [Bool.and_eq_true, Bool.not_eq_true'] at hi
      obtain ⟨hl, haf⟩ := hi
      obtain ⟨x, hx, hxi⟩ := (hlist i hlt).1 hl
      subst hxi
      have hox := hops x hx
      rw [hox] at haf
      simp only [Option.map_some, Option.getD_some] at haf
      rw [← Array.all_toList, List.all_eq_true] at haf
      obtain ⟨pre, post, rfl⟩ := List.append_of_mem hx
      have hw : ∀ y ∈ pre, waitsFor x.2.1 y.1 = false := by
        intro y hy
        rw [← Bool.not_eq_true]
        intro hwt
        unfold waitsFor at hwt
        obtain ⟨e, he, hee⟩ := List.any_eq_true.1 hwt
        simp only [Bool.and_eq_true] at hee
        have heq := Nat.eq_of_beq_eq_true hee.1
        have := haf e he
        simp only [Bool.or_eq_true, Bool.not_eq_true'] at this
        have hym : y ∈ pre ++ x :: post := List.mem_append_left _ hy
        have hyl : y.1 < ops.size := (Array.getElem?_eq_some_iff.1 (hops y hym)).1
        have hyf := (hlist y.1 hyl).2 ⟨y, hym, rfl⟩
        rcases this with this | this
        · rw [hee.2] at this; cases this
        · rw [heq] at this
          have hd : listed.getD y.1 true = listed.getD y.1 false := by
            simp only [Array.getD_eq_getD_getElem?]
            rw [Array.getElem?_eq_getElem (by rw [hsz]; exact hyl)]
            rfl
          rw [← hd, hyf] at this
          cases this
      have hpw := List.pairwise_append.1 hfree
      have hfront := hch.front (fun y hy => hpw.2.2 y hy x (.head _)) hw
      obtain ⟨xi, xo, xp⟩ := x
      cases hfront with
      | cons hs ht =>
        rename_i s1
        obtain ⟨env1, m1⟩ := s1
        refine stp_sound hT hS hrel hox hs fun a1 w1 G1 r1 t1 => ?_
        have hord2 := List.pairwise_append.1 hord
        have hsub : ∀ {R : Nat × Oper × FP → Nat × Oper × FP → Prop}, (pre ++ (xi, xo, xp) :: post).Pairwise R → (pre ++ post).Pairwise R := by
          intro R hR
          obtain ⟨q1, q2, q3⟩ := List.pairwise_append.1 hR
          exact List.pairwise_append.2 ⟨q1, (List.pairwise_cons.1 q2).2, fun y hy z hz => q3 y hy z (.tail _ hz)⟩
        have hmem : ∀ y ∈ pre ++ post, y ∈ pre ++ (xi, xo, xp) :: post := by
          intro y hy
          rcases List.mem_append.1 hy with hy | hy
          · exact List.mem_append_left _ hy
          · exact List.mem_append_right _ (.tail _ hy)
        refine ih (c := pre ++ post) (by simp at hn ⊢; omega) (by simpa using hsz) (fun y hy => hops y (hmem y hy)) (fun j hj => ?_) (hsub hord) (hsub hfree) (fun y hy => hafter y (hmem y hy)) r1 ht fun a2 w2 G2 r2 t2 => hq a2 w2 G2 r2 (t1.trans t2)
        rw [getD_set]
        by_cases e : xi = j
        · subst e
          rw [if_pos ⟨rfl, by rw [hsz]; exact hj⟩]
          refine ⟨fun h => (by cases h), ?_⟩
          rintro ⟨y, hy, hye⟩
          rcases List.mem_append.1 hy with hy | hy
          · have := hord2.2.2 y hy _ (.head _)
            omega
          · have := (List.pairwise_cons.1 hord2.2.1).1 y hy
            omega
        · rw [if_neg (fun h => e h.1), hlist j hj]
          constructor
          · rintro ⟨y, hy, hye⟩
            rcases List.mem_append.1 hy with hy | hy
            · exact ⟨y, List.mem_append_left _ hy, hye⟩
            · rcases List.mem_cons.1 hy with rfl | hy
              · exact (e hye).elim
              · exact ⟨y, List.mem_append_right _ hy, hye⟩
          · rintro ⟨y, hy, hye⟩
            exact ⟨y, hmem y hy, hye⟩

theorem numbered_pairwise (l : List Oper) : ∀ (k : Nat), (numbered k l).Pairwise (fun x y => x.1 < y.1) := by
  induction l with
  | nil => intro k; exact .nil
  | cons o l ih => intro k; exact .cons (fun x hx => by have := (numbered_get l (k + 1) x hx).1; show k < x.1; omega) (ih (k + 1))

theorem runR_length {base : Nat} {ids : List Nat} {ops : List Oper} (l : List (Nat × Oper)) : ∀ (env : List AV) (m : Mem) (kn kn' : List Nat) (env' : List AV) (m' : Mem) (fps : List FP), (runR cx inl ids fb base ops l env m kn).run = some (env', m', fps, kn') → fps.length = l.length := by
  induction l with
  | nil =>
    intro env m kn kn' env' m' fps h
    simp only [runR, Pr.run] at h
    injection h with h
    injection h with _ h2
    injection h2 with _ h3
    injection h3 with h3 _
    subst h3
    rfl
  | cons x l ih =>
    intro env m kn kn' env' m' fps h
    obtain ⟨i, o⟩ := x
    simp only [runR] at h
    rw [bind_run] at h
    obtain ⟨⟨env1, m1, p, kn1⟩, h1, h⟩ := Option.bind_eq_some_iff.1 h
    rw [bind_run] at h
    obtain ⟨⟨env2, m2, ps, kn2⟩, h2, h⟩ := Option.bind_eq_some_iff.1 h
    simp only [Pr.run] at h
    injection h with h
    injection h with _ e2
    injection e2 with _ e3
    injection e3 with e3 _
    subst e3
    simp [ih _ _ _ _ _ _ _ h2]

theorem apartAll_no3 {ops : List Oper} (l : List (Nat × Oper)) : ∀ (seen : List (Nat × Oper × FP)) (fps : List FP), fps.length = l.length → apartAll ops seen l fps = true → ∀ p ∈ fps, ∀ x ∈ p, x.2 ≠ 3 := by
  induction l with
  | nil =>
    intro seen fps hl h p hp
    rw [List.eq_nil_of_length_eq_zero hl] at hp
    cases hp
  | cons y l ih =>
    intro seen fps hl h p hp
    obtain ⟨i, o⟩ := y
    cases fps with
    | nil => cases hp
    | cons q fps =>
      simp only [apartAll, Bool.and_eq_true] at h
      rcases List.mem_cons.1 hp with rfl | hp
      · intro x hx
        have := List.all_eq_true.1 h.1.2 x hx
        simpa using this
      · exact ih _ _ (by simpa using hl) h.2 p hp

/-- A region. -/
theorem region_sound (hP : P.follows .mixedOrders = true) (hT : typesChk P cx.types = true) (hS : SigsOk P cx) (hI : InlOk P B F w0 inl) {ops : Array Oper} {base id : Nat} {ids : List Nat} {draw : Bool} (hb : fb ≤ base) (h : RelG B F w0 fb G env m a w)
    {fps : List FP} {e : Ex} {s : St} {kn kn' : List Nat} (hr : (runR cx inl ids fb base ops.toList (numbered 0 ops.toList) env m kn).run = some (env', m', fps, kn')) (hk : (regionK base ids ops.toList draw (env', m', fps, kn')).run = some (e, s)) {Q : Exit → Act → World → Prop}
    (hq : ∀ a1 w1 G1, RelG B F w0 fb G1 s.env s.mem a1 w1 → TrF fb B F m G w s.mem G1 w1 → Q .normal a1 w1) : e = .normal ∧ (Code.region id ops draw).wp P Q a w := by
  have hget : ∀ x ∈ numbered 0 ops.toList, ops[x.1]? = some x.2 := fun x hx => by simpa using (numbered_get _ _ x hx).2
  cases draw with
  | false =>
    simp only [regionK, Pr.run] at hk
    injection hk with hk
    injection hk with h1 h2
    subst h1; subst h2
    refine ⟨rfl, wp_region ?_⟩
    have := runR_sound (Q := Q) hT hS hI hb _ _ _ _ _ _ _ _ _ hget h hr hq
    rw [numbered_map] at this
    simpa [List.range_eq_range'] using this
  | true =>
    simp only [regionK] at hk
    split at hk
    · rename_i hap
      simp only [Pr.run] at hk
      injection hk with hk
      injection hk with h1 h2
      subst h1; subst h2
      refine ⟨rfl, wp_region_any hP ?_⟩
      have hl := runR_length _ _ _ _ _ _ _ _ hr
      obtain ⟨c, c1, c2, c3⟩ := runR_chain _ _ _ _ _ _ _ _ hr (apartAll_no3 _ _ _ hl hap)
      rw [← c1, ← c2] at hap
      obtain ⟨k1, k2⟩ := apartAll_spec hap
      have hmem : ∀ x ∈ c, (x.1, x.2.1) ∈ numbered 0 ops.toList := by
        intro x hx
        rw [← c1]
        exact List.mem_map.2 ⟨x, hx, rfl⟩
      have hclen : c.length = ops.size := by
        have h1 : (c.map fun x => (x.1, x.2.1)).length = (numbered 0 ops.toList).length := by rw [c1]
        have h2 : ((numbered 0 ops.toList).map (·.1)).length = ops.toList.length := by rw [numbered_map]; simp
        simp at h1 h2
        omega
      have hord : c.Pairwise (fun x y => x.1 < y.1) := by
        have := numbered_pairwise ops.toList 0
        rw [← c1, List.pairwise_map] at this
        exact this
      obtain ⟨hm1, ht1⟩ := h.mem.grown (w' := { w with drawn := w.drawn + 1 }) ⟨rfl, rfl, rfl, Nat.le_refl _, fun _ _ => rfl⟩
      have hrel1 : RelG B F w0 fb G env m a { w with drawn := w.drawn + 1 } := ⟨h.size, h.defs, hm1, fun i hi => repA.mono ht1 _ _ _ (h.env i hi)⟩
      refine any_sound hT hS (c := c) hclen (by simp) (fun x hx => hget _ (hmem x hx)) (fun i hi => ?_) hord k2 (fun x hx => (k1 x hx).2.1) hrel1 c3 fun a1 w1 G1 r1 t1 => hq a1 w1 G1 r1 ((ht1.toF fun _ _ h => h).trans t1)
      have hfalse : (Array.replicate ops.size false).getD i true = false := by
        simp [Array.getD_eq_getD_getElem?, hi]
      rw [hfalse]
      refine ⟨fun _ => ?_, fun _ => rfl⟩
      have : i ∈ (c.map fun x => (x.1, x.2.1)).map (·.1) := by
        rw [c1, numbered_map]
        simp [List.mem_range', hi]
      obtain ⟨y, hy, hye⟩ := List.mem_map.1 this
      obtain ⟨x, hx, hxe⟩ := List.mem_map.1 hy
      exact ⟨x, hx, by rw [← hye, ← hxe]⟩
    · cases hk
end
end Go.Refl
/-
  What is carried to the head of a loop: frozen rows as what they hold, versions counted anew, the rest forgotten.
-/
set_option linter.unusedVariables false
set_option linter.unusedSimpArgs false
namespace Go.Refl
open Go Go.RowKit

section
variable {B : Nat} {F : Nat → Prop} {w0 : World} {lim fb : Nat} {m M : Mem} {G : Nat → Value} {w : World}

/-! ### Settled memory -/
theorem gather_look : ∀ {ids : List Nat} {b : Nat} {x : Cn × Bool}, look (gather m fb ids) b = some x → ∃ c z, m b = some (c, z) ∧ x = (c.settle m fb b, z)
  | [], _, _, h => by cases h
  | i :: ids, b, x, h => by
    simp only [gather] at h
    split at h
    · rename_i c z hc
      simp only [look] at h
      split at h
      · rename_i e
        subst e
        injection h with h
        exact ⟨c, z, hc, h.symm⟩
      · exact gather_look h
    · exact gather_look h

/-- The settled memory: each block is a settled one of before. -/
def Settled (fb : Nat) (m M : Mem) : Prop := ∀ b x, M b = some x → ∃ c z, m b = some (c, z) ∧ x = (c.settle m fb b, z)

theorem gather_settled {ids : List Nat} : Settled fb m (ofL (gather m fb ids)) := fun b x hx => gather_look hx

theorem Settled.fr (h : Settled fb m M) {k : Nat} (hk : Frz B F m G w k) : Frz B F M G w k := by
  obtain ⟨h1, h2, h3⟩ := hk
  · refine ⟨h1, h2, fun b c hb => ?_⟩
    obtain ⟨c0, z, q1, q2⟩ := h b _ hb
    injection q2 with _ q2
    subst q2
    exact h3 b c0 q1

theorem row_rep (h : MemOk B F w0 lim m G w) {b : Nat} {e : TypeId} {t : Ty} {xs : List t.D} {v : Nat} (hm : m b = some (.row e t xs v, true)) : RepV w (Frz B F m G w) (.sl t) xs [G b] := by
  obtain ⟨A, c, cells, g1, g2, g3, g4⟩ := row_cells h hm
  refine ⟨A, c, cells, by rw [g1], g2, g3, ?_⟩
  rcases g4 with g4 | ⟨g, g5, g6, g7⟩
  · exact .inl g4
  · exact .inr ⟨_, g5, h.frz_live hm g6, fun j u hu => by rw [add_zero_off]; exact g7 j u hu⟩

theorem sub_rep (h : MemOk B F w0 lim m G w) {b lo n : Nat} {e : TypeId} {t : Ty} {xs : List t.D} {v : Nat} {A' : Option Addr} {c' : Nat} (hm : m b = some (.row e t xs v, true)) (q1 : lo + n ≤ xs.length) (q3 : n ≤ c')
    (q4 : n ≠ 0 → ∃ g nn cap, G b = .slice (some ⟨g, 0, none⟩) nn cap ∧ A' = some ⟨g, lo * t.size, none⟩) : RepV w (Frz B F m G w) (.sl t) ((xs.drop lo).take n) [.slice A' n c'] := by
  obtain ⟨A, c, cells, g1, g2, g3, g4⟩ := row_cells h hm
  have hlen : ((xs.drop lo).take n).length = n := by rw [List.length_take, List.length_drop]; omega
  have hl := fun x cs => RepV.length (w := w) (Fr := Frz B F m G w) t x cs
  have hcl := (g3.drop hl lo).take hl n
  refine ⟨A', c', _, by rw [hlen], by rw [hlen]; exact q3, hcl, ?_⟩
  by_cases h0 : n = 0
  · left; simp [h0]
  · obtain ⟨g, nn, cap, s1, s2⟩ := q4 h0
    rcases g4 with g4 | ⟨g', g5, g6, g7⟩
    · left; simp [g4]
    · right
      rw [s1] at g6
      simp [hdNo] at g6
      subst g6
      refine ⟨_, s2, h.frz_live hm (by rw [s1]; rfl), fun j x hx => ?_⟩
      rw [add_off]
      refine g7 _ x ?_
      rw [List.getElem?_take] at hx
      split at hx
      · rwa [List.getElem?_drop] at hx
      · cases hx

/-- A cell's value that is settled. -/
def OneOrCells (md : Md) : Prop := md = .one ∨ md = .cells

theorem undef_md {Fr : Nat → Prop} {md : Md} (hmd : OneOrCells md) {v : Value} (h : v.oneCell' = true) : repA w Fr m G .undef md [v] := by
  rcases hmd with rfl | rfl
  · exact ⟨v, rfl⟩
  · exact ⟨v, rfl, h⟩

theorem sl_md {Fr : Nat → Prop} {md : Md} (hmd : OneOrCells md) {t : Ty} {xs : List t.D} {v : Value} (h : RepV w Fr (.sl t) xs [v]) : repA w Fr m G (.val (.sl t) xs) md [v] := by
  rcases hmd with rfl | rfl
  · exact ⟨v, rfl, h⟩
  · exact h

theorem settle_ptr (hM : Settled fb m M) {b : Nat} {p : List Step} {v : Value} (h : repS w (Frz B F m G w) m G (.ptr b p) v) (hr : ∃ x, M b = some x) : repS w (Frz B F M G w) M G (.ptr b p) v := by
  obtain ⟨T, c, z, g, h1, h2, h3, h4⟩ := h
  obtain ⟨x, hx⟩ := hr
  obtain ⟨c0, z0, q1, q2⟩ := hM b x hx
  rw [h1] at q1
  injection q1 with q1
  injection q1 with q1 q1'
  subst q1; subst q2
  exact ⟨T, _, _, g, hx, h2, h3, h4⟩

theorem settle_own (hm : MemOk B F w0 lim m G w) (hM : Settled fb m M) {b ve : Nat} {v : Value} {md : Md} (hmd : OneOrCells md) (h : repS w (Frz B F m G w) m G (.own b ve) v) (hr : ∀ b' ∈ ((AV.own b ve).settle m fb).refs, ∃ x, M b' = some x) :
    repA w (Frz B F M G w) M G ((AV.own b ve).settle m fb) md [v] := by
  obtain ⟨h0, e, t, xs, v', z, h1, h2, h3⟩ := h
  by_cases hb : b < fb
  · have hs : (AV.own b ve).settle m fb = .own b ve := by simp [AV.settle, hb]
    rw [hs] at hr ⊢
    obtain ⟨x, hx⟩ := hr b (by simp [AV.refs])
    obtain ⟨c0, z0, q1, q2⟩ := hM b x hx
    rw [h1] at q1
    injection q1 with q1
    injection q1 with q1 q1'
    subst q1; subst q2; subst q1'
    have : repS w (Frz B F M G w) M G (.own b ve) v := ⟨h0, e, t, xs, v', z, by rw [hx, Cn.settle, if_pos hb], h2, h3⟩
    rcases hmd with rfl | rfl <;> exact ⟨v, rfl, this⟩
  · by_cases hv : ve = v'
    · subst hv
      cases z with
      | true =>
        have hs : (AV.own b ve).settle m fb = .val (.sl t) xs := by simp [AV.settle, hb, h1]
        rw [hs]
        rw [h3 rfl]
        exact sl_md hmd (RepV.mono (fun k hk => ⟨hM.fr hk, rfl⟩) _ _ _ (row_rep hm h1))
      | false =>
        have hs : (AV.own b ve).settle m fb = .own b 0 := by simp [AV.settle, hb, h1]
        rw [hs] at hr ⊢
        obtain ⟨x, hx⟩ := hr b (by simp [AV.refs])
        obtain ⟨c0, z0, q1, q2⟩ := hM b x hx
        rw [h1] at q1
        injection q1 with q1
        injection q1 with q1 q1'
        subst q1; subst q2; subst q1'
        have : repS w (Frz B F M G w) M G (.own b 0) v := ⟨h0, e, t, xs, 0, false, by rw [hx, Cn.settle, if_neg hb], Nat.le_refl _, fun _ => h3 rfl⟩
        rcases hmd with rfl | rfl <;> exact ⟨v, rfl, this⟩
    · have hs : (AV.own b ve).settle m fb = .undef := by simp [AV.settle, hb, h1, hv]
      rw [hs]
      exact undef_md hmd h0

theorem settle_sub (hm : MemOk B F w0 lim m G w) (hM : Settled fb m M) {b ve lo n : Nat} {v : Value} {md : Md} (hmd : OneOrCells md) (h : repS w (Frz B F m G w) m G (.sub b ve lo n) v) (hr : ∀ b' ∈ ((AV.sub b ve lo n).settle m fb).refs, ∃ x, M b' = some x) :
    repA w (Frz B F M G w) M G ((AV.sub b ve lo n).settle m fb) md [v] := by
  obtain ⟨h0, e, t, xs, v', z, h1, h2, h3⟩ := h
  by_cases hb : b < fb
  · have hs : (AV.sub b ve lo n).settle m fb = .sub b ve lo n := by simp [AV.settle, hb]
    rw [hs] at hr ⊢
    obtain ⟨x, hx⟩ := hr b (by simp [AV.refs])
    obtain ⟨c0, z0, q1, q2⟩ := hM b x hx
    rw [h1] at q1
    injection q1 with q1
    injection q1 with q1 q1'
    subst q1; subst q2; subst q1'
    have : repS w (Frz B F M G w) M G (.sub b ve lo n) v := ⟨h0, e, t, xs, v', z, by rw [hx, Cn.settle, if_pos hb], h2, h3⟩
    rcases hmd with rfl | rfl <;> exact ⟨v, rfl, this⟩
  · by_cases hv : ve = v'
    · subst hv
      cases z with
      | true =>
        have hs : (AV.sub b ve lo n).settle m fb = .val (.sl t) ((xs.drop lo).take n) := by simp [AV.settle, hb, h1]
        rw [hs]
        obtain ⟨q1, A, c, q2, q3, q4⟩ := h3 rfl
        rw [q2]
        exact sl_md hmd (RepV.mono (fun k hk => ⟨hM.fr hk, rfl⟩) _ _ _ (sub_rep hm h1 q1 q3 q4))
      | false =>
        have hs : (AV.sub b ve lo n).settle m fb = .sub b 0 lo n := by simp [AV.settle, hb, h1]
        rw [hs] at hr ⊢
        obtain ⟨x, hx⟩ := hr b (by simp [AV.refs])
        obtain ⟨c0, z0, q1, q2⟩ := hM b x hx
        rw [h1] at q1
        injection q1 with q1
        injection q1 with q1 q1'
        subst q1; subst q2; subst q1'
        have : repS w (Frz B F M G w) M G (.sub b 0 lo n) v := ⟨h0, e, t, xs, 0, false, by rw [hx, Cn.settle, if_neg hb], Nat.le_refl _, fun _ => h3 rfl⟩
        rcases hmd with rfl | rfl <;> exact ⟨v, rfl, this⟩
    · have hs : (AV.sub b ve lo n).settle m fb = .undef := by simp [AV.settle, hb, h1, hv]
      rw [hs]
      exact undef_md hmd h0

theorem settle_rptr (hM : Settled fb m M) {b ve i : Nat} {p : List Step} {v : Value} {md : Md} (hmd : OneOrCells md) (h : repS w (Frz B F m G w) m G (.rptr b ve i p) v) (hr : ∀ b' ∈ ((AV.rptr b ve i p).settle m fb).refs, ∃ x, M b' = some x) :
    repA w (Frz B F M G w) M G ((AV.rptr b ve i p).settle m fb) md [v] := by
  obtain ⟨h0, e, t, xs, v', z, h1, h2, h3, h4⟩ := h
  by_cases hb : b < fb
  · have hs : (AV.rptr b ve i p).settle m fb = .rptr b ve i p := by simp [AV.settle, hb]
    rw [hs] at hr ⊢
    obtain ⟨x, hx⟩ := hr b (by simp [AV.refs])
    obtain ⟨c0, z0, q1, q2⟩ := hM b x hx
    rw [h1] at q1
    injection q1 with q1
    injection q1 with q1 q1'
    subst q1; subst q2; subst q1'
    have : repS w (Frz B F M G w) M G (.rptr b ve i p) v := ⟨h0, e, t, xs, v', z, by rw [hx, Cn.settle, if_pos hb], h2, h3, h4⟩
    rcases hmd with rfl | rfl <;> exact ⟨v, rfl, this⟩
  · have hs : (AV.rptr b ve i p).settle m fb = .undef := by simp [AV.settle, hb]
    rw [hs]
    exact undef_md hmd h0

/-- What a value is, it is when settled. -/
theorem settle_rep (hm : MemOk B F w0 lim m G w) (hM : Settled fb m M) : ∀ (a : AV) (md : Md) (vs : List Value), repA w (Frz B F m G w) m G a md vs → (∀ b ∈ (a.settle m fb).refs, ∃ x, M b = some x) → repA w (Frz B F M G w) M G (a.settle m fb) md vs
  | .val t x, .one, vs, ⟨v, e, h⟩, _ => ⟨v, e, h.mono fun k hk => ⟨hM.fr hk, rfl⟩⟩
  | .val t x, .cells, vs, h, _ => RepV.mono (fun k hk => ⟨hM.fr hk, rfl⟩) _ _ _ h
  | .pr a b, .one, vs, ⟨c1, c2, e, h1, h2⟩, hr => ⟨c1, c2, e, settle_rep hm hM a _ _ h1 (fun x hx => hr x (List.mem_append_left _ hx)), settle_rep hm hM b _ _ h2 (fun x hx => hr x (List.mem_append_right _ hx))⟩
  | .pr a b, .cells, vs, ⟨c1, c2, e, h1, h2⟩, hr => ⟨c1, c2, e, settle_rep hm hM a _ _ h1 (fun x hx => hr x (List.mem_append_left _ hx)), settle_rep hm hM b _ _ h2 (fun x hx => hr x (List.mem_append_right _ hx))⟩
  | .pr a b, .chain, vs, ⟨c1, c2, e, h1, h2⟩, hr => ⟨c1, c2, e, settle_rep hm hM a _ _ h1 (fun x hx => hr x (List.mem_append_left _ hx)), settle_rep hm hM b _ _ h2 (fun x hx => hr x (List.mem_append_right _ hx))⟩
  | .un, .one, _, h, _ => h
  | .un, .cells, _, h, _ => h
  | .un, .chain, _, h, _ => h
  | .tp l, .one, _, ⟨ws, e, h⟩, hr => ⟨ws, e, settle_rep hm hM l _ _ h hr⟩
  | .fn f a b, .one, vs, ⟨x, y, e, h1, h2⟩, hr => ⟨x, y, e, settle_rep hm hM a _ _ h1 (fun x hx => hr x (List.mem_append_left _ hx)), settle_rep hm hM b _ _ h2 (fun x hx => hr x (List.mem_append_right _ hx))⟩
  | .fn f a b, .cells, vs, ⟨x, y, e, h1, h2⟩, hr => ⟨x, y, e, settle_rep hm hM a _ _ h1 (fun x hx => hr x (List.mem_append_left _ hx)), settle_rep hm hM b _ _ h2 (fun x hx => hr x (List.mem_append_right _ hx))⟩
  | .undef, .one, _, h, _ => h
  | .undef, .cells, _, h, _ => h
  | .nn t xs, .one, _, ⟨v, e, h1, h2⟩, _ => ⟨v, e, RepV.mono (fun k hk => ⟨hM.fr hk, rfl⟩) _ _ _ h1, h2⟩
  | .nn t xs, .cells, _, ⟨v, e, h1, h2⟩, _ => ⟨v, e, RepV.mono (fun k hk => ⟨hM.fr hk, rfl⟩) _ _ _ h1, h2⟩
  | .nil, .one, _, h, _ => h
  | .nil, .cells, _, h, _ => h
  | .nptr, .one, _, h, _ => h
  | .nptr, .cells, _, h, _ => h
  | .ref t x, .one, _, ⟨v, e, ad, h1, h2, cs, h3, h4⟩, _ => ⟨v, e, ad, h1, hM.fr h2, cs, RepV.mono (fun k hk => ⟨hM.fr hk, rfl⟩) _ _ _ h3, h4⟩
  | .ref t x, .cells, _, ⟨v, e, ad, h1, h2, cs, h3, h4⟩, _ => ⟨v, e, ad, h1, hM.fr h2, cs, RepV.mono (fun k hk => ⟨hM.fr hk, rfl⟩) _ _ _ h3, h4⟩
  | .ptr b p, .one, _, ⟨v, e, h⟩, hr => ⟨v, e, settle_ptr hM h (hr b (by simp [AV.settle, AV.refs]))⟩
  | .ptr b p, .cells, _, ⟨v, e, h⟩, hr => ⟨v, e, settle_ptr hM h (hr b (by simp [AV.settle, AV.refs]))⟩
  | .rptr .., .one, _, ⟨v, e, h⟩, hr => by subst e; exact settle_rptr hM (.inl rfl) h hr
  | .rptr .., .cells, _, ⟨v, e, h⟩, hr => by subst e; exact settle_rptr hM (.inr rfl) h hr
  | .own .., .one, _, ⟨v, e, h⟩, hr => by subst e; exact settle_own hm hM (.inl rfl) h hr
  | .own .., .cells, _, ⟨v, e, h⟩, hr => by subst e; exact settle_own hm hM (.inr rfl) h hr
  | .sub .., .one, _, ⟨v, e, h⟩, hr => by subst e; exact settle_sub hm hM (.inl rfl) h hr
  | .sub .., .cells, _, ⟨v, e, h⟩, hr => by subst e; exact settle_sub hm hM (.inr rfl) h hr

theorem closed_var {env : List AV} : ∀ {l : List (Nat × (Cn × Bool))}, closed M env l = true → ∀ b T c z, look l b = some (.var T c, z) → AV.fits T c = true ∧ ∀ x ∈ c.refs, ∃ y, M x = some y
  | [], _, _, _, _, _, h => by cases h
  | (i, .var T' c', z') :: l, h, b, T, c, z, hl => by
    simp only [closed, Bool.and_eq_true] at h
    simp only [look] at hl
    split at hl
    · injection hl with hl
      injection hl with hl _
      injection hl with h1 h2
      subst h1; subst h2
      exact ⟨h.1.1, fun x hx => Option.isSome_iff_exists.1 (List.all_eq_true.1 h.1.2 x hx)⟩
    · exact closed_var h.2 b T c z hl
  | (i, .row .., z') :: l, h, b, T, c, z, hl => by
    simp only [look] at hl
    split at hl
    · injection hl with hl
      injection hl with hl _
      cases hl
    · exact closed_var (l := l) h b T c z hl

/-- The memory that is gathered, if it is closed, stands as the old one did. -/
theorem gather_ok {lim' : Nat} (hm : MemOk B F w0 lim m G w) {ids : List Nat} {env : List AV} (hc : closed (ofL (gather m fb ids)) env (gather m fb ids) = true) (hl : ∀ b x, look (gather m fb ids) b = some x → b < lim') :
    MemOk B F w0 lim' (ofL (gather m fb ids)) G w ∧ TrF fb B F m G w (ofL (gather m fb ids)) G w := by
  have hM : Settled fb m (ofL (gather m fb ids)) := fun b x hx => gather_look hx
  refine ⟨⟨hm.below, hm.base, fun b c z hb => ?_, fun b b' x y hne hx hy => ?_, hl, hm.nw, fun b c z hb k hk => (hM b _ hb).elim fun c0 q => q.elim fun z0 q => hm.hd b c0 z0 q.1 k hk⟩, ⟨fun k hk => ⟨hM.fr hk, rfl⟩, fun b c z hlt hb => ?_, fun b _ hn => ?_⟩⟩
  · obtain ⟨c0, z0, q1, q2⟩ := hM b _ hb
    injection q2 with q2 q3
    subst q2; subst q3
    have hok := hm.blk b c0 z q1
    cases c0 with
    | var T a =>
      obtain ⟨g, arr, e, h1, h2, h3, h4, h5⟩ := hok
      obtain ⟨k1, k2⟩ := closed_var hc b _ _ _ hb
      exact ⟨g, arr, e, h1, h2, h3, k1, settle_rep hm hM _ _ _ h5 k2⟩
    | row e t xs v =>
      obtain ⟨cells, h1, h2, h3⟩ := hok
      exact ⟨cells, h1, h2.mono fun x cs hx => RepV.mono (fun k hk => ⟨hM.fr hk, rfl⟩) _ _ _ hx, h3⟩
  · obtain ⟨_, _, q1, _⟩ := hM b _ hx
    obtain ⟨_, _, q2, _⟩ := hM b' _ hy
    exact hm.dist b b' _ _ hne q1 q2
  · cases hx : ofL (gather m fb ids) b with
    | none => exact .inl rfl
    | some x =>
      right
      obtain ⟨c0, z0, q1, q2⟩ := hM b _ hx
      rw [hb] at q1
      injection q1 with q1
      injection q1 with q1 q3
      subst q1; subst q2
      refine ⟨_, _, rfl, ?_, fun _ => rfl⟩
      cases c with
      | var T a => exact rfl
      | row e t xs v => exact ⟨rfl, rfl, by simp [hlt], fun _ => rfl⟩
  · cases hx : ofL (gather m fb ids) b with
    | none => rfl
    | some x =>
      obtain ⟨c0, z0, q1, q2⟩ := hM b _ hx
      rw [hn] at q1
      cases q1

/-! ### Freezing, forgetting -/
theorem freezeAll_ok {env : List AV} : ∀ {ts : List Nat} {m m' : Mem}, freezeAll m env ts = some m' → MemOk B F w0 lim m G w → MemOk B F w0 lim m' G w ∧ Tr B F m G w m' G w ∧ ∀ b, m b = none → m' b = none
  | [], m, m', h, hm => by
    injection h with h
    subst h
    exact ⟨hm, Tr.refl .., fun _ h => h⟩
  | t :: ts, m, m', h, hm => by
    have key : ∀ {b : Nat}, (match m b with | some (c, _) => freezeAll (m.set b (c, true)) env ts | none => none) = some m' → MemOk B F w0 lim m' G w ∧ Tr B F m G w m' G w ∧ ∀ b, m b = none → m' b = none := by
      intro b h
      split at h
      · rename_i c z hc
        obtain ⟨h1, h2⟩ := hm.freeze hc
        obtain ⟨k1, k2, k3⟩ := freezeAll_ok h h1
        refine ⟨k1, h2.trans k2, fun b' hb' => k3 b' ?_⟩
        have : b' ≠ b := fun e => by subst e; rw [hc] at hb'; cases hb'
        simp [Mem.set, this, hb']
      · cases h
    simp only [freezeAll] at h
    split at h
    · exact key h
    · exact key h
    · exact freezeAll_ok h hm

theorem maskEnv_length {keep : Nat} : ∀ {l : List AV} {k : Nat}, (maskEnv keep l k).length = l.length
  | [], _ => rfl
  | a :: l, k => by simp [maskEnv, maskEnv_length (l := l)]

theorem maskEnv_get {keep : Nat} : ∀ {l : List AV} {k i : Nat}, (maskEnv keep l k).getD i .undef = l.getD i .undef ∨ (maskEnv keep l k).getD i .undef = .undef
  | [], _, _ => .inr rfl
  | a :: l, k, 0 => by
    simp only [maskEnv]
    by_cases h : keep.testBit k <;> simp [h]
  | a :: l, k, i + 1 => by
    have := maskEnv_get (keep := keep) (l := l) (k := k + 1) (i := i)
    simpa [maskEnv] using this

end

section
variable {P : Program} {B : Nat} {F : Nat → Prop} {w0 : World} {fb : Nat} {m m' : Mem} {G : Nat → Value} {w : World} {cx : Cx}

theorem nilAll_ok (hT : typesChk P cx.types = true) {tmps : Array Value} : ∀ {l : List (Nat × Nat × TypeId)} {env env' : List AV} {m m' : Mem} {G : Nat → Value}, nilAll cx fb l (env, m) = some (env', m') → MemOk B F w0 (fb + 1000000) m G w →
    (∀ i, i < env.length → repA w (Frz B F m G w) m G (env.getD i .undef) .one [tmps.getD i undef]) →
    ∃ G', env'.length = env.length ∧ MemOk B F w0 (fb + 1000000) m' G' w ∧ Tr B F m G w m' G' w ∧ (∀ b, b < fb → m b = none → m' b = none) ∧ ∀ i, i < env.length → repA w (Frz B F m' G' w) m' G' (env'.getD i .undef) .one [tmps.getD i undef]
  | [], env, env', m, m', G, h, hm, he => by
    injection h with h
    injection h with h1 h2
    subst h1; subst h2
    exact ⟨G, rfl, hm, Tr.refl .., fun _ _ h => h, he⟩
  | (t, b, ty) :: l, env, env', m, m', G, h, hm, he => by
    simp only [nilAll] at h
    split at h
    · rename_i hnil
      split at h
      · rename_i u e by' hmb hty
        split at h
        · rename_i hb
          have ht : t < env.length := by
            rcases Nat.lt_or_ge t env.length with ht | ht
            · exact ht
            · rw [List.getD_eq_getElem?_getD, List.getElem?_eq_none ht] at hnil
              cases hnil
          have hv := he t ht
          rw [hnil] at hv
          have hv := one_nil hv
          obtain ⟨_, hu, _⟩ := (tyFact_of hT hty).sl
          obtain ⟨h1, h2⟩ := hm.step (b0 := b) (c0 := .row e u [] 0) (z0 := false) (g0 := .slice none 0 0) (w' := w) (Below.refl _ _) (fun _ _ _ => rfl) (fun k hk => by simp [hdNo] at hk) (fun c z hc => by rw [hmb] at hc; cases hc) hb.2
            (fun _ => ⟨[], ⟨by simp, .inl ⟨by simp [upd], rfl⟩⟩, rfl, hu⟩)
          obtain ⟨G', k1, k2, k3, k4, k5⟩ := nilAll_ok hT h h1 fun i hi => by
            rw [set_getD ht]
            split
            · rename_i e'
              subst e'
              rw [hv]
              exact ⟨_, rfl, rfl, e, u, [], 0, false, by simp [Mem.set], Nat.le_refl _, fun _ => by simp [upd]⟩
            · exact repA.mono h2 _ _ _ (he i (by simpa using hi))
          refine ⟨G', by simpa using k1, k2, h2.trans k3, fun b' hb' hn => k4 b' hb' ?_, fun i hi => k5 i (by simpa using hi)⟩
          have : b' ≠ b := by omega
          simp [Mem.set, this, hn]
        · cases h
      · cases h
    · exact nilAll_ok hT h hm he

/-- What is carried to the head of a loop. -/
theorem canon_ok (hT : typesChk P cx.types = true) {an : Ann} {s s' : St} {a : Act} (h : canon cx fb an s = some s') (hr : RelG B F w0 fb G s.env s.mem a w) : ∃ G', RelG B F w0 fb G' s'.env s'.mem a w ∧ TrF fb B F s.mem G w s'.mem G' w := by
  unfold canon at h
  split at h
  · cases h
  · rename_i m1 hf
    obtain ⟨h1, h2, h3⟩ := freezeAll_ok hf hr.mem
    split at h
    · cases h
    · rename_i s1 hn
      obtain ⟨env1, m2⟩ := s1
      obtain ⟨G', k1, k2, k3, k4, k5⟩ := nilAll_ok (tmps := a.tmps) hT hn h1 fun i hi => by
        rw [maskEnv_length] at hi
        have := repA.mono h2 _ _ _ (hr.env i hi)
        rcases maskEnv_get (keep := an.keep) (l := s.env) (k := 0) (i := i) with e | e
        · rw [e]; exact this
        · rw [e]; exact ⟨_, rfl⟩
      simp only at h
      have key : ∃ ids, closed (ofL (gather m2 fb ids)) (env1.map (AV.settle m2 fb)) (gather m2 fb ids) = true ∧ s' = ⟨env1.map (AV.settle m2 fb), ofL (gather m2 fb ids), ids, []⟩ := by
        split at h
        · rename_i hcl
          exact ⟨_, hcl, (Option.some.inj h).symm⟩
        · cases h
      clear h
      obtain ⟨ids, hcl, rfl⟩ := key
      rw [maskEnv_length] at k1 k5
      obtain ⟨q1, q2⟩ := gather_ok (lim' := fb + 1000000) k2 hcl fun b x hx => by
        obtain ⟨c, z, hb, _⟩ := gather_look hx
        exact k2.lim b _ hb
      refine ⟨G', ⟨?_, hr.defs, q1, fun i hi => ?_⟩, ?_⟩
      · simp only [List.length_map]
        rw [k1, hr.size]
      · simp only [List.length_map] at hi
        have hi' := k5 i (by rw [← k1]; exact hi)
        have hget : (env1.map (AV.settle m2 fb)).getD i .undef = (env1.getD i .undef).settle m2 fb := by
          simp [List.getD_eq_getElem?_getD, List.getElem?_map, List.getElem?_eq_getElem hi]
        show repA w (Frz B F (ofL (gather m2 fb ids)) G' w) (ofL (gather m2 fb ids)) G' ((env1.map (AV.settle m2 fb)).getD i .undef) .one [a.tmps.getD i undef]
        rw [hget]
        have hin : (env1.getD i .undef).settle m2 fb ∈ env1.map (AV.settle m2 fb) := by
          refine List.mem_map.2 ⟨_, ?_, rfl⟩
          rw [List.getD_eq_getElem?_getD, List.getElem?_eq_getElem hi]
          simp
        exact settle_rep k2 gather_settled _ _ _ hi' (closed_env hcl _ hin)
      · have t1 := (h2.trans k3).toF (fb := fb) fun b hb hn => k4 b hb (h3 b hn)
        exact t1.trans q2

theorem canonO_ok (hT : typesChk P cx.types = true) {anns : List (Nat × Ann)} {id : Nat} {s s' : St} {a : Act} (h : canonO cx anns fb id s = some s') (hr : RelG B F w0 fb G s.env s.mem a w) : ∃ G', RelG B F w0 fb G' s'.env s'.mem a w ∧ TrF fb B F s.mem G w s'.mem G' w := by
  unfold canonO at h
  split at h
  · injection h with h
    subst h
    exact ⟨G, hr, TrF.refl⟩
  · exact canon_ok hT h hr
end
end Go.Refl
/-
  Code, bodies, functions.
-/
set_option linter.unusedVariables false
set_option linter.unusedSimpArgs false
namespace Go.Refl
open Go Go.RowKit

def toExit : Ex → Exit
  | .normal => .normal
  | .exit i => .exit i
  | .ret => .ret

/-! ### Loops -/
theorem iter_mono {f : St → Option (Ex × St)} {cn : St → Option St} : ∀ {n k : Nat} {s : St} {r : Ex × St}, iter f cn n s = some r → iter f cn (n + k) s = some r := by
  intro n
  induction n with
  | zero => intro k s r h; cases h
  | succ n ih =>
    intro k s r h
    rw [show n + 1 + k = (n + k) + 1 by omega]
    simp only [iter] at h ⊢
    split at h
    · split at h
      · exact ih h
      · cases h
    · exact h
    · cases h

theorem loopSem_some {f : St → Option (Ex × St)} {cn : St → Option St} {s : St} {r : Ex × St} : loopSem f cn s = some r ↔ ∃ n, iter f cn n s = some r := by
  unfold loopSem
  constructor
  · intro h
    split at h
    · rename_i hx
      injection h with h
      have := Classical.choose_spec (Classical.choose_spec hx)
      exact ⟨_, by rw [← h]; exact this⟩
    · cases h
  · rintro ⟨n, hn⟩
    have hx : ∃ n r, iter f cn n s = some r := ⟨n, r, hn⟩
    rw [dif_pos hx]
    have := Classical.choose_spec (Classical.choose_spec hx)
    have h1 := iter_mono (k := n) this
    have h2 := iter_mono (k := Classical.choose hx) hn
    rw [Nat.add_comm] at h2
    rw [h2] at h1
    injection h1 with h1
    rw [h1]

/-- A loop, one round unfolded. -/
theorem loopSem_eq (f : St → Option (Ex × St)) (cn : St → Option St) (s : St) : loopSem f cn s = (f s).bind fun r => match r.1 with
    | .normal => (cn r.2).bind (loopSem f cn)
    | _ => some r := by
  apply Option.ext
  intro r
  rw [loopSem_some]
  constructor
  · rintro ⟨n, hn⟩
    cases n with
    | zero => cases hn
    | succ n =>
      simp only [iter] at hn
      split at hn
      · rename_i s' hs
        rw [hs]
        simp only [Option.bind_some]
        split at hn
        · rename_i s2 h2
          rw [h2]
          simp only [Option.bind_some]
          exact loopSem_some.2 ⟨n, hn⟩
        · cases hn
      · rename_i r' hnot hs
        injection hn with hn
        subst hn
        rw [hs]
        obtain ⟨e, s'⟩ := r'
        cases e with
        | normal => exact (hnot s' rfl).elim
        | exit => rfl
        | ret => rfl
      · cases hn
  · intro h
    cases hf : f s with
    | none => rw [hf] at h; cases h
    | some r' =>
      rw [hf] at h
      obtain ⟨e, s'⟩ := r'
      simp only [Option.bind_some] at h
      cases e with
      | normal =>
        simp only at h
        obtain ⟨s2, h2, h⟩ := Option.bind_eq_some_iff.1 h
        obtain ⟨n, hn⟩ := loopSem_some.1 h
        exact ⟨n + 1, by simp only [iter, hf, h2]; exact hn⟩
      | exit i => exact ⟨1, by simp only [iter, hf]; exact h⟩
      | ret => exact ⟨1, by simp only [iter, hf]; exact h⟩

theorem opt_run {α β : Type} {o : Option α} {k : α → Pr β} {r : β} (h : (Pr.opt o k).run = some r) : ∃ a, o = some a ∧ (k a).run = some r := by
  cases o with
  | none => cases h
  | some a => exact ⟨a, rfl, h⟩

section
variable {P : Program} {B : Nat} {F : Nat → Prop} {w0 : World} {fb : Nat} {cx : Cx} {inl : Inl} {anns : List (Nat × Ann)}

/-! ### Code -/
theorem exec_sound (hP : P.follows .mixedOrders = true) (hT : typesChk P cx.types = true) (hS : SigsOk P cx) (hI : InlOk P B F w0 inl) (c : Code) :
    ∀ (s : St) (e : Ex) (s' : St) (G : Nat → Value) (a : Act) (w : World) (Q : Exit → Act → World → Prop), (exec cx anns inl fb c s).run = some (e, s') → RelG B F w0 fb G s.env s.mem a w →
    (∀ a1 w1 G1, RelG B F w0 fb G1 s'.env s'.mem a1 w1 → TrF fb B F s.mem G w s'.mem G1 w1 → Q (toExit e) a1 w1) → c.wp P Q a w := by
  induction c with
  | skip =>
    intro s e s' G a w Q h hr hq
    simp only [exec, Pr.run] at h
    injection h with h
    injection h with h1 h2
    subst h1; subst h2
    exact wp_skip (hq a w G hr TrF.refl)
  | region id ops draw =>
    intro s e s' G a w Q h hr hq
    simp only [exec] at h
    obtain ⟨s1, hc, h⟩ := opt_run h
    obtain ⟨G1, r1, t1⟩ := canonO_ok hT hc hr
    rw [bind_run] at h
    obtain ⟨⟨env', m', fps, kn'⟩, h1, h2⟩ := Option.bind_eq_some_iff.1 h
    exact (region_sound hP hT hS hI (Nat.le_add_right fb _) r1 h1 h2 (fun a2 w2 G2 r2 t2 => by
      have he : e = .normal := by
        simp only [regionK] at h2
        cases draw with
        | false =>
          simp only [Pr.run] at h2
          injection h2 with h2
          injection h2 with h2 _
          exact h2.symm
        | true =>
          simp only at h2
          split at h2
          · simp only [Pr.run] at h2
            injection h2 with h2
            injection h2 with h2 _
            exact h2.symm
          · cases h2
      subst he
      exact hq a2 w2 G2 r2 (t1.trans t2))).2
  | seq x y ihx ihy =>
    intro s e s' G a w Q h hr hq
    simp only [exec] at h
    rw [bind_run] at h
    obtain ⟨⟨e1, s1⟩, h1, h2⟩ := Option.bind_eq_some_iff.1 h
    refine wp_seq (ihx s e1 s1 G a w _ h1 hr fun a1 w1 G1 r1 t1 => ?_)
    cases e1 with
    | normal => exact ihy s1 e s' G1 a1 w1 Q h2 r1 fun a2 w2 G2 r2 t2 => hq a2 w2 G2 r2 (t1.trans t2)
    | exit i =>
      simp only [seqK, Pr.run] at h2
      injection h2 with h2
      injection h2 with q1 q2
      subst q1; subst q2
      exact hq a1 w1 G1 r1 t1
    | ret =>
      simp only [seqK, Pr.run] at h2
      injection h2 with h2
      injection h2 with q1 q2
      subst q1; subst q2
      exact hq a1 w1 G1 r1 t1
  | cond o x y ihx ihy =>
    intro s e s' G a w Q h hr hq
    simp only [exec] at h
    split at h
    · rename_i t ho
      have hv := hr.eval o
      rw [ho] at hv
      have hv := one_bool hv
      refine wp_cond hv ?_
      change Bool at t
      split at h
      · cases t with
        | true => exact ihx s e s' G a w Q h hr hq
        | false => exact ihy s e s' G a w Q h hr hq
      · have htold : ∀ u : Bool, t = u → s.told o u = { s with kn := (s.told o u).kn } := by
          intro u hu
          subst hu
          cases o with
          | tmp d =>
            have := set_getD_self (l := s.env) (d := d) (v := .val .bool t) ho (by simp)
            simp only [St.told, this]
          | _ => rfl
        have h : (if t = true then (exec cx anns inl fb x (s.told o true)).run else (exec cx anns inl fb y (s.told o false)).run) = some (e, s') := h
        cases t with
        | true =>
          rw [htold true rfl] at h
          exact ihx _ e s' G a w Q h hr hq
        | false =>
          rw [htold false rfl] at h
          exact ihy _ e s' G a w Q h hr hq
    · cases h
  | block id c ih =>
    intro s e s' G a w Q h hr hq
    simp only [exec] at h
    rw [bind_run] at h
    obtain ⟨⟨e1, s1⟩, h1, h2⟩ := Option.bind_eq_some_iff.1 h
    refine wp_block (ih s e1 s1 G a w _ h1 hr fun a1 w1 G1 r1 t1 => ?_)
    cases e1 with
    | normal =>
      simp only [blockK, Pr.run] at h2
      injection h2 with h2
      injection h2 with q1 q2
      subst q1; subst q2
      exact hq a1 w1 G1 r1 t1
    | exit i =>
      simp only [blockK] at h2
      simp only [toExit, Exit.inBlock]
      split at h2
      · rename_i hi
        rw [if_pos hi]
        simp only [Pr.run] at h2
        injection h2 with h2
        injection h2 with q1 q2
        subst q1; subst q2
        exact hq a1 w1 G1 r1 t1
      · rename_i hi
        rw [if_neg hi]
        simp only [Pr.run] at h2
        injection h2 with h2
        injection h2 with q1 q2
        subst q1; subst q2
        exact hq a1 w1 G1 r1 t1
    | ret =>
      simp only [blockK, Pr.run] at h2
      injection h2 with h2
      injection h2 with q1 q2
      subst q1; subst q2
      exact hq a1 w1 G1 r1 t1
  | loop c ih =>
    intro s e s' G a w Q h hr hq
    simp only [exec] at h
    obtain ⟨s0, hc, h⟩ := opt_run h
    obtain ⟨G0, r0, t0⟩ := canonO_ok hT hc hr
    have h : ((loopSem (fun s => (exec cx anns inl fb c s).run) (canonO cx anns fb (firstId c)) s0).bind fun r => some r) = some (e, s') := by
      cases hl : loopSem (fun s => (exec cx anns inl fb c s).run) (canonO cx anns fb (firstId c)) s0 with
      | none => rw [hl] at h; cases h
      | some r => rw [hl] at h; exact h
    have h : loopSem (fun s => (exec cx anns inl fb c s).run) (canonO cx anns fb (firstId c)) s0 = some (e, s') := by simpa using h
    obtain ⟨n, hn⟩ := loopSem_some.1 h
    refine wp_loop_ghost (fun k a1 w1 => ∃ s1 G1, iter (fun s => (exec cx anns inl fb c s).run) (canonO cx anns fb (firstId c)) k s1 = some (e, s') ∧ RelG B F w0 fb G1 s1.env s1.mem a1 w1 ∧ TrF fb B F s.mem G w s1.mem G1 w1) n ⟨s0, G0, hn, r0, t0⟩ ?_
    rintro k a1 w1 ⟨s1, G1, hk, r1, t1⟩
    cases k with
    | zero => cases hk
    | succ k =>
      simp only [iter] at hk
      split at hk
      · rename_i s2 h2
        split at hk
        · rename_i s3 h3
          refine ih s1 .normal s2 G1 a1 w1 _ h2 r1 fun a2 w2 G2 r2 t2 => ?_
          obtain ⟨G3, r3, t3⟩ := canonO_ok hT h3 r2
          exact ⟨k, Nat.lt_succ_self k, s3, G3, hk, r3, (t1.trans t2).trans t3⟩
        · cases hk
      · rename_i r' hnot h2
        injection hk with hk
        subst hk
        refine ih s1 e s' G1 a1 w1 _ h2 r1 fun a2 w2 G2 r2 t2 => ?_
        have := hq a2 w2 G2 r2 (t1.trans t2)
        cases e with
        | normal => exact (hnot s' rfl).elim
        | exit i => exact this
        | ret => exact this
      · cases hk
  | exit i =>
    intro s e s' G a w Q h hr hq
    simp only [exec, Pr.run] at h
    injection h with h
    injection h with h1 h2
    subst h1; subst h2
    exact wp_exit (hq a w G hr TrF.refl)
  | ret =>
    intro s e s' G a w Q h hr hq
    simp only [exec, Pr.run] at h
    injection h with h
    injection h with h1 h2
    subst h1; subst h2
    exact wp_ret (hq a w G hr TrF.refl)
  | rangeFunc => intro s e s' G a w Q h; simp only [exec] at h; cases h
  | scope => intro s e s' G a w Q h; simp only [exec] at h; cases h
  | label => intro s e s' G a w Q h; simp only [exec] at h; cases h
  | goto => intro s e s' G a w Q h; simp only [exec] at h; cases h
  | refuse => intro s e s' G a w Q h; simp only [exec] at h; cases h

/-! ### Results -/
def resV : List Value → Value
  | [v] => v
  | vs => .tuple vs.toArray

variable {G : Nat → Value} {env : List AV} {m : Mem} {a : Act} {w : World}

theorem resAV_ok (hT : typesChk P cx.types = true) (hr : RelG B F w0 fb G env m a w) {r : ResultVar} {av : AV} (h : resAV cx env m r = some av) : ∃ v, (∀ f : ResultVar → Sem Value, (∀ u, f (.tmp u) = pure (a.tmps.getD u undef)) →
    (∀ b t, f (.cell b t) = (do loadVar t (← asAddr (a.tmps.getD b undef)))) → (f r).run P w = .ok v w) ∧ repA w (Frz B F m G w) m G av .one [v] := by
  cases r with
  | tmp t =>
    simp only [resAV] at h
    injection h with h
    subst h
    refine ⟨a.tmps.getD t undef, fun f hf _ => by rw [hf]; rfl, ?_⟩
    exact hr.eval (.tmp t)
  | cell b t =>
    simp only [resAV] at h
    split at h
    · rename_i bl p hp
      split at h
      · rename_i T c z ti hb hti
        split at h
        · rename_i hq
          have hft := tyFact_of hT hti
          have hv := hr.eval (.tmp b)
          rw [show ev env (.tmp b) = .ptr bl p from hp] at hv
          obtain ⟨T', c', z', g, r1, r2, r3, r4⟩ := one_ptr hv
          rw [hb] at r1
          injection r1 with r1
          injection r1 with r1 _
          injection r1 with r1 _
          subst r1
          obtain ⟨g', arr, e', k1, k2, k3, k4, k5⟩ := hr.mem.blk _ _ _ hb
          rw [r3] at k1
          injection k1 with k1
          injection k1 with k1
          injection k1 with k1
          subst k1
          obtain ⟨s1, s2⟩ := get_rep r2 k4 hq h k5
          have hlen := fits_length k4 k5
          have hoff := okP_off r2 hq
          refine ⟨ofCells ti.ty (piece arr.toList (offP p T) ti.ty.size), fun f _ hc => ?_, part_rep s1 s2⟩
          rw [hc, show a.tmps.getD b undef = _ from r4]
          simp only [asAddr, Sem.run_bind, Sem.run_pure, Result.andThen_ok]
          exact run_loadVar hft (cs := piece arr.toList (offP p T) ti.ty.size) (piece_length (by omega)) (cell_row k3)
        · cases h
      · cases h
    · cases h

theorem resAVs_ok {P : Program} {a : Act} {w : World} {G : Nat → Value} {env : List AV} {m : Mem} (hT : typesChk P cx.types = true) (hr : RelG B F w0 fb G env m a w) : ∀ {rs : List ResultVar} {l : List AV}, resAVs cx env m rs = some l → ∃ vs, (∀ f : ResultVar → Sem Value, (∀ u, f (.tmp u) = pure (a.tmps.getD u undef)) →
    (∀ b t, f (.cell b t) = (do loadVar t (← asAddr (a.tmps.getD b undef)))) → (rs.mapM f).run P w = .ok vs w) ∧ repsL w (Frz B F m G w) m G l vs
  | [], l, h => by
    injection h with h
    subst h
    exact ⟨[], fun f _ _ => by simp, rfl⟩
  | r :: rs, l, h => by
    simp only [resAVs] at h
    split at h
    · rename_i x y hx hy
      injection h with h
      subst h
      obtain ⟨v, q1, q2⟩ := resAV_ok (P := P) hT hr hx
      obtain ⟨vs, q3, q4⟩ := resAVs_ok hT hr hy
      refine ⟨v :: vs, fun f hf hc => ?_, v, vs, rfl, q2, q4⟩
      rw [List.mapM_cons]
      simp [q1 f hf hc, q3 f hf hc]
    · cases h

theorem results_ok (hT : typesChk P cx.types = true) (hr : RelG B F w0 fb G env m a w) {fn : Func} {l : List AV} (h : resAVs cx env m fn.results.toList = some l) :
    ∃ vs, (results fn a.tmps).run P w = .ok (resV vs) w ∧ repsL w (Frz B F m G w) m G l vs := by
  obtain ⟨vs, h1, h2⟩ := resAVs_ok (P := P) hT hr h
  refine ⟨vs, ?_, h2⟩
  unfold results
  rw [show fn.results = fn.results.toList.toArray by simp, List.mapM_toArray]
  simp only [Sem.run_bind, Sem.run_map]
  rw [show fn.results.toList.toArray.toList = fn.results.toList by simp, h1]
  · match vs with
    | [] => simp [resV]
    | [v] => simp [resV]
    | u :: v :: vs => simp [resV]
  · intro u; rfl
  · intro b t; rfl

theorem oneOf_rep {m : Mem} {G : Nat → Value} {w : World} : ∀ {l : List AV} {vs : List Value}, repsL w (Frz B F m G w) m G l vs → repA w (Frz B F m G w) m G (oneOf l) .one [resV vs]
  | [], _, h => by
    rw [show _ = [] from h]
    exact ⟨[], rfl, rfl⟩
  | [a], _, ⟨v, l, e, h1, h2⟩ => by
    subst e
    rw [show l = [] from h2]
    exact h1
  | a :: b :: l, _, ⟨v, l', e, h1, u, l2, e2, h2, h3⟩ => by
    subst e; subst e2
    exact ⟨_, rfl, v, _, rfl, h1, u, _, rfl, h2, chain_reps h3⟩

/-! ### Bodies that are walked into -/
theorem startEnv_rel {fn : Func} {args : List AV} {vs : List Value} (hm : MemOk B F w0 (fb + 1000000) m G w) (h : repsL w (Frz B F m G w) m G args vs) :
    RelG B F w0 fb G (startEnv fn args) m { tmps := vs.toArray ++ Array.replicate (fn.ntmps - vs.toArray.size) undef, defers := [] } w := by
  have hlen : ∀ {l : List AV} {vs : List Value}, repsL w (Frz B F m G w) m G l vs → vs.length = l.length := by
    intro l
    induction l with
    | nil => intro vs h; rw [show vs = [] from h]; rfl
    | cons a l ih =>
      rintro vs ⟨v, l', e, h1, h2⟩
      subst e
      simp [ih h2]
  have hget : ∀ {l : List AV} {vs : List Value}, repsL w (Frz B F m G w) m G l vs → ∀ i, i < l.length → repA w (Frz B F m G w) m G (l.getD i .undef) .one [vs.getD i undef] := by
    intro l
    induction l with
    | nil => intro vs h i hi; simp at hi
    | cons a l ih =>
      rintro vs ⟨v, l', e, h1, h2⟩ i hi
      subst e
      cases i with
      | zero => exact h1
      | succ i => simpa using ih h2 i (by simpa using hi)
  have hl := hlen h
  refine ⟨by simp [startEnv, hl], rfl, hm, fun i hi => ?_⟩
  simp only [startEnv]
  by_cases hlt : i < args.length
  · have := hget h i hlt
    rw [List.getD_eq_getElem?_getD, List.getElem?_append_left hlt, ← List.getD_eq_getElem?_getD]
    rw [Array.getD_eq_getD_getElem?, Array.getElem?_append_left (by simpa [hl] using hlt)]
    simpa using this
  · rw [List.getD_eq_getElem?_getD, List.getElem?_append_right (by omega)]
    have : (List.replicate (fn.ntmps - args.length) AV.undef)[i - args.length]?.getD .undef = .undef := by
      rw [List.getElem?_replicate]
      split <;> rfl
    rw [this]
    exact ⟨_, rfl⟩

theorem gather_mem {fb : Nat} {m : Mem} : ∀ {ids : List Nat} {b : Nat} {x : Cn × Bool}, look (gather m fb ids) b = some x → b ∈ ids
  | [], _, _, h => by cases h
  | i :: ids, b, x, h => by
    simp only [gather] at h
    split at h
    · simp only [look] at h
      split at h
      · rename_i e
        exact e ▸ .head _
      · exact .tail _ (gather_mem h)
    · exact .tail _ (gather_mem h)

theorem inlOf_ok (hP : P.follows .mixedOrders = true) (hT : typesChk P cx.types = true) (hS : SigsOk P cx)
    (hF : ∀ f p, look cx.inl f = some p → P.funcs[f]? = some p.1 ∧ (p.1.name == "runtime.NumGoroutine") = false) (d : Nat) : InlOk P B F w0 (inlOf cx d) := by
  induction d with
  | zero => intro f fb run h; cases h
  | succ d ih =>
    intro f fb run h
    simp only [inlOf] at h
    split at h
    · cases h
    · rename_i p hp
      split at h
      · cases h
      · rename_i c hc
        injection h with h
        subst h
        obtain ⟨h1, h2⟩ := hF f p hp
        refine ⟨⟨p.1, h1, h2, by rw [hc]; rfl⟩, fun args m ids av m' hrun G w vs hm hargs => ?_⟩
        rw [bind_run] at hrun
        obtain ⟨⟨e, s⟩, hx, hk⟩ := Option.bind_eq_some_iff.1 hrun
        have hm' : MemOk B F w0 (fb + 1000000) m G w := ⟨hm.below, hm.base, hm.blk, hm.dist, fun b x hb => by have := hm.lim b x hb; omega, hm.nw, hm.hd⟩
        refine calls_of_wp h1 hc (exec_sound hP hT hS ih c _ e s G _ w _ hx (startEnv_rel hm' hargs) fun a1 w1 G1 r1 t1 => ?_)
        have key : (match resAVs cx s.env s.mem p.1.results.toList with
            | some l => match freezeAll s.mem l (List.range l.length) with
              | some m =>
                if closed (ofL (gather m fb (ids.filter fun b => Nat.blt b fb))) [(oneOf l).settle m fb] (gather m fb (ids.filter fun b => Nat.blt b fb)) then (Pr.ret ((oneOf l).settle m fb, ofL (gather m fb (ids.filter fun b => Nat.blt b fb))) : Pr (AV × Mem)) else .fail
              | none => .fail
            | none => .fail).run = some (av, m') → a1.defers = [] ∧ ∃ v, (results p.1 a1.tmps).run P w1 = .ok v w1 ∧ ∃ G', MemOk B F w0 fb m' G' w1 ∧ TrF fb B F m G w m' G' w1 ∧ repA w1 (Frz B F m' G' w1) m' G' av .one [v] := by
          intro hk
          split at hk
          · rename_i l hl
            obtain ⟨vs', q1, q2⟩ := results_ok hT r1 hl
            split at hk
            · rename_i m2 hfz
              split at hk
              · rename_i hcl
                simp only [Pr.run] at hk
                injection hk with hk
                injection hk with e1 e2
                subst e1; subst e2
                obtain ⟨k1, k2, k3⟩ := freezeAll_ok hfz r1.mem
                obtain ⟨k4, k5⟩ := gather_ok (lim' := fb) k1 hcl fun b x hb => by
                  have := gather_mem hb
                  have := (List.mem_filter.1 this).2
                  unfold Nat.blt at this
                  exact Nat.le_of_ble_eq_true this
                refine ⟨r1.defs, _, q1, G1, k4, (t1.trans (k2.toF fun b hb hn => k3 b hn)).trans k5, ?_⟩
                exact settle_rep k1 gather_settled _ _ _ (oneOf_rep (repsL.mono k2 q2)) (closed_env hcl _ (.head _))
              · cases hk
            · cases hk
          · cases hk
        cases e with
        | normal => exact key hk
        | exit i => cases hk
        | ret => exact key hk

/-! ### Functions -/
theorem bodyAt_ok (hP : P.follows .mixedOrders = true) (hT : typesChk P cx.types = true) (hS : SigsOk P cx)
    (hF : ∀ f p, look cx.inl f = some p → P.funcs[f]? = some p.1 ∧ (p.1.name == "runtime.NumGoroutine") = false) {f : FuncId} {fn : Func} (hf : P.funcs[f]? = some fn) {rts : List Ty} {args : List AV} {r : DL rts} {vs : List Value} {Fr : Nat → Prop} {w : World}
    (h : (bodyAt cx anns fn rts args).run = some r) (ha : ∀ G, repsL w (Frz w.heap.size (fun k => Fr k ∨ w.heap.size ≤ k) Mem.empty G w) Mem.empty G args vs) :
    Calls P f vs.toArray w fun e w' => match e with
      | .returned v => Below w.heap.size w w' ∧ repRes w' (fun k => Fr k ∨ (w.heap.size ≤ k ∧ k < w'.heap.size)) rts r v
      | _ => False := by
  unfold bodyAt at h
  split at h
  · cases h
  · rename_i c hc
    rw [bind_run] at h
    obtain ⟨⟨e, s⟩, hx, hk⟩ := Option.bind_eq_some_iff.1 h
    have hm : MemOk w.heap.size (fun k => Fr k ∨ w.heap.size ≤ k) w (0 + 1000000) Mem.empty (fun _ => undef) w := ⟨Below.refl _ _, Nat.le_refl _, fun b c z hb => (by cases hb), fun b b' x y _ hb => (by cases hb), fun b x hb => (by cases hb), fun k hk => .inr hk, fun b c z hb => (by cases hb)⟩
    refine calls_of_wp hf hc (exec_sound hP hT hS (inlOf_ok hP hT hS hF 3) c _ e s _ _ w _ hx (startEnv_rel hm (ha _)) fun a1 w1 G1 r1 t1 => ?_)
    have key : (match resAVs cx s.env s.mem fn.results.toList with
        | some l => ((toVals true rts l .ret).go s.mem []).bind fun q => .ret q.1
        | none => (.fail : Pr (DL rts))).run = some r → a1.defers = [] ∧ ∃ v, (results fn a1.tmps).run P w1 = .ok v w1 ∧ Below w.heap.size w w1 ∧ repRes w1 (fun k => Fr k ∨ (w.heap.size ≤ k ∧ k < w1.heap.size)) rts r v := by
      intro hk
      split at hk
      · rename_i l hl
        obtain ⟨vs', q1, q2⟩ := results_ok hT r1 hl
        rw [bind_run] at hk
        obtain ⟨⟨x, m2, p2⟩, h1, h2⟩ := Option.bind_eq_some_iff.1 hk
        simp only [Pr.run] at h2
        injection h2 with h2
        subst h2
        obtain ⟨y, m1, p1, k1, k2, k3, k4⟩ := toVals_some true h1 r1.mem q2
        obtain ⟨e1, e2⟩ := ret_some k1
        subst e1
        refine ⟨r1.defs, _, q1, r1.mem.below, ?_⟩
        have k5 : repArgs w1 (fun k => Fr k ∨ (w.heap.size ≤ k ∧ k < w1.heap.size)) rts y vs' := by
          refine k4.mono fun k hk => ⟨?_, rfl⟩
          unfold Reach at hk
          rw [if_pos rfl] at hk
          obtain ⟨hk1, hk2, _⟩ := hk
          rcases hk1 with hk1 | hk1
          · exact .inl hk1
          · exact .inr ⟨hk1, hk2⟩
        match rts, y, k5 with
        | [], y, k5 => rw [show vs' = [] from k5]; exact ⟨[], rfl, rfl⟩
        | [t], y, ⟨v, l', e, h1, h2⟩ =>
          subst e
          rw [show l' = [] from h2]
          exact h1
        | t :: u :: ts, y, ⟨v, l', e, h1, u', l2, e2, h2, h3⟩ =>
          subst e; subst e2
          exact ⟨_, rfl, v, _, rfl, h1, u', _, rfl, h2, h3⟩
      · cases hk
    cases e with
    | normal => exact key hk
    | exit i => cases hk
    | ret => exact key hk

theorem valsOf_rep {m : Mem} {G : Nat → Value} {w : World} {Fr Fr' : Nat → Prop} (h : ∀ k, Fr k → Fr' k) : ∀ {ts : List Ty} {x : DL ts} {vs : List Value}, repArgs w Fr ts x vs → repsL w Fr' m G (valsOf ts x) vs
  | [], _, _, hr => hr
  | t :: ts, x, _, ⟨v, l, e, h1, h2⟩ => ⟨v, l, e, mk_val (h1.mono fun k hk => ⟨h k hk, rfl⟩), valsOf_rep h h2⟩

/-- A FUNCTION KEEPS THE CONTRACT THAT ITS BODY'S RUN IS. -/
theorem body_ok (hP : P.follows .mixedOrders = true) (hT : typesChk P cx.types = true) (hS : SigsOk P cx)
    (hF : ∀ f p, look cx.inl f = some p → P.funcs[f]? = some p.1 ∧ (p.1.name == "runtime.NumGoroutine") = false) {f : FuncId} {fn : Func} (hf : P.funcs[f]? = some fn) (hn : (fn.name == "runtime.NumGoroutine") = false) (hb : fn.body.isNone = false)
    (ats rts : List Ty) : SigOk P f ⟨ats, rts, fun xs => (body cx anns fn ats rts xs).run⟩ := by
  refine ⟨⟨fn, hf, hn, hb⟩, fun Fr xs r vs w h hFr ha => ?_⟩
  exact bodyAt_ok hP hT hS hF hf h fun G => valsOf_rep (fun k hk => ⟨.inl hk, hFr k hk, fun b c hb => (by cases hb)⟩) ha

/-- A contract gives way to one that answers less often. -/
theorem SigOk.weaken {f : FuncId} {ats rts : List Ty} {g h : DL ats → Option (DL rts)} (hs : SigOk P f ⟨ats, rts, g⟩) (hw : ∀ x r, h x = some r → g x = some r) : SigOk P f ⟨ats, rts, h⟩ :=
  ⟨hs.1, fun Fr xs r vs w hr hFr ha => hs.2 Fr xs r vs w (hw xs r hr) hFr ha⟩
end
end Go.Refl
/-
  The run in passing style, loops by their place, and bodies that change a row of their caller's.
-/
set_option linter.unusedVariables false
set_option linter.unusedSimpArgs false
namespace Go.Refl
open Go Go.RowKit

section
variable {γ : Type}

def seqC (f : St → Pr γ) (K : Ex × St → Pr γ) (r : Ex × St) : Pr γ := match r.1 with
  | .normal => f r.2
  | _ => K r

def blockC (id : Nat) (K : Ex × St → Pr γ) (r : Ex × St) : Pr γ := match r.1 with
  | .exit j => if j = id then K (.normal, r.2) else K r
  | _ => K r

noncomputable def loopC (cx : Cx) (anns : List (Nat × Ann)) (inl : Inl) (fb : Nat) (c : Code) (K : Ex × St → Pr γ) (r : Ex × St) : Pr γ := match r.1 with
  | .normal => Pr.opt (canonO cx anns fb (firstId c) r.2) fun s => .ask (loopSem (fun s => (exec cx anns inl fb c s).run) (canonO cx anns fb (firstId c)) s) K
  | _ => K r

noncomputable def execP (cx : Cx) (anns : List (Nat × Ann)) (inl : Inl) (fb : Nat) : Code → St → (Ex × St → Pr γ) → Pr γ
  | .skip, s, K => K (.normal, s)
  | .region id ops draw, s, K => Pr.opt (canonO cx anns fb id s) fun s =>
      (runR cx inl s.ids fb (fb + 1024 * id) ops.toList (numbered 0 ops.toList) s.env s.mem s.kn).bind fun r => (regionK (fb + 1024 * id) s.ids ops.toList draw r).bind K
  | .seq a b, s, K => execP cx anns inl fb a s (seqC (fun s => execP cx anns inl fb b s K) K)
  | .cond c a b, s, K => match ev s.env c with
    | .val .bool t => match knows s.kn c with
      | true => match (t : Bool) with
        | true => execP cx anns inl fb a s K
        | false => execP cx anns inl fb b s K
      | false => .tst t (execP cx anns inl fb a (s.told c true) K) (execP cx anns inl fb b (s.told c false) K)
    | _ => .fail
  | .block id c, s, K => execP cx anns inl fb c s (blockC id K)
  | .loop c, s, K => Pr.opt (canonO cx anns fb (firstId c) s) fun s =>
      .ask (loopSem (fun s => (exec cx anns inl fb c s).run) (canonO cx anns fb (firstId c)) s) K
  | .exit id, s, K => K (.exit id, s)
  | .ret, s, K => K (.ret, s)
  | _, _, _ => .fail
termination_by structural c => c

variable {cx : Cx} {anns : List (Nat × Ann)} {inl : Inl} {fb : Nat}

theorem pr_opt_run {α β : Type} (o : Option α) (k : α → Pr β) : (Pr.opt o k).run = o.bind fun a => (k a).run := by cases o <;> rfl

theorem execP_run (c : Code) : ∀ (s : St) (K : Ex × St → Pr γ), (execP cx anns inl fb c s K).run = ((exec cx anns inl fb c s).bind K).run := by
  induction c with
  | region id ops draw =>
    intro s K
    simp only [execP, exec, bind_run, pr_opt_run, Option.bind_assoc]
  | seq a b iha ihb =>
    intro s K
    simp only [execP, exec]
    rw [iha, bind_run, bind_run, bind_run, Option.bind_assoc]
    congr 1
    funext r
    obtain ⟨e, s'⟩ := r
    cases e with
    | normal =>
      show (execP cx anns inl fb b s' K).run = ((exec cx anns inl fb b s').run).bind _
      rw [ihb, bind_run]
    | exit => rfl
    | ret => rfl
  | cond o a b iha ihb =>
    intro s K
    simp only [execP, exec]
    split
    · rename_i t ht
      rw [ht]
      change Bool at t
      simp only
      generalize knows s.kn o = q
      cases q with
      | true =>
        cases t
        · exact ihb s K
        · exact iha s K
      | false =>
        show (if t = true then (execP cx anns inl fb a (s.told o true) K).run else (execP cx anns inl fb b (s.told o false) K).run) = ((Pr.tst t (exec cx anns inl fb a (s.told o true)) (exec cx anns inl fb b (s.told o false))).bind K).run
        rw [iha, ihb]
        rfl
    · rename_i hno
      split
      · rename_i t ht
        exact (hno t ht).elim
      · rfl
  | block id c ih =>
    intro s K
    simp only [execP, exec]
    rw [ih, bind_run, bind_run, bind_run, Option.bind_assoc]
    congr 1
    funext r
    obtain ⟨e, s'⟩ := r
    cases e with
    | normal => rfl
    | exit j =>
      simp only [blockC, blockK]
      split <;> rfl
    | ret => rfl
  | loop c ih =>
    intro s K
    simp only [execP, exec]
    rw [pr_opt_run, bind_run, pr_opt_run, Option.bind_assoc]
    congr 1
    funext y
    show (loopSem _ _ y).bind (fun b => (K b).run) = ((loopSem _ _ y).bind fun b => some b).bind _
    rw [Option.bind_assoc]
    rfl
  | _ => intro s K; rfl

/-! ### Loops by their place -/
def codeAt : List Bool → Code → Code
  | [], c => c
  | false :: p, .seq a _ => codeAt p a
  | true :: p, .seq _ b => codeAt p b
  | false :: p, .cond _ a _ => codeAt p a
  | true :: p, .cond _ _ b => codeAt p b
  | false :: p, .block _ c => codeAt p c
  | false :: p, .loop c => codeAt p c
  | _, _ => .skip

def loopAt (p : List Bool) (c : Code) : Code := match codeAt p c with
  | .loop c => c
  | _ => .skip

/-- What is done behind the loop at a place. -/
noncomputable def kont (cx : Cx) (anns : List (Nat × Ann)) (inl : Inl) (fb : Nat) : List Bool → Code → (Ex × St → Pr γ) → (Ex × St → Pr γ)
  | [], _, K => K
  | false :: p, .seq a b, K => kont cx anns inl fb p a (seqC (fun s => execP cx anns inl fb b s K) K)
  | true :: p, .seq _ b, K => kont cx anns inl fb p b K
  | false :: p, .cond _ a _, K => kont cx anns inl fb p a K
  | true :: p, .cond _ _ b, K => kont cx anns inl fb p b K
  | false :: p, .block id c, K => kont cx anns inl fb p c (blockC id K)
  | false :: p, .loop c, K => kont cx anns inl fb p c (loopC cx anns inl fb c K)
  | _, _, _ => fun _ => .fail

/-- The loop at a place, and all that follows it, from a state at its head. -/
noncomputable def LP (cx : Cx) (anns : List (Nat × Ann)) (inl : Inl) (fb : Nat) (code : Code) (K0 : Ex × St → Pr γ) (p : List Bool) (s : St) : Option γ :=
  (Pr.ask (loopSem (fun s => (exec cx anns inl fb (loopAt p code) s).run) (canonO cx anns fb (firstId (loopAt p code))) s) (kont cx anns inl fb p code K0)).run

theorem loop_run (c : Code) (K : Ex × St → Pr γ) (s : St) : (Pr.ask (loopSem (fun s => (exec cx anns inl fb c s).run) (canonO cx anns fb (firstId c)) s) K).run = (execP cx anns inl fb c s (loopC cx anns inl fb c K)).run := by
  rw [execP_run, bind_run]
  show (loopSem _ _ s).bind (fun b => (K b).run) = _
  rw [loopSem_eq, Option.bind_assoc]
  congr 1
  funext r
  obtain ⟨e, s'⟩ := r
  cases e with
  | normal =>
    simp only [loopC]
    rw [pr_opt_run, Option.bind_assoc]
    rfl
  | exit => rfl
  | ret => rfl

/-- One round. -/
theorem LP_eq (code : Code) (K0 : Ex × St → Pr γ) (p : List Bool) (s : St) :
    LP cx anns inl fb code K0 p s = (execP cx anns inl fb (loopAt p code) s (loopC cx anns inl fb (loopAt p code) (kont cx anns inl fb p code K0))).run := loop_run _ _ _
end

def codeOf (fn : Func) : Code := match fn.body with
  | some c => c
  | none => .skip

/-! ### Functions by what they compute -/
/-- The pure function of a body. -/
noncomputable def Fn (cx : Cx) (anns : List (Nat × Ann)) (fn : Func) (ats rts : List Ty) (xs : DL ats) : Option (DL rts) := (body cx anns fn ats rts xs).run

noncomputable def FnAt (cx : Cx) (anns : List (Nat × Ann)) (fn : Func) (rts : List Ty) (args : List AV) : Option (DL rts) := (bodyAt cx anns fn rts args).run

theorem FnAt_eq {cx : Cx} {anns : List (Nat × Ann)} {fn : Func} {rts : List Ty} {args : List AV} (hb : fn.body.isNone = false) :
    FnAt cx anns fn rts args = (execP cx anns (inlOf cx 3) 0 (codeOf fn) ⟨startEnv fn args, Mem.empty, [], []⟩ (finish cx rts fn)).run := by
  unfold FnAt bodyAt codeOf
  cases h : fn.body with
  | none => rw [h] at hb; cases hb
  | some c => exact (execP_run c _ _).symm

theorem Fn_eq {cx : Cx} {anns : List (Nat × Ann)} {fn : Func} {ats rts : List Ty} {xs : DL ats} (hb : fn.body.isNone = false) :
    Fn cx anns fn ats rts xs = (execP cx anns (inlOf cx 3) 0 (codeOf fn) ⟨startEnv fn (valsOf ats xs), Mem.empty, [], []⟩ (finish cx rts fn)).run := FnAt_eq hb

/-- A loop of a function. -/
noncomputable def Lp (cx : Cx) (anns : List (Nat × Ann)) (fn : Func) (rts : List Ty) (p : List Bool) (s : St) : Option (DL rts) := LP cx anns (inlOf cx 3) 0 (codeOf fn) (finish cx rts fn) p s

theorem Lp_eq (cx : Cx) (anns : List (Nat × Ann)) (fn : Func) (rts : List Ty) (p : List Bool) (s : St) :
    Lp cx anns fn rts p s = (execP cx anns (inlOf cx 3) 0 (loopAt p (codeOf fn)) s (loopC cx anns (inlOf cx 3) 0 (loopAt p (codeOf fn)) (kont cx anns (inlOf cx 3) 0 p (codeOf fn) (finish cx rts fn)))).run := LP_eq _ _ _ _

/-! ### Bodies that change a row of their caller's -/
def finishM (cx : Cx) (u : Ty) (e : TypeId) (ts : List Ty) (fn : Func) (r : Ex × St) : Pr (DL ts × List u.D) :=
  match r.1 with
  | .exit _ => .fail
  | _ => match resAVs cx r.2.env r.2.mem fn.results.toList with
    | some l => if present r.2.mem 0 = true then ((toVals true ts l .ret).go r.2.mem []).bind fun q => match q.2.1 0 with
        | some (.row e' u' xs' v', false) => if v' = 0 ∧ e' = e then Pr.opt (Ty.cast (t := .sl u') (u := .sl u) xs') fun ys => .ret (q.1, ys) else .fail
        | _ => .fail
      else .fail
    | none => .fail

def startM (fn : Func) (u : Ty) (e : TypeId) (ats : List Ty) (xs : List u.D) (lo n : Nat) (x : DL ats) : St :=
  ⟨startEnv fn (.sub 0 0 lo n :: valsOf ats x), Mem.empty.set 0 (.row e u xs 0, false), [0], []⟩

noncomputable def FnM (cx : Cx) (anns : List (Nat × Ann)) (fn : Func) (u : Ty) (e : TypeId) (ats rts : List Ty) (xs : List u.D) (lo n : Nat) (x : DL ats) : Option (DL rts × List u.D) :=
  (execP cx anns (inlOf cx 3) 1 (codeOf fn) (startM fn u e ats xs lo n x) (finishM cx u e rts fn)).run

noncomputable def LpM (cx : Cx) (anns : List (Nat × Ann)) (fn : Func) (u : Ty) (e : TypeId) (rts : List Ty) (p : List Bool) (s : St) : Option (DL rts × List u.D) := LP cx anns (inlOf cx 3) 1 (codeOf fn) (finishM cx u e rts fn) p s

theorem LpM_eq (cx : Cx) (anns : List (Nat × Ann)) (fn : Func) (u : Ty) (e : TypeId) (rts : List Ty) (p : List Bool) (s : St) :
    LpM cx anns fn u e rts p s = (execP cx anns (inlOf cx 3) 1 (loopAt p (codeOf fn)) s (loopC cx anns (inlOf cx 3) 1 (loopAt p (codeOf fn)) (kont cx anns (inlOf cx 3) 1 p (codeOf fn) (finishM cx u e rts fn)))).run := LP_eq _ _ _ _

section
variable {P : Program} {cx : Cx} {anns : List (Nat × Ann)}

theorem Fn_ok (hP : P.follows .mixedOrders = true) (hT : typesChk P cx.types = true) (hS : SigsOk P cx)
    (hF : ∀ f p, look cx.inl f = some p → P.funcs[f]? = some p.1 ∧ (p.1.name == "runtime.NumGoroutine") = false) {f : FuncId} {fn : Func} (hf : P.funcs[f]? = some fn) (hn : (fn.name == "runtime.NumGoroutine") = false) (hb : fn.body.isNone = false)
    (ats rts : List Ty) : SigOk P f ⟨ats, rts, Fn cx anns fn ats rts⟩ := body_ok hP hT hS hF hf hn hb ats rts

theorem FnM_ok (hP : P.follows .mixedOrders = true) (hT : typesChk P cx.types = true) (hS : SigsOk P cx)
    (hF : ∀ f p, look cx.inl f = some p → P.funcs[f]? = some p.1 ∧ (p.1.name == "runtime.NumGoroutine") = false) {f : FuncId} {fn : Func} (hf : P.funcs[f]? = some fn) (hn : (fn.name == "runtime.NumGoroutine") = false) (hb : fn.body.isNone = false)
    (u : Ty) (e : TypeId) (ats rts : List Ty) (hu : u.rows = false) (hu0 : 0 < u.size) : SigMOk P f ⟨u, e, ats, rts, FnM cx anns fn u e ats rts⟩ := by
  refine ⟨⟨fn, hf, hn, hb⟩, hu, hu0, fun Fr xs ys lo n x r hv sv vs cells w h hFr hown hrep hcut hargs => ?_⟩
  obtain ⟨c, hc⟩ : ∃ c, fn.body = some c := by
    cases hh : fn.body with
    | none => rw [hh] at hb; cases hb
    | some c => exact ⟨c, rfl⟩
  have hcode : codeOf fn = c := by unfold codeOf; rw [hc]
  replace h : (execP cx anns (inlOf cx 3) 1 (codeOf fn) (startM fn u e ats xs lo n x) (finishM cx u e rts fn)).run = some (r, ys) := h
  rw [hcode, execP_run, bind_run] at h
  obtain ⟨⟨ex, s⟩, hx, hk⟩ := Option.bind_eq_some_iff.1 h
  -- the memory at the start
  have hlook : ∀ b x, (Mem.empty.set 0 (Cn.row e u xs 0, false)) b = some x → b = 0 ∧ x = (Cn.row e u xs 0, false) := by
    intro b x hb
    unfold Mem.set at hb
    split at hb
    · rename_i h0
      injection hb with hb
      exact ⟨h0, hb.symm⟩
    · cases hb
  have hFr0 : ∀ k, Fr k → Frz 0 (fun k => Fr k ∨ hdNo hv = some k ∨ w.heap.size ≤ k) (Mem.empty.set 0 (Cn.row e u xs 0, false)) (fun _ => hv) w k := by
    intro k hk
    obtain ⟨k1, k2⟩ := hFr k hk
    exact ⟨.inl hk, k1, fun b c hb => k2⟩
  have hm : MemOk 0 (fun k => Fr k ∨ hdNo hv = some k ∨ w.heap.size ≤ k) w (1 + 1000000) (Mem.empty.set 0 (Cn.row e u xs 0, false)) (fun _ => hv) w := by
    refine ⟨Below.refl _ _, Nat.zero_le _, fun b c z hb => ?_, fun b b' x y hne hx hy => ?_, fun b x hb => ?_, fun k hk => .inr (.inr hk), fun b c z hb k hk => .inr (.inl hk)⟩
    · obtain ⟨_, hb⟩ := hlook _ _ hb
      injection hb with hb hz
      subst hb; subst hz
      exact ⟨cells, hown, hrep.mono fun x cs hx => RepV.mono (fun k hk => ⟨hFr0 k hk, rfl⟩) _ _ _ hx, hu0⟩
    · have h1 := (hlook _ _ hx).1
      have h2 := (hlook _ _ hy).1
      exact (hne (h1.trans h2.symm)).elim
    · have := (hlook _ _ hb).1
      omega
  have hargs0 : repsL w (Frz 0 (fun k => Fr k ∨ hdNo hv = some k ∨ w.heap.size ≤ k) (Mem.empty.set 0 (Cn.row e u xs 0, false)) (fun _ => hv) w) (Mem.empty.set 0 (Cn.row e u xs 0, false)) (fun _ => hv) (.sub 0 0 lo n :: valsOf ats x) (sv :: vs) := by
    obtain ⟨k1, A, cp, k2, k3, k4⟩ := hcut
    refine ⟨sv, vs, rfl, ⟨sv, rfl, by rw [k2]; rfl, e, u, xs, 0, false, by simp [Mem.set], Nat.le_refl _, fun _ => ⟨k1, A, cp, k2, k3, k4⟩⟩, valsOf_rep hFr0 hargs⟩
  refine calls_of_wp hf hc (exec_sound hP hT hS (inlOf_ok hP hT hS hF 3) c _ ex s _ _ w _ hx (startEnv_rel hm hargs0) fun a1 w1 G1 r1 t1 => ?_)
  have key : (match resAVs cx s.env s.mem fn.results.toList with
      | some l => if present s.mem 0 = true then ((toVals true rts l .ret).go s.mem []).bind fun q => match q.2.1 0 with
          | some (.row e' u' xs' v', false) => if v' = 0 ∧ e' = e then Pr.opt (Ty.cast (t := .sl u') (u := .sl u) xs') fun ys => .ret (q.1, ys) else .fail
          | _ => .fail
        else .fail
      | none => (.fail : Pr (DL rts × List u.D))).run = some (r, ys) → a1.defers = [] ∧ ∃ v, (results fn a1.tmps).run P w1 = .ok v w1 ∧ Below 0 w w1 ∧ (∀ k, k < w.heap.size → hdNo hv ≠ some k → w1.heap[k]? = w.heap[k]?) ∧
        (∃ cells', w1.ownsRow 0 e u.size hv ys.length cells' ∧ RepL (RepV w1 (fun _ => False) u) ys cells') ∧ repRes w1 (fun k => Fr k ∨ (w.heap.size ≤ k ∧ k < w1.heap.size)) rts r v := by
    intro hk
    split at hk
    · rename_i l hl
      obtain ⟨vs', q1, q2⟩ := results_ok hT r1 hl
      have hpres : present s.mem 0 = true := by
        by_cases hp : present s.mem 0 = true
        · exact hp
        · rw [if_neg hp] at hk
          cases hk
      rw [if_pos hpres, bind_run] at hk
      obtain ⟨⟨y, m2, p2⟩, h1, h2⟩ := Option.bind_eq_some_iff.1 hk
      obtain ⟨y', m1, p1, k1, k2, k3, k4⟩ := toVals_some true h1 r1.mem q2
      obtain ⟨e1, e2⟩ := ret_some k1
      subst e1; subst e2
      split at h2
      · rename_i e' u' xs' v' hrow
        replace hrow : m1 0 = some (Cn.row e' u' xs' v', false) := hrow
        split at h2
        · rename_i hve
          obtain ⟨hv0, he0⟩ := hve
          subst hv0; subst he0
          obtain ⟨zs, hz, h2⟩ := opt_run h2
          obtain ⟨e1, hxy⟩ := cast_rep hz
          injection e1 with e1
          subst e1
          cases hxy
          simp only [Pr.run] at h2
          injection h2 with h2
          injection h2 with h2 h3
          subst h2; subst h3
          have hG : G1 0 = hv := by
            rcases t1.blk 0 (Cn.row e' u' xs 0) false (by omega) rfl with hn | ⟨c1, z1, g1, g2, g3⟩
            · rw [present, hn] at hpres
              cases hpres
            · have hc1 : ∃ c2 z2, m1 0 = some (c2, z2) ∧ compat c1 c2 := by
                obtain ⟨c2, z2, g4, g5, _⟩ := k3.blk 0 c1 z1 g1
                exact ⟨c2, z2, g4, g5⟩
              obtain ⟨c2, z2, g4, g5⟩ := hc1
              rw [hrow] at g4
              injection g4 with g4
              injection g4 with g4 _
              subst g4
              refine g3 ?_
              cases c1 with
              | var => exact g2.elim
              | row e1 t1' x1 v1 =>
                obtain ⟨_, _, g6, _⟩ := g5
                show (0 : Nat) = v1
                omega
          obtain ⟨cells', r1', r2', _⟩ := k2.blk _ _ _ hrow
          rw [hG] at r1'
          refine ⟨r1.defs, _, q1, r1.mem.below, fun k hk1 hk2 => (t1.fr0 k ⟨trivial, hk1, fun b c hb => hk2⟩).2, ⟨cells', r1', r2'.mono fun x cs hx => RepV.norows _ _ _ hu hx⟩, ?_⟩
          have k5 : repRes w1 (Reach true 0 (fun k => Fr k ∨ hdNo hv = some k ∨ w.heap.size ≤ k) m1 G1 w1) rts y' (resV vs') := by
            match rts, y', k4 with
            | [], y, k4 => rw [show vs' = [] from k4]; exact ⟨[], rfl, rfl⟩
            | [t], y, ⟨v, l', e, h1, h2⟩ =>
              subst e
              rw [show l' = [] from h2]
              exact h1
            | t :: u :: ts, y, ⟨v, l', e, h1, u', l2, e2, h2, h3⟩ =>
              subst e; subst e2
              exact ⟨_, rfl, v, _, rfl, h1, u', _, rfl, h2, h3⟩
          refine k5.mono' fun k hk => ⟨?_, rfl⟩
          unfold Reach at hk
          rw [if_pos rfl] at hk
          obtain ⟨hk1, hk2, hk3⟩ := hk
          rcases hk1 with hk1 | hk1 | hk1
          · exact .inl hk1
          · exact (hk3 0 _ hrow (by rw [hG]; exact hk1)).elim
          · exact .inr ⟨hk1, hk2⟩
        · cases h2
      · cases h2
    · cases hk
  cases ex with
  | normal => exact key hk
  | exit i => cases hk
  | ret => exact key hk

/-! ### Bodies whose result is a row of their own -/
def finishN (cx : Cx) (u : Ty) (e : TypeId) (fn : Func) (r : Ex × St) : Pr (List u.D) :=
  match r.1 with
  | .exit _ => .fail
  | _ => match resAVs cx r.2.env r.2.mem fn.results.toList with
    | some [.own b v] => match r.2.mem b with
      | some (.row e' u' xs v', _) => if v = v' ∧ e' = e then Pr.opt (Ty.cast (t := .sl u') (u := .sl u) xs) .ret else .fail
      | _ => .fail
    | _ => .fail

noncomputable def FnN (cx : Cx) (anns : List (Nat × Ann)) (fn : Func) (u : Ty) (e : TypeId) (ats : List Ty) (xs : DL ats) : Option (List u.D) :=
  (execP cx anns (inlOf cx 3) 0 (codeOf fn) ⟨startEnv fn (valsOf ats xs), Mem.empty, [], []⟩ (finishN cx u e fn)).run

noncomputable def LpN (cx : Cx) (anns : List (Nat × Ann)) (fn : Func) (u : Ty) (e : TypeId) (p : List Bool) (s : St) : Option (List u.D) := LP cx anns (inlOf cx 3) 0 (codeOf fn) (finishN cx u e fn) p s

theorem LpN_eq (cx : Cx) (anns : List (Nat × Ann)) (fn : Func) (u : Ty) (e : TypeId) (p : List Bool) (s : St) :
    LpN cx anns fn u e p s = (execP cx anns (inlOf cx 3) 0 (loopAt p (codeOf fn)) s (loopC cx anns (inlOf cx 3) 0 (loopAt p (codeOf fn)) (kont cx anns (inlOf cx 3) 0 p (codeOf fn) (finishN cx u e fn)))).run := LP_eq _ _ _ _

theorem FnN_ok (hP : P.follows .mixedOrders = true) (hT : typesChk P cx.types = true) (hS : SigsOk P cx)
    (hF : ∀ f p, look cx.inl f = some p → P.funcs[f]? = some p.1 ∧ (p.1.name == "runtime.NumGoroutine") = false) {f : FuncId} {fn : Func} (hf : P.funcs[f]? = some fn) (hn : (fn.name == "runtime.NumGoroutine") = false) (hb : fn.body.isNone = false)
    (u : Ty) (e : TypeId) (ats : List Ty) (hu : u.rows = false) (hu0 : 0 < u.size) (hsz : fn.results.size = 1) : SigNOk P f ⟨u, e, ats, FnN cx anns fn u e ats⟩ := by
  refine ⟨⟨fn, hf, hn, hb⟩, hu, hu0, fun Fr xs ys vs w h hFr hargs => ?_⟩
  obtain ⟨c, hc⟩ : ∃ c, fn.body = some c := by
    cases hh : fn.body with
    | none => rw [hh] at hb; cases hb
    | some c => exact ⟨c, rfl⟩
  have hcode : codeOf fn = c := by unfold codeOf; rw [hc]
  replace h : (execP cx anns (inlOf cx 3) 0 (codeOf fn) ⟨startEnv fn (valsOf ats xs), Mem.empty, [], []⟩ (finishN cx u e fn)).run = some ys := h
  rw [hcode, execP_run, bind_run] at h
  obtain ⟨⟨ex, s⟩, hx, hk⟩ := Option.bind_eq_some_iff.1 h
  have hm : MemOk w.heap.size (fun k => Fr k ∨ w.heap.size ≤ k) w (0 + 1000000) Mem.empty (fun _ => undef) w := ⟨Below.refl _ _, Nat.le_refl _, fun b c z hb => (by cases hb), fun b b' x y _ hb => (by cases hb), fun b x hb => (by cases hb), fun k hk => .inr hk, fun b c z hb => (by cases hb)⟩
  refine calls_of_wp hf hc (exec_sound hP hT hS (inlOf_ok hP hT hS hF 3) c _ ex s _ _ w _ hx (startEnv_rel hm (valsOf_rep (fun k hk => ⟨.inl hk, hFr k hk, fun b c hb => (by cases hb)⟩) hargs)) fun a1 w1 G1 r1 t1 => ?_)
  have key : (match resAVs cx s.env s.mem fn.results.toList with
      | some [.own b v] => match s.mem b with
        | some (.row e' u' xs v', _) => if v = v' ∧ e' = e then Pr.opt (Ty.cast (t := .sl u') (u := .sl u) xs) .ret else .fail
        | _ => .fail
      | _ => (.fail : Pr (List u.D))).run = some ys → a1.defers = [] ∧ ∃ v, (results fn a1.tmps).run P w1 = .ok v w1 ∧ Below w.heap.size w w1 ∧ ∃ cells, w1.ownsRow w.heap.size e u.size v ys.length cells ∧ RepL (RepV w1 (fun _ => False) u) ys cells := by
    intro hk
    split at hk
    · rename_i b v hl
      obtain ⟨vs', q1, q2⟩ := results_ok hT r1 hl
      obtain ⟨v0, vs2, e0, hv0, hvs⟩ := q2
      subst e0
      rw [show vs2 = [] from hvs] at q1
      split at hk
      · rename_i e' u' xs' v' z' hrow
        split at hk
        · rename_i hve
          obtain ⟨hvv, he0⟩ := hve
          subst hvv; subst he0
          obtain ⟨zs, hz, hk⟩ := opt_run hk
          obtain ⟨e1, hxy⟩ := cast_rep hz
          injection e1 with e1
          subst e1
          cases hxy
          simp only [Pr.run] at hk
          injection hk with hk
          subst hk
          obtain ⟨h0, e2, t2, xs2, v2, z2, k1, k2, k3⟩ := one_own hv0
          rw [hrow] at k1
          injection k1 with k1
          injection k1 with k1 k1'
          injection k1 with s1 s2 s3 s4
          subst s1; subst s2; subst s4; subst k1'
          cases s3
          have hg := k3 rfl
          subst hg
          obtain ⟨cells, o1, o2, _⟩ := r1.mem.blk _ _ _ hrow
          exact ⟨r1.defs, _, q1, r1.mem.below, cells, o1, o2.mono fun x cs hx => RepV.norows _ _ _ hu hx⟩
        · cases hk
      · cases hk
    · cases hk
  cases ex with
  | normal => exact key hk
  | exit i => cases hk
  | ret => exact key hk
end
end Go.Refl
