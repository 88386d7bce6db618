/-
  Regions: in the order of the text, or in whatever order the model draws.
-/
import Derived.Test.YthgbejjenlfdnaaAbs12
import Derived.RegionTactic
set_option linter.unusedVariables false
set_option linter.unusedSimpArgs false
namespace Go.Refl
open Go Go.RowKit

/-- What a stretch of code does to memory, as those see it whose blocks lie below fb. -/
structure TrF (fb B : Nat) (F : Nat → Prop) (m : Mem) (G : Nat → Value) (w : World) (m' : Mem) (G' : Nat → Value) (w' : World) : Prop where
  fr : ∀ k, Frz B F m G w k → Frz B F m' G' w' k ∧ w'.heap[k]? = w.heap[k]?
  blk : ∀ b c z, b < fb → m b = some (c, z) → m' b = none ∨ ∃ c' z', m' b = some (c', z') ∧ compat c c' ∧ (sameHead c c' → G' b = G b)
  new : ∀ b, b < fb → m b = none → m' b = none

section
variable {fb B : Nat} {F : Nat → Prop} {m m' m'' : Mem} {G G' G'' : Nat → Value} {w w' w'' : World}
theorem TrF.refl : TrF fb B F m G w m G w := ⟨fun _ h => ⟨h, rfl⟩, fun b c z _ h => .inr ⟨c, z, h, compat.refl c, fun _ => rfl⟩, fun _ _ h => h⟩
theorem TrF.trans (h : TrF fb B F m G w m' G' w') (k : TrF fb B F m' G' w' m'' G'' w'') : TrF fb B F m G w m'' G'' w'' := by
  refine ⟨fun j hj => ?_, fun b c z hb hbc => ?_, fun b hb hn => k.new b hb (h.new b hb hn)⟩
  · obtain ⟨h1, h2⟩ := h.fr j hj
    obtain ⟨k1, k2⟩ := k.fr j h1
    exact ⟨k1, k2.trans h2⟩
  · rcases h.blk b c z hb hbc with h1 | ⟨c', z', h1, h2, h3⟩
    · exact .inl (k.new b hb h1)
    · rcases k.blk b c' z' hb h1 with k1 | ⟨c'', z'', k1, k2, k3⟩
      · exact .inl k1
      · refine .inr ⟨c'', z'', k1, h2.trans k2, fun hs => ?_⟩
        obtain ⟨s1, s2⟩ := sameHead.trans h2 k2 hs
        rw [k3 s2, h3 s1]
theorem Tr.toF (h : Tr B F m G w m' G' w') (hn : ∀ b, b < fb → m b = none → m' b = none) : TrF fb B F m G w m' G' w' :=
  ⟨h.fr, fun b c z _ hbc => .inr (h.blk b c z hbc), hn⟩
theorem TrF.mono {fb' : Nat} (h : TrF fb B F m G w m' G' w') (hb : fb' ≤ fb) : TrF fb' B F m G w m' G' w' :=
  ⟨h.fr, fun b c z hlt => h.blk b c z (by omega), fun b hlt => h.new b (by omega)⟩

/-- A value stays what it is where all blocks that it names are still there. -/
theorem repS.keep (hfr : ∀ k, Frz B F m G w k → Frz B F m' G' w' k ∧ w'.heap[k]? = w.heap[k]?) : ∀ {a : AV} {v : Value}, (∀ b ∈ a.refs, ∀ c z, m b = some (c, z) → ∃ c' z', m' b = some (c', z') ∧ compat c c' ∧ (sameHead c c' → G' b = G b)) →
    repS w (Frz B F m G w) m G a v → repS w' (Frz B F m' G' w') m' G' a v
  | .nn t xs, v, _, ⟨h1, h2⟩ => ⟨RepV.mono hfr _ _ _ h1, h2⟩
  | .nil, _, _, hr => hr
  | .nptr, _, _, hr => hr
  | .ptr b p, v, hb, ⟨T, c, z, g, h1, h2, h3, h4⟩ => by
    obtain ⟨c', z', k1, k2, k3⟩ := hb b (by simp [AV.refs]) _ z h1
    cases c' <;> simp [compat] at k2
    subst k2
    exact ⟨_, _, z', g, k1, h2, by rw [k3 trivial]; exact h3, h4⟩
  | .rptr b ve i p, v, hb, ⟨h0, e, t, xs, v', z, h1, h2, h3, h4⟩ => by
    obtain ⟨c', z', k1, k2, k3⟩ := hb b (by simp [AV.refs]) _ z h1
    cases c' <;> simp [compat] at k2
    obtain ⟨rfl, rfl, k4, k5⟩ := k2
    refine ⟨h0, _, _, _, _, z', k1, by omega, h3, fun hv => ?_⟩
    have : ve = v' := by omega
    obtain ⟨q1, q2⟩ := h4 this
    subst this
    rw [k3 hv]
    exact ⟨by rw [← k5 hv]; exact q1, q2⟩
  | .ref t x, v, _, ⟨ad, h1, h2, cs, h3, h4⟩ => by
    obtain ⟨q1, q2⟩ := hfr _ h2
    refine ⟨ad, h1, q1, cs, RepV.mono hfr _ _ _ h3, fun j u hu => ?_⟩
    rw [World.cell?_of_block (w := w) (by rw [add_block]; exact q2)]
    exact h4 j u hu
  | .own b ve, v, hb, ⟨h0, e, t, xs, v', z, h1, h2, h3⟩ => by
    obtain ⟨c', z', k1, k2, k3⟩ := hb b (by simp [AV.refs]) _ z h1
    cases c' <;> simp [compat] at k2
    obtain ⟨rfl, rfl, k4, k5⟩ := k2
    refine ⟨h0, _, _, _, _, z', k1, by omega, fun hv => ?_⟩
    have : ve = v' := by omega
    rw [h3 this]
    subst this
    exact (k3 hv).symm
  | .sub b ve lo n, v, hb, ⟨h0, e, t, xs, v', z, h1, h2, h3⟩ => by
    obtain ⟨c', z', k1, k2, k3⟩ := hb b (by simp [AV.refs]) _ z h1
    cases c' <;> simp [compat] at k2
    obtain ⟨rfl, rfl, k4, k5⟩ := k2
    refine ⟨h0, _, _, _, _, z', k1, by omega, fun hv => ?_⟩
    have : ve = v' := by omega
    obtain ⟨q1, q2⟩ := h3 this
    subst this
    rw [k3 hv, ← k5 hv]
    exact ⟨q1, q2⟩
  | .undef, _, _, hr => hr

theorem repA.keep (hfr : ∀ k, Frz B F m G w k → Frz B F m' G' w' k ∧ w'.heap[k]? = w.heap[k]?) : ∀ (a : AV) (md : Md) (vs : List Value), (∀ b ∈ a.refs, ∀ c z, m b = some (c, z) → ∃ c' z', m' b = some (c', z') ∧ compat c c' ∧ (sameHead c c' → G' b = G b)) →
    repA w (Frz B F m G w) m G a md vs → repA w' (Frz B F m' G' w') m' G' a md vs
  | .val t x, .one, vs, _, ⟨v, e, hr⟩ => ⟨v, e, hr.mono hfr⟩
  | .val t x, .cells, cs, _, hr => RepV.mono hfr _ _ _ hr
  | .pr a b, .one, vs, hb, ⟨c1, c2, e, h1, h2⟩ => ⟨c1, c2, e, repA.keep hfr a _ _ (fun x hx => hb x (List.mem_append_left _ hx)) h1, repA.keep hfr b _ _ (fun x hx => hb x (List.mem_append_right _ hx)) h2⟩
  | .pr a b, .cells, vs, hb, ⟨c1, c2, e, h1, h2⟩ => ⟨c1, c2, e, repA.keep hfr a _ _ (fun x hx => hb x (List.mem_append_left _ hx)) h1, repA.keep hfr b _ _ (fun x hx => hb x (List.mem_append_right _ hx)) h2⟩
  | .pr a b, .chain, vs, hb, ⟨v, l, e, h1, h2⟩ => ⟨v, l, e, repA.keep hfr a _ _ (fun x hx => hb x (List.mem_append_left _ hx)) h1, repA.keep hfr b _ _ (fun x hx => hb x (List.mem_append_right _ hx)) h2⟩
  | .un, .one, _, _, hr => hr
  | .un, .cells, _, _, hr => hr
  | .un, .chain, _, _, hr => hr
  | .tp l, .one, _, hb, ⟨ws, e, hr⟩ => ⟨ws, e, repA.keep hfr l _ _ hb hr⟩
  | .fn f a b, .one, vs, hb, ⟨x, y, e, h1, h2⟩ => ⟨x, y, e, repA.keep hfr a _ _ (fun x hx => hb x (List.mem_append_left _ hx)) h1, repA.keep hfr b _ _ (fun x hx => hb x (List.mem_append_right _ hx)) h2⟩
  | .fn f a b, .cells, vs, hb, ⟨x, y, e, h1, h2⟩ => ⟨x, y, e, repA.keep hfr a _ _ (fun x hx => hb x (List.mem_append_left _ hx)) h1, repA.keep hfr b _ _ (fun x hx => hb x (List.mem_append_right _ hx)) h2⟩
  | .undef, .one, _, _, hr => hr
  | .undef, .cells, _, hb, ⟨v, e, hr⟩ => ⟨v, e, repS.keep hfr hb hr⟩
  | .nn .., .one, _, hb, ⟨v, e, hr⟩ => ⟨v, e, repS.keep hfr hb hr⟩
  | .nn .., .cells, _, hb, ⟨v, e, hr⟩ => ⟨v, e, repS.keep hfr hb hr⟩
  | .nil, .one, _, hb, ⟨v, e, hr⟩ => ⟨v, e, repS.keep (a := .nil) hfr hb hr⟩
  | .nil, .cells, _, hb, ⟨v, e, hr⟩ => ⟨v, e, repS.keep (a := .nil) hfr hb hr⟩
  | .nptr, .one, _, hb, ⟨v, e, hr⟩ => ⟨v, e, repS.keep (a := .nptr) hfr hb hr⟩
  | .nptr, .cells, _, hb, ⟨v, e, hr⟩ => ⟨v, e, repS.keep (a := .nptr) hfr hb hr⟩
  | .ptr .., .one, _, hb, ⟨v, e, hr⟩ => ⟨v, e, repS.keep hfr hb hr⟩
  | .ptr .., .cells, _, hb, ⟨v, e, hr⟩ => ⟨v, e, repS.keep hfr hb hr⟩
  | .rptr .., .one, _, hb, ⟨v, e, hr⟩ => ⟨v, e, repS.keep hfr hb hr⟩
  | .rptr .., .cells, _, hb, ⟨v, e, hr⟩ => ⟨v, e, repS.keep hfr hb hr⟩
  | .ref .., .one, _, hb, ⟨v, e, hr⟩ => ⟨v, e, repS.keep hfr hb hr⟩
  | .ref .., .cells, _, hb, ⟨v, e, hr⟩ => ⟨v, e, repS.keep hfr hb hr⟩
  | .own .., .one, _, hb, ⟨v, e, hr⟩ => ⟨v, e, repS.keep hfr hb hr⟩
  | .own .., .cells, _, hb, ⟨v, e, hr⟩ => ⟨v, e, repS.keep hfr hb hr⟩
  | .sub .., .one, _, hb, ⟨v, e, hr⟩ => ⟨v, e, repS.keep hfr hb hr⟩
  | .sub .., .cells, _, hb, ⟨v, e, hr⟩ => ⟨v, e, repS.keep hfr hb hr⟩
end

/-! ### The frame -/
structure RelG (B : Nat) (F : Nat → Prop) (w0 : World) (fb : Nat) (G : Nat → Value) (env : List AV) (m : Mem) (a : Act) (w : World) : Prop where
  size : a.tmps.size = env.length
  defs : a.defers = []
  mem : MemOk B F w0 (fb + 1000000) m G w
  env : ∀ i, i < env.length → repA w (Frz B F m G w) m G (env.getD i .undef) .one [a.tmps.getD i undef]

/-- Bodies that are walked into do what their run says. -/
def InlOk (P : Program) (B : Nat) (F : Nat → Prop) (w0 : World) (inl : Inl) : Prop :=
  ∀ f fb run, inl f fb = some run → (∃ fn, P.funcs[f]? = some fn ∧ (fn.name == "runtime.NumGoroutine") = false ∧ fn.body.isNone = false) ∧
    ∀ args m ids av m', (run args m ids).run = some (av, m') → ∀ G w vs, MemOk B F w0 fb m G w → repsL w (Frz B F m G w) m G args vs →
      Calls P f vs.toArray w fun e w' => match e with
        | .returned v => ∃ G', MemOk B F w0 fb m' G' w' ∧ TrF fb B F m G w m' G' w' ∧ repA w' (Frz B F m' G' w') m' G' av .one [v]
        | _ => False

section
variable {P : Program} {B : Nat} {F : Nat → Prop} {w0 : World} {fb : Nat} {m m' : Mem} {G : Nat → Value} {w : World} {cx : Cx} {inl : Inl} {env env' : List AV} {a : Act}

theorem RelG.eval (h : RelG B F w0 fb G env m a w) (x : Operand) : repA w (Frz B F m G w) m G (ev env x) .one [a.eval x] := by
  cases x with
  | tmp t =>
    rcases Nat.lt_or_ge t env.length with ht | ht
    · exact h.env t ht
    · have : ev env (.tmp t) = .undef := by simp [ev, List.getD_eq_getElem?_getD, List.getElem?_eq_none ht]
      rw [this]
      exact ⟨_, rfl⟩
  | const v =>
    cases v with
    | int k n => exact mk_int k n
    | bool b => exact mk_bool b
    | string s =>
      have : (Value.string s) = .string ⟨s.data.toList.toArray⟩ := by simp
      show repA w _ m G (.val .str s.data.toList) .one [Value.string s]
      rw [this]
      exact mk_str _
    | slice A n c =>
      cases A with
      | some _ => exact ⟨_, rfl⟩
      | none =>
        cases n with
        | succ _ => exact ⟨_, rfl⟩
        | zero =>
          cases c with
          | succ _ => exact ⟨_, rfl⟩
          | zero => exact ⟨_, rfl, rfl⟩
    | pointer A =>
      cases A with
      | some _ => exact ⟨_, rfl⟩
      | none => exact ⟨_, rfl, rfl⟩
    | _ => exact ⟨_, rfl⟩
  | func f => exact ⟨[], [], rfl, rfl, rfl⟩
  | global g => exact ⟨_, rfl⟩

theorem put_getD {t : Array Value} {d i : Nat} {v : Value} (hd : d < t.size) : (t.setIfInBounds d v).getD i undef = if i = d then v else t.getD i undef := by
  simp only [Array.getD_eq_getD_getElem?, Array.getElem?_setIfInBounds]
  by_cases e : i = d
  · subst e; simp [hd]
  · simp [e, Ne.symm e]

theorem set_getD {l : List AV} {d i : Nat} {v : AV} (hd : d < l.length) : (l.set d v).getD i .undef = if i = d then v else l.getD i .undef := by
  simp only [List.getD_eq_getElem?_getD, List.getElem?_set]
  by_cases e : i = d
  · subst e; simp [hd]
  · simp [e, Ne.symm e]

/-- The frame behind a value that was put. -/
theorem RelG.put (h : RelG B F w0 fb G env m a w) {m' : Mem} {G' : Nat → Value} {w' : World} (hm : MemOk B F w0 (fb + 1000000) m' G' w') (hk : ∀ i, i < env.length → repA w' (Frz B F m' G' w') m' G' (env.getD i .undef) .one [a.tmps.getD i undef])
    {dst : Option Tmp} {av : AV} {cv : Value} (hv : repA w' (Frz B F m' G' w') m' G' av .one [cv]) : RelG B F w0 fb G' (putEnv env dst av) m' (a.put dst cv) w' := by
  cases dst with
  | none => exact ⟨h.size, h.defs, hm, hk⟩
  | some d =>
    refine ⟨by simp [Act.put, putEnv, h.size], h.defs, hm, fun i hi => ?_⟩
    simp only [putEnv, List.length_set] at hi
    by_cases hd : d < env.length
    · simp only [putEnv, Act.put]
      rw [set_getD hd, put_getD (by rw [h.size]; exact hd)]
      split
      · exact hv
      · exact hk i hi
    · simp only [putEnv, Act.put]
      rw [List.set_eq_of_length_le (Nat.le_of_not_lt hd)]
      have : a.tmps.setIfInBounds d cv = a.tmps := by
        unfold Array.setIfInBounds
        rw [dif_neg (by rw [h.size]; exact hd)]
      rw [this]
      exact hk i hi

theorem go_new {cx : Cx} {site : Nat} {ρ : Operand → AV} {op : Op} {av : AV} {p : FP} (h : ((opEff cx site ρ op).go m []).run = some (av, m', p)) (hq : (p.all fun x => Nat.ble fb x.1 || present m x.1) = true) : ∀ b, b < fb → m b = none → m' b = none := by
  intro b hb hn
  obtain ⟨q, e, _, hd, _⟩ := go_frame _ h
  rw [List.append_nil] at e
  have hq' := hq
  rw [e] at hq'
  have key : ∀ k, (b, k) ∉ q ∨ False := by
    intro k
    left
    intro hk
    have := List.all_eq_true.1 hq' _ hk
    simp only [Bool.or_eq_true] at this
    rcases this with this | this
    · have := Nat.le_of_ble_eq_true this
      omega
    · simp [present, hn] at this
  rw [hd.same b ((key 1).resolve_right id) ((key 2).resolve_right id)]
  exact hn

theorem gv_wanted (h : RelG B F w0 fb G env m a w) {ops : Array Oper} {o : Oper} {b : Bool} (hg : gv ops.toList o env = some b) : Region.wanted o (yielded ops a.tmps) = b := by
  unfold gv at hg
  unfold Region.wanted
  split at hg
  · rename_i hgu
    rw [hgu]
    injection hg
  · rename_i j want hgu
    rw [hgu]
    split at hg
    · rename_i d hd
      split at hg
      · rename_i b' hb
        injection hg with hg
        have hlt : d < env.length := by
          rcases Nat.lt_or_ge d env.length with hlt | hge
          · exact hlt
          · rw [List.getD_eq_getElem?_getD, List.getElem?_eq_none hge] at hb
            cases hb
        have hv := h.env d hlt
        rw [hb] at hv
        have hv := one_bool hv
        have hsz : d < a.tmps.size := by rw [h.size]; exact hlt
        have ht : a.tmps[d]? = some (.bool b') := by
          rw [Array.getElem?_eq_getElem hsz]
          rw [Array.getD_eq_getD_getElem?, Array.getElem?_eq_getElem hsz] at hv
          simpa using hv
        have hd' : (ops[j]?).bind (·.dst) = some d := by simpa using hd
        simp only [yielded, hd', Option.bind_some, ht]
        rw [← hg]
        cases b' <;> cases want <;> rfl
      · rename_i hb
        injection hg with hg
        have hlt : d < env.length := by
          rcases Nat.lt_or_ge d env.length with hlt | hge
          · exact hlt
          · rw [List.getD_eq_getElem?_getD, List.getElem?_eq_none hge] at hb
            cases hb
        have hv := h.env d hlt
        rw [hb] at hv
        obtain ⟨ws, hws, hnil⟩ := hv
        rw [show ws = [] from hnil] at hws
        have hsz : d < a.tmps.size := by rw [h.size]; exact hlt
        have ht : a.tmps[d]? = some (.tuple #[]) := by
          rw [Array.getElem?_eq_getElem hsz]
          rw [Array.getD_eq_getD_getElem?, Array.getElem?_eq_getElem hsz] at hws
          simpa using hws
        have hd' : (ops[j]?).bind (·.dst) = some d := by simpa using hd
        simp only [yielded, hd', Option.bind_some, ht]
        rw [← hg]
        rfl
      · cases hg
    · cases hg

/-- A plain step. -/
theorem stp_sound (hT : typesChk P cx.types = true) (hS : SigsOk P cx) (h : RelG B F w0 fb G env m a w) {ops : Array Oper} {base i : Nat} {o : Oper} {p : FP} (hi : ops[i]? = some o)
    (hs : Stp cx inl fb base ops.toList i o (env, m) (env', m') p) {K : Act → World → Prop} {Q : Exit → Act → World → Prop} (hk : ∀ a1 w1 G1, RelG B F w0 fb G1 env' m' a1 w1 → TrF fb B F m G w m' G1 w1 → K a1 w1) : wpOp P ops Q i K a w := by
  unfold wpOp
  rw [hi]
  cases hs with
  | skip hg =>
    simp only
    rw [gv_wanted h hg]
    simp only [Bool.false_eq_true, if_false]
    exact hk _ _ G (h.put h.mem h.env ⟨[], rfl, rfl⟩) TrF.refl
  | run hg hn hl he hq =>
    rename_i av
    simp only
    rw [gv_wanted h hg]
    simp only [if_true]
    refine .inl (op_gives hT hS h.mem hl (fun x _ => h.eval x) he _ _ fun G' w' cv h1 h2 h3 => ?_)
    exact hk _ _ G' (h.put h1 (fun j hj => repA.mono h2 _ _ _ (h.env j hj)) h3) (h2.toF (go_new he hq))

theorem closed_env {m : Mem} {env : List AV} : ∀ {l : List (Nat × (Cn × Bool))}, closed m env l = true → ∀ a ∈ env, ∀ b ∈ a.refs, ∃ x, m b = some x
  | [], h, a, ha, b, hb => by
    have := List.all_eq_true.1 (List.all_eq_true.1 h a ha) b hb
    exact Option.isSome_iff_exists.1 this
  | (_, .var T c, _) :: l, h, a, ha, b, hb => by
    simp only [closed, Bool.and_eq_true] at h
    exact closed_env h.2 a ha b hb
  | (_, .row .., _) :: l, h, a, ha, b, hb => closed_env (l := l) h a ha b hb

theorem refs_there (h : RelG B F w0 fb G env m a w) : True := trivial

/-- One operation of a region, whatever it is. -/
theorem stepR_sound (hT : typesChk P cx.types = true) (hS : SigsOk P cx) (hI : InlOk P B F w0 inl) (h : RelG B F w0 fb G env m a w) {ops : Array Oper} {base i : Nat} {o : Oper} {p : FP} {ids : List Nat} (hi : ops[i]? = some o) (hb : fb ≤ base)
    {kn kn' : List Nat} (hs : (stepR cx inl ids fb ops.toList (base + i) o env m kn).run = some (env', m', p, kn')) {K : Act → World → Prop} {Q : Exit → Act → World → Prop} (hk : ∀ a1 w1 G1, RelG B F w0 fb G1 env' m' a1 w1 → TrF fb B F m G w m' G1 w1 → K a1 w1) : wpOp P ops Q i K a w := by
  rcases stepR_some hs with hs | ⟨hg, _, run, av, hin, hrun, hcl, he⟩
  · exact stp_sound hT hS h hi hs hk
  · unfold wpOp
    rw [hi]
    simp only
    rw [gv_wanted h hg]
    simp only [if_true]
    left
    unfold inlined at hin
    split at hin
    · rename_i c hop
      split at hin
      · rename_i f hf
        split at hin
        · rename_i pr htg
          obtain ⟨g, args⟩ := pr
          split at hin
          · rename_i r hr
            injection hin with hin
            subst hin
            obtain ⟨⟨fn, hf1, hf2, hf3⟩, hok⟩ := hI g _ r hr
            have ha : repsL w (Frz B F m G w) m G (c.args.toList.map (ev env)) (c.args.toList.map a.eval) := reps_map fun x _ => h.eval x
            obtain ⟨x, y, q1, q2⟩ := target_some htg (h.eval f) ha
            have hlim : MemOk B F w0 ((base + i + 1) * 1000000) m G w := ⟨h.mem.below, h.mem.base, h.mem.blk, h.mem.dist, fun b x hx => by have := h.mem.lim b x hx; omega⟩
            have hc := hok args m ids av m' hrun G w _ hlim q2
            unfold Oper.wp
            have hr1 : (callFunc g (x ++ c.args.toList.map a.eval ++ y).toArray).run P w = .ok (.enter g (x ++ c.args.toList.map a.eval ++ y).toArray) w := by
              simp only [callFunc, Sem.run_bind, run_program, Result.andThen_ok, hf1, hf2, hf3, Bool.false_eq_true, if_false, Sem.run_pure]
            rw [run_callValue hf hop q1, hr1]
            refine hc.mono fun e w' hR => ?_
            cases e with
            | returned v =>
              obtain ⟨G', hm', htr, hv⟩ := hR
              rw [he] at hk
              have hm2 : MemOk B F w0 (fb + 1000000) m' G' w' := ⟨hm'.below, hm'.base, hm'.blk, hm'.dist, fun b x hx => by
                cases hmb : m b with
                | none =>
                  have := htr.new b (hm'.lim b x hx) hmb
                  rw [this] at hx
                  cases hx
                | some y => exact h.mem.lim b y hmb⟩
              refine hk _ _ G' (h.put hm2 (fun j hj => ?_) hv) (htr.mono (by omega))
              have hmem : env.getD j .undef ∈ env := by
                rw [List.getD_eq_getElem?_getD, List.getElem?_eq_getElem hj]
                simp
              refine repA.keep htr.fr _ _ _ (fun b hb c z hbc => ?_) (h.env j hj)
              obtain ⟨x, hx⟩ := closed_env hcl _ hmem b hb
              rcases htr.blk b c z (by have := h.mem.lim b _ hbc; omega) hbc with hn | hn
              · rw [hn] at hx; cases hx
              · exact hn
            | panicked c => exact hR.elim
            | outgrown => exact hR.elim
          · cases hin
        · cases hin
      · cases hin
    · cases hin

/-! ### Regions in the order of the text -/
theorem runR_sound (hT : typesChk P cx.types = true) (hS : SigsOk P cx) (hI : InlOk P B F w0 inl) {ops : Array Oper} {base : Nat} {ids : List Nat} (hb : fb ≤ base) {Q : Exit → Act → World → Prop} (l : List (Nat × Oper)) :
    ∀ (env : List AV) (m : Mem) (kn kn' : List Nat) (G : Nat → Value) (a : Act) (w : World) (fps : List FP), (∀ x ∈ l, ops[x.1]? = some x.2) → RelG B F w0 fb G env m a w → (runR cx inl ids fb base ops.toList l env m kn).run = some (env', m', fps, kn') →
    (∀ a1 w1 G1, RelG B F w0 fb G1 env' m' a1 w1 → TrF fb B F m G w m' G1 w1 → Q .normal a1 w1) → wpOps P ops Q (l.map (·.1)) a w := by
  induction l with
  | nil =>
    intro env m kn kn' G a w fps _ h hr hq
    simp only [runR, Pr.run] at hr
    injection hr with hr
    injection hr with h1 h2
    injection h2 with h2 _
    subst h1; subst h2
    exact hq a w G h TrF.refl
  | cons x l ih =>
    intro env m kn kn' G a w fps hl h hr hq
    obtain ⟨i, o⟩ := x
    simp only [runR] at hr
    rw [bind_run] at hr
    obtain ⟨⟨env1, m1, p, kn1⟩, h1, hr⟩ := Option.bind_eq_some_iff.1 hr
    rw [bind_run] at hr
    obtain ⟨⟨env2, m2, ps, kn2⟩, h2, hr⟩ := Option.bind_eq_some_iff.1 hr
    simp only [Pr.run] at hr
    injection hr with hr
    injection hr with e1 e2
    injection e2 with e2 _
    subst e1; subst e2
    rw [List.map_cons, wpOps_cons]
    exact stepR_sound hT hS hI h (hl _ (.head _)) hb h1 fun a1 w1 G1 r1 t1 => ih _ _ _ _ _ _ _ _ (fun x hx => hl x (.tail _ hx)) r1 h2 fun a2 w2 G2 r2 t2 => hq a2 w2 G2 r2 (t1.trans t2)

theorem numbered_map (l : List Oper) : ∀ (k : Nat), (numbered k l).map (·.1) = List.range' k l.length := by
  induction l with
  | nil => intro k; rfl
  | cons o l ih =>
    intro k
    simp only [numbered, List.map_cons, List.length_cons, List.range'_succ]
    rw [ih (k + 1)]

theorem numbered_get (l : List Oper) : ∀ (k : Nat) (x : Nat × Oper), x ∈ numbered k l → k ≤ x.1 ∧ l[x.1 - k]? = some x.2 := by
  induction l with
  | nil => intro k x h; cases h
  | cons o l ih =>
    intro k x h
    simp only [numbered, List.mem_cons] at h
    rcases h with rfl | h
    · simp
    · obtain ⟨h1, h2⟩ := ih (k + 1) x h
      refine ⟨by omega, ?_⟩
      rw [show x.1 - k = (x.1 - (k + 1)) + 1 by omega]
      simpa using h2

/-! ### Regions in whatever order -/
/-- The run of a region as a chain. -/
theorem runR_chain {base : Nat} {ids : List Nat} {ops : List Oper} (l : List (Nat × Oper)) : ∀ (env env' : List AV) (m m' : Mem) (kn kn' : List Nat) (fps : List FP), (runR cx inl ids fb base ops l env m kn).run = some (env', m', fps, kn') → (∀ p ∈ fps, ∀ x ∈ p, x.2 ≠ 3) →
    ∃ c : List (Nat × Oper × FP), c.map (fun x => (x.1, x.2.1)) = l ∧ c.map (fun x => x.2.2) = fps ∧ Chn cx inl fb base ops c (env, m) (env', m') := by
  induction l with
  | nil =>
    intro env env' m m' kn kn' fps h _
    simp only [runR, Pr.run] at h
    injection h with h
    injection h with h1 h2
    injection h2 with h2 h3
    injection h3 with h3 _
    subst h1; subst h2; subst h3
    exact ⟨[], rfl, rfl, .nil⟩
  | cons x l ih =>
    intro env env' m m' kn kn' fps h h3
    obtain ⟨i, o⟩ := x
    simp only [runR] at h
    rw [bind_run] at h
    obtain ⟨⟨env1, m1, p, kn1⟩, h1, h⟩ := Option.bind_eq_some_iff.1 h
    rw [bind_run] at h
    obtain ⟨⟨env2, m2, ps, kn2⟩, h2, h⟩ := Option.bind_eq_some_iff.1 h
    simp only [Pr.run] at h
    injection h with h
    injection h with e1 e2
    injection e2 with e2 e3
    injection e3 with e3 _
    subst e1; subst e2; subst e3
    obtain ⟨c, q1, q2, q3⟩ := ih _ _ _ _ _ _ _ h2 fun p hp => h3 p (.tail _ hp)
    rcases stepR_some h1 with hs | ⟨_, hp, _⟩
    · exact ⟨(i, o, p) :: c, by simp [q1], by simp [q2], .cons hs q3⟩
    · exact (h3 p (.head _) (0, 3) (by rw [hp]; exact .head _) rfl).elim

theorem apartAll_spec {ops : List Oper} : ∀ {c seen : List (Nat × Oper × FP)}, apartAll ops seen (c.map fun x => (x.1, x.2.1)) (c.map fun x => x.2.2) = true →
    (∀ x ∈ c, (∀ y ∈ seen, Free ops y x) ∧ (x.2.1.after.toList.all fun e => !Region.binds .any e || Nat.blt e.on x.1) = true ∧ ∀ z ∈ x.2.2, z.2 ≠ 3) ∧ c.Pairwise (Free ops)
  | [], seen, _ => ⟨by simp, .nil⟩
  | (i, o, p) :: c, seen, h => by
    simp only [List.map_cons, apartAll, Bool.and_eq_true] at h
    obtain ⟨⟨⟨h1, h2⟩, h3⟩, h4⟩ := h
    obtain ⟨k1, k2⟩ := apartAll_spec h4
    refine ⟨fun x hx => ?_, List.Pairwise.cons (fun x hx => (k1 x hx).1 _ (.head _)) k2⟩
    rcases List.mem_cons.1 hx with rfl | hx
    · refine ⟨fun y hy => ?_, h2, fun z hz => ?_⟩
      · have := List.all_eq_true.1 h1 y hy
        simp only [Bool.or_eq_true, Bool.and_eq_true] at this
        exact this
      · have := List.all_eq_true.1 h3 z hz
        simpa using this
    · exact ⟨fun y hy => (k1 x hx).1 y (.tail _ hy), (k1 x hx).2⟩

theorem getD_set {l : Array Bool} {i j : Nat} {d : Bool} : (l.setIfInBounds i true).getD j d = if i = j ∧ i < l.size then true else l.getD j d := by
  simp only [Array.getD_eq_getD_getElem?, Array.getElem?_setIfInBounds]
  by_cases e : i = j
  · subst e
    by_cases h : i < l.size
    · simp [h]
    · simp [h, Array.getElem?_eq_none (Nat.le_of_not_lt h)]
  · simp [e]

theorem any_sound (hT : typesChk P cx.types = true) (hS : SigsOk P cx) {ops : Array Oper} {base : Nat} {Q : Exit → Act → World → Prop} :
    ∀ {n : Nat} {c : List (Nat × Oper × FP)} {listed : Array Bool} {env : List AV} {m : Mem} {G : Nat → Value} {a : Act} {w : World}, c.length = n → listed.size = ops.size → (∀ x ∈ c, ops[x.1]? = some x.2.1) →
    (∀ i, i < ops.size → (listed.getD i true = false ↔ ∃ x ∈ c, x.1 = i)) → c.Pairwise (fun x y => x.1 < y.1) → c.Pairwise (Free ops.toList) → (∀ x ∈ c, (x.2.1.after.toList.all fun e => !Region.binds .any e || Nat.blt e.on x.1) = true) →
    RelG B F w0 fb G env m a w → Chn cx inl fb base ops.toList c (env, m) (env', m') → (∀ a1 w1 G1, RelG B F w0 fb G1 env' m' a1 w1 → TrF fb B F m G w m' G1 w1 → Q .normal a1 w1) → wpAny P .any ops Q n listed a w := by
  intro n
  induction n with
  | zero =>
    intro c listed env m G a w hn hsz hops hlist hord hfree hafter hrel hch hq
    have : c = [] := List.eq_nil_of_length_eq_zero hn
    subst this
    cases hch
    refine ⟨?_, hq a w G hrel TrF.refl⟩
    unfold Region.ready
    rw [List.filter_eq_nil_iff]
    intro i hi
    have hi := List.mem_range.1 hi
    simp only [Bool.and_eq_true, not_and, Bool.not_eq_true', Bool.not_eq_true]
    intro hl
    obtain ⟨x, hx, _⟩ := (hlist i hi).1 hl
    cases hx
  | succ n ih =>
    intro c listed env m G a w hn hsz hops hlist hord hfree hafter hrel hch hq
    refine ⟨fun hempty => ?_, fun i hi => ?_⟩
    · -- the first that is left is ready
      exfalso
      cases c with
      | nil => cases hn
      | cons x c =>
        have hx := hops x (.head _)
        have hlt : x.1 < ops.size := (Array.getElem?_eq_some_iff.1 hx).1
        have hl : listed.getD x.1 true = false := (hlist x.1 hlt).2 ⟨x, .head _, rfl⟩
        have : x.1 ∈ Region.ready .any ops listed := by
          unfold Region.ready
          refine List.mem_filter.2 ⟨List.mem_range.2 hlt, ?_⟩
          simp only [hl, Bool.not_false, Bool.true_and, hx, Option.map_some, Option.getD_some]
          rw [← Array.all_toList, List.all_eq_true]
          intro e he
          have ha := List.all_eq_true.1 (hafter x (.head _)) e he
          simp only [Bool.or_eq_true, Bool.not_eq_true'] at ha ⊢
          rcases ha with ha | ha
          · exact .inl ha
          · right
            have hlt2 : e.on < x.1 := by
              unfold Nat.blt at ha
              exact Nat.le_of_ble_eq_true ha
            have hin : e.on < ops.size := by omega
            have hng : ¬ (listed.getD e.on true = false) := fun hf => by
              obtain ⟨y, hy, hye⟩ := (hlist e.on hin).1 hf
              rcases List.mem_cons.1 hy with rfl | hy
              · omega
              · have := (List.pairwise_cons.1 hord).1 y hy
                omega
            have hd : listed.getD e.on true = listed.getD e.on false := by
              simp only [Array.getD_eq_getD_getElem?]
              rw [Array.getElem?_eq_getElem (by rw [hsz]; exact hin)]
              rfl
            rw [hd] at hng
            simpa using hng
        rw [hempty] at this
        cases this
    · -- whichever is ready comes to the front
      unfold Region.ready at hi
      obtain ⟨hr, hi⟩ := List.mem_filter.1 hi
      have hlt := List.mem_range.1 hr
      simp only [Bool.and_eq_true, Bool.not_eq_true'] at hi
      obtain ⟨hl, haf⟩ := hi
      obtain ⟨x, hx, hxi⟩ := (hlist i hlt).1 hl
      subst hxi
      have hox := hops x hx
      rw [hox] at haf
      simp only [Option.map_some, Option.getD_some] at haf
      rw [← Array.all_toList, List.all_eq_true] at haf
      obtain ⟨pre, post, rfl⟩ := List.append_of_mem hx
      have hw : ∀ y ∈ pre, waitsFor x.2.1 y.1 = false := by
        intro y hy
        rw [← Bool.not_eq_true]
        intro hwt
        unfold waitsFor at hwt
        obtain ⟨e, he, hee⟩ := List.any_eq_true.1 hwt
        simp only [Bool.and_eq_true] at hee
        have heq := Nat.eq_of_beq_eq_true hee.1
        have := haf e he
        simp only [Bool.or_eq_true, Bool.not_eq_true'] at this
        have hym : y ∈ pre ++ x :: post := List.mem_append_left _ hy
        have hyl : y.1 < ops.size := (Array.getElem?_eq_some_iff.1 (hops y hym)).1
        have hyf := (hlist y.1 hyl).2 ⟨y, hym, rfl⟩
        rcases this with this | this
        · rw [hee.2] at this; cases this
        · rw [heq] at this
          have hd : listed.getD y.1 true = listed.getD y.1 false := by
            simp only [Array.getD_eq_getD_getElem?]
            rw [Array.getElem?_eq_getElem (by rw [hsz]; exact hyl)]
            rfl
          rw [← hd, hyf] at this
          cases this
      have hpw := List.pairwise_append.1 hfree
      have hfront := hch.front (fun y hy => hpw.2.2 y hy x (.head _)) hw
      obtain ⟨xi, xo, xp⟩ := x
      cases hfront with
      | cons hs ht =>
        rename_i s1
        obtain ⟨env1, m1⟩ := s1
        refine stp_sound hT hS hrel hox hs fun a1 w1 G1 r1 t1 => ?_
        have hord2 := List.pairwise_append.1 hord
        have hsub : ∀ {R : Nat × Oper × FP → Nat × Oper × FP → Prop}, (pre ++ (xi, xo, xp) :: post).Pairwise R → (pre ++ post).Pairwise R := by
          intro R hR
          obtain ⟨q1, q2, q3⟩ := List.pairwise_append.1 hR
          exact List.pairwise_append.2 ⟨q1, (List.pairwise_cons.1 q2).2, fun y hy z hz => q3 y hy z (.tail _ hz)⟩
        have hmem : ∀ y ∈ pre ++ post, y ∈ pre ++ (xi, xo, xp) :: post := by
          intro y hy
          rcases List.mem_append.1 hy with hy | hy
          · exact List.mem_append_left _ hy
          · exact List.mem_append_right _ (.tail _ hy)
        refine ih (c := pre ++ post) (by simp at hn ⊢; omega) (by simpa using hsz) (fun y hy => hops y (hmem y hy)) (fun j hj => ?_) (hsub hord) (hsub hfree) (fun y hy => hafter y (hmem y hy)) r1 ht fun a2 w2 G2 r2 t2 => hq a2 w2 G2 r2 (t1.trans t2)
        rw [getD_set]
        by_cases e : xi = j
        · subst e
          rw [if_pos ⟨rfl, by rw [hsz]; exact hj⟩]
          refine ⟨fun h => (by cases h), ?_⟩
          rintro ⟨y, hy, hye⟩
          rcases List.mem_append.1 hy with hy | hy
          · have := hord2.2.2 y hy _ (.head _)
            omega
          · have := (List.pairwise_cons.1 hord2.2.1).1 y hy
            omega
        · rw [if_neg (fun h => e h.1), hlist j hj]
          constructor
          · rintro ⟨y, hy, hye⟩
            rcases List.mem_append.1 hy with hy | hy
            · exact ⟨y, List.mem_append_left _ hy, hye⟩
            · rcases List.mem_cons.1 hy with rfl | hy
              · exact (e hye).elim
              · exact ⟨y, List.mem_append_right _ hy, hye⟩
          · rintro ⟨y, hy, hye⟩
            exact ⟨y, hmem y hy, hye⟩

theorem numbered_pairwise (l : List Oper) : ∀ (k : Nat), (numbered k l).Pairwise (fun x y => x.1 < y.1) := by
  induction l with
  | nil => intro k; exact .nil
  | cons o l ih => intro k; exact .cons (fun x hx => by have := (numbered_get l (k + 1) x hx).1; show k < x.1; omega) (ih (k + 1))

theorem runR_length {base : Nat} {ids : List Nat} {ops : List Oper} (l : List (Nat × Oper)) : ∀ (env : List AV) (m : Mem) (kn kn' : List Nat) (env' : List AV) (m' : Mem) (fps : List FP), (runR cx inl ids fb base ops l env m kn).run = some (env', m', fps, kn') → fps.length = l.length := by
  induction l with
  | nil =>
    intro env m kn kn' env' m' fps h
    simp only [runR, Pr.run] at h
    injection h with h
    injection h with _ h2
    injection h2 with _ h3
    injection h3 with h3 _
    subst h3
    rfl
  | cons x l ih =>
    intro env m kn kn' env' m' fps h
    obtain ⟨i, o⟩ := x
    simp only [runR] at h
    rw [bind_run] at h
    obtain ⟨⟨env1, m1, p, kn1⟩, h1, h⟩ := Option.bind_eq_some_iff.1 h
    rw [bind_run] at h
    obtain ⟨⟨env2, m2, ps, kn2⟩, h2, h⟩ := Option.bind_eq_some_iff.1 h
    simp only [Pr.run] at h
    injection h with h
    injection h with _ e2
    injection e2 with _ e3
    injection e3 with e3 _
    subst e3
    simp [ih _ _ _ _ _ _ _ h2]

theorem apartAll_no3 {ops : List Oper} (l : List (Nat × Oper)) : ∀ (seen : List (Nat × Oper × FP)) (fps : List FP), fps.length = l.length → apartAll ops seen l fps = true → ∀ p ∈ fps, ∀ x ∈ p, x.2 ≠ 3 := by
  induction l with
  | nil =>
    intro seen fps hl h p hp
    rw [List.eq_nil_of_length_eq_zero hl] at hp
    cases hp
  | cons y l ih =>
    intro seen fps hl h p hp
    obtain ⟨i, o⟩ := y
    cases fps with
    | nil => cases hp
    | cons q fps =>
      simp only [apartAll, Bool.and_eq_true] at h
      rcases List.mem_cons.1 hp with rfl | hp
      · intro x hx
        have := List.all_eq_true.1 h.1.2 x hx
        simpa using this
      · exact ih _ _ (by simpa using hl) h.2 p hp

/-- A region. -/
theorem region_sound (hP : P.follows .mixedOrders = true) (hT : typesChk P cx.types = true) (hS : SigsOk P cx) (hI : InlOk P B F w0 inl) {ops : Array Oper} {base id : Nat} {ids : List Nat} {draw : Bool} (hb : fb ≤ base) (h : RelG B F w0 fb G env m a w)
    {fps : List FP} {e : Ex} {s : St} {kn kn' : List Nat} (hr : (runR cx inl ids fb base ops.toList (numbered 0 ops.toList) env m kn).run = some (env', m', fps, kn')) (hk : (regionK base ids ops.toList draw (env', m', fps, kn')).run = some (e, s)) {Q : Exit → Act → World → Prop}
    (hq : ∀ a1 w1 G1, RelG B F w0 fb G1 s.env s.mem a1 w1 → TrF fb B F m G w s.mem G1 w1 → Q .normal a1 w1) : e = .normal ∧ (Code.region id ops draw).wp P Q a w := by
  have hget : ∀ x ∈ numbered 0 ops.toList, ops[x.1]? = some x.2 := fun x hx => by simpa using (numbered_get _ _ x hx).2
  cases draw with
  | false =>
    simp only [regionK, Pr.run] at hk
    injection hk with hk
    injection hk with h1 h2
    subst h1; subst h2
    refine ⟨rfl, wp_region ?_⟩
    have := runR_sound (Q := Q) hT hS hI hb _ _ _ _ _ _ _ _ _ hget h hr hq
    rw [numbered_map] at this
    simpa [List.range_eq_range'] using this
  | true =>
    simp only [regionK] at hk
    split at hk
    · rename_i hap
      simp only [Pr.run] at hk
      injection hk with hk
      injection hk with h1 h2
      subst h1; subst h2
      refine ⟨rfl, wp_region_any hP ?_⟩
      have hl := runR_length _ _ _ _ _ _ _ _ hr
      obtain ⟨c, c1, c2, c3⟩ := runR_chain _ _ _ _ _ _ _ _ hr (apartAll_no3 _ _ _ hl hap)
      rw [← c1, ← c2] at hap
      obtain ⟨k1, k2⟩ := apartAll_spec hap
      have hmem : ∀ x ∈ c, (x.1, x.2.1) ∈ numbered 0 ops.toList := by
        intro x hx
        rw [← c1]
        exact List.mem_map.2 ⟨x, hx, rfl⟩
      have hclen : c.length = ops.size := by
        have h1 : (c.map fun x => (x.1, x.2.1)).length = (numbered 0 ops.toList).length := by rw [c1]
        have h2 : ((numbered 0 ops.toList).map (·.1)).length = ops.toList.length := by rw [numbered_map]; simp
        simp at h1 h2
        omega
      have hord : c.Pairwise (fun x y => x.1 < y.1) := by
        have := numbered_pairwise ops.toList 0
        rw [← c1, List.pairwise_map] at this
        exact this
      obtain ⟨hm1, ht1⟩ := h.mem.grown (w' := { w with drawn := w.drawn + 1 }) ⟨rfl, rfl, rfl, Nat.le_refl _, fun _ _ => rfl⟩
      have hrel1 : RelG B F w0 fb G env m a { w with drawn := w.drawn + 1 } := ⟨h.size, h.defs, hm1, fun i hi => repA.mono ht1 _ _ _ (h.env i hi)⟩
      refine any_sound hT hS (c := c) hclen (by simp) (fun x hx => hget _ (hmem x hx)) (fun i hi => ?_) hord k2 (fun x hx => (k1 x hx).2.1) hrel1 c3 fun a1 w1 G1 r1 t1 => hq a1 w1 G1 r1 ((ht1.toF fun _ _ h => h).trans t1)
      have hfalse : (Array.replicate ops.size false).getD i true = false := by
        simp [Array.getD_eq_getD_getElem?, hi]
      rw [hfalse]
      refine ⟨fun _ => ?_, fun _ => rfl⟩
      have : i ∈ (c.map fun x => (x.1, x.2.1)).map (·.1) := by
        rw [c1, numbered_map]
        simp [List.mem_range', hi]
      obtain ⟨y, hy, hye⟩ := List.mem_map.1 this
      obtain ⟨x, hx, hxe⟩ := List.mem_map.1 hy
      exact ⟨x, hx, by rw [← hye, ← hxe]⟩
    · cases hk
end
end Go.Refl
