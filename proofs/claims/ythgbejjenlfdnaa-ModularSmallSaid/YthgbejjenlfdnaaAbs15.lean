/-
  Code, bodies, functions.
-/
import Derived.Test.YthgbejjenlfdnaaAbs14
import Derived.Deep.LoopGhost
set_option linter.unusedVariables false
set_option linter.unusedSimpArgs false
namespace Go.Refl
open Go Go.RowKit

def toExit : Ex → Exit
  | .normal => .normal
  | .exit i => .exit i
  | .ret => .ret

/-! ### Loops -/
theorem iter_mono {f : St → Option (Ex × St)} {cn : St → Option St} : ∀ {n k : Nat} {s : St} {r : Ex × St}, iter f cn n s = some r → iter f cn (n + k) s = some r := by
  intro n
  induction n with
  | zero => intro k s r h; cases h
  | succ n ih =>
    intro k s r h
    rw [show n + 1 + k = (n + k) + 1 by omega]
    simp only [iter] at h ⊢
    split at h
    · split at h
      · exact ih h
      · cases h
    · exact h
    · cases h

theorem loopSem_some {f : St → Option (Ex × St)} {cn : St → Option St} {s : St} {r : Ex × St} : loopSem f cn s = some r ↔ ∃ n, iter f cn n s = some r := by
  unfold loopSem
  constructor
  · intro h
    split at h
    · rename_i hx
      injection h with h
      have := Classical.choose_spec (Classical.choose_spec hx)
      exact ⟨_, by rw [← h]; exact this⟩
    · cases h
  · rintro ⟨n, hn⟩
    have hx : ∃ n r, iter f cn n s = some r := ⟨n, r, hn⟩
    rw [dif_pos hx]
    have := Classical.choose_spec (Classical.choose_spec hx)
    have h1 := iter_mono (k := n) this
    have h2 := iter_mono (k := Classical.choose hx) hn
    rw [Nat.add_comm] at h2
    rw [h2] at h1
    injection h1 with h1
    rw [h1]

/-- A loop, one round unfolded. -/
theorem loopSem_eq (f : St → Option (Ex × St)) (cn : St → Option St) (s : St) : loopSem f cn s = (f s).bind fun r => match r.1 with
    | .normal => (cn r.2).bind (loopSem f cn)
    | _ => some r := by
  apply Option.ext
  intro r
  rw [loopSem_some]
  constructor
  · rintro ⟨n, hn⟩
    cases n with
    | zero => cases hn
    | succ n =>
      simp only [iter] at hn
      split at hn
      · rename_i s' hs
        rw [hs]
        simp only [Option.bind_some]
        split at hn
        · rename_i s2 h2
          rw [h2]
          simp only [Option.bind_some]
          exact loopSem_some.2 ⟨n, hn⟩
        · cases hn
      · rename_i r' hnot hs
        injection hn with hn
        subst hn
        rw [hs]
        obtain ⟨e, s'⟩ := r'
        cases e with
        | normal => exact (hnot s' rfl).elim
        | exit => rfl
        | ret => rfl
      · cases hn
  · intro h
    cases hf : f s with
    | none => rw [hf] at h; cases h
    | some r' =>
      rw [hf] at h
      obtain ⟨e, s'⟩ := r'
      simp only [Option.bind_some] at h
      cases e with
      | normal =>
        simp only at h
        obtain ⟨s2, h2, h⟩ := Option.bind_eq_some_iff.1 h
        obtain ⟨n, hn⟩ := loopSem_some.1 h
        exact ⟨n + 1, by simp only [iter, hf, h2]; exact hn⟩
      | exit i => exact ⟨1, by simp only [iter, hf]; exact h⟩
      | ret => exact ⟨1, by simp only [iter, hf]; exact h⟩

theorem opt_run {α β : Type} {o : Option α} {k : α → Pr β} {r : β} (h : (Pr.opt o k).run = some r) : ∃ a, o = some a ∧ (k a).run = some r := by
  cases o with
  | none => cases h
  | some a => exact ⟨a, rfl, h⟩

section
variable {P : Program} {B : Nat} {F : Nat → Prop} {w0 : World} {fb : Nat} {cx : Cx} {inl : Inl} {anns : List (Nat × Ann)}

/-! ### Code -/
theorem exec_sound (hP : P.follows .mixedOrders = true) (hT : typesChk P cx.types = true) (hS : SigsOk P cx) (hI : InlOk P B F w0 inl) (c : Code) :
    ∀ (s : St) (e : Ex) (s' : St) (G : Nat → Value) (a : Act) (w : World) (Q : Exit → Act → World → Prop), (exec cx anns inl fb c s).run = some (e, s') → RelG B F w0 fb G s.env s.mem a w →
    (∀ a1 w1 G1, RelG B F w0 fb G1 s'.env s'.mem a1 w1 → TrF fb B F s.mem G w s'.mem G1 w1 → Q (toExit e) a1 w1) → c.wp P Q a w := by
  induction c with
  | skip =>
    intro s e s' G a w Q h hr hq
    simp only [exec, Pr.run] at h
    injection h with h
    injection h with h1 h2
    subst h1; subst h2
    exact wp_skip (hq a w G hr TrF.refl)
  | region id ops draw =>
    intro s e s' G a w Q h hr hq
    simp only [exec] at h
    obtain ⟨s1, hc, h⟩ := opt_run h
    obtain ⟨G1, r1, t1⟩ := canonO_ok hT hc hr
    rw [bind_run] at h
    obtain ⟨⟨env', m', fps, kn'⟩, h1, h2⟩ := Option.bind_eq_some_iff.1 h
    exact (region_sound hP hT hS hI (Nat.le_add_right fb _) r1 h1 h2 (fun a2 w2 G2 r2 t2 => by
      have he : e = .normal := by
        simp only [regionK] at h2
        cases draw with
        | false =>
          simp only [Pr.run] at h2
          injection h2 with h2
          injection h2 with h2 _
          exact h2.symm
        | true =>
          simp only at h2
          split at h2
          · simp only [Pr.run] at h2
            injection h2 with h2
            injection h2 with h2 _
            exact h2.symm
          · cases h2
      subst he
      exact hq a2 w2 G2 r2 (t1.trans t2))).2
  | seq x y ihx ihy =>
    intro s e s' G a w Q h hr hq
    simp only [exec] at h
    rw [bind_run] at h
    obtain ⟨⟨e1, s1⟩, h1, h2⟩ := Option.bind_eq_some_iff.1 h
    refine wp_seq (ihx s e1 s1 G a w _ h1 hr fun a1 w1 G1 r1 t1 => ?_)
    cases e1 with
    | normal => exact ihy s1 e s' G1 a1 w1 Q h2 r1 fun a2 w2 G2 r2 t2 => hq a2 w2 G2 r2 (t1.trans t2)
    | exit i =>
      simp only [seqK, Pr.run] at h2
      injection h2 with h2
      injection h2 with q1 q2
      subst q1; subst q2
      exact hq a1 w1 G1 r1 t1
    | ret =>
      simp only [seqK, Pr.run] at h2
      injection h2 with h2
      injection h2 with q1 q2
      subst q1; subst q2
      exact hq a1 w1 G1 r1 t1
  | cond o x y ihx ihy =>
    intro s e s' G a w Q h hr hq
    simp only [exec] at h
    split at h
    · rename_i t ho
      have hv := hr.eval o
      rw [ho] at hv
      have hv := one_bool hv
      refine wp_cond hv ?_
      change Bool at t
      split at h
      · cases t with
        | true => exact ihx s e s' G a w Q h hr hq
        | false => exact ihy s e s' G a w Q h hr hq
      · have htold : ∀ u : Bool, t = u → s.told o u = { s with kn := (s.told o u).kn } := by
          intro u hu
          subst hu
          cases o with
          | tmp d =>
            have := set_getD_self (l := s.env) (d := d) (v := .val .bool t) ho (by simp)
            simp only [St.told, this]
          | _ => rfl
        have h : (if t = true then (exec cx anns inl fb x (s.told o true)).run else (exec cx anns inl fb y (s.told o false)).run) = some (e, s') := h
        cases t with
        | true =>
          rw [htold true rfl] at h
          exact ihx _ e s' G a w Q h hr hq
        | false =>
          rw [htold false rfl] at h
          exact ihy _ e s' G a w Q h hr hq
    · cases h
  | block id c ih =>
    intro s e s' G a w Q h hr hq
    simp only [exec] at h
    rw [bind_run] at h
    obtain ⟨⟨e1, s1⟩, h1, h2⟩ := Option.bind_eq_some_iff.1 h
    refine wp_block (ih s e1 s1 G a w _ h1 hr fun a1 w1 G1 r1 t1 => ?_)
    cases e1 with
    | normal =>
      simp only [blockK, Pr.run] at h2
      injection h2 with h2
      injection h2 with q1 q2
      subst q1; subst q2
      exact hq a1 w1 G1 r1 t1
    | exit i =>
      simp only [blockK] at h2
      simp only [toExit, Exit.inBlock]
      split at h2
      · rename_i hi
        rw [if_pos hi]
        simp only [Pr.run] at h2
        injection h2 with h2
        injection h2 with q1 q2
        subst q1; subst q2
        exact hq a1 w1 G1 r1 t1
      · rename_i hi
        rw [if_neg hi]
        simp only [Pr.run] at h2
        injection h2 with h2
        injection h2 with q1 q2
        subst q1; subst q2
        exact hq a1 w1 G1 r1 t1
    | ret =>
      simp only [blockK, Pr.run] at h2
      injection h2 with h2
      injection h2 with q1 q2
      subst q1; subst q2
      exact hq a1 w1 G1 r1 t1
  | loop c ih =>
    intro s e s' G a w Q h hr hq
    simp only [exec] at h
    obtain ⟨s0, hc, h⟩ := opt_run h
    obtain ⟨G0, r0, t0⟩ := canonO_ok hT hc hr
    have h : ((loopSem (fun s => (exec cx anns inl fb c s).run) (canonO cx anns fb (firstId c)) s0).bind fun r => some r) = some (e, s') := by
      cases hl : loopSem (fun s => (exec cx anns inl fb c s).run) (canonO cx anns fb (firstId c)) s0 with
      | none => rw [hl] at h; cases h
      | some r => rw [hl] at h; exact h
    have h : loopSem (fun s => (exec cx anns inl fb c s).run) (canonO cx anns fb (firstId c)) s0 = some (e, s') := by simpa using h
    obtain ⟨n, hn⟩ := loopSem_some.1 h
    refine wp_loop_ghost (fun k a1 w1 => ∃ s1 G1, iter (fun s => (exec cx anns inl fb c s).run) (canonO cx anns fb (firstId c)) k s1 = some (e, s') ∧ RelG B F w0 fb G1 s1.env s1.mem a1 w1 ∧ TrF fb B F s.mem G w s1.mem G1 w1) n ⟨s0, G0, hn, r0, t0⟩ ?_
    rintro k a1 w1 ⟨s1, G1, hk, r1, t1⟩
    cases k with
    | zero => cases hk
    | succ k =>
      simp only [iter] at hk
      split at hk
      · rename_i s2 h2
        split at hk
        · rename_i s3 h3
          refine ih s1 .normal s2 G1 a1 w1 _ h2 r1 fun a2 w2 G2 r2 t2 => ?_
          obtain ⟨G3, r3, t3⟩ := canonO_ok hT h3 r2
          exact ⟨k, Nat.lt_succ_self k, s3, G3, hk, r3, (t1.trans t2).trans t3⟩
        · cases hk
      · rename_i r' hnot h2
        injection hk with hk
        subst hk
        refine ih s1 e s' G1 a1 w1 _ h2 r1 fun a2 w2 G2 r2 t2 => ?_
        have := hq a2 w2 G2 r2 (t1.trans t2)
        cases e with
        | normal => exact (hnot s' rfl).elim
        | exit i => exact this
        | ret => exact this
      · cases hk
  | exit i =>
    intro s e s' G a w Q h hr hq
    simp only [exec, Pr.run] at h
    injection h with h
    injection h with h1 h2
    subst h1; subst h2
    exact wp_exit (hq a w G hr TrF.refl)
  | ret =>
    intro s e s' G a w Q h hr hq
    simp only [exec, Pr.run] at h
    injection h with h
    injection h with h1 h2
    subst h1; subst h2
    exact wp_ret (hq a w G hr TrF.refl)
  | rangeFunc => intro s e s' G a w Q h; simp only [exec] at h; cases h
  | scope => intro s e s' G a w Q h; simp only [exec] at h; cases h
  | label => intro s e s' G a w Q h; simp only [exec] at h; cases h
  | goto => intro s e s' G a w Q h; simp only [exec] at h; cases h
  | refuse => intro s e s' G a w Q h; simp only [exec] at h; cases h

/-! ### Results -/
def resV : List Value → Value
  | [v] => v
  | vs => .tuple vs.toArray

variable {G : Nat → Value} {env : List AV} {m : Mem} {a : Act} {w : World}

theorem resAV_ok (hT : typesChk P cx.types = true) (hr : RelG B F w0 fb G env m a w) {r : ResultVar} {av : AV} (h : resAV cx env m r = some av) : ∃ v, (∀ f : ResultVar → Sem Value, (∀ u, f (.tmp u) = pure (a.tmps.getD u undef)) →
    (∀ b t, f (.cell b t) = (do loadVar t (← asAddr (a.tmps.getD b undef)))) → (f r).run P w = .ok v w) ∧ repA w (Frz B F m G w) m G av .one [v] := by
  cases r with
  | tmp t =>
    simp only [resAV] at h
    injection h with h
    subst h
    refine ⟨a.tmps.getD t undef, fun f hf _ => by rw [hf]; rfl, ?_⟩
    exact hr.eval (.tmp t)
  | cell b t =>
    simp only [resAV] at h
    split at h
    · rename_i bl p hp
      split at h
      · rename_i T c z ti hb hti
        split at h
        · rename_i hq
          have hft := tyFact_of hT hti
          have hv := hr.eval (.tmp b)
          rw [show ev env (.tmp b) = .ptr bl p from hp] at hv
          obtain ⟨T', c', z', g, r1, r2, r3, r4⟩ := one_ptr hv
          rw [hb] at r1
          injection r1 with r1
          injection r1 with r1 _
          injection r1 with r1 _
          subst r1
          obtain ⟨g', arr, e', k1, k2, k3, k4, k5⟩ := hr.mem.blk _ _ _ hb
          rw [r3] at k1
          injection k1 with k1
          injection k1 with k1
          injection k1 with k1
          subst k1
          obtain ⟨s1, s2⟩ := get_rep r2 k4 hq h k5
          have hlen := fits_length k4 k5
          have hoff := okP_off r2 hq
          refine ⟨ofCells ti.ty (piece arr.toList (offP p T) ti.ty.size), fun f _ hc => ?_, part_rep s1 s2⟩
          rw [hc, show a.tmps.getD b undef = _ from r4]
          simp only [asAddr, Sem.run_bind, Sem.run_pure, Result.andThen_ok]
          exact run_loadVar hft (cs := piece arr.toList (offP p T) ti.ty.size) (piece_length (by omega)) (cell_row k3)
        · cases h
      · cases h
    · cases h

theorem resAVs_ok {P : Program} {a : Act} {w : World} {G : Nat → Value} {env : List AV} {m : Mem} (hT : typesChk P cx.types = true) (hr : RelG B F w0 fb G env m a w) : ∀ {rs : List ResultVar} {l : List AV}, resAVs cx env m rs = some l → ∃ vs, (∀ f : ResultVar → Sem Value, (∀ u, f (.tmp u) = pure (a.tmps.getD u undef)) →
    (∀ b t, f (.cell b t) = (do loadVar t (← asAddr (a.tmps.getD b undef)))) → (rs.mapM f).run P w = .ok vs w) ∧ repsL w (Frz B F m G w) m G l vs
  | [], l, h => by
    injection h with h
    subst h
    exact ⟨[], fun f _ _ => by simp, rfl⟩
  | r :: rs, l, h => by
    simp only [resAVs] at h
    split at h
    · rename_i x y hx hy
      injection h with h
      subst h
      obtain ⟨v, q1, q2⟩ := resAV_ok (P := P) hT hr hx
      obtain ⟨vs, q3, q4⟩ := resAVs_ok hT hr hy
      refine ⟨v :: vs, fun f hf hc => ?_, v, vs, rfl, q2, q4⟩
      rw [List.mapM_cons]
      simp [q1 f hf hc, q3 f hf hc]
    · cases h

theorem results_ok (hT : typesChk P cx.types = true) (hr : RelG B F w0 fb G env m a w) {fn : Func} {l : List AV} (h : resAVs cx env m fn.results.toList = some l) :
    ∃ vs, (results fn a.tmps).run P w = .ok (resV vs) w ∧ repsL w (Frz B F m G w) m G l vs := by
  obtain ⟨vs, h1, h2⟩ := resAVs_ok (P := P) hT hr h
  refine ⟨vs, ?_, h2⟩
  unfold results
  rw [show fn.results = fn.results.toList.toArray by simp, List.mapM_toArray]
  simp only [Sem.run_bind, Sem.run_map]
  rw [show fn.results.toList.toArray.toList = fn.results.toList by simp, h1]
  · match vs with
    | [] => simp [resV]
    | [v] => simp [resV]
    | u :: v :: vs => simp [resV]
  · intro u; rfl
  · intro b t; rfl

theorem oneOf_rep {m : Mem} {G : Nat → Value} {w : World} : ∀ {l : List AV} {vs : List Value}, repsL w (Frz B F m G w) m G l vs → repA w (Frz B F m G w) m G (oneOf l) .one [resV vs]
  | [], _, h => by
    rw [show _ = [] from h]
    exact ⟨[], rfl, rfl⟩
  | [a], _, ⟨v, l, e, h1, h2⟩ => by
    subst e
    rw [show l = [] from h2]
    exact h1
  | a :: b :: l, _, ⟨v, l', e, h1, u, l2, e2, h2, h3⟩ => by
    subst e; subst e2
    exact ⟨_, rfl, v, _, rfl, h1, u, _, rfl, h2, chain_reps h3⟩

/-! ### Bodies that are walked into -/
theorem startEnv_rel {fn : Func} {args : List AV} {vs : List Value} (hm : MemOk B F w0 (fb + 1000000) m G w) (h : repsL w (Frz B F m G w) m G args vs) :
    RelG B F w0 fb G (startEnv fn args) m { tmps := vs.toArray ++ Array.replicate (fn.ntmps - vs.toArray.size) undef, defers := [] } w := by
  have hlen : ∀ {l : List AV} {vs : List Value}, repsL w (Frz B F m G w) m G l vs → vs.length = l.length := by
    intro l
    induction l with
    | nil => intro vs h; rw [show vs = [] from h]; rfl
    | cons a l ih =>
      rintro vs ⟨v, l', e, h1, h2⟩
      subst e
      simp [ih h2]
  have hget : ∀ {l : List AV} {vs : List Value}, repsL w (Frz B F m G w) m G l vs → ∀ i, i < l.length → repA w (Frz B F m G w) m G (l.getD i .undef) .one [vs.getD i undef] := by
    intro l
    induction l with
    | nil => intro vs h i hi; simp at hi
    | cons a l ih =>
      rintro vs ⟨v, l', e, h1, h2⟩ i hi
      subst e
      cases i with
      | zero => exact h1
      | succ i => simpa using ih h2 i (by simpa using hi)
  have hl := hlen h
  refine ⟨by simp [startEnv, hl], rfl, hm, fun i hi => ?_⟩
  simp only [startEnv]
  by_cases hlt : i < args.length
  · have := hget h i hlt
    rw [List.getD_eq_getElem?_getD, List.getElem?_append_left hlt, ← List.getD_eq_getElem?_getD]
    rw [Array.getD_eq_getD_getElem?, Array.getElem?_append_left (by simpa [hl] using hlt)]
    simpa using this
  · rw [List.getD_eq_getElem?_getD, List.getElem?_append_right (by omega)]
    have : (List.replicate (fn.ntmps - args.length) AV.undef)[i - args.length]?.getD .undef = .undef := by
      rw [List.getElem?_replicate]
      split <;> rfl
    rw [this]
    exact ⟨_, rfl⟩

theorem gather_mem {fb : Nat} {m : Mem} : ∀ {ids : List Nat} {b : Nat} {x : Cn × Bool}, look (gather m fb ids) b = some x → b ∈ ids
  | [], _, _, h => by cases h
  | i :: ids, b, x, h => by
    simp only [gather] at h
    split at h
    · simp only [look] at h
      split at h
      · rename_i e
        exact e ▸ .head _
      · exact .tail _ (gather_mem h)
    · exact .tail _ (gather_mem h)

theorem inlOf_ok (hP : P.follows .mixedOrders = true) (hT : typesChk P cx.types = true) (hS : SigsOk P cx)
    (hF : ∀ f p, look cx.inl f = some p → P.funcs[f]? = some p.1 ∧ (p.1.name == "runtime.NumGoroutine") = false) (d : Nat) : InlOk P B F w0 (inlOf cx d) := by
  induction d with
  | zero => intro f fb run h; cases h
  | succ d ih =>
    intro f fb run h
    simp only [inlOf] at h
    split at h
    · cases h
    · rename_i p hp
      split at h
      · cases h
      · rename_i c hc
        injection h with h
        subst h
        obtain ⟨h1, h2⟩ := hF f p hp
        refine ⟨⟨p.1, h1, h2, by rw [hc]; rfl⟩, fun args m ids av m' hrun G w vs hm hargs => ?_⟩
        rw [bind_run] at hrun
        obtain ⟨⟨e, s⟩, hx, hk⟩ := Option.bind_eq_some_iff.1 hrun
        have hm' : MemOk B F w0 (fb + 1000000) m G w := ⟨hm.below, hm.base, hm.blk, hm.dist, fun b x hb => by have := hm.lim b x hb; omega⟩
        refine calls_of_wp h1 hc (exec_sound hP hT hS ih c _ e s G _ w _ hx (startEnv_rel hm' hargs) fun a1 w1 G1 r1 t1 => ?_)
        have key : (match resAVs cx s.env s.mem p.1.results.toList with
            | some l => match freezeAll s.mem l (List.range l.length) with
              | some m =>
                if closed (ofL (gather m fb (ids.filter fun b => Nat.blt b fb))) [(oneOf l).settle m fb] (gather m fb (ids.filter fun b => Nat.blt b fb)) then (Pr.ret ((oneOf l).settle m fb, ofL (gather m fb (ids.filter fun b => Nat.blt b fb))) : Pr (AV × Mem)) else .fail
              | none => .fail
            | none => .fail).run = some (av, m') → a1.defers = [] ∧ ∃ v, (results p.1 a1.tmps).run P w1 = .ok v w1 ∧ ∃ G', MemOk B F w0 fb m' G' w1 ∧ TrF fb B F m G w m' G' w1 ∧ repA w1 (Frz B F m' G' w1) m' G' av .one [v] := by
          intro hk
          split at hk
          · rename_i l hl
            obtain ⟨vs', q1, q2⟩ := results_ok hT r1 hl
            split at hk
            · rename_i m2 hfz
              split at hk
              · rename_i hcl
                simp only [Pr.run] at hk
                injection hk with hk
                injection hk with e1 e2
                subst e1; subst e2
                obtain ⟨k1, k2, k3⟩ := freezeAll_ok hfz r1.mem
                obtain ⟨k4, k5⟩ := gather_ok (lim' := fb) k1 hcl fun b x hb => by
                  have := gather_mem hb
                  have := (List.mem_filter.1 this).2
                  unfold Nat.blt at this
                  exact Nat.le_of_ble_eq_true this
                refine ⟨r1.defs, _, q1, G1, k4, (t1.trans (k2.toF fun b hb hn => k3 b hn)).trans k5, ?_⟩
                exact settle_rep k1 gather_settled _ _ _ (oneOf_rep (repsL.mono k2 q2)) (closed_env hcl _ (.head _))
              · cases hk
            · cases hk
          · cases hk
        cases e with
        | normal => exact key hk
        | exit i => cases hk
        | ret => exact key hk

/-! ### Functions -/
theorem bodyAt_ok (hP : P.follows .mixedOrders = true) (hT : typesChk P cx.types = true) (hS : SigsOk P cx)
    (hF : ∀ f p, look cx.inl f = some p → P.funcs[f]? = some p.1 ∧ (p.1.name == "runtime.NumGoroutine") = false) {f : FuncId} {fn : Func} (hf : P.funcs[f]? = some fn) {rts : List Ty} {args : List AV} {r : DL rts} {vs : List Value} {Fr : Nat → Prop} {w : World}
    (h : (bodyAt cx anns fn rts args).run = some r) (ha : ∀ G, repsL w (Frz w.heap.size Fr Mem.empty G w) Mem.empty G args vs) :
    Calls P f vs.toArray w fun e w' => match e with
      | .returned v => Below w.heap.size w w' ∧ repRes w' (fun k => Fr k ∨ (w.heap.size ≤ k ∧ k < w'.heap.size)) rts r v
      | _ => False := by
  unfold bodyAt at h
  split at h
  · cases h
  · rename_i c hc
    rw [bind_run] at h
    obtain ⟨⟨e, s⟩, hx, hk⟩ := Option.bind_eq_some_iff.1 h
    have hm : MemOk w.heap.size Fr w (0 + 1000000) Mem.empty (fun _ => undef) w := ⟨Below.refl _ _, Nat.le_refl _, fun b c z hb => (by cases hb), fun b b' x y _ hb => (by cases hb), fun b x hb => (by cases hb)⟩
    refine calls_of_wp hf hc (exec_sound hP hT hS (inlOf_ok hP hT hS hF 3) c _ e s _ _ w _ hx (startEnv_rel hm (ha _)) fun a1 w1 G1 r1 t1 => ?_)
    have key : (match resAVs cx s.env s.mem fn.results.toList with
        | some l => ((toVals true rts l .ret).go s.mem []).bind fun q => .ret q.1
        | none => (.fail : Pr (DL rts))).run = some r → a1.defers = [] ∧ ∃ v, (results fn a1.tmps).run P w1 = .ok v w1 ∧ Below w.heap.size w w1 ∧ repRes w1 (fun k => Fr k ∨ (w.heap.size ≤ k ∧ k < w1.heap.size)) rts r v := by
      intro hk
      split at hk
      · rename_i l hl
        obtain ⟨vs', q1, q2⟩ := results_ok hT r1 hl
        rw [bind_run] at hk
        obtain ⟨⟨x, m2, p2⟩, h1, h2⟩ := Option.bind_eq_some_iff.1 hk
        simp only [Pr.run] at h2
        injection h2 with h2
        subst h2
        obtain ⟨y, m1, p1, k1, k2, k3, k4⟩ := toVals_some true h1 r1.mem q2
        obtain ⟨e1, e2⟩ := ret_some k1
        subst e1
        refine ⟨r1.defs, _, q1, r1.mem.below, ?_⟩
        have k5 : repArgs w1 (fun k => Fr k ∨ (w.heap.size ≤ k ∧ k < w1.heap.size)) rts y vs' := by
          refine k4.mono fun k hk => ⟨?_, rfl⟩
          unfold Reach at hk
          rw [if_pos rfl] at hk
          rcases hk with ⟨_, hk⟩ | ⟨hk1, hk2, _⟩
          · exact .inl hk
          · exact .inr ⟨hk1, hk2⟩
        match rts, y, k5 with
        | [], y, k5 => rw [show vs' = [] from k5]; exact ⟨[], rfl, rfl⟩
        | [t], y, ⟨v, l', e, h1, h2⟩ =>
          subst e
          rw [show l' = [] from h2]
          exact h1
        | t :: u :: ts, y, ⟨v, l', e, h1, u', l2, e2, h2, h3⟩ =>
          subst e; subst e2
          exact ⟨_, rfl, v, _, rfl, h1, u', _, rfl, h2, h3⟩
      · cases hk
    cases e with
    | normal => exact key hk
    | exit i => cases hk
    | ret => exact key hk

theorem valsOf_rep {m : Mem} {G : Nat → Value} {w : World} {Fr Fr' : Nat → Prop} (h : ∀ k, Fr k → Fr' k) : ∀ {ts : List Ty} {x : DL ts} {vs : List Value}, repArgs w Fr ts x vs → repsL w Fr' m G (valsOf ts x) vs
  | [], _, _, hr => hr
  | t :: ts, x, _, ⟨v, l, e, h1, h2⟩ => ⟨v, l, e, mk_val (h1.mono fun k hk => ⟨h k hk, rfl⟩), valsOf_rep h h2⟩

/-- A FUNCTION KEEPS THE CONTRACT THAT ITS BODY'S RUN IS. -/
theorem body_ok (hP : P.follows .mixedOrders = true) (hT : typesChk P cx.types = true) (hS : SigsOk P cx)
    (hF : ∀ f p, look cx.inl f = some p → P.funcs[f]? = some p.1 ∧ (p.1.name == "runtime.NumGoroutine") = false) {f : FuncId} {fn : Func} (hf : P.funcs[f]? = some fn) (hn : (fn.name == "runtime.NumGoroutine") = false) (hb : fn.body.isNone = false)
    (ats rts : List Ty) : SigOk P f ⟨ats, rts, fun xs => (body cx anns fn ats rts xs).run⟩ := by
  refine ⟨⟨fn, hf, hn, hb⟩, fun Fr xs r vs w h hFr ha => ?_⟩
  exact bodyAt_ok hP hT hS hF hf h fun G => valsOf_rep (fun k hk => .inl ⟨hFr k hk, hk⟩) ha

/-- A contract gives way to one that answers less often. -/
theorem SigOk.weaken {f : FuncId} {ats rts : List Ty} {g h : DL ats → Option (DL rts)} (hs : SigOk P f ⟨ats, rts, g⟩) (hw : ∀ x r, h x = some r → g x = some r) : SigOk P f ⟨ats, rts, h⟩ :=
  ⟨hs.1, fun Fr xs r vs w hr hFr ha => hs.2 Fr xs r vs w (hw xs r hr) hFr ha⟩
end
end Go.Refl
