/-
  The run in passing style, loops by their place, and bodies that change a row of their caller's.
-/
import Derived.Test.YthgbejjenlfdnaaAbs15
set_option linter.unusedVariables false
set_option linter.unusedSimpArgs false
namespace Go.Refl
open Go Go.RowKit

section
variable {γ : Type}

def seqC (f : St → Pr γ) (K : Ex × St → Pr γ) (r : Ex × St) : Pr γ := match r.1 with
  | .normal => f r.2
  | _ => K r

def blockC (id : Nat) (K : Ex × St → Pr γ) (r : Ex × St) : Pr γ := match r.1 with
  | .exit j => if j = id then K (.normal, r.2) else K r
  | _ => K r

noncomputable def loopC (cx : Cx) (anns : List (Nat × Ann)) (inl : Inl) (fb : Nat) (c : Code) (K : Ex × St → Pr γ) (r : Ex × St) : Pr γ := match r.1 with
  | .normal => Pr.opt (canonO cx anns fb (firstId c) r.2) fun s => .ask (loopSem (fun s => (exec cx anns inl fb c s).run) (canonO cx anns fb (firstId c)) s) K
  | _ => K r

noncomputable def execP (cx : Cx) (anns : List (Nat × Ann)) (inl : Inl) (fb : Nat) : Code → St → (Ex × St → Pr γ) → Pr γ
  | .skip, s, K => K (.normal, s)
  | .region id ops draw, s, K => Pr.opt (canonO cx anns fb id s) fun s =>
      (runR cx inl s.ids fb (fb + 1024 * id) ops.toList (numbered 0 ops.toList) s.env s.mem s.kn).bind fun r => (regionK (fb + 1024 * id) s.ids ops.toList draw r).bind K
  | .seq a b, s, K => execP cx anns inl fb a s (seqC (fun s => execP cx anns inl fb b s K) K)
  | .cond c a b, s, K => match ev s.env c with
    | .val .bool t => match knows s.kn c with
      | true => match (t : Bool) with
        | true => execP cx anns inl fb a s K
        | false => execP cx anns inl fb b s K
      | false => .tst t (execP cx anns inl fb a (s.told c true) K) (execP cx anns inl fb b (s.told c false) K)
    | _ => .fail
  | .block id c, s, K => execP cx anns inl fb c s (blockC id K)
  | .loop c, s, K => Pr.opt (canonO cx anns fb (firstId c) s) fun s =>
      .ask (loopSem (fun s => (exec cx anns inl fb c s).run) (canonO cx anns fb (firstId c)) s) K
  | .exit id, s, K => K (.exit id, s)
  | .ret, s, K => K (.ret, s)
  | _, _, _ => .fail
termination_by structural c => c

variable {cx : Cx} {anns : List (Nat × Ann)} {inl : Inl} {fb : Nat}

theorem pr_opt_run {α β : Type} (o : Option α) (k : α → Pr β) : (Pr.opt o k).run = o.bind fun a => (k a).run := by cases o <;> rfl

theorem execP_run (c : Code) : ∀ (s : St) (K : Ex × St → Pr γ), (execP cx anns inl fb c s K).run = ((exec cx anns inl fb c s).bind K).run := by
  induction c with
  | region id ops draw =>
    intro s K
    simp only [execP, exec, bind_run, pr_opt_run, Option.bind_assoc]
  | seq a b iha ihb =>
    intro s K
    simp only [execP, exec]
    rw [iha, bind_run, bind_run, bind_run, Option.bind_assoc]
    congr 1
    funext r
    obtain ⟨e, s'⟩ := r
    cases e with
    | normal =>
      show (execP cx anns inl fb b s' K).run = ((exec cx anns inl fb b s').run).bind _
      rw [ihb, bind_run]
    | exit => rfl
    | ret => rfl
  | cond o a b iha ihb =>
    intro s K
    simp only [execP, exec]
    split
    · rename_i t ht
      rw [ht]
      change Bool at t
      simp only
      generalize knows s.kn o = q
      cases q with
      | true =>
        cases t
        · exact ihb s K
        · exact iha s K
      | false =>
        show (if t = true then (execP cx anns inl fb a (s.told o true) K).run else (execP cx anns inl fb b (s.told o false) K).run) = ((Pr.tst t (exec cx anns inl fb a (s.told o true)) (exec cx anns inl fb b (s.told o false))).bind K).run
        rw [iha, ihb]
        rfl
    · rename_i hno
      split
      · rename_i t ht
        exact (hno t ht).elim
      · rfl
  | block id c ih =>
    intro s K
    simp only [execP, exec]
    rw [ih, bind_run, bind_run, bind_run, Option.bind_assoc]
    congr 1
    funext r
    obtain ⟨e, s'⟩ := r
    cases e with
    | normal => rfl
    | exit j =>
      simp only [blockC, blockK]
      split <;> rfl
    | ret => rfl
  | loop c ih =>
    intro s K
    simp only [execP, exec]
    rw [pr_opt_run, bind_run, pr_opt_run, Option.bind_assoc]
    congr 1
    funext y
    show (loopSem _ _ y).bind (fun b => (K b).run) = ((loopSem _ _ y).bind fun b => some b).bind _
    rw [Option.bind_assoc]
    rfl
  | _ => intro s K; rfl

/-! ### Loops by their place -/
def codeAt : List Bool → Code → Code
  | [], c => c
  | false :: p, .seq a _ => codeAt p a
  | true :: p, .seq _ b => codeAt p b
  | false :: p, .cond _ a _ => codeAt p a
  | true :: p, .cond _ _ b => codeAt p b
  | false :: p, .block _ c => codeAt p c
  | false :: p, .loop c => codeAt p c
  | _, _ => .skip

def loopAt (p : List Bool) (c : Code) : Code := match codeAt p c with
  | .loop c => c
  | _ => .skip

/-- What is done behind the loop at a place. -/
noncomputable def kont (cx : Cx) (anns : List (Nat × Ann)) (inl : Inl) (fb : Nat) : List Bool → Code → (Ex × St → Pr γ) → (Ex × St → Pr γ)
  | [], _, K => K
  | false :: p, .seq a b, K => kont cx anns inl fb p a (seqC (fun s => execP cx anns inl fb b s K) K)
  | true :: p, .seq _ b, K => kont cx anns inl fb p b K
  | false :: p, .cond _ a _, K => kont cx anns inl fb p a K
  | true :: p, .cond _ _ b, K => kont cx anns inl fb p b K
  | false :: p, .block id c, K => kont cx anns inl fb p c (blockC id K)
  | false :: p, .loop c, K => kont cx anns inl fb p c (loopC cx anns inl fb c K)
  | _, _, _ => fun _ => .fail

/-- The loop at a place, and all that follows it, from a state at its head. -/
noncomputable def LP (cx : Cx) (anns : List (Nat × Ann)) (inl : Inl) (fb : Nat) (code : Code) (K0 : Ex × St → Pr γ) (p : List Bool) (s : St) : Option γ :=
  (Pr.ask (loopSem (fun s => (exec cx anns inl fb (loopAt p code) s).run) (canonO cx anns fb (firstId (loopAt p code))) s) (kont cx anns inl fb p code K0)).run

theorem loop_run (c : Code) (K : Ex × St → Pr γ) (s : St) : (Pr.ask (loopSem (fun s => (exec cx anns inl fb c s).run) (canonO cx anns fb (firstId c)) s) K).run = (execP cx anns inl fb c s (loopC cx anns inl fb c K)).run := by
  rw [execP_run, bind_run]
  show (loopSem _ _ s).bind (fun b => (K b).run) = _
  rw [loopSem_eq, Option.bind_assoc]
  congr 1
  funext r
  obtain ⟨e, s'⟩ := r
  cases e with
  | normal =>
    simp only [loopC]
    rw [pr_opt_run, Option.bind_assoc]
    rfl
  | exit => rfl
  | ret => rfl

/-- One round. -/
theorem LP_eq (code : Code) (K0 : Ex × St → Pr γ) (p : List Bool) (s : St) :
    LP cx anns inl fb code K0 p s = (execP cx anns inl fb (loopAt p code) s (loopC cx anns inl fb (loopAt p code) (kont cx anns inl fb p code K0))).run := loop_run _ _ _
end

def codeOf (fn : Func) : Code := match fn.body with
  | some c => c
  | none => .skip

/-! ### Functions by what they compute -/
/-- The pure function of a body. -/
noncomputable def Fn (cx : Cx) (anns : List (Nat × Ann)) (fn : Func) (ats rts : List Ty) (xs : DL ats) : Option (DL rts) := (body cx anns fn ats rts xs).run

noncomputable def FnAt (cx : Cx) (anns : List (Nat × Ann)) (fn : Func) (rts : List Ty) (args : List AV) : Option (DL rts) := (bodyAt cx anns fn rts args).run

theorem FnAt_eq {cx : Cx} {anns : List (Nat × Ann)} {fn : Func} {rts : List Ty} {args : List AV} (hb : fn.body.isNone = false) :
    FnAt cx anns fn rts args = (execP cx anns (inlOf cx 3) 0 (codeOf fn) ⟨startEnv fn args, Mem.empty, [], []⟩ (finish cx rts fn)).run := by
  unfold FnAt bodyAt codeOf
  cases h : fn.body with
  | none => rw [h] at hb; cases hb
  | some c => exact (execP_run c _ _).symm

theorem Fn_eq {cx : Cx} {anns : List (Nat × Ann)} {fn : Func} {ats rts : List Ty} {xs : DL ats} (hb : fn.body.isNone = false) :
    Fn cx anns fn ats rts xs = (execP cx anns (inlOf cx 3) 0 (codeOf fn) ⟨startEnv fn (valsOf ats xs), Mem.empty, [], []⟩ (finish cx rts fn)).run := FnAt_eq hb

/-- A loop of a function. -/
noncomputable def Lp (cx : Cx) (anns : List (Nat × Ann)) (fn : Func) (rts : List Ty) (p : List Bool) (s : St) : Option (DL rts) := LP cx anns (inlOf cx 3) 0 (codeOf fn) (finish cx rts fn) p s

theorem Lp_eq (cx : Cx) (anns : List (Nat × Ann)) (fn : Func) (rts : List Ty) (p : List Bool) (s : St) :
    Lp cx anns fn rts p s = (execP cx anns (inlOf cx 3) 0 (loopAt p (codeOf fn)) s (loopC cx anns (inlOf cx 3) 0 (loopAt p (codeOf fn)) (kont cx anns (inlOf cx 3) 0 p (codeOf fn) (finish cx rts fn)))).run := LP_eq _ _ _ _

/-! ### Bodies that change a row of their caller's -/
def finishM (cx : Cx) (u : Ty) (e : TypeId) (ts : List Ty) (fn : Func) (r : Ex × St) : Pr (DL ts × List u.D) :=
  match r.1 with
  | .exit _ => .fail
  | _ => match resAVs cx r.2.env r.2.mem fn.results.toList with
    | some l => if present r.2.mem 0 = true then ((toVals true ts l .ret).go r.2.mem []).bind fun q => match q.2.1 0 with
        | some (.row e' u' xs' v', _) => if v' = 0 ∧ e' = e then Pr.opt (Ty.cast (t := .sl u') (u := .sl u) xs') fun ys => .ret (q.1, ys) else .fail
        | _ => .fail
      else .fail
    | none => .fail

def startM (fn : Func) (u : Ty) (e : TypeId) (ats : List Ty) (xs : List u.D) (lo n : Nat) (x : DL ats) : St :=
  ⟨startEnv fn (.sub 0 0 lo n :: valsOf ats x), Mem.empty.set 0 (.row e u xs 0, false), [0], []⟩

noncomputable def FnM (cx : Cx) (anns : List (Nat × Ann)) (fn : Func) (u : Ty) (e : TypeId) (ats rts : List Ty) (xs : List u.D) (lo n : Nat) (x : DL ats) : Option (DL rts × List u.D) :=
  (execP cx anns (inlOf cx 3) 1 (codeOf fn) (startM fn u e ats xs lo n x) (finishM cx u e rts fn)).run

noncomputable def LpM (cx : Cx) (anns : List (Nat × Ann)) (fn : Func) (u : Ty) (e : TypeId) (rts : List Ty) (p : List Bool) (s : St) : Option (DL rts × List u.D) := LP cx anns (inlOf cx 3) 1 (codeOf fn) (finishM cx u e rts fn) p s

theorem LpM_eq (cx : Cx) (anns : List (Nat × Ann)) (fn : Func) (u : Ty) (e : TypeId) (rts : List Ty) (p : List Bool) (s : St) :
    LpM cx anns fn u e rts p s = (execP cx anns (inlOf cx 3) 1 (loopAt p (codeOf fn)) s (loopC cx anns (inlOf cx 3) 1 (loopAt p (codeOf fn)) (kont cx anns (inlOf cx 3) 1 p (codeOf fn) (finishM cx u e rts fn)))).run := LP_eq _ _ _ _

section
variable {P : Program} {cx : Cx} {anns : List (Nat × Ann)}

theorem Fn_ok (hP : P.follows .mixedOrders = true) (hT : typesChk P cx.types = true) (hS : SigsOk P cx)
    (hF : ∀ f p, look cx.inl f = some p → P.funcs[f]? = some p.1 ∧ (p.1.name == "runtime.NumGoroutine") = false) {f : FuncId} {fn : Func} (hf : P.funcs[f]? = some fn) (hn : (fn.name == "runtime.NumGoroutine") = false) (hb : fn.body.isNone = false)
    (ats rts : List Ty) : SigOk P f ⟨ats, rts, Fn cx anns fn ats rts⟩ := body_ok hP hT hS hF hf hn hb ats rts

theorem FnM_ok (hP : P.follows .mixedOrders = true) (hT : typesChk P cx.types = true) (hS : SigsOk P cx)
    (hF : ∀ f p, look cx.inl f = some p → P.funcs[f]? = some p.1 ∧ (p.1.name == "runtime.NumGoroutine") = false) {f : FuncId} {fn : Func} (hf : P.funcs[f]? = some fn) (hn : (fn.name == "runtime.NumGoroutine") = false) (hb : fn.body.isNone = false)
    (u : Ty) (e : TypeId) (ats rts : List Ty) (hu : u.rows = false) (hr : rts.any Ty.rows = false) (hu0 : 0 < u.size) : SigMOk P f ⟨u, e, ats, rts, FnM cx anns fn u e ats rts⟩ := by
  refine ⟨⟨fn, hf, hn, hb⟩, hu, hr, hu0, fun Fr xs ys lo n x r hv sv vs cells w h hFr hown hrep hcut hargs => ?_⟩
  obtain ⟨c, hc⟩ : ∃ c, fn.body = some c := by
    cases hh : fn.body with
    | none => rw [hh] at hb; cases hb
    | some c => exact ⟨c, rfl⟩
  have hcode : codeOf fn = c := by unfold codeOf; rw [hc]
  replace h : (execP cx anns (inlOf cx 3) 1 (codeOf fn) (startM fn u e ats xs lo n x) (finishM cx u e rts fn)).run = some (r, ys) := h
  rw [hcode, execP_run, bind_run] at h
  obtain ⟨⟨ex, s⟩, hx, hk⟩ := Option.bind_eq_some_iff.1 h
  -- the memory at the start
  have hlook : ∀ b x, (Mem.empty.set 0 (Cn.row e u xs 0, false)) b = some x → b = 0 ∧ x = (Cn.row e u xs 0, false) := by
    intro b x hb
    unfold Mem.set at hb
    split at hb
    · rename_i h0
      injection hb with hb
      exact ⟨h0, hb.symm⟩
    · cases hb
  have hFr0 : ∀ k, Fr k → Frz 0 Fr (Mem.empty.set 0 (Cn.row e u xs 0, false)) (fun _ => hv) w k := by
    intro k hk
    obtain ⟨k1, k2⟩ := hFr k hk
    exact .inr ⟨Nat.zero_le _, k1, fun b c hb => k2⟩
  have hm : MemOk 0 Fr w (1 + 1000000) (Mem.empty.set 0 (Cn.row e u xs 0, false)) (fun _ => hv) w := by
    refine ⟨Below.refl _ _, Nat.zero_le _, fun b c z hb => ?_, fun b b' x y hne hx hy => ?_, fun b x hb => ?_⟩
    · obtain ⟨_, hb⟩ := hlook _ _ hb
      injection hb with hb hz
      subst hb; subst hz
      exact ⟨cells, hown, hrep.mono fun x cs hx => RepV.mono (fun k hk => ⟨hFr0 k hk, rfl⟩) _ _ _ hx, hu0⟩
    · have h1 := (hlook _ _ hx).1
      have h2 := (hlook _ _ hy).1
      exact (hne (h1.trans h2.symm)).elim
    · have := (hlook _ _ hb).1
      omega
  have hargs0 : repsL w (Frz 0 Fr (Mem.empty.set 0 (Cn.row e u xs 0, false)) (fun _ => hv) w) (Mem.empty.set 0 (Cn.row e u xs 0, false)) (fun _ => hv) (.sub 0 0 lo n :: valsOf ats x) (sv :: vs) := by
    obtain ⟨k1, A, cp, k2, k3, k4⟩ := hcut
    refine ⟨sv, vs, rfl, ⟨sv, rfl, by rw [k2]; rfl, e, u, xs, 0, false, by simp [Mem.set], Nat.le_refl _, fun _ => ⟨k1, A, cp, k2, k3, k4⟩⟩, valsOf_rep hFr0 hargs⟩
  refine calls_of_wp hf hc (exec_sound hP hT hS (inlOf_ok hP hT hS hF 3) c _ ex s _ _ w _ hx (startEnv_rel hm hargs0) fun a1 w1 G1 r1 t1 => ?_)
  have key : (match resAVs cx s.env s.mem fn.results.toList with
      | some l => if present s.mem 0 = true then ((toVals true rts l .ret).go s.mem []).bind fun q => match q.2.1 0 with
          | some (.row e' u' xs' v', _) => if v' = 0 ∧ e' = e then Pr.opt (Ty.cast (t := .sl u') (u := .sl u) xs') fun ys => .ret (q.1, ys) else .fail
          | _ => .fail
        else .fail
      | none => (.fail : Pr (DL rts × List u.D))).run = some (r, ys) → a1.defers = [] ∧ ∃ v, (results fn a1.tmps).run P w1 = .ok v w1 ∧ Below 0 w w1 ∧ (∀ k, k < w.heap.size → hdNo hv ≠ some k → w1.heap[k]? = w.heap[k]?) ∧
        (∃ cells', w1.ownsRow 0 e u.size hv ys.length cells' ∧ RepL (RepV w1 (fun _ => False) u) ys cells') ∧ repRes w1 (fun _ => False) rts r v := by
    intro hk
    split at hk
    · rename_i l hl
      obtain ⟨vs', q1, q2⟩ := results_ok hT r1 hl
      have hpres : present s.mem 0 = true := by
        by_cases hp : present s.mem 0 = true
        · exact hp
        · rw [if_neg hp] at hk
          cases hk
      rw [if_pos hpres, bind_run] at hk
      obtain ⟨⟨y, m2, p2⟩, h1, h2⟩ := Option.bind_eq_some_iff.1 hk
      obtain ⟨y', m1, p1, k1, k2, k3, k4⟩ := toVals_some true h1 r1.mem q2
      obtain ⟨e1, e2⟩ := ret_some k1
      subst e1; subst e2
      split at h2
      · rename_i e' u' xs' v' z' hrow
        replace hrow : m1 0 = some (Cn.row e' u' xs' v', z') := hrow
        split at h2
        · rename_i hve
          obtain ⟨hv0, he0⟩ := hve
          subst hv0; subst he0
          obtain ⟨zs, hz, h2⟩ := opt_run h2
          obtain ⟨e1, hxy⟩ := cast_rep hz
          injection e1 with e1
          subst e1
          cases hxy
          simp only [Pr.run] at h2
          injection h2 with h2
          injection h2 with h2 h3
          subst h2; subst h3
          have hG : G1 0 = hv := by
            rcases t1.blk 0 (Cn.row e' u' xs 0) false (by omega) rfl with hn | ⟨c1, z1, g1, g2, g3⟩
            · rw [present, hn] at hpres
              cases hpres
            · have hc1 : ∃ c2 z2, m1 0 = some (c2, z2) ∧ compat c1 c2 := by
                obtain ⟨c2, z2, g4, g5, _⟩ := k3.blk 0 c1 z1 g1
                exact ⟨c2, z2, g4, g5⟩
              obtain ⟨c2, z2, g4, g5⟩ := hc1
              rw [hrow] at g4
              injection g4 with g4
              injection g4 with g4 _
              subst g4
              refine g3 ?_
              cases c1 with
              | var => exact g2.elim
              | row e1 t1' x1 v1 =>
                obtain ⟨_, _, g6, _⟩ := g5
                show (0 : Nat) = v1
                omega
          obtain ⟨cells', r1', r2', _⟩ := k2.blk _ _ _ hrow
          rw [hG] at r1'
          refine ⟨r1.defs, _, q1, r1.mem.below, fun k hk1 hk2 => (t1.fr k (.inr ⟨Nat.zero_le _, hk1, fun b c hb => hk2⟩)).2, ⟨cells', r1', r2'.mono fun x cs hx => RepV.norows _ _ _ hu hx⟩, ?_⟩
          have k5 : repRes w1 (Reach true 0 Fr m1 G1 w1) rts y' (resV vs') := by
            match rts, y', k4 with
            | [], y, k4 => rw [show vs' = [] from k4]; exact ⟨[], rfl, rfl⟩
            | [t], y, ⟨v, l', e, h1, h2⟩ =>
              subst e
              rw [show l' = [] from h2]
              exact h1
            | t :: u :: ts, y, ⟨v, l', e, h1, u', l2, e2, h2, h3⟩ =>
              subst e; subst e2
              exact ⟨_, rfl, v, _, rfl, h1, u', _, rfl, h2, h3⟩
          exact k5.norows hr
        · cases h2
      · cases h2
    · cases hk
  cases ex with
  | normal => exact key hk
  | exit i => cases hk
  | ret => exact key hk

/-! ### Bodies whose result is a row of their own -/
def finishN (cx : Cx) (u : Ty) (e : TypeId) (fn : Func) (r : Ex × St) : Pr (List u.D) :=
  match r.1 with
  | .exit _ => .fail
  | _ => match resAVs cx r.2.env r.2.mem fn.results.toList with
    | some [.own b v] => match r.2.mem b with
      | some (.row e' u' xs v', _) => if v = v' ∧ e' = e then Pr.opt (Ty.cast (t := .sl u') (u := .sl u) xs) .ret else .fail
      | _ => .fail
    | _ => .fail

noncomputable def FnN (cx : Cx) (anns : List (Nat × Ann)) (fn : Func) (u : Ty) (e : TypeId) (ats : List Ty) (xs : DL ats) : Option (List u.D) :=
  (execP cx anns (inlOf cx 3) 0 (codeOf fn) ⟨startEnv fn (valsOf ats xs), Mem.empty, [], []⟩ (finishN cx u e fn)).run

noncomputable def LpN (cx : Cx) (anns : List (Nat × Ann)) (fn : Func) (u : Ty) (e : TypeId) (p : List Bool) (s : St) : Option (List u.D) := LP cx anns (inlOf cx 3) 0 (codeOf fn) (finishN cx u e fn) p s

theorem LpN_eq (cx : Cx) (anns : List (Nat × Ann)) (fn : Func) (u : Ty) (e : TypeId) (p : List Bool) (s : St) :
    LpN cx anns fn u e p s = (execP cx anns (inlOf cx 3) 0 (loopAt p (codeOf fn)) s (loopC cx anns (inlOf cx 3) 0 (loopAt p (codeOf fn)) (kont cx anns (inlOf cx 3) 0 p (codeOf fn) (finishN cx u e fn)))).run := LP_eq _ _ _ _

theorem FnN_ok (hP : P.follows .mixedOrders = true) (hT : typesChk P cx.types = true) (hS : SigsOk P cx)
    (hF : ∀ f p, look cx.inl f = some p → P.funcs[f]? = some p.1 ∧ (p.1.name == "runtime.NumGoroutine") = false) {f : FuncId} {fn : Func} (hf : P.funcs[f]? = some fn) (hn : (fn.name == "runtime.NumGoroutine") = false) (hb : fn.body.isNone = false)
    (u : Ty) (e : TypeId) (ats : List Ty) (hu : u.rows = false) (hu0 : 0 < u.size) (hsz : fn.results.size = 1) : SigNOk P f ⟨u, e, ats, FnN cx anns fn u e ats⟩ := by
  refine ⟨⟨fn, hf, hn, hb⟩, hu, hu0, fun Fr xs ys vs w h hFr hargs => ?_⟩
  obtain ⟨c, hc⟩ : ∃ c, fn.body = some c := by
    cases hh : fn.body with
    | none => rw [hh] at hb; cases hb
    | some c => exact ⟨c, rfl⟩
  have hcode : codeOf fn = c := by unfold codeOf; rw [hc]
  replace h : (execP cx anns (inlOf cx 3) 0 (codeOf fn) ⟨startEnv fn (valsOf ats xs), Mem.empty, [], []⟩ (finishN cx u e fn)).run = some ys := h
  rw [hcode, execP_run, bind_run] at h
  obtain ⟨⟨ex, s⟩, hx, hk⟩ := Option.bind_eq_some_iff.1 h
  have hm : MemOk w.heap.size Fr w (0 + 1000000) Mem.empty (fun _ => undef) w := ⟨Below.refl _ _, Nat.le_refl _, fun b c z hb => (by cases hb), fun b b' x y _ hb => (by cases hb), fun b x hb => (by cases hb)⟩
  refine calls_of_wp hf hc (exec_sound hP hT hS (inlOf_ok hP hT hS hF 3) c _ ex s _ _ w _ hx (startEnv_rel hm (valsOf_rep (fun k hk => .inl ⟨hFr k hk, hk⟩) hargs)) fun a1 w1 G1 r1 t1 => ?_)
  have key : (match resAVs cx s.env s.mem fn.results.toList with
      | some [.own b v] => match s.mem b with
        | some (.row e' u' xs v', _) => if v = v' ∧ e' = e then Pr.opt (Ty.cast (t := .sl u') (u := .sl u) xs) .ret else .fail
        | _ => .fail
      | _ => (.fail : Pr (List u.D))).run = some ys → a1.defers = [] ∧ ∃ v, (results fn a1.tmps).run P w1 = .ok v w1 ∧ Below w.heap.size w w1 ∧ ∃ cells, w1.ownsRow w.heap.size e u.size v ys.length cells ∧ RepL (RepV w1 (fun _ => False) u) ys cells := by
    intro hk
    split at hk
    · rename_i b v hl
      obtain ⟨vs', q1, q2⟩ := results_ok hT r1 hl
      obtain ⟨v0, vs2, e0, hv0, hvs⟩ := q2
      subst e0
      rw [show vs2 = [] from hvs] at q1
      split at hk
      · rename_i e' u' xs' v' z' hrow
        split at hk
        · rename_i hve
          obtain ⟨hvv, he0⟩ := hve
          subst hvv; subst he0
          obtain ⟨zs, hz, hk⟩ := opt_run hk
          obtain ⟨e1, hxy⟩ := cast_rep hz
          injection e1 with e1
          subst e1
          cases hxy
          simp only [Pr.run] at hk
          injection hk with hk
          subst hk
          obtain ⟨h0, e2, t2, xs2, v2, z2, k1, k2, k3⟩ := one_own hv0
          rw [hrow] at k1
          injection k1 with k1
          injection k1 with k1 k1'
          injection k1 with s1 s2 s3 s4
          subst s1; subst s2; subst s4; subst k1'
          cases s3
          have hg := k3 rfl
          subst hg
          obtain ⟨cells, o1, o2, _⟩ := r1.mem.blk _ _ _ hrow
          exact ⟨r1.defs, _, q1, r1.mem.below, cells, o1, o2.mono fun x cs hx => RepV.norows _ _ _ hu hx⟩
        · cases hk
      · cases hk
    · cases hk
  cases ex with
  | normal => exact key hk
  | exit i => cases hk
  | ret => exact key hk
end
end Go.Refl
