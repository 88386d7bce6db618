/-
  Every operation that the abstract run takes does on the machine what the abstract run says.
-/
import Derived.Test.YthgbejjenlfdnaaAbs10
set_option linter.unusedVariables false
set_option linter.unusedSimpArgs false
namespace Go.Refl
open Go Go.RowKit

section
variable (P : Program) (B : Nat) (F : Nat → Prop) (w0 : World) (lim : Nat) (m : Mem) (G : Nat → Value) (w : World)
/-- What an operation hands on. -/
def Gives (o : Oper) (a : Act) (m' : Mem) (av : AV) : Prop :=
  ∀ (next : Act → World → Prop) (Q : Exit → Act → World → Prop),
    (∀ G' w' cv, MemOk B F w0 lim m' G' w' → Tr B F m G w m' G' w' → repA w' (Frz B F m' G' w') m' G' av .one [cv] → next (a.put o.dst cv) w') → o.wp P a w next Q
end

section
variable {P : Program} {B : Nat} {F : Nat → Prop} {w0 : World} {lim : Nat} {m m' : Mem} {G : Nat → Value} {w : World} {p p' : FP} {av : AV} {cx : Cx} {o : Oper} {a : Act}

theorem Gives.of_out {s : Sem Value} (h : Out P B F w0 lim m G w s m' av) (he : (execOp a.eval o).run P w = (s.run P w).andThen fun v w' => .ok (.value v) w') : Gives P B F w0 lim m G w o a m' av := by
  intro next Q hn
  obtain ⟨G', w', cv, h1, h2, h3, h4⟩ := h
  unfold Oper.wp
  rw [he, h1]
  exact hn G' w' cv h2 h3 h4

theorem Gives.of_outU {s : Sem Unit} (h : OutU P B F w0 lim m G w s m') (he : (execOp a.eval o).run P w = (s.run P w).andThen fun _ w' => .ok .skip w') : Gives P B F w0 lim m G w o a m' .undef := by
  intro next Q hn
  obtain ⟨G', w', h1, h2, h3⟩ := h
  unfold Oper.wp
  rw [he, h1]
  exact hn G' w' undef h2 h3 ⟨_, rfl⟩

/-- A call that changes a live row. -/
theorem mut_core (hm : MemOk B F w0 lim m G w) {f : FuncId} {sg : MSig} (hsg : SigMOk P f sg) {b v lo n : Nat} {xs ys : List sg.u.D} (hb : m b = some (.row sg.elem sg.u xs v, false)) {x : DL sg.args} {r : DL sg.res} (hr : sg.f xs lo n x = some (r, ys))
    {sv : Value} {vs : List Value} (hcut : CutOf (G b) sg.u.size xs.length lo n sv) (hargs : repArgs w (Frz B F m G w) sg.args x vs) :
    Calls P f (sv :: vs).toArray w fun e w' => match e with
      | .returned v' => MemOk B F w0 lim (m.set b (.row sg.elem sg.u ys v, false)) G w' ∧ Tr B F m G w (m.set b (.row sg.elem sg.u ys v, false)) G w' ∧ repRes w' (Frz B F (m.set b (.row sg.elem sg.u ys v, false)) G w') sg.res r v'
      | _ => False := by
  obtain ⟨_, hn1, hn2, hn3, hok⟩ := hsg
  obtain ⟨cells, h1, h2, h3⟩ := hm.blk _ _ _ hb
  have hno : ∀ k, hdNo (G b) = some k → B ≤ k ∧ k < w.heap.size := fun k hk => (hm.blk _ _ _ hb).no hk
  have hown0 : w.ownsRow 0 sg.elem sg.u.size (G b) xs.length cells := by
    refine ⟨h1.1, ?_⟩
    rcases h1.2 with h4 | ⟨g, cap, cur, h4, h5, h6⟩
    · exact .inl h4
    · exact .inr ⟨g, cap, cur, h4, Nat.zero_le _, h6⟩
  refine (hok (Frz B F m G w) xs ys lo n x r (G b) sv vs cells w hr (fun k hk => ⟨Frz.lt hm.base hk, fun hk' => ?_⟩) hown0 h2 hcut hargs).mono fun e w' hR => ?_
  · rcases hk with ⟨k1, _⟩ | ⟨_, _, k3⟩
    · have := (hno k hk').1
      omega
    · exact k3 b _ hb hk'
  · cases e with
    | returned v' =>
      obtain ⟨q1, q2, ⟨cells', q3, q4⟩, q5⟩ := hR
      have hlen : xs.length = ys.length := by
        rcases hown0.2 with ⟨h4, h5⟩ | ⟨g, cap, cur, h4, _⟩
        · rcases q3.2 with ⟨_, h7⟩ | ⟨g', cap', cur', h6, _⟩
          · omega
          · rw [h4] at h6; cases h6
        · rcases q3.2 with ⟨h6, _⟩ | ⟨g', cap', cur', h6, _⟩
          · rw [h4] at h6; cases h6
          · rw [h4] at h6; injection h6
      have hst := hm.step (b0 := b) (c0 := .row sg.elem sg.u ys v) (z0 := false) (g0 := G b) (w' := w')
        ⟨q1.os, q1.tape, q1.output, q1.size, fun k hk => q2 k (by have := hm.base; omega) fun hk' => by have := (hno k hk').1; omega⟩
        (fun k hk hk' => q2 k hk (hk' _ hb)) (fun k hk => .inl ⟨⟨_, hb⟩, hk⟩)
        (fun c z hc => by
          rw [hb] at hc
          injection hc with hc
          injection hc with hc1 hc2
          subst hc1; subst hc2
          exact ⟨⟨rfl, rfl, Nat.le_refl _, fun _ => hlen⟩, fun _ => rfl, fun h => h⟩) (hm.lim _ _ hb)
        (fun _ => ⟨cells', by
          refine ⟨q3.1, ?_⟩
          rw [upd, if_pos rfl]
          rcases q3.2 with h4 | ⟨g, cap, cur, h4, h5, h6⟩
          · exact .inl h4
          · exact .inr ⟨g, cap, cur, h4, (hno g (by rw [h4]; rfl)).1, h6⟩, q4.mono fun x cs hx => RepV.norows _ _ _ hn1 hx, h3⟩)
      rw [upd_self] at hst
      exact ⟨hst.1, hst.2, q5.norows hn2⟩
    | panicked c => exact hR.elim
    | outgrown => exact hR.elim

theorem call_gives (hS : SigsOk P cx) (hm : MemOk B F w0 lim m G w) {site : Nat} (hl : site < lim) {f : FuncId} {args : List AV} {vs : List Value} (hv : repsL w (Frz B F m G w) m G args vs)
    (h : ((callOp cx site f args).go m p).run = some (av, m', p')) (he : (execOp a.eval o).run P w = (callFunc f vs.toArray).run P w) : Gives P B F w0 lim m G w o a m' av := by
  intro next Q hn
  unfold callOp at h
  split at h
  · rename_i sg hsg
    obtain ⟨⟨fn, hf1, hf2, hf3⟩, hok⟩ := hS.sig f sg hsg
    obtain ⟨xs, m1, p1, h, hm1, ht1, hx⟩ := toVals_some (sg.res.any Ty.rows) h hm hv
    replace h := ask_some h; obtain ⟨r, hr, h⟩ := h
    obtain ⟨h1', h2'⟩ := ret_some h
    subst h1'; subst h2'
    have hc := hok _ xs r vs w hr (fun k hk => by
      unfold Reach at hk
      split at hk
      · exact Frz.lt hm1.base hk
      · exact hk) hx
    unfold Oper.wp
    have hrun : (callFunc f vs.toArray).run P w = .ok (.enter f vs.toArray) w := by
      simp only [callFunc, Sem.run_bind, run_program, Result.andThen_ok, hf1, hf2, hf3, Bool.false_eq_true, if_false, Sem.run_pure]
    rw [he, hrun]
    refine hc.mono fun e w' hR => ?_
    cases e with
    | returned v =>
      obtain ⟨hb, hres⟩ := hR
      obtain ⟨hm2, ht2⟩ := hm1.grown hb
      refine hn G w' v hm2 (ht1.trans ht2) ?_
      by_cases hz : sg.res.any Ty.rows = true
      · have : repRes w' (Frz B F m1 G w') sg.res r v := by
          have hmono : ∀ k, (Reach (sg.res.any Ty.rows) B F m1 G w k ∨ (w.heap.size ≤ k ∧ k < w'.heap.size)) → Frz B F m1 G w' k ∧ w'.heap[k]? = w'.heap[k]? := by
            rintro k (hk | ⟨hk1, hk2⟩)
            · unfold Reach at hk
              rw [if_pos hz] at hk
              exact ⟨(ht2.fr k hk).1, rfl⟩
            · refine ⟨.inr ⟨Nat.le_trans hm1.base hk1, hk2, fun b c hb hk => ?_⟩, rfl⟩
              have := ((hm1.blk _ _ _ hb).no hk).2
              omega
          have key : ∀ {ts : List Ty} {x : DL ts} {v : Value}, repRes w' (fun k => Reach (sg.res.any Ty.rows) B F m1 G w k ∨ (w.heap.size ≤ k ∧ k < w'.heap.size)) ts x v → repRes w' (Frz B F m1 G w') ts x v := by
            intro ts x v h
            match ts, x, h with
            | [], x, ⟨vs, e, hr⟩ => exact ⟨vs, e, hr.mono hmono⟩
            | [t], x, h => exact RepO.mono hmono h
            | t :: u :: ts, x, ⟨vs, e, hr⟩ => exact ⟨vs, e, hr.mono hmono⟩
          exact key hres
        exact this.toRepA
      · exact (repRes.norows (Fr' := Frz B F m1 G w') (by simpa using hz) hres).toRepA
    | panicked c => exact hR.elim
    | outgrown => exact hR.elim
  · split at h
    · rename_i sg a0 as hsg
      have hsm := hS.chg f sg hsg
      obtain ⟨fn, hf1, hf2, hf3⟩ := hsm.1
      obtain ⟨v0, vs, e0, hv0, hvs⟩ := hv
      subst e0
      replace h := toVals_some true h hm hvs
      obtain ⟨x, m1, p1, h, hm1, ht1, hx⟩ := h
      replace hx : repArgs w (Frz B F m1 G w) sg.args x vs := hx.mono fun k hk => ⟨by unfold Reach at hk; rwa [if_pos rfl] at hk, rfl⟩
      replace hv0 := repA.mono ht1 _ _ _ hv0
      have hrun : (callFunc f (v0 :: vs).toArray).run P w = .ok (.enter f (v0 :: vs).toArray) w := by
        simp only [callFunc, Sem.run_bind, run_program, Result.andThen_ok, hf1, hf2, hf3, Bool.false_eq_true, if_false, Sem.run_pure]
      have fin : ∀ {b v' lo n : Nat} {u : Ty} {e : TypeId} {xs : List u.D} {z : Bool}, m1 b = some (.row e u xs v', z) → e = sg.elem →
          ((Eff.opt (Ty.cast (t := .sl u) (u := .sl sg.u) xs) fun ys => .ask (sg.f ys lo n x) fun r => .wr b (.row e sg.u r.2 v') (.ret (resOf sg.res r.1))).go m1 ((b, 0) :: p1)).run = some (av, m', p') →
          CutOf (G b) u.size xs.length lo n v0 → o.wp P a w next Q := by
        intro b v' lo n u e xs z hb he' h hcut
        subst he'
        replace h := opt_some h
        obtain ⟨ys, hy, h⟩ := h
        obtain ⟨e, hxy⟩ := cast_rep hy
        injection e with e
        subst e
        cases hxy
        replace h := ask_some h
        obtain ⟨⟨r, zs⟩, hr, h⟩ := h
        replace h := wr_some h
        obtain ⟨c0, hc0, h⟩ := h
        obtain ⟨e1, e2⟩ := ret_some h
        subst e1; subst e2
        rw [hb] at hc0
        injection hc0 with hc0
        injection hc0 with hc0 hz
        subst hz
        unfold Oper.wp
        rw [he, hrun]
        refine (mut_core hm1 hsm hb hr hcut hx).mono fun e w' hR => ?_
        cases e with
        | returned v =>
          obtain ⟨q1, q2, q3⟩ := hR
          exact hn G w' v q1 (ht1.trans q2) q3.toRepA
        | panicked c => exact hR.elim
        | outgrown => exact hR.elim
      unfold mutOp at h
      split at h
      · rename_i b v
        replace h := rd_some h
        obtain ⟨c, z, hc, h⟩ := h
        cases c with
        | var => exact (fail_some h).elim
        | row e u xs v' =>
          replace h := ite_some h
          rcases h with ⟨⟨hvv, hee⟩, h⟩ | ⟨_, h⟩
          · obtain ⟨h0, e1, t1, xs1, v1, z1, k1, k2, k3⟩ := one_own hv0
            rw [hc] at k1
            injection k1 with k1
            injection k1 with k1 k1'
            injection k1 with s1 s2 s3 s4
            subst s1; subst s2; subst s4; subst k1'
            cases s3
            have hg := k3 hvv
            subst hvv
            have hh : ((Eff.opt (Ty.cast (t := .sl u) (u := .sl sg.u) xs) fun ys => .ask (sg.f ys 0 ys.length x) fun r => .wr b (.row e sg.u r.2 v) (.ret (resOf sg.res r.1))).go m1 ((b, 0) :: p1)).run = some (av, m', p') := h
            have hh2 : ((Eff.opt (Ty.cast (t := .sl u) (u := .sl sg.u) xs) fun ys => .ask (sg.f ys 0 xs.length x) fun r => .wr b (.row e sg.u r.2 v) (.ret (resOf sg.res r.1))).go m1 ((b, 0) :: p1)).run = some (av, m', p') := by
              obtain ⟨ys, hy, h'⟩ := opt_some hh
              obtain ⟨e', hxy⟩ := cast_rep hy
              injection e' with e'
              subst e'
              cases hxy
              rw [hy]
              exact h'
            refine fin hc hee hh2 ⟨by omega, ?_⟩
            obtain ⟨A, c, cells, g1, g2, g3, g4⟩ := row_cells hm1 hc
            rw [hg, g1]
            refine ⟨A, c, rfl, g2, fun hne => ?_⟩
            obtain ⟨cells', r1, r2, r3⟩ := hm1.blk _ _ _ hc
            rcases r1.2 with ⟨r4, r5⟩ | ⟨g, cap, cur, r4, _⟩
            · exact (hne r5).elim
            · rw [g1] at r4
              injection r4 with r4 r5 r6
              subst r4
              exact ⟨g, xs.length, c, rfl, by simp⟩
          · exact (fail_some h).elim
      · rename_i b v lo n
        replace h := rd_some h
        obtain ⟨c, z, hc, h⟩ := h
        cases c with
        | var => exact (fail_some h).elim
        | row e u xs v' =>
          replace h := ite_some h
          rcases h with ⟨⟨hvv, hee⟩, h⟩ | ⟨_, h⟩
          · obtain ⟨h0, e1, t1, xs1, v1, z1, k1, k2, k3⟩ := one_sub hv0
            rw [hc] at k1
            injection k1 with k1
            injection k1 with k1 k1'
            injection k1 with s1 s2 s3 s4
            subst s1; subst s2; subst s4; subst k1'
            cases s3
            have hg := k3 hvv
            subst hvv
            exact fin hc hee h hg
          · exact (fail_some h).elim
      · exact (fail_some h).elim
    · split at h
      · rename_i sg hsg
        obtain ⟨⟨fn, hf1, hf2, hf3⟩, hn1, hn2, hok⟩ := hS.new f sg hsg
        obtain ⟨xs, m1, p1, h, hm1, ht1, hx⟩ := toVals_some true h hm hv
        replace h := ask_some h; obtain ⟨ys, hr, h⟩ := h
        replace h := nw_some h; obtain ⟨hnone, h⟩ := h
        obtain ⟨h1', h2'⟩ := ret_some h
        subst h1'; subst h2'
        replace hx : repArgs w (Frz B F m1 G w) sg.args xs vs := hx.mono fun k hk => ⟨by unfold Reach at hk; rwa [if_pos rfl] at hk, rfl⟩
        have hc := hok _ xs ys vs w hr (fun k hk => Frz.lt hm1.base hk) hx
        unfold Oper.wp
        have hrun : (callFunc f vs.toArray).run P w = .ok (.enter f vs.toArray) w := by
          simp only [callFunc, Sem.run_bind, run_program, Result.andThen_ok, hf1, hf2, hf3, Bool.false_eq_true, if_false, Sem.run_pure]
        rw [he, hrun]
        refine hc.mono fun e w' hR => ?_
        cases e with
        | returned v =>
          obtain ⟨hbl, cells, q2, q3⟩ := hR
          have hno : hdNo v = v.ownBlock ∧ v.oneCell' = true := by
            rcases q2.2 with ⟨rfl, _⟩ | ⟨g, cap, cur, rfl, _⟩ <;> exact ⟨rfl, rfl⟩
          have hnum : ∀ k, hdNo v = some k → w.heap.size ≤ k := by
            intro k hk
            rcases q2.2 with ⟨e1, _⟩ | ⟨g, cap, cur, e1, e2, _⟩
            · rw [e1] at hk; cases hk
            · rw [e1] at hk
              have hk' : g = k := by injection hk
              omega
          have hst := hm1.step (b0 := site) (c0 := .row sg.elem sg.u ys 0) (z0 := false) (g0 := v) (w' := w') (hbl.mono hm1.base) (fun k hk _ => hbl.block k hk) (fun k hk => .inr (hnum k hk)) (fun c z hc => by rw [hnone] at hc; cases hc) hl ?_
          · exact hn _ w' v hst.1 (ht1.trans hst.2) (new_own hno.2)
          · intro htr
            refine ⟨cells, ?_, q3.mono fun x cs hx => RepV.norows _ _ _ hn1 hx, hn2⟩
            have : upd G site v site = v := by simp [upd]
            rw [this]
            refine ⟨q2.1, ?_⟩
            rcases q2.2 with h4 | ⟨g, cap, cur, h4, h5, h6⟩
            · exact .inl h4
            · exact .inr ⟨g, cap, cur, h4, Nat.le_trans hm1.base h5, h6⟩
        | panicked c => exact hR.elim
        | outgrown => exact hR.elim
      · exact (fail_some h).elim

theorem target_some {ρ : AV} {args : List AV} {v : Value} {vs : List Value} {g : FuncId} {l : List AV} (h : target ρ args = some (g, l)) (hv : repA w (Frz B F m G w) m G ρ .one [v]) (ha : repsL w (Frz B F m G w) m G args vs) :
    ∃ x y : List Value, v = .func (.func g) x.toArray y.toArray ∧ repsL w (Frz B F m G w) m G l (x ++ vs ++ y) := by
  unfold target at h
  split at h
  · rename_i f first cap
    split at h
    · rename_i fl cl hf hc
      injection h with h
      injection h with h1 h2
      subst h1; subst h2
      obtain ⟨x, y, e, h1, h2⟩ := one_fn hv
      exact ⟨x, y, e, repsL.append (repsL.append (toList_reps hf h1) ha) (toList_reps hc h2)⟩
    · cases h
  · cases h

theorem run_callValue {c : Call} {f : Operand} (hc : c.callee = .value f) (ho : o.op = .call c) {x y : List Value} {g : FuncId} (hf : a.eval f = .func (.func g) x.toArray y.toArray) :
    (execOp a.eval o).run P w = (callFunc g (x ++ c.args.toList.map a.eval ++ y).toArray).run P w := by
  have e1 : x.toArray ++ c.args.map a.eval ++ y.toArray = (x ++ c.args.toList.map a.eval ++ y).toArray := by
    apply Array.ext'
    simp
  unfold execOp
  simp only [ho, resolve, hc, hf, Deferred.ofValue, Sem.run_bind, Sem.run_pure, Result.andThen_ok, invoke]
  rw [e1]

theorem op_gives (hT : typesChk P cx.types = true) (hS : SigsOk P cx) (hm : MemOk B F w0 lim m G w) {ρ : Operand → AV} {site : Nat} (hl : site < lim)
    (hρ : ∀ x ∈ o.op.operands.toList, repA w (Frz B F m G w) m G (ρ x) .one [a.eval x]) (h : ((opEff cx site ρ o.op).go m p).run = some (av, m', p')) : Gives P B F w0 lim m G w o a m' av := by
  cases ho : o.op with
  | move x =>
    rw [ho] at h hρ
    obtain ⟨h1', h2'⟩ := ret_some h
    subst h1'; subst h2'
    exact .of_out (s := pure (a.eval x)) (out_pure rfl hm (hρ x (by simp [Op.operands]))) (by simp [execOp, ho])
  | assign x =>
    rw [ho] at h hρ
    obtain ⟨h1', h2'⟩ := ret_some h
    subst h1'; subst h2'
    exact .of_out (s := pure (a.eval x)) (out_pure rfl hm (hρ x (by simp [Op.operands]))) (by simp [execOp, ho])
  | pick c x y =>
    rw [ho] at h hρ
    simp only [opEff] at h
    have hc := hρ c (by simp [Op.operands])
    have hx := hρ x (by simp [Op.operands])
    have hy := hρ y (by simp [Op.operands])
    split at h
    · rename_i t ht
      rw [ht] at hc
      have e := one_bool hc
      replace h := tst_some h; rcases h with ⟨ht1, h⟩ | ⟨ht1, h⟩
      · obtain ⟨h1', h2'⟩ := ret_some h
        subst h1'; subst h2'
        exact .of_out (s := pure (a.eval x)) (out_pure rfl hm hx) (by simp [execOp, ho, e, asBool, ht1])
      · obtain ⟨h1', h2'⟩ := ret_some h
        subst h1'; subst h2'
        exact .of_out (s := pure (a.eval y)) (out_pure rfl hm hy) (by simp [execOp, ho, e, asBool, ht1])
    · exact (fail_some h).elim
  | alloc t =>
    rw [ho] at h hρ
    exact .of_out (alloc_out hT hm hl h) (by simp [execOp, ho])
  | box t x =>
    rw [ho] at h hρ
    exact .of_out (box_out hm hl (hρ x (by simp [Op.operands])) h) (by simp [execOp, ho])
  | build t ps =>
    rw [ho] at h hρ
    have hv : repsP w (Frz B F m G w) m G (ps.toList.map fun q => (q.1, ρ q.2)) (ps.map fun q => (q.1, a.eval q.2)).toList := by
      rw [Array.toList_map]
      exact repsP_map fun q hq => hρ q.2 (by simp only [Op.operands]; simp; exact ⟨q.1, by simpa using hq⟩)
    obtain ⟨h1, h2⟩ := build_out hT hm hv h
    subst h1
    exact .of_out h2 (by simp [execOp, ho])
  | buildSlice t len ps =>
    rw [ho] at h hρ
    have hv : repsP w (Frz B F m G w) m G (ps.toList.map fun q => (q.1, ρ q.2)) (ps.map fun q => (q.1, a.eval q.2)).toList := by
      rw [Array.toList_map]
      exact repsP_map fun q hq => hρ q.2 (by simp only [Op.operands]; simp; exact ⟨q.1, by simpa using hq⟩)
    exact .of_out (buildSlice_out hT hm hl hv h) (by simp [execOp, ho])
  | load t x =>
    rw [ho] at h hρ
    obtain ⟨h1, h2⟩ := load_out hT hm (hρ x (by simp [Op.operands])) h
    subst h1
    exact .of_out h2 (by simp [execOp, ho])
  | store t x y =>
    rw [ho] at h hρ
    obtain ⟨h1, h2⟩ := store_out hT hm (hρ x (by simp [Op.operands])) (hρ y (by simp [Op.operands])) h
    subst h1
    exact .of_outU h2 (by simp [execOp, ho])
  | nilCheck x =>
    rw [ho] at h hρ
    have hx := hρ x (by simp [Op.operands])
    simp only [opEff] at h
    split at h
    · rename_i b q hb
      rw [hb] at hx
      obtain ⟨h1', h2'⟩ := ret_some h
      subst h1'; subst h2'
      obtain ⟨T, c, z, g, r1, r2, r3, r4⟩ := one_ptr hx
      exact .of_out (s := pure (a.eval x)) (out_pure rfl hm hx) (by simp [execOp, ho, r4])
    · rename_i b ve i q hb
      rw [hb] at hx
      replace h := rd_some h; obtain ⟨c, z, hc, h⟩ := h
      cases c with
      | var => exact (fail_some h).elim
      | row e1 t1 xs1 v1 =>
        replace h := ite_some h; rcases h with ⟨hv, h⟩ | ⟨_, h⟩
        · obtain ⟨h1', h2'⟩ := ret_some h
          subst h1'; subst h2'
          obtain ⟨ho1, e, t, xs, v', z, r1, r2, r3, r4⟩ := one_rptr hx
          rw [hc] at r1
          injection r1 with r1
          injection r1 with r1 r1'
          injection r1 with s1 s2 s3 s4
          obtain ⟨k1, g, n, cap, k2, k3⟩ := r4 (hv.trans s4)
          exact .of_out (s := pure (a.eval x)) (out_pure rfl hm hx) (by simp [execOp, ho, k3])
        · exact (fail_some h).elim
    · rename_i t y hb
      rw [hb] at hx
      obtain ⟨h1', h2'⟩ := ret_some h
      subst h1'; subst h2'
      obtain ⟨ad, e, _⟩ := one_ref hx
      exact .of_out (s := pure (a.eval x)) (out_pure rfl hm hx) (by simp [execOp, ho, e])
    · exact (fail_some h).elim
  | binOp op t x y t' =>
    rw [ho] at h hρ
    obtain ⟨h1, h2⟩ := binop_out (ox := x) (oy := y) hT hm (hρ x (by simp [Op.operands])) (hρ y (by simp [Op.operands])) h
    subst h1
    exact .of_out h2 (by simp [execOp, ho]; cases (eqGuard op t x y (a.eval x) (a.eval y)).run P w <;> rfl)
  | unOp op t x =>
    rw [ho] at h hρ
    obtain ⟨h1, h2⟩ := unop_out (P := P) hm (hρ x (by simp [Op.operands])) h
    subst h1
    exact .of_out h2 (by simp [execOp, ho])
  | convert src dst x =>
    rw [ho] at h hρ
    obtain ⟨h1, h2⟩ := convOp_out hT hm (hρ x (by simp [Op.operands])) h
    subst h1
    exact .of_out h2 (by simp [execOp, ho])
  | makeFunc fn first cap =>
    rw [ho] at h hρ
    cases fn with
    | func f =>
      simp only [opEff] at h
      obtain ⟨h1', h2'⟩ := ret_some h
      subst h1'; subst h2'
      refine .of_out (s := Instr.makeFunc (.func f) (first.map a.eval) (cap.map a.eval)) (out_pure (cv := .func (.func f) (first.toList.map a.eval).toArray (cap.toList.map a.eval).toArray) ?_ hm ⟨_, _, rfl, ?_, ?_⟩) (by simp [execOp, ho])
      · have e1 : ∀ l : Array Operand, (l.toList.map a.eval).toArray = l.map a.eval := fun l => by apply Array.ext'; simp
        rw [e1, e1]
        rfl
      · exact chain_reps (reps_map fun y hy => hρ y (by simp [Op.operands]; exact .inl (by simpa using hy)))
      · exact chain_reps (reps_map fun y hy => hρ y (by simp [Op.operands]; exact .inr (by simpa using hy)))
    | _ => exact (fail_some h).elim
  | makeSlice t l c =>
    rw [ho] at h hρ
    exact .of_out (makeSlice_out hT hm hl (hρ l (by simp [Op.operands])) (hρ c (by simp [Op.operands])) h) (by simp [execOp, ho])
  | slice t x lo hi mx =>
    rw [ho] at h hρ
    refine .of_out (slice_out hT hm (vlo := lo.map a.eval) (vhi := hi.map a.eval) (vmx := mx.map a.eval) (hρ x (by simp [Op.operands])) ?_ ?_ ?_ h) (by simp [execOp, ho])
    · cases lo with
      | none => exact trivial
      | some y => exact hρ y (by simp [Op.operands])
    · cases hi with
      | none => exact trivial
      | some y => exact hρ y (by simp [Op.operands])
    · cases mx with
      | none => exact trivial
      | some y => exact hρ y (by simp [Op.operands])
  | fieldAddr t x f =>
    rw [ho] at h hρ
    obtain ⟨h1, h2⟩ := fieldAddr_out hT hm (hρ x (by simp [Op.operands])) h
    subst h1
    exact .of_out h2 (by simp [execOp, ho])
  | field t x f =>
    rw [ho] at h hρ
    obtain ⟨h1, h2⟩ := field_out hT hm (hρ x (by simp [Op.operands])) h
    subst h1
    exact .of_out h2 (by simp [execOp, ho])
  | indexAddr t x i =>
    rw [ho] at h hρ
    obtain ⟨h1, h2⟩ := indexAddr_out hT hm (hρ x (by simp [Op.operands])) (hρ i (by simp [Op.operands])) h
    subst h1
    exact .of_out h2 (by simp [execOp, ho])
  | index t x i =>
    rw [ho] at h hρ
    obtain ⟨h1, h2⟩ := index_out hT hm (hρ x (by simp [Op.operands])) (hρ i (by simp [Op.operands])) h
    subst h1
    exact .of_out h2 (by simp [execOp, ho])
  | extract x j =>
    rw [ho] at h hρ
    have hx := hρ x (by simp [Op.operands])
    simp only [opEff] at h
    split at h
    · rename_i l hb
      rw [hb] at hx
      replace h := opt_some h; obtain ⟨y, hy, h⟩ := h
      obtain ⟨h1', h2'⟩ := ret_some h
      subst h1'; subst h2'
      obtain ⟨ws, e, hc⟩ := one_tp hx
      obtain ⟨v, q1, q2⟩ := nth_chain hy hc
      refine .of_out (s := Instr.extract (a.eval x) j) (out_pure ?_ hm q2) (by simp [execOp, ho])
      simp [Instr.extract, e, q1]
    · exact (fail_some h).elim
  | call c =>
    rw [ho] at h hρ
    simp only [opEff] at h
    split at h
    · rename_i b hb
      have ha : ∀ x ∈ c.args.toList, repA w (Frz B F m G w) m G (ρ x) .one [a.eval x] := fun x hx => hρ x (by simp only [Op.operands, Call.operands, hb]; simpa using hx)
      have he : ∀ s : Sem Value, (builtin b c.argTypes o.type (c.args.map fun | .const _ => true | _ => false) (c.args.map a.eval)).run P w = (s.run P w).andThen (fun v w' => .ok (.value v) w') →
          (execOp a.eval o).run P w = (s.run P w).andThen fun v w' => .ok (.value v) w' := by
        intro s hs
        unfold execOp
        simp only [ho, resolve, hb, Sem.run_bind, Sem.run_pure, Result.andThen_ok, invoke]
        exact hs
      have ea : c.args.map a.eval = (c.args.toList.map a.eval).toArray := by apply Array.ext'; simp
      split at h
      · rename_i x t h1 h2
        rw [h1] at ha ea
        obtain ⟨h1', h2'⟩ := len_out (ty := o.type) hT hm (ha x (.head _)) h
        subst h1'
        have et : c.argTypes = #[t] := by apply Array.ext'; simpa using h2
        refine .of_out h2' (he _ ?_)
        rw [ea, et]
        simp [builtin]
      · rename_i s x t t' h1 h2
        rw [h1] at ha ea
        have et : c.argTypes = #[t, t'] := by apply Array.ext'; simpa using h2
        refine .of_out (append_out (ty := o.type) hT hm hl (ha s (.head _)) (ha x (.tail _ (.head _))) h) (he _ ?_)
        rw [ea, et]
        simp [builtin]
      · rename_i s x t t' h1 h2
        rw [h1] at ha ea
        have et : c.argTypes = #[t, t'] := by apply Array.ext'; simpa using h2
        refine .of_out (copy_out (ty := o.type) (t' := t') hT hm (ha s (.head _)) (ha x (.tail _ (.head _))) h) (he _ ?_)
        rw [ea, et]
        simp [builtin]
      · replace h := opt_some h; obtain ⟨y, hy, h⟩ := h
        obtain ⟨h1', h2'⟩ := ret_some h
        subst h1'; subst h2'
        refine .of_out (minmax_out (b := true) (ats := c.argTypes) (ty := o.type) hm (reps_map ha) hy) (he _ ?_)
        rw [ea]
        simp [builtin]
      · replace h := opt_some h; obtain ⟨y, hy, h⟩ := h
        obtain ⟨h1', h2'⟩ := ret_some h
        subst h1'; subst h2'
        refine .of_out (minmax_out (b := false) (ats := c.argTypes) (ty := o.type) hm (reps_map ha) hy) (he _ ?_)
        rw [ea]
        simp [builtin]
      · exact (fail_some h).elim
    · rename_i f hb
      replace h := opt_some h; obtain ⟨y, hy, h⟩ := h
      have ha : repsL w (Frz B F m G w) m G (c.args.toList.map ρ) (c.args.toList.map a.eval) := reps_map fun x hx => hρ x (by simp only [Op.operands, Call.operands, hb]; simp; exact .inr (by simpa using hx))
      obtain ⟨x, z, q1, q2⟩ := target_some hy (hρ f (by simp [Op.operands, Call.operands, hb])) ha
      exact call_gives hS hm hl q2 h (run_callValue hb ho q1)
    · exact (fail_some h).elim
  | _ => rw [ho] at h; exact (fail_some h).elim
end
end Go.Refl
