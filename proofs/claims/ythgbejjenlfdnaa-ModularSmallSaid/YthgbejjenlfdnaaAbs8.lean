/-
  Cuts, lengths, new rows, append, copy.
-/
import Derived.Test.YthgbejjenlfdnaaAbs7
import Derived.Maps.AppendAt
set_option linter.unusedVariables false
set_option linter.unusedSimpArgs false
namespace Go.Refl
open Go Go.RowKit

section
variable {P : Program} {B : Nat} {F : Nat → Prop} {w0 : World} {lim : Nat} {m m' : Mem} {G : Nat → Value} {w : World} {p p' : FP} {av : AV} {cx : Cx}

/-! ### Cuts -/
def optRel (w : World) (Fr : Nat → Prop) (m : Mem) (G : Nat → Value) (o : Option AV) (v : Option Value) : Prop := match o, v with
  | none, none => True
  | some a, some u => repA w Fr m G a .one [u]
  | _, _ => False

theorem run_sliceBound {k : IntKind} {i : Int} {y : Nat} {code : BoundsCode} (h0 : 0 ≤ i) (h1 : i ≤ (y : Int)) : (Instr.sliceBound (.int k i) y code).run P w = .ok i.toNat w := by
  simp [Instr.sliceBound, asIntOf, h0, h1]

theorem low_some {hh : Nat} {lo : Option AV} {vlo : Option Value} {k : Nat → Eff AV} {r : AV × Mem × FP} (hlo : optRel w (Frz B F m G w) m G lo vlo) (h : ((cutLow hh lo k).go m p).run = some r) :
    ∃ l, (∀ code, (match vlo with
        | some v => Instr.sliceBound v hh code
        | none => pure 0 : Sem Nat).run P w = .ok l w) ∧ l ≤ hh ∧ (lo = none → l = 0) ∧ ((k l).go m p).run = some r := by
  unfold cutLow at h
  split at h
  · cases vlo with
    | some _ => exact hlo.elim
    | none => exact ⟨0, fun _ => rfl, Nat.zero_le _, fun _ => rfl, h⟩
  · rename_i kk i
    cases vlo with
    | none => exact hlo.elim
    | some v =>
      have := one_int (m := m) (G := G) hlo
      subst this
      replace h := tst_some h; rcases h with ⟨hc, h⟩ | ⟨_, h⟩
      · simp only [Bool.and_eq_true, decide_eq_true_eq] at hc
        exact ⟨_, fun _ => run_sliceBound hc.1 hc.2, Int.toNat_le.2 hc.2, fun e => (by cases e), h⟩
      · exact (fail_some h).elim
  · exact (fail_some h).elim

theorem high_some {mm n : Nat} {hi : Option AV} {vhi : Option Value} {o : Bool} {k : Nat → Eff AV} {r : AV × Mem × FP} (hhi : optRel w (Frz B F m G w) m G hi vhi) (h : ((cutHigh mm n hi o k).go m p).run = some r) :
    (hi = none ∧ vhi = none ∧ o = true ∧ ((k n).go m p).run = some r) ∨
    ∃ kk i, hi ≠ none ∧ vhi = some (.int kk i) ∧ 0 ≤ i ∧ i ≤ (mm : Int) ∧ ((k i.toNat).go m p).run = some r := by
  unfold cutHigh at h
  split at h
  · cases vhi with
    | some _ => exact hhi.elim
    | none =>
      split at h
      · exact .inl ⟨rfl, rfl, rfl, h⟩
      · exact (fail_some h).elim
  · rename_i kk i
    cases vhi with
    | none => exact hhi.elim
    | some v =>
      have := one_int (m := m) (G := G) hhi
      subst this
      replace h := tst_some h; rcases h with ⟨hc, h⟩ | ⟨_, h⟩
      · simp only [Bool.and_eq_true, decide_eq_true_eq] at hc
        exact .inr ⟨_, _, by simp, rfl, hc.1, hc.2, h⟩
      · exact (fail_some h).elim
  · exact (fail_some h).elim

theorem cut_some {n cap : Nat} {lo hi mx : Option AV} {vlo vhi vmx : Option Value} {k : Nat → Nat → Eff AV} {r : AV × Mem × FP} (hn : n ≤ cap) (isS : Bool) (hlo : optRel w (Frz B F m G w) m G lo vlo) (hhi : optRel w (Frz B F m G w) m G hi vhi) (hmx : optRel w (Frz B F m G w) m G mx vmx)
    (h : ((cutOp n lo hi mx k).go m p).run = some r) : ∃ l hh mm, (Instr.sliceBounds isS n cap vlo vhi vmx).run P w = .ok (l, hh, mm) w ∧ l ≤ hh ∧ hh ≤ n ∧ hh ≤ mm ∧ mm ≤ cap ∧ (lo = none → l = 0) ∧ (hi = none → hh = n) ∧ ((k l hh).go m p).run = some r := by
  unfold cutOp at h
  split at h
  · cases vmx with
    | some _ => exact hmx.elim
    | none =>
      replace h := high_some hhi h; rcases h with ⟨e1, e2, _, h⟩ | ⟨kk, i, e1, e2, h0, h1, h⟩
      · subst e1; subst e2
        obtain ⟨l, q1, q2, q3, q4⟩ := low_some (P := P) hlo h
        refine ⟨l, n, cap, ?_, q2, Nat.le_refl _, hn, Nat.le_refl _, q3, fun _ => rfl, q4⟩
        have q1 := q1 .sliceB
        cases vlo with
        | none => simp only [Instr.sliceBounds, Sem.run_bind, Sem.run_pure, Result.andThen_ok, Option.isSome_none, Bool.false_eq_true, if_false] at q1 ⊢; injection q1 with q1; rw [q1]
        | some v => simp only [Instr.sliceBounds, Sem.run_bind, Sem.run_pure, Result.andThen_ok, Option.isSome_none, Bool.false_eq_true, if_false] at q1 ⊢; rw [q1]; rfl
      · subst e2
        obtain ⟨l, q1, q2, q3, q4⟩ := low_some (P := P) hlo h
        have hle : i.toNat ≤ n := Int.toNat_le.2 h1
        refine ⟨l, i.toNat, cap, ?_, q2, hle, by omega, Nat.le_refl _, q3, fun e => (e1 e).elim, q4⟩
        have hb : ∀ code, (Instr.sliceBound (.int kk i) cap code).run P w = .ok i.toNat w := fun code => run_sliceBound h0 (Int.le_trans h1 (by omega))
        have q1 := q1 .sliceB
        cases vlo with
        | none => simp only [Instr.sliceBounds, Sem.run_bind, Sem.run_pure, Result.andThen_ok, hb, Option.isSome_none, Bool.false_eq_true, if_false] at q1 ⊢; injection q1 with q1; rw [q1]
        | some v => simp only [Instr.sliceBounds, Sem.run_bind, Sem.run_pure, Result.andThen_ok, hb, Option.isSome_none, Bool.false_eq_true, if_false] at q1 ⊢; rw [q1]; rfl
  · rename_i km im
    cases vmx with
    | none => exact hmx.elim
    | some v =>
      have := one_int (m := m) (G := G) hmx
      subst this
      replace h := tst_some h; rcases h with ⟨hc, h⟩ | ⟨_, h⟩
      · simp only [Bool.and_eq_true, decide_eq_true_eq] at hc
        have hin : im.toNat ≤ n := Int.toNat_le.2 hc.2
        have hbm : ∀ code, (Instr.sliceBound (.int km im) cap code).run P w = .ok im.toNat w := fun code => run_sliceBound hc.1 (Int.le_trans (show im ≤ (n : Int) from hc.2) (by omega))
        replace h := high_some hhi h; rcases h with ⟨_, _, e3, h⟩ | ⟨kk, i, e1, e2, h0, h1, h⟩
        · cases e3
        · subst e2
          obtain ⟨l, q1, q2, q3, q4⟩ := low_some (P := P) hlo h
          have hle : i.toNat ≤ im.toNat := Int.toNat_le.2 h1
          refine ⟨l, i.toNat, im.toNat, ?_, q2, by omega, hle, by omega, q3, fun e => (e1 e).elim, q4⟩
          have hb : ∀ code, (Instr.sliceBound (.int kk i) im.toNat code).run P w = .ok i.toNat w := fun code => run_sliceBound h0 h1
          have q1 := q1 .slice3C
          cases vlo with
          | none => simp only [Instr.sliceBounds, Sem.run_bind, Sem.run_pure, Result.andThen_ok, hb, hbm, Option.isSome_some, if_true] at q1 ⊢; injection q1 with q1; rw [q1]
          | some v => simp only [Instr.sliceBounds, Sem.run_bind, Sem.run_pure, Result.andThen_ok, hb, hbm, Option.isSome_some, if_true] at q1 ⊢; rw [q1]; rfl
      · exact (fail_some h).elim
  · exact (fail_some h).elim

theorem cutList_eq {α : Type} {lo hi : Bool} {l : List α} {a b : Nat} (hlo : lo = false → a = 0) (hhi : hi = false → b = l.length) : cutList lo hi l a b = (l.take b).drop a := by
  cases lo <;> cases hi <;> simp [cutList] at *
  · subst hlo; subst hhi; simp
  · subst hlo; simp
  · subst hhi; simp

/-- A cut of a list that lies in rows. -/
theorem rep_cut {Fr : Nat → Prop} {u : Ty} {l : List u.D} {A : Option Addr} {cells : List Value} (h1 : RepL (RepV w Fr u) l cells) (h2 : RowAt w Fr A cells) {a b mm : Nat} (hab : a ≤ b) (hb : b ≤ l.length) (hm : b ≤ mm) :
    RepO w Fr (.sl u) ((l.take b).drop a) (.slice (if mm = a then A else A.map (·.add (a * u.size))) (b - a) (mm - a)) := by
  have hl := fun x cs => RepV.length (w := w) (Fr := Fr) u x cs
  have hr := (h1.take hl b).drop hl a
  have hlen : ((l.take b).drop a).length = b - a := by rw [List.length_drop, List.length_take]; omega
  have key := mk_sl (w := w) (Fr := Fr) (t := u) (l := (l.take b).drop a) (A := if mm = a then A else A.map (·.add (a * u.size))) (c := mm - a) (cells := (cells.take (b * u.size)).drop (a * u.size)) (by rw [hlen]; omega) hr ?_
  · rwa [hlen] at key
  · rcases h2 with h2 | ⟨ad, e, hf, hc⟩
    · left; simp [h2]
    · by_cases hab' : a = b
      · left
        apply List.drop_of_length_le
        rw [List.length_take, hab']
        exact Nat.min_le_left _ _
      · right
        rw [if_neg (by omega), e]
        refine ⟨_, rfl, by rw [add_block]; exact hf, fun j x hx => ?_⟩
        rw [add_add]
        refine hc _ x ?_
        rw [List.getElem?_drop, List.getElem?_take] at hx
        split at hx
        · exact hx
        · cases hx

theorem slice_out (hT : typesChk P cx.types = true) (hm : MemOk B F w0 lim m G w) {t : TypeId} {x : AV} {lo hi mx : Option AV} {u : Value} {vlo vhi vmx : Option Value} (hx : repA w (Frz B F m G w) m G x .one [u])
    (hlo : optRel w (Frz B F m G w) m G lo vlo) (hhi : optRel w (Frz B F m G w) m G hi vhi) (hmx : optRel w (Frz B F m G w) m G mx vmx)
    (h : ((sliceOp cx t x lo hi mx).go m p).run = some (av, m', p')) : Out P B F w0 lim m G w (Instr.sliceAt t u vlo vhi vmx) m' av := by
  unfold sliceOp at h
  split at h
  · rename_i htt
    have hu := (tyFact_of hT htt).str
    split at h
    · rename_i s
      have e1 := one_str hx
      subst e1
      cases vmx with
      | some _ => exact hmx.elim
      | none =>
        obtain ⟨l, hh, mm, h1, h2, h3, h4, h5, h6, h7, h⟩ := cut_some (P := P) (Nat.le_refl _) false hlo hhi hmx h
        obtain ⟨h1', h2'⟩ := ret_some h
        subst h1'; subst h2'
        have hsz : (⟨s.toArray⟩ : ByteArray).size = s.length := by simp [ByteArray.size]
        refine out_pure (cv := .string ((⟨s.toArray⟩ : ByteArray).extract l hh)) ?_ hm ?_
        · simp only [Instr.sliceAt, Sem.run_bind, run_underlying hu, Result.andThen_ok, Instr.slice, hsz, Option.isSome_none, Bool.false_eq_true, if_false, Sem.run_pure, h1]
        · rw [cutList_eq (fun e => h6 (by simpa using e)) (fun e => h7 (by simpa using e))]
          have : (⟨s.toArray⟩ : ByteArray).extract l hh = ⟨((s.take hh).drop l).toArray⟩ := by
            apply ByteArray.ext
            apply Array.ext'
            simp [List.extract_eq_take_drop, List.drop_take]
          rw [this]
          exact mk_str _
    · exact (fail_some h).elim
  · rename_i ue e eb htt
    obtain ⟨hu, hsz, ⟨te, hte, hte'⟩, _⟩ := (tyFact_of hT htt).sl
    have hso := (tyFact_of hT hte).sizeOf w
    rw [hte'] at hso
    have key : ∀ {A : Option Addr} {n cap l hh mm : Nat}, (Instr.sliceBounds true n cap vlo vhi vmx).run P w = .ok (l, hh, mm) w →
        (Instr.sliceAt t (.slice A n cap) vlo vhi vmx).run P w = .ok (.slice (if mm = l then A else A.map (·.add (l * ue.size))) (hh - l) (mm - l)) w := by
      intro A n cap l hh mm hb
      simp only [Instr.sliceAt, Sem.run_bind, run_underlying hu, Result.andThen_ok, Instr.slice, hb, hso, Sem.run_pure]
    split at h
    · rename_i u' l
      replace h := ite_some h; rcases h with ⟨hu1, h⟩ | ⟨_, h⟩
      · subst hu1
        obtain ⟨A, c, cells, e3, r1, r2, r3⟩ := one_sl (one_val hx)
        subst e3
        obtain ⟨lo', hh, mm, h1, h2, h3, h4, h5, h6, h7, h⟩ := cut_some (P := P) r1 true hlo hhi hmx h
        obtain ⟨h1', h2'⟩ := ret_some h
        subst h1'; subst h2'
        refine out_pure (key h1) hm ?_
        rw [cutList_eq (fun e => h6 (by simpa using e)) (fun e => h7 (by simpa using e))]
        exact mk_val (rep_cut r2 r3 h2 h3 h4)
      · exact (fail_some h).elim
    · rename_i u' l
      replace h := ite_some h; rcases h with ⟨hu1, h⟩ | ⟨_, h⟩
      · subst hu1
        obtain ⟨A, c, cells, e3, r1, r2, r3⟩ := one_sl (show RepO w (Frz B F m G w) (.sl ue) l u from (one_nn hx).1)
        subst e3
        obtain ⟨lo', hh, mm, h1, h2, h3, h4, h5, h6, h7, h⟩ := cut_some (P := P) r1 true hlo hhi hmx h
        obtain ⟨h1', h2'⟩ := ret_some h
        subst h1'; subst h2'
        refine out_pure (key h1) hm ?_
        rw [cutList_eq (fun e => h6 (by simpa using e)) (fun e => h7 (by simpa using e))]
        exact mk_val (rep_cut r2 r3 h2 h3 h4)
      · exact (fail_some h).elim
    · rename_i b ve
      replace h := rd_some h; obtain ⟨c, z, hc, h⟩ := h
      cases c with
      | var => exact (fail_some h).elim
      | row e1 t1 xs v1 =>
        replace h := ite_some h; rcases h with ⟨⟨hv, hu1⟩, h⟩ | ⟨_, h⟩
        · subst hv; subst hu1
          obtain ⟨ho, e3, t3, xs3, v3, z3, r1, r2, r3⟩ := one_own hx
          rw [hc] at r1
          injection r1 with r1
          injection r1 with r1 r1'
          injection r1 with s1 s2 s3 s4
          subst s1; subst s2; subst s4; subst r1'
          cases s3
          have hG := r3 rfl
          subst hG
          obtain ⟨A, c, cells, g1, g2, g3, g4⟩ := row_cells hm hc
          obtain ⟨lo', hh, mm, h1, h2, h3, h4, h5, h6, h7, h⟩ := cut_some (P := P) g2 true hlo hhi hmx h
          obtain ⟨h1', h2'⟩ := ret_some h
          subst h1'; subst h2'
          refine out_pure (by rw [g1]; exact key h1) hm ?_
          refine ⟨_, rfl, rfl, _, _, _, _, _, hc, Nat.le_refl _, fun _ => ⟨by omega, _, _, rfl, by omega, fun hne => ?_⟩⟩
          rcases g4 with g4 | ⟨g, g5, g6, g7⟩
          · have := g3.length (fun x cs => RepV.length ue x cs)
            rw [g4, List.length_nil] at this
            have := Nat.mul_pos (show 0 < xs.length by omega) hsz
            omega
          · subst g5
            refine ⟨g, _, _, g1, ?_⟩
            rw [if_neg (by omega)]
            simp [add_zero_off]
        · exact (fail_some h).elim
    · rename_i b ve l0 n
      replace h := rd_some h; obtain ⟨c, z, hc, h⟩ := h
      cases c with
      | var => exact (fail_some h).elim
      | row e1 t1 xs v1 =>
        replace h := ite_some h; rcases h with ⟨⟨hv, hu1⟩, h⟩ | ⟨_, h⟩
        · subst hv; subst hu1
          obtain ⟨ho, e3, t3, xs3, v3, z3, r1, r2, r3⟩ := one_sub hx
          rw [hc] at r1
          injection r1 with r1
          injection r1 with r1 r1'
          injection r1 with s1 s2 s3 s4
          subst s1; subst s2; subst s4; subst r1'
          cases s3
          obtain ⟨k1, A, c, k2, k3, k4⟩ := r3 rfl
          subst k2
          obtain ⟨lo', hh, mm, h1, h2, h3, h4, h5, h6, h7, h⟩ := cut_some (P := P) k3 true hlo hhi hmx h
          obtain ⟨h1', h2'⟩ := ret_some h
          subst h1'; subst h2'
          refine out_pure (key h1) hm ?_
          refine ⟨_, rfl, rfl, _, _, _, _, _, hc, Nat.le_refl _, fun _ => ⟨by omega, _, _, rfl, by omega, fun hne => ?_⟩⟩
          obtain ⟨g, nn, cap, k5, k6⟩ := k4 (by omega)
          subst k6
          refine ⟨g, _, _, k5, ?_⟩
          rw [if_neg (by omega)]
          simp [add_off, Nat.add_mul]
        · exact (fail_some h).elim
    · exact (fail_some h).elim
  · rename_i n ue e eb htt
    obtain ⟨hu, hsz, te, hte, hte'⟩ := (tyFact_of hT htt).arr
    have hso := (tyFact_of hT hte).sizeOf w
    rw [hte'] at hso
    split at h
    · rename_i b q
      replace h := rd_some h; obtain ⟨c, z, hc, h⟩ := h
      cases c with
      | row => exact (fail_some h).elim
      | var Tv cv0 =>
        replace h := ite_some h; rcases h with ⟨hq, h⟩ | ⟨_, h⟩
        · split at h
          · rename_i n' u' l hget
            obtain ⟨T', c', z', g, r1, r2, r3, r4⟩ := one_ptr hx
            rw [hc] at r1
            injection r1 with r1
            injection r1 with r1 _
            injection r1 with r1 _
            subst r1; subst r4
            obtain ⟨g', arr, e', k1, k2, k3, k4, k5⟩ := hm.blk _ _ _ hc
            rw [r3] at k1
            injection k1 with k1
            injection k1 with k1
            injection k1 with k1
            subst k1
            obtain ⟨s1, s2⟩ := get_rep r2 k4 hq hget k5
            have hnu : n = n' ∧ ue = u' := by
              rcases s2 with s2 | ⟨x, s2⟩
              · have := fits_val s2
                injection this with h1 h2
                exact ⟨h1, h2⟩
              · injection s2 with h1 h2
                injection h1 with h1 h3
                exact ⟨h1.symm, h3.symm⟩
            obtain ⟨rfl, rfl⟩ := hnu
            obtain ⟨q1, q2⟩ := (show _ ∧ _ from s1)
            obtain ⟨lo', hh, mm, h1, h2, h3, h4, h5, h6, h7, h⟩ := cut_some (P := P) (Nat.le_refl _) false hlo hhi hmx h
            replace h := fz_some h; obtain ⟨c2, z2, hc2, h⟩ := h
            obtain ⟨h1', h2'⟩ := ret_some h
            subst h1'; subst h2'
            rw [hc] at hc2
            injection hc2 with hc2
            injection hc2 with hc2 _
            subst hc2
            obtain ⟨hm1, ht1⟩ := hm.freeze hc
            refine ⟨G, w, .slice (if mm = lo' then some ⟨g, offP q Tv, none⟩ else (some ⟨g, offP q Tv, none⟩ : Option Addr).map (·.add (lo' * ue.size))) (hh - lo') (mm - lo'), ?_, hm1, ht1, ?_⟩
            · simp only [Instr.sliceAt, Sem.run_bind, run_underlying hu, Result.andThen_ok, Instr.sureAddr, Sem.run_pure, h1, hso]
              congr 2
              split <;> rfl
            · rw [cutList_eq (fun e => h6 (by simpa using e)) (fun e => (h7 (by simpa using e)).trans q1.symm)]
              refine mk_val (rep_cut (q2.mono fun x cs hx => RepV.mono (fun k hk => ⟨(ht1.fr k hk).1, rfl⟩) _ _ _ hx) (.inr ⟨_, rfl, ?_, cell_row k3⟩) h2 (by omega) h4)
              exact hm1.frz_live (b := b) (c := .var Tv cv0) (by simp [Mem.set]) (by rw [r3]; rfl)
          · exact (fail_some h).elim
        · exact (fail_some h).elim
    · exact (fail_some h).elim
  · exact (fail_some h).elim

/-! ### Lengths -/
theorem len_out (hT : typesChk P cx.types = true) (hm : MemOk B F w0 lim m G w) {t ty : TypeId} {x : AV} {u : Value} (hx : repA w (Frz B F m G w) m G x .one [u])
    (h : ((lenOp cx t x).go m p).run = some (av, m', p')) : m' = m ∧ Out P B F w0 lim m G w (Builtin.len_ #[t] ty #[u]) m' av := by
  unfold lenOp at h
  split at h
  · rename_i htt
    have hu := (tyFact_of hT htt).str
    split at h
    · rename_i s
      have e1 := one_str hx
      subst e1
      obtain ⟨h1', h2'⟩ := ret_some h
      subst h1'; subst h2'
      refine ⟨rfl, out_pure (cv := .int .i64 (s.length : Int)) ?_ hm (mk_int ..)⟩
      have hsz : (⟨s.toArray⟩ : ByteArray).size = s.length := by simp [ByteArray.size]
      simp only [Builtin.len_, List.getElem?_toArray, List.getElem?_cons_zero, Sem.run_bind, run_underlying hu, Result.andThen_ok, Sem.run_pure, hsz]
      rfl
    · exact (fail_some h).elim
  · rename_i ue e eb htt
    have hu := (tyFact_of hT htt).sl.1
    have key : ∀ (A : Option Addr) (n c : Nat), (Builtin.len_ #[t] ty #[.slice A n c]).run P w = .ok (.int .i64 (n : Int)) w := by
      intro A n c
      simp [Builtin.len_, run_underlying hu, goInt]
    split at h
    · rename_i u' l
      obtain ⟨h1', h2'⟩ := ret_some h
      subst h1'; subst h2'
      obtain ⟨A, c, cells, e3, _⟩ := one_sl (one_val hx)
      subst e3
      exact ⟨rfl, out_pure (key ..) hm (mk_int ..)⟩
    · rename_i u' l
      obtain ⟨h1', h2'⟩ := ret_some h
      subst h1'; subst h2'
      obtain ⟨A, c, cells, e3, _⟩ := one_sl (show RepO w (Frz B F m G w) (.sl u') l u from (one_nn hx).1)
      subst e3
      exact ⟨rfl, out_pure (key ..) hm (mk_int ..)⟩
    · obtain ⟨h1', h2'⟩ := ret_some h
      subst h1'; subst h2'
      have e1 := one_nil hx
      subst e1
      exact ⟨rfl, out_pure (key none 0 0) hm (mk_int ..)⟩
    · rename_i b ve
      replace h := rd_some h; obtain ⟨c, z, hc, h⟩ := h
      cases c with
      | var => exact (fail_some h).elim
      | row e1 t1 xs v1 =>
        replace h := ite_some h; rcases h with ⟨hv, h⟩ | ⟨_, h⟩
        · subst hv
          obtain ⟨h1', h2'⟩ := ret_some h
          subst h1'; subst h2'
          obtain ⟨ho, e3, t3, xs3, v3, z3, r1, r2, r3⟩ := one_own hx
          rw [hc] at r1
          injection r1 with r1
          injection r1 with r1 r1'
          injection r1 with s1 s2 s3 s4
          subst s1; subst s2; subst s4; subst r1'
          cases s3
          have hG := r3 rfl
          subst hG
          obtain ⟨A, c, cells, g1, g2, g3, g4⟩ := row_cells hm hc
          exact ⟨rfl, out_pure (by rw [g1]; exact key ..) hm (mk_int ..)⟩
        · exact (fail_some h).elim
    · rename_i b ve l0 n
      replace h := rd_some h; obtain ⟨c, z, hc, h⟩ := h
      cases c with
      | var => exact (fail_some h).elim
      | row e1 t1 xs v1 =>
        replace h := ite_some h; rcases h with ⟨hv, h⟩ | ⟨_, h⟩
        · subst hv
          obtain ⟨h1', h2'⟩ := ret_some h
          subst h1'; subst h2'
          obtain ⟨ho, e3, t3, xs3, v3, z3, r1, r2, r3⟩ := one_sub hx
          rw [hc] at r1
          injection r1 with r1
          injection r1 with r1 r1'
          injection r1 with s1 s2 s3 s4
          subst s1; subst s2; subst s4; subst r1'
          cases s3
          obtain ⟨k1, A, c, k2, k3, k4⟩ := r3 rfl
          subst k2
          exact ⟨rfl, out_pure (key ..) hm (mk_int ..)⟩
        · exact (fail_some h).elim
    · exact (fail_some h).elim
  · exact (fail_some h).elim

/-! ### New variables -/
theorem explode_fits : ∀ (t : Ty) (x : t.D), AV.fits t (explode t x) = true
  | .pair a b, x => by simp [explode, AV.fits, explode_fits a, explode_fits b]
  | .unit, _ => rfl
  | .int _, _ | .bool, _ | .str, _ | .opq, _ | .arr .., _ | .sl _, _ => by simp [explode, AV.fits]

theorem MemOk.newVar (hm : MemOk B F w0 lim m G w) {site : Nat} (hs : m site = none) (hl : site < lim) {T : Ty} {c : AV} {cells : Array Value} {e : TypeId} (hf : AV.fits T c = true) (hr : repA w (Frz B F m G w) m G c .cells cells.toList) :
    MemOk B F w0 lim (m.set site (.var T c, false)) (upd G site (.pointer (some ⟨w.heap.size, 0, none⟩))) (w.alloc (.cells cells e)) ∧
    Tr B F m G w (m.set site (.var T c, false)) (upd G site (.pointer (some ⟨w.heap.size, 0, none⟩))) (w.alloc (.cells cells e)) := by
  refine hm.step (Below.alloc (Below.refl _ _) hm.base _) (fun k hk _ => heap_alloc_old w _ k hk) (fun k hk => .inr (by simp [hdNo] at hk; omega)) (fun c z hc => by rw [hs] at hc; cases hc) hl fun htr => ?_
  exact ⟨w.heap.size, cells, e, by simp [upd], hm.base, heap_alloc_new w _, hf, repA.mono htr _ _ _ hr⟩

theorem new_ptr {site : Nat} {T : Ty} {c : AV} {z : Bool} {g : Nat} {w' : World} {Fr : Nat → Prop} : repA w' Fr (m.set site (.var T c, z)) (upd G site (.pointer (some ⟨g, 0, none⟩))) (.ptr site []) .one [.pointer (some ⟨g, 0, none⟩)] :=
  ⟨_, rfl, T, c, z, g, by simp [Mem.set], trivial, by simp [upd], rfl⟩

theorem alloc_out (hT : typesChk P cx.types = true) (hm : MemOk B F w0 lim m G w) {site : Nat} (hl : site < lim) {t : TypeId} (h : ((allocOp cx site t).go m p).run = some (av, m', p')) :
    Out P B F w0 lim m G w (Instr.alloc t true (.tuple #[])) m' av := by
  unfold allocOp at h
  split at h
  · rename_i ue e eb htt
    obtain ⟨i, z, hi, h2, h3, h4, h5⟩ := (tyFact_of hT htt).info
    replace h := nw_some h; obtain ⟨hn, h⟩ := h
    obtain ⟨h1', h2'⟩ := ret_some h
    subst h1'; subst h2'
    obtain ⟨hm1, ht1⟩ := hm.newVar (e := t) hn hl (explode_fits ue ue.zero) (explode_rep ue _ _ (zeroChk_rep ue z.cells.toList h4))
    refine ⟨_, _, _, ?_, hm1, ht1, new_ptr⟩
    simp [Instr.alloc, zeroValue, typeInfo, hi, h3, newVar, newRow]
  · exact (fail_some h).elim

theorem box_out (hm : MemOk B F w0 lim m G w) {site : Nat} (hl : site < lim) {t : TypeId} {x : AV} {u : Value} (hx : repA w (Frz B F m G w) m G x .one [u]) (h : ((boxOp cx site t x).go m p).run = some (av, m', p')) :
    Out P B F w0 lim m G w (Instr.box t u) m' av := by
  unfold boxOp at h
  split at h
  · rename_i ue e eb htt
    replace h := ite_some h; rcases h with ⟨⟨hf, hs⟩, h⟩ | ⟨_, h⟩
    · replace h := nw_some h; obtain ⟨hn, h⟩ := h
      obtain ⟨h1', h2'⟩ := ret_some h
      subst h1'; subst h2'
      obtain ⟨hm1, ht1⟩ := hm.newVar (e := t) hn hl hf (norm_rep _ _ (repA.toCells hs hx))
      refine ⟨_, _, _, ?_, hm1, ht1, new_ptr⟩
      simp [Instr.box, newVar, newRow]
    · exact (fail_some h).elim
  · exact (fail_some h).elim
end
end Go.Refl
