import Derived.Test.YthgbejjenlfdnaaAbs8
import Derived.Laws.Tables
/-
  New rows, literals, append, copy.
-/
set_option linter.unusedVariables false
set_option linter.unusedSimpArgs false
namespace Go.Refl
open Go Go.RowKit

section
variable {P : Program} {B : Nat} {F : Nat → Prop} {w0 : World} {lim : Nat} {m m' : Mem} {G : Nat → Value} {w : World} {p p' : FP} {av : AV} {cx : Cx}

/-! ### New rows -/
theorem MemOk.newRow (hm : MemOk B F w0 lim m G w) {site : Nat} (hs : m site = none) (hl : site < lim) {e : TypeId} {t : Ty} {xs : List t.D} {arr : Array Value} {cap : Nat} (h0 : 0 < t.size) (hn : xs.length ≤ cap) (hc : cap ≤ maxLen)
    (ha : arr.size = cap * t.size) (hr : RepL (RepV w (Frz B F m G w) t) xs (arr.toList.take (xs.length * t.size))) :
    MemOk B F w0 lim (m.set site (.row e t xs 0, false)) (upd G site (.slice (some ⟨w.heap.size, 0, none⟩) xs.length cap)) (w.alloc (.cells arr e)) ∧
    Tr B F m G w (m.set site (.row e t xs 0, false)) (upd G site (.slice (some ⟨w.heap.size, 0, none⟩) xs.length cap)) (w.alloc (.cells arr e)) := by
  refine hm.step (Below.alloc (Below.refl _ _) hm.base _) (fun k hk _ => heap_alloc_old w _ k hk) (fun k hk => .inr (by simp [hdNo] at hk; omega)) (fun c z hc => by rw [hs] at hc; cases hc) hl fun htr => ?_
  refine ⟨_, ⟨hr.length (fun x cs => RepV.length t x cs), .inr ⟨w.heap.size, cap, arr, by simp [upd], hm.base, heap_alloc_new w _, hn, hc, ha, rfl⟩⟩, hr.mono fun x cs hx => RepV.mono htr.fr _ _ _ hx, h0⟩

theorem new_own {site : Nat} {e : TypeId} {t : Ty} {xs : List t.D} {z : Bool} {v : Value} (hv : v.oneCell' = true) {w' : World} {Fr : Nat → Prop} : repA w' Fr (m.set site (.row e t xs 0, z)) (upd G site v) (.own site 0) .one [v] :=
  ⟨_, rfl, hv, e, t, xs, 0, z, by simp [Mem.set], Nat.le_refl _, fun _ => by simp [upd]⟩

/-- Rows filled with one value. -/
theorem filled_piece {z : Array Value} {k n : Nat} (hz : z.size = k) (hk : 0 < k) (i : Nat) (hi : i < n) :
    piece ((Array.range (n * k)).map fun j => z[j % z.size]!).toList (i * k) k = z.toList := by
  have hle : (i + 1) * k ≤ n * k := Nat.mul_le_mul_right _ hi
  rw [Nat.succ_mul] at hle
  apply List.ext_getElem?
  intro j
  unfold piece
  rw [List.getElem?_take]
  by_cases hj : j < k
  · rw [if_pos hj, List.getElem?_drop]
    have h1 : i * k + j < n * k := by omega
    have h2 : (i * k + j) % k = j := by rw [Nat.mul_comm, Nat.mul_add_mod, Nat.mod_eq_of_lt hj]
    have h3 : j < z.size := by omega
    simp only [Array.getElem?_toList, Array.getElem?_map, Array.getElem?_range, h1, if_true, Option.map_some, hz, h2]
    rw [getElem!_pos z j h3, getElem?_pos z j h3]
  · rw [if_neg hj]
    rw [List.getElem?_eq_none (by simp; omega)]

theorem filled_rep {Fr : Nat → Prop} {t : Ty} {z : Array Value} {n : Nat} (hz : z.size = t.size) (hk : 0 < t.size) {x : t.D} (hr : RepV w Fr t x z.toList) :
    RepL (RepV w Fr t) (List.replicate n x) ((Array.range (n * t.size)).map fun j => z[j % z.size]!).toList :=
  RepL.of_pieces (k := t.size) n _ (by simp) fun i hi => by rw [filled_piece hz hk i hi]; exact hr

theorem makeSlice_out (hT : typesChk P cx.types = true) (hm : MemOk B F w0 lim m G w) {site : Nat} (hl : site < lim) {t : TypeId} {x y : AV} {u v : Value} (hx : repA w (Frz B F m G w) m G x .one [u]) (hy : repA w (Frz B F m G w) m G y .one [v])
    (h : ((makeSliceOp cx site t x y).go m p).run = some (av, m', p')) : Out P B F w0 lim m G w (Instr.makeSlice t u v) m' av := by
  unfold makeSliceOp at h
  split at h
  · rename_i ue e eb kn n kc c htt
    obtain ⟨hu, hsz, ⟨te, hte, hte'⟩, ie, hie, hib, hb0⟩ := (tyFact_of hT htt).sl
    obtain ⟨i, z, hi, h2, h3, h4, h5⟩ := (tyFact_of hT hte).info
    have e1 := one_int hx
    have e2 := one_int hy
    subst e1; subst e2
    replace h := tst_some h; rcases h with ⟨hc, h⟩ | ⟨_, h⟩
    · simp only [Bool.and_eq_true, decide_eq_true_eq] at hc
      obtain ⟨⟨hn0, hnc⟩, hcb⟩ := hc
      replace h := nw_some h; obtain ⟨hn, h⟩ := h
      obtain ⟨h1', h2'⟩ := ret_some h
      subst h1'; subst h2'
      rw [hie] at hi
      injection hi with hi
      subst hi
      rw [hte'] at h2 h4
      obtain ⟨n', rfl⟩ := Int.eq_ofNat_of_zero_le hn0
      obtain ⟨c', rfl⟩ := Int.eq_ofNat_of_zero_le (Int.le_trans hn0 hnc)
      have hnc' : n' ≤ c' := by exact Int.ofNat_le.1 hnc
      have hcb' : c' * eb ≤ 140737488355328 := by exact Int.ofNat_le.1 (by simpa using hcb)
      have hc47 : c' ≤ 140737488355328 := Nat.le_trans (Nat.le_mul_of_pos_right _ hb0) hcb'
      have hwc : IntKind.i64.wrap (c' : Int) = (c' : Int) := by simp [IntKind.wrap, IntKind.bits, IntKind.signed]; omega
      have hwn : IntKind.i64.wrap (n' : Int) = (n' : Int) := by simp [IntKind.wrap, IntKind.bits, IntKind.signed]; omega
      have hzs : z.cells.size = ue.size := by
        have := RepV.length (w := w) (Fr := fun _ => True) ue _ _ (zeroChk_rep ue _ h4)
        simpa using this
      have hfull := filled_rep (w := w) (Fr := Frz B F m G w) (t := ue) (n := c') hzs hsz (zeroChk_rep ue _ h4)
      have hpart := hfull.take (fun x cs => RepV.length ue x cs) n'
      rw [List.take_replicate, Nat.min_eq_left hnc'] at hpart
      have hlen : (List.replicate (Int.toNat (n' : Int)) ue.zero).length = n' := by simp
      have hnew := hm.newRow (e := e) (t := ue) (xs := List.replicate (Int.toNat (n' : Int)) ue.zero) (arr := (Array.range (c' * ue.size)).map fun j => z.cells[j % z.cells.size]!) (cap := c') hn hl hsz (by rw [hlen]; exact hnc') (by simp only [maxLen]; omega) (by simp) (by rw [hlen]; simpa using hpart)
      refine ⟨_, _, _, ?_, hnew.1, hnew.2, new_own rfl⟩
      rw [hlen]
      have hbig : ¬ ((c' : Int) < 0 ∨ (ie.bytes : Int) * (c' : Int) > 2 ^ 48) := by
        rw [hib]
        have : ((eb : Int) * (c' : Int)) = ((c' * eb : Nat) : Int) := by rw [Nat.mul_comm]; simp
        rw [this]
        omega
      have hbd : (decide ((c' : Int) < 0) || decide ((ie.bytes : Int) * (c' : Int) > 2 ^ 48)) = false := by simpa using hbig
      simp only [Instr.makeSlice, Sem.run_bind, run_underlying hu, Result.andThen_ok, asInt, asIntOf, Sem.run_pure, typeInfo, run_program, hie, hwc, hwn, hbd, Bool.false_or]
      have hneg : (decide ((n' : Int) < 0) || decide ((n' : Int) > (c' : Int))) = false := by simp; omega
      rw [hneg]
      simp only [Bool.false_eq_true, if_false, Sem.run_bind, run_askRoom, Result.andThen_ok, sizeOf, typeInfo, run_program, hie, h2, Sem.run_pure, Int.toNat_natCast]
      by_cases hc0 : c' * ue.size = 0
      · have : c' = 0 := by rcases Nat.mul_eq_zero.1 hc0 with h | h <;> omega
        subst this
        have e0 : ∀ f : Nat → Value, (Array.range 0).map f = #[] := fun f => Array.eq_empty_of_size_eq_zero (by simp)
        simp [newRow, e0]
      · simp only [if_neg hc0, Sem.run_bind, zeroValue, typeInfo, run_program, Result.andThen_ok, hie, h3, Sem.run_pure]
        simp [newRow]
    · exact (fail_some h).elim
  · exact (fail_some h).elim

/-! ### Literals -/
theorem foldl_patch : ∀ (l : List Value) (k off : Nat) (cs : Array Value), off + k + l.length ≤ cs.size → ((l.zipIdx k).foldl (fun cs (x : Value × Nat) => cs.setIfInBounds (off + x.2) x.1) cs).toList = patch cs.toList (off + k) l
  | [], k, off, cs, _ => by simp [patch]
  | v :: l, k, off, cs, h => by
    simp only [List.length_cons] at h
    rw [List.zipIdx_cons, List.foldl_cons, foldl_patch l (k + 1) off _ (by simp; omega)]
    simp only [Array.toList_setIfInBounds]
    unfold patch
    rw [List.set_eq_take_append_cons_drop, if_pos (by simp; omega)]
    have h1 : (cs.toList.take (off + k)).length = off + k := by rw [List.length_take]; simp; omega
    rw [show off + (k + 1) = (cs.toList.take (off + k)).length + 1 by rw [h1]; omega, List.take_append, List.drop_append]
    rw [List.take_of_length_le (by omega)]
    simp only [Nat.add_sub_cancel_left, List.take_succ_cons, List.take_zero, List.append_assoc, List.cons_append, List.nil_append]
    congr 2
    congr 1
    rw [List.drop_of_length_le (by omega), List.nil_append, show (cs.toList.take (off + k)).length + 1 + l.length - (cs.toList.take (off + k)).length = l.length + 1 by omega]
    simp only [List.drop_succ_cons, List.drop_drop]
    congr 1
    simp only [List.length_cons]
    omega

def repsL (w : World) (Fr : Nat → Prop) (m : Mem) (G : Nat → Value) : List AV → List Value → Prop
  | [], vs => vs = []
  | a :: l, vs => ∃ v l', vs = v :: l' ∧ repA w Fr m G a .one [v] ∧ repsL w Fr m G l l'

def repsP (w : World) (Fr : Nat → Prop) (m : Mem) (G : Nat → Value) : List (Nat × AV) → List (Nat × Value) → Prop
  | [], vs => vs = []
  | a :: l, vs => ∃ v l', vs = v :: l' ∧ a.1 = v.1 ∧ repA w Fr m G a.2 .one [v.2] ∧ repsP w Fr m G l l'

theorem repsP.mono {m' : Mem} {G' : Nat → Value} {w' : World} (h : Tr B F m G w m' G' w') : ∀ {l : List (Nat × AV)} {vs : List (Nat × Value)}, repsP w (Frz B F m G w) m G l vs → repsP w' (Frz B F m' G' w') m' G' l vs
  | [], _, hr => hr
  | _ :: _, _, ⟨v, l', e, h1, h2, h3⟩ => ⟨v, l', e, h1, repA.mono h _ _ _ h2, repsP.mono h h3⟩
theorem repsL.mono {m' : Mem} {G' : Nat → Value} {w' : World} (h : Tr B F m G w m' G' w') : ∀ {l : List AV} {vs : List Value}, repsL w (Frz B F m G w) m G l vs → repsL w' (Frz B F m' G' w') m' G' l vs
  | [], _, hr => hr
  | _ :: _, _, ⟨v, l', e, h2, h3⟩ => ⟨v, l', e, repA.mono h _ _ _ h2, repsL.mono h h3⟩

theorem fillSlice_some {u : Ty} (hk : 0 < u.size) : ∀ {parts : List (Nat × AV)} {vs : List (Nat × Value)} {acc : List u.D} {cells : Array Value} {k : List u.D → Eff AV} {m : Mem} {p : FP} {r : AV × Mem × FP},
    ((fillSlice u parts acc k).go m p).run = some r → MemOk B F w0 lim m G w → repsP w (Frz B F m G w) m G parts vs → RepL (RepV w (Frz B F m G w) u) acc cells.toList →
    ∃ acc' m1 p1, ((k acc').go m1 p1).run = some r ∧ acc'.length = acc.length ∧ MemOk B F w0 lim m1 G w ∧ Tr B F m G w m1 G w ∧
      ((∀ v ∈ vs, v.1 < acc.length) → ∃ cells', Instr.fill (fun i => some (i * u.size, u.size)) cells vs = some cells' ∧ RepL (RepV w (Frz B F m1 G w) u) acc' cells'.toList)
  | [], vs, acc, cells, k, m, p, r, h, hm, hv, ha => by
    rw [show vs = [] from hv]
    exact ⟨acc, m, p, h, rfl, hm, Tr.refl .., fun _ => ⟨cells, rfl, ha⟩⟩
  | (i, x) :: parts, vs, acc, cells, k, m, p, r, h, hm, ⟨⟨i', v⟩, l', e, h1, h2, h3⟩, ha => by
    subst e
    dsimp only at h1
    subst h1
    obtain ⟨y, m1, p1, h, hm1, ht1, hy⟩ := toVal_one true h hm h2
    have hyc := hy.cells
    rw [show Reach true B F m1 G w = Frz B F m1 G w from rfl] at hyc
    have hvl := RepV.length _ _ _ hyc
    have ha1 := ha.mono (R' := RepV w (Frz B F m1 G w) u) fun x cs hx => RepV.mono ht1.fr _ _ _ hx
    have hlen := ha.length (fun x cs => RepV.length u x cs)
    by_cases hi : i < acc.length
    · have hle : (i + 1) * u.size ≤ acc.length * u.size := Nat.mul_le_mul_right _ hi
      rw [Nat.succ_mul] at hle
      have hfold := foldl_patch v.cells.toList 0 (i * u.size) cells (by simp at hlen hvl ⊢; omega)
      have hset := ha1.set (fun x cs => RepV.length u x cs) i hi hyc
      rw [patch_outer hvl] at hset
      simp only [Nat.add_zero] at hfold
      rw [← hfold] at hset
      obtain ⟨acc', m2, p2, q1, q2, q3, q4, q5⟩ := fillSlice_some hk h hm1 (repsP.mono ht1 h3) hset
      refine ⟨acc', m2, p2, q1, by simpa using q2, q3, ht1.trans q4, fun hall => ?_⟩
      obtain ⟨cells', q6, q7⟩ := q5 (fun v hv => by simpa using hall v (.tail _ hv))
      refine ⟨cells', ?_, q7⟩
      have hs1 : v.cells.size = u.size := by simpa using hvl
      have hs2 : ¬ (i * u.size + v.cells.size > cells.size) := by simp at hlen; omega
      simp only [Instr.fill, hs1, ne_eq, not_true_eq_false, decide_false, Bool.false_or, decide_eq_true_eq]
      rw [hs1] at hs2
      rw [if_neg (by simpa using hs2)]
      rw [← q6]
      congr 1
      rw [← Array.foldl_toList]
      simp
    · have hset : acc.set i y = acc := List.set_eq_of_length_le (by omega)
      rw [hset] at h
      obtain ⟨acc', m2, p2, q1, q2, q3, q4, q5⟩ := fillSlice_some hk h hm1 (repsP.mono ht1 h3) ha1
      exact ⟨acc', m2, p2, q1, q2, q3, ht1.trans q4, fun hall => (hi (hall _ (.head _))).elim⟩

theorem buildSlice_out (hT : typesChk P cx.types = true) (hm : MemOk B F w0 lim m G w) {site : Nat} (hl : site < lim) {t : TypeId} {len : Nat} {parts : List (Nat × AV)} {vs : Array (Nat × Value)} (hv : repsP w (Frz B F m G w) m G parts vs.toList)
    (h : ((buildSliceOp cx site t len parts).go m p).run = some (av, m', p')) : Out P B F w0 lim m G w (Instr.buildSlice t len vs) m' av := by
  unfold buildSliceOp at h
  split at h
  · rename_i ue e eb htt
    obtain ⟨hu, hsz, ⟨te, hte, hte'⟩, ie, hie, hib, hb0⟩ := (tyFact_of hT htt).sl
    obtain ⟨i, z, hi, h2, h3, h4, h5⟩ := (tyFact_of hT hte).info
    rw [hie] at hi
    injection hi with hi
    subst hi
    rw [hte'] at h2 h4
    have hzs : z.cells.size = ue.size := by
      have := RepV.length (w := w) (Fr := fun _ => True) ue _ _ (zeroChk_rep ue _ h4)
      simpa using this
    have hfull := filled_rep (w := w) (Fr := Frz B F m G w) (t := ue) (n := len) hzs hsz (zeroChk_rep ue _ h4)
    replace h := ite_some h; rcases h with ⟨⟨hall, hbig⟩, h⟩ | ⟨_, h⟩
    · obtain ⟨acc', m1, p1, h, hlen, hm1, ht1, hfill⟩ := fillSlice_some hsz h hm hv hfull
      have hvall : ∀ v ∈ vs.toList, v.1 < (List.replicate len ue.zero).length := by
        intro v hvm
        have key : ∀ (l : List (Nat × AV)) (us : List (Nat × Value)), repsP w (Frz B F m G w) m G l us → (l.all fun q => decide (q.1 < len)) = true → ∀ v ∈ us, v.1 < len := by
          intro l
          induction l with
          | nil => intro us hu _ v hv; rw [show us = [] from hu] at hv; cases hv
          | cons a l ih =>
            rintro us ⟨v0, l', e, h1, h2, h3⟩ ha v hv
            subst e
            simp only [List.all_cons, Bool.and_eq_true, decide_eq_true_eq] at ha
            rcases List.mem_cons.1 hv with rfl | hv
            · rw [← h1]; exact ha.1
            · exact ih _ h3 ha.2 v hv
        simpa using key parts vs.toList hv hall v hvm
      obtain ⟨cells', hf, hr⟩ := hfill hvall
      replace h := nw_some h; obtain ⟨hn, h⟩ := h
      obtain ⟨h1', h2'⟩ := ret_some h
      subst h1'; subst h2'
      simp only [List.length_replicate] at hlen
      have hsize := hr.length (fun x cs => RepV.length ue x cs)
      have hcs : cells'.size = len * ue.size := by rw [hlen] at hsize; simpa using hsize
      have hnew := hm1.newRow (e := e) (t := ue) (xs := acc') (arr := cells') (cap := len) hn hl hsz (by omega) (by simp only [maxLen]; have := Nat.le_mul_of_pos_right len hsz; omega) hcs (by rw [List.take_of_length_le (by omega)]; exact hr)
      refine ⟨_, _, _, ?_, hnew.1, ht1.trans hnew.2, new_own rfl⟩
      simp only [Instr.buildSlice, Sem.run_bind, run_underlying hu, Result.andThen_ok, sizeOf, typeInfo, run_program, hie, Sem.run_pure, h2]
      rw [hlen]
      have hbig' : ¬ (len * ue.size > 2 ^ 24) := by omega
      simp only [if_neg hbig', Sem.run_bind, Sem.run_pure, Result.andThen_ok]
      by_cases hc0 : len * ue.size = 0
      · have hl0 : len = 0 := by rcases Nat.mul_eq_zero.1 hc0 with h | h <;> omega
        subst hl0
        have hv0 : vs.toList = [] := by
          cases hvs : vs.toList with
          | nil => rfl
          | cons a l => have := hvall a (by rw [hvs]; exact .head _); simp at this
        rw [hv0] at hf
        simp only [Instr.fill] at hf
        injection hf with hf
        have e0 : ∀ f : Nat → Value, (Array.range 0).map f = #[] := fun f => Array.eq_empty_of_size_eq_zero (by simp)
        subst hf
        simp [hv0, Instr.fill, newRow, e0]
      · simp only [if_neg hc0, Sem.run_bind, zeroValue, typeInfo, run_program, Result.andThen_ok, hie, h3, Sem.run_pure]
        rw [hf]
        simp [newRow]
    · exact (fail_some h).elim
  · exact (fail_some h).elim

/-! ### append, copy -/
theorem append_tt (ty t t' e e' : TypeId) (ht : P.underlying t = some (.slice e)) (ht' : P.underlying t' = some (.slice e')) (args : Array Value) :
    (Builtin.append_ #[t, t'] ty args).run P w = (Builtin.append_ #[t, t] ty args).run P w := by
  unfold Builtin.append_
  simp only [List.getElem?_toArray, List.getElem?_cons_zero, List.getElem?_cons_succ]
  split
  · rename_i h1 h2 h3
    simp only [Prod.mk.injEq, Option.some.injEq] at h3
    obtain ⟨rfl, _, _⟩ := h3
    simp only [Sem.run_bind, run_underlying ht, Result.andThen_ok]
    cases h1 <;> simp only [Sem.run_bind, run_underlying ht, run_underlying ht', Result.andThen_ok, Sem.run_pure]
  · rfl

/-- A slice whose elements lead to what stays; the row itself may be a live one. -/
def ListAt (w : World) (Fr : Nat → Prop) (u : Ty) (ys : List u.D) (v : Value) : Prop :=
  ∃ A c cells, v = .slice A ys.length c ∧ ys.length ≤ c ∧ RepL (RepV w Fr u) ys cells ∧ (cells = [] ∨ ∃ ad, A = some ad ∧ ∀ j x, cells[j]? = some x → w.cell? (ad.add j) = some x)

theorem ListAt.of_rep {Fr : Nat → Prop} {u : Ty} {ys : List u.D} {v : Value} (h : RepO w Fr (.sl u) ys v) : ListAt w Fr u ys v := by
  obtain ⟨A, c, cells, e, h1, h2, h3⟩ := one_sl h
  refine ⟨A, c, cells, e, h1, h2, ?_⟩
  rcases h3 with h3 | ⟨ad, q1, _, q2⟩
  · exact .inl h3
  · exact .inr ⟨ad, q1, q2⟩

theorem toList_one {β : Type} {u : Ty} {a : AV} {k : List u.D → Eff β} {r : β × Mem × FP} {v : Value} (h : ((toVal false (.sl u) a k).go m p).run = some r) (hm : MemOk B F w0 lim m G w) (hr : repA w (Frz B F m G w) m G a .one [v]) :
    ∃ ys p1, ((k ys).go m p1).run = some r ∧ ListAt w (Frz B F m G w) u ys v := by
  cases a with
  | val t x =>
    replace h := opt_some (show ((Eff.opt (Ty.cast (t := t) (u := .sl u) x) k).go m p).run = some r from h); obtain ⟨y, hy, h⟩ := h
    obtain ⟨e, hxy⟩ := cast_rep hy
    subst e
    cases hxy
    exact ⟨_, _, h, .of_rep (one_val hr)⟩
  | nn t xs =>
    replace h := opt_some (show ((Eff.opt (Ty.cast (t := .sl t) (u := .sl u) xs) k).go m p).run = some r from h); obtain ⟨y, hy, h⟩ := h
    obtain ⟨e, hxy⟩ := cast_rep hy
    injection e with e
    subst e
    cases hxy
    exact ⟨_, _, h, .of_rep (show RepO w (Frz B F m G w) (.sl t) xs v from (one_nn hr).1)⟩
  | nil =>
    have e := one_nil hr
    subst e
    exact ⟨[], _, h, none, 0, [], rfl, Nat.le_refl _, rfl, .inl rfl⟩
  | own b ve =>
    replace h := rd_some h; obtain ⟨c, z, hc, h⟩ := h
    cases c with
    | var => exact (fail_some h).elim
    | row e t xs v1 =>
      replace h := ite_some h; rcases h with ⟨hv, h⟩ | ⟨_, h⟩
      · subst hv
        replace h := opt_some h; obtain ⟨y, hy, h⟩ := h
        obtain ⟨e, hxy⟩ := cast_rep hy
        injection e with e
        subst e
        cases hxy
        obtain ⟨ho, e3, t3, xs3, v3, z3, r1, r2, r3⟩ := one_own hr
        rw [hc] at r1
        injection r1 with r1
        injection r1 with r1 r1'
        injection r1 with s1 s2 s3 s4
        subst s1; subst s2; subst s4; subst r1'
        cases s3
        have hG := r3 rfl
        subst hG
        obtain ⟨A, c, cells, g1, g2, g3, g4⟩ := row_cells hm hc
        refine ⟨_, _, h, A, c, cells, g1, g2, g3, ?_⟩
        rcases g4 with g4 | ⟨g, g5, g6, g7⟩
        · exact .inl g4
        · exact .inr ⟨_, g5, fun j u hu => by rw [add_zero_off]; exact g7 j u hu⟩
      · exact (fail_some h).elim
  | sub b ve lo n =>
    replace h := rd_some h; obtain ⟨c, z, hc, h⟩ := h
    cases c with
    | var => exact (fail_some h).elim
    | row e t xs v1 =>
      replace h := ite_some h; rcases h with ⟨hv, h⟩ | ⟨_, h⟩
      · subst hv
        replace h := opt_some h; obtain ⟨y, hy, h⟩ := h
        obtain ⟨e, hxy⟩ := cast_rep hy
        injection e with e
        subst e
        cases hxy
        obtain ⟨ho, e3, t3, xs3, v3, z3, r1, r2, r3⟩ := one_sub hr
        rw [hc] at r1
        injection r1 with r1
        injection r1 with r1 r1'
        injection r1 with s1 s2 s3 s4
        subst s1; subst s2; subst s4; subst r1'
        cases s3
        obtain ⟨k1, A', c', k2, k3, k4⟩ := r3 rfl
        subst k2
        obtain ⟨A, c, cells, g1, g2, g3, g4⟩ := row_cells hm hc
        have hlen : ((xs.drop lo).take n).length = n := by rw [List.length_take, List.length_drop]; omega
        have hl := fun x cs => RepV.length (w := w) (Fr := Frz B F m G w) t x cs
        have hcl := (g3.drop hl lo).take hl n
        refine ⟨_, _, h, A', c', _, by rw [hlen], by rw [hlen]; exact k3, hcl, ?_⟩
        by_cases h0 : n = 0
        · left; simp [h0]
        · obtain ⟨g, nn, cap, s1, s2⟩ := k4 h0
          rcases g4 with g4 | ⟨g', g5, g6, g7⟩
          · left; simp [g4]
          · right
            rw [s1] at g6
            simp [hdNo] at g6
            subst g6
            refine ⟨_, s2, fun j x hx => ?_⟩
            rw [add_off]
            refine g7 _ x ?_
            rw [List.getElem?_take] at hx
            split at hx
            · rwa [List.getElem?_drop] at hx
            · cases hx
      · exact (fail_some h).elim
  | _ => exact (fail_some h).elim

theorem append_none {t e : TypeId} {i : TypeInfo} (ht : P.underlying t = some (.slice e)) (hi : P.info? e = some i) {ty : TypeId} {base : Nat} {v : Value} {n : Nat} {xs : List Value} (h : w.ownsRow base e i.size v n xs) {A : Option Addr} {c : Nat} :
    (Builtin.append_ #[t, t] ty #[v, .slice A 0 c]).run P w = .ok v w := by
  have hz : ∀ A : Option Addr, (Builtin.firstCells i.size 0 (.slice A 0 c)).run P w = .ok #[] w := by
    intro A
    cases A <;> simp [Builtin.firstCells, loadCells, loadCellsFrom]
  rcases h.2 with ⟨rfl, rfl⟩ | ⟨g, cap, cur, rfl, hb, hg, hn, _⟩
  · simp [Builtin.append_, run_underlying ht, sizeOf, typeInfo, hi, Builtin.lenOf, hz]
  · simp [Builtin.append_, run_underlying ht, sizeOf, typeInfo, hi, Builtin.lenOf, hz, hn, storeCells]

/-- append to a row of one's own of what a typed slice holds. -/
theorem append_run {T : List (TypeId × TI)} (hT : typesChk P T = true) {t : TypeId} {u : Ty} {e : TypeId} {eb : Nat} (htt : look T t = some ⟨.sl u, e, eb⟩) {ty : TypeId} {v : Value} {n : Nat} {cells : List Value} (ho : w.ownsRow B e u.size v n cells) {Fr : Nat → Prop} {ys : List u.D} {x : Value}
    (hx : ListAt w Fr u ys x) (hb : (n + ys.length) * eb ≤ 140737488355328) (hB : B ≤ w.heap.size) :
    ∃ v' w' news, (Builtin.append_ #[t, t] ty #[v, x]).run P w = .ok v' w' ∧ w'.ownsRow B e u.size v' (n + ys.length) (cells ++ news) ∧ RepL (RepV w Fr u) ys news ∧ w.grownBy w' v.ownBlock ∧ (v'.ownBlock = v.ownBlock ∨ v'.ownBlock = some w.heap.size) := by
  obtain ⟨hu, hsz, ⟨te, hte, hte'⟩, ie, hie, hib, hb0⟩ := (tyFact_of hT htt).sl
  obtain ⟨i, z, hi, h2, h3, h4, h5⟩ := (tyFact_of hT hte).info
  rw [hie] at hi
  injection hi with hi
  subst hi
  rw [hte'] at h2 h4
  have hzs : z.cells.size = u.size := by
    have := RepV.length (w := w) (Fr := fun _ => True) u _ _ (zeroChk_rep u _ h4)
    simpa using this
  obtain ⟨A, c, news, e1, r1, r2, r3⟩ := hx
  subst e1
  have hnl := r2.length (fun x cs => RepV.length u x cs)
  have h47 : n + ys.length ≤ 140737488355328 := Nat.le_trans (Nat.le_mul_of_pos_right _ hb0) hb
  by_cases hz0 : ys.length = 0
  · have hy : ys = [] := List.eq_nil_of_length_eq_zero hz0
    subst hy
    have hnews : news = [] := r2
    subst hnews
    refine ⟨v, w, [], ?_, by simpa using ho, rfl, ⟨rfl, rfl, rfl, Nat.le_refl _, fun _ _ _ => rfl⟩, .inl rfl⟩
    rw [← h2] at ho
    exact append_none hu hie ho
  · rcases r3 with r3 | ⟨ad, e2, hc⟩
    · rw [r3, List.length_nil] at hnl
      have := Nat.mul_pos (show 0 < ys.length by omega) hsz
      omega
    · subst e2
      obtain ⟨v', w', q1, q2, q3, _, q5⟩ := run_append_own_at (P := P) w B t ty e ie z u.size eb hu hie h3 h2 hib hzs hsz v n cells ho ad ys.length c news (by omega) hc (r2.all fun x cs hx => RepV.one u x cs hx) (by simp only [maxLen]; omega) hb hB
      exact ⟨v', w', news, q1, q2, r2, q3, q5⟩

theorem ownBlock_hdNo {w : World} {base : Nat} {e : TypeId} {size : Nat} {v : Value} {n : Nat} {xs : List Value} (h : w.ownsRow base e size v n xs) : hdNo v = v.ownBlock ∧ v.oneCell' = true := by
  rcases h.2 with ⟨rfl, _⟩ | ⟨g, cap, cur, rfl, _⟩ <;> exact ⟨rfl, rfl⟩

/-- What append leaves of the row itself: all that was in it. -/
theorem append_keep {T : List (TypeId × TI)} (hT : typesChk P T = true) {t : TypeId} {u : Ty} {e : TypeId} {eb : Nat} (htt : look T t = some ⟨.sl u, e, eb⟩) {ty : TypeId} {v : Value} {n : Nat} {cells : List Value} (ho : w.ownsRow B e u.size v n cells) {Fr : Nat → Prop} {ys : List u.D} {x : Value}
    (hx : ListAt w Fr u ys x) (hb : (n + ys.length) * eb ≤ 140737488355328) {v' : Value} {w' : World} (hr : (Builtin.append_ #[t, t] ty #[v, x]).run P w = .ok v' w') : w'.ownsRow B e u.size v n cells := by
  obtain ⟨hu, hsz, ⟨te, hte, hte'⟩, ie, hie, hib, hb0⟩ := (tyFact_of hT htt).sl
  obtain ⟨i, z, hi, h2, h3, h4, h5⟩ := (tyFact_of hT hte).info
  rw [hie] at hi
  injection hi with hi
  subst hi
  rw [hte'] at h2 h4
  obtain ⟨A, c, news, e1, r1, r2, r3⟩ := hx
  subst e1
  have hnl := r2.length (fun x cs => RepV.length u x cs)
  have h47 : n + ys.length ≤ 140737488355328 := Nat.le_trans (Nat.le_mul_of_pos_right _ hb0) hb
  by_cases hz0 : ys.length = 0
  · rw [hz0] at hr
    have := append_none (P := P) (w := w) (base := B) (ty := ty) (A := A) (c := c) hu hie (by rw [h2]; exact ho)
    rw [this] at hr
    injection hr with _ hr
    rw [← hr]
    exact ho
  · rcases ho.2 with hn | ⟨g, cap, cur, rfl, hbg, hg, hnc, hcm, hcs, htake⟩
    · exact ⟨ho.1, .inl hn⟩
    · rcases r3 with r3 | ⟨ad, e2, hc⟩
      · rw [r3, List.length_nil] at hnl
        have := Nat.mul_pos (show 0 < ys.length by omega) hsz
        omega
      · subst e2
        by_cases hroom : n + ys.length ≤ cap
        · have hfit : n * u.size + news.length ≤ cur.size := by rw [hnl, hcs, ← Nat.add_mul]; exact Nat.mul_le_mul_right _ hroom
          have hrr := run_append_room (P := P) w t ty e ie hu hie g n cap cur hg ad ys.length c news (by rw [h2]; exact hnl) hc (r2.all fun x cs hx => RepV.one u x cs hx) hroom (by rw [h2]; exact hfit)
          rw [hr] at hrr
          injection hrr with _ hrr
          subst hrr
          refine ⟨ho.1, .inr ⟨g, cap, _, rfl, hbg, setRow_heap w g cur _ e _ hg, hnc, hcm, ?_, ?_⟩⟩
          · rw [h2]
            simp only [List.size_toArray, List.length_append, List.length_take, List.length_drop, Array.length_toList]
            omega
          · rw [h2, htake]
            simp only [List.append_assoc]
            rw [← ho.1]
            exact List.take_left
        · have holds : ∀ j u, cells[j]? = some u → w.cell? ((⟨g, 0, none⟩ : Addr).add j) = some u := ho.cells (g := g) rfl
          have hrr := run_append_grow (P := P) w t ty e ie z hu hie h3 ⟨g, 0, none⟩ n cap cells (by rw [h2]; exact ho.1) holds ad ys.length c news (by rw [h2]; exact hnl) hc (by omega) (by omega) (by rw [hib]; exact growslice_fits (by omega) hb)
          rw [hr] at hrr
          injection hrr with _ hrr
          subst hrr
          refine ⟨ho.1, .inr ⟨g, cap, cur, rfl, hbg, ?_, hnc, hcm, hcs, htake⟩⟩
          have := heap_alloc_old w.drew (.cells (cells.toArray ++ news.toArray ++ Builtin.zeroCells z.cells (grownCap w (n + ys.length) cap e - (n + ys.length))) e) g (Array.getElem?_eq_some_iff.1 hg).1
          exact this.trans hg

theorem append_out (hT : typesChk P cx.types = true) (hm : MemOk B F w0 lim m G w) {site : Nat} (hl : site < lim) {t t' ty : TypeId} {s x : AV} {u v : Value} (hs : repA w (Frz B F m G w) m G s .one [u]) (hx : repA w (Frz B F m G w) m G x .one [v])
    (h : ((appendOp cx site t t' s x).go m p).run = some (av, m', p')) : Out P B F w0 lim m G w (Builtin.append_ #[t, t'] ty #[u, v]) m' av := by
  unfold appendOp at h
  split at h
  · rename_i ue e eb ue' e' eb' htt htt'
    obtain ⟨hu, hsz, _, _⟩ := (tyFact_of hT htt).sl
    have hu' := (tyFact_of hT htt').sl.1
    have htt1 := append_tt (P := P) (w := w) ty t t' e e' hu hu' #[u, v]
    replace h := toList_one h hm hx; obtain ⟨ys, p1, h, hy⟩ := h
    split at h
    · have e1 := one_nil hs
      subst e1
      replace h := tst_some h; rcases h with ⟨hc, h⟩ | ⟨_, h⟩
      · replace h := nw_some h; obtain ⟨hn, h⟩ := h
        obtain ⟨h1', h2'⟩ := ret_some h
        subst h1'; subst h2'
        have hc' : ys.length * eb ≤ 140737488355328 := by simpa using hc
        obtain ⟨v', w', news, q1, q2, q3, q4, q5⟩ := append_run (P := P) (B := B) hT htt (ty := ty) (World.ownsRow_nil w B e ue.size) hy (by simpa using hc') hm.base
        have hno := ownBlock_hdNo q2
        have hbl : Below w.heap.size w w' := ⟨q4.os, q4.tape, q4.output, q4.size, fun k hk => q4.block k hk (by simp [Value.ownBlock])⟩
        have hnum : ∀ k, hdNo v' = some k → w.heap.size ≤ k := by
          intro k hk
          rw [hno.1] at hk
          rcases q5 with q5 | q5 <;> rw [q5] at hk
          · simp [Value.ownBlock] at hk
          · injection hk with hk; omega
        have hst := hm.step (b0 := site) (c0 := .row e ue ys 0) (z0 := false) (g0 := v') (w' := w') (hbl.mono hm.base) (fun k hk _ => hbl.block k hk) (fun k hk => .inr (hnum k hk)) (fun c z hc => by rw [hn] at hc; cases hc) hl ?_
        · exact ⟨_, _, _, by rw [htt1]; exact q1, hst.1, hst.2, new_own hno.2⟩
        · intro htr
          refine ⟨news, ?_, q3.mono fun x cs hx => RepV.mono htr.fr _ _ _ hx, hsz⟩
          have : upd G site v' site = v' := by simp [upd]
          rw [this]
          simpa using q2
      · exact (fail_some h).elim
    · rename_i b ve
      replace h := rd_some h; obtain ⟨c, z, hc, h⟩ := h
      cases c with
      | var => exact (fail_some h).elim
      | row e1 t1 xs v1 =>
        replace h := ite_some h; rcases h with ⟨⟨hv, he⟩, h⟩ | ⟨_, h⟩
        · subst hv; subst he
          replace h := opt_some h; obtain ⟨zs, hzs, h⟩ := h
          obtain ⟨e2, hxy⟩ := cast_rep hzs
          injection e2 with e2
          subst e2
          cases hxy
          replace h := tst_some h; rcases h with ⟨hcb, h⟩ | ⟨_, h⟩
          · split at h
            rotate_left
            · replace h := wr_some h; obtain ⟨c0, hc0, h⟩ := h
              replace h := fz_some h; obtain ⟨c2, z2, hc2, h⟩ := h
              obtain ⟨h1', h2'⟩ := ret_some h
              subst h1'; subst h2'
              rw [hc] at hc0
              injection hc0 with hc0
              injection hc0 with hc0 hz
              subst hc0; subst hz
              rw [Mem.set, if_pos rfl] at hc2
              injection hc2 with hc2
              injection hc2 with hc2 hz2
              subst hc2; subst hz2
              obtain ⟨ho, e3, t3, xs3, v3, z3, r1, r2, r3⟩ := one_own hs
              rw [hc] at r1
              injection r1 with r1
              injection r1 with r1 r1'
              injection r1 with s1 s2 s3 s4
              subst s1; subst s2; subst s4; subst r1'
              cases s3
              have hG := r3 rfl
              subst hG
              obtain ⟨cells, o1, o2, o3⟩ := hm.blk _ _ _ hc
              have hcb' : (xs.length + ys.length) * eb ≤ 140737488355328 := by simpa using hcb
              obtain ⟨v', w', news, q1, q2, q3, q4, q5⟩ := append_run (P := P) (B := B) hT htt (ty := ty) o1 hy hcb' hm.base
              have hkeep := append_keep (P := P) (B := B) hT htt (ty := ty) o1 hy hcb' q1
              have hno := ownBlock_hdNo q2
              have hno0 := ownBlock_hdNo o1
              have hbl : Below B w w' := (Below.refl B w).grown q4 hm.base fun k hk => ((hm.blk _ _ _ hc).no (hno0.1.trans hk)).1
              have hst := hm.step (b0 := b) (c0 := .row e t1 xs ve) (z0 := true) (g0 := G b) (w' := w') hbl
                (fun k hk hne => q4.block k hk (by rw [← hno0.1]; exact fun q => hne _ hc q.symm))
                (fun k hk => .inl ⟨⟨_, hc⟩, hk⟩)
                (fun c1 z1 h1 => by
                  rw [hc] at h1
                  injection h1 with h1
                  injection h1 with h1 h2
                  subst h1; subst h2
                  exact ⟨compat.refl _, fun _ => rfl, fun _ => rfl⟩) (hm.lim _ _ hc)
                (fun htr => ⟨cells, by rw [upd, if_pos rfl]; exact hkeep, o2.mono fun x cs hx => RepV.mono htr.fr _ _ _ hx, o3⟩)
              rw [upd_self] at hst
              have hset : (m.set b (.row e t1 xs ve, false)).set b (.row e t1 xs ve, true) = m.set b (.row e t1 xs ve, true) := by
                funext k
                unfold Mem.set
                split <;> rfl
              rw [hset]
              refine ⟨_, _, _, by rw [htt1]; exact q1, hst.1, hst.2, mk_val ?_⟩
              have hrep : RepL (RepV w' (Frz B F (m.set b (.row e t1 xs ve, true)) G w') t1) (xs ++ ys) (cells ++ news) := (o2.mono fun x cs hx => RepV.mono hst.2.fr _ _ _ hx).append (q3.mono fun x cs hx => RepV.mono hst.2.fr _ _ _ hx)
              have hlt := q2.lt
              have hfr : ∀ k, v'.ownBlock = some k → Frz B F (m.set b (.row e t1 xs ve, true)) G w' k := fun k hk => by
                refine ⟨?_, (hlt k hk).2, fun b2 c2 hb2 hk2 => ?_⟩
                · rcases q5 with q5 | q5 <;> rw [q5] at hk
                  · exact hm.hd _ _ _ hc k (hno0.1.trans hk)
                  · injection hk with hk
                    exact hm.nw k (by omega)
                unfold Mem.set at hb2
                split at hb2
                · injection hb2 with hb2
                  injection hb2 with _ hb2
                  cases hb2
                · rename_i hne
                  rcases q5 with q5 | q5 <;> rw [q5] at hk
                  · exact hm.dist _ _ _ _ hne hb2 hc k hk2 (hno0.1.trans hk)
                  · injection hk with hk
                    have := ((hm.blk _ _ _ hb2).no hk2).2
                    omega
              have hcells := fun g hg => q2.cells (g := g) hg
              rw [← List.length_append] at q2
              show RepO w' _ (.sl t1) (xs ++ ys) v'
              rcases q2.2 with ⟨e5, h6⟩ | ⟨g, cap, cur, e5, h6, h7, h8, h9, h10, h11⟩
              · subst e5
                refine ⟨none, 0, [], ?_, Nat.le_of_eq h6, ?_, .inl rfl⟩
                · rw [h6]
                · have : cells ++ news = [] := List.eq_nil_of_length_eq_zero (by rw [q2.1, h6, Nat.zero_mul])
                  rw [this] at hrep
                  exact hrep
              · subst e5
                exact ⟨_, _, _, rfl, h8, hrep, .inr ⟨_, rfl, hfr g rfl, hcells g rfl⟩⟩
            replace h := wr_some h; obtain ⟨c0, hc0, h⟩ := h
            obtain ⟨h1', h2'⟩ := ret_some h
            subst h1'; subst h2'
            rw [hc] at hc0
            injection hc0 with hc0
            injection hc0 with hc0 hz
            subst hc0; subst hz
            obtain ⟨ho, e3, t3, xs3, v3, z3, r1, r2, r3⟩ := one_own hs
            rw [hc] at r1
            injection r1 with r1
            injection r1 with r1 r1'
            injection r1 with s1 s2 s3 s4
            subst s1; subst s2; subst s4; subst r1'
            cases s3
            have hG := r3 rfl
            subst hG
            obtain ⟨cells, o1, o2, o3⟩ := hm.blk _ _ _ hc
            have hcb' : (xs.length + ys.length) * eb ≤ 140737488355328 := by simpa using hcb
            obtain ⟨v', w', news, q1, q2, q3, q4, q5⟩ := append_run (P := P) (B := B) hT htt (ty := ty) o1 hy hcb' hm.base
            have hno := ownBlock_hdNo q2
            have hno0 := ownBlock_hdNo o1
            have hbl : Below B w w' := (Below.refl B w).grown q4 hm.base fun k hk => ((hm.blk _ _ _ hc).no (hno0.1.trans hk)).1
            have hst := hm.step (b0 := b) (c0 := .row e t1 (xs ++ ys) (ve + 1)) (z0 := false) (g0 := v') (w' := w') hbl
              (fun k hk hne => q4.block k hk (by rw [← hno0.1]; exact fun q => hne _ hc q.symm))
              (fun k hk => by
                rw [hno.1] at hk
                rcases q5 with q5 | q5 <;> rw [q5] at hk
                · exact .inl ⟨⟨_, hc⟩, hno0.1.trans hk⟩
                · injection hk with hk; exact .inr (by omega))
              (fun c1 z1 h1 => by
                rw [hc] at h1
                injection h1 with h1
                injection h1 with h1 h2
                subst h1; subst h2
                exact ⟨⟨rfl, rfl, by omega, fun q => by omega⟩, fun q => by simp [sameHead] at q, id⟩) (hm.lim _ _ hc) ?_
            · refine ⟨_, _, _, by rw [htt1]; exact q1, hst.1, hst.2, ?_⟩
              exact ⟨_, rfl, hno.2, e, t1, xs ++ ys, ve + 1, false, by simp [Mem.set], Nat.le_refl _, fun _ => by simp [upd]⟩
            · intro htr
              refine ⟨cells ++ news, ?_, (o2.mono fun x cs hx => RepV.mono htr.fr _ _ _ hx).append (q3.mono fun x cs hx => RepV.mono htr.fr _ _ _ hx), o3⟩
              have : upd G b v' b = v' := by simp [upd]
              rw [this, List.length_append]
              exact q2
          · exact (fail_some h).elim
        · exact (fail_some h).elim
    · exact (fail_some h).elim
  · exact (fail_some h).elim

theorem run_copy {t t' ty e : TypeId} {i : TypeInfo} (ht : P.underlying t = some (.slice e)) (hi : P.info? e = some i) {ad bd : Addr} {dn dc n c : Nat} {vs : List Value} (hl : vs.length = Nat.min n dn * i.size)
    (hc : ∀ j x, vs[j]? = some x → w.cell? (ad.add j) = some x) {g : Nat} {cur : Array Value} {el : TypeId} (hg : bd = ⟨g, 0, none⟩) (hh : w.heap[g]? = some (.cells cur el (0, 0))) (hfit : vs.length ≤ cur.size) (h1 : ∀ x ∈ vs, x.oneCell' = true) :
    (Builtin.copy_ #[t, t'] ty #[.slice (some bd) dn dc, .slice (some ad) n c]).run P w = .ok (goInt (Nat.min n dn : Nat)) (w.setRow g (patch cur.toList 0 vs).toArray) := by
  subst hg
  have hld := run_loadCells_list (P := P) w ad vs hc
  rw [hl] at hld
  have hst := run_storeCells_at P g 0 el vs 0 cur w hh (by simpa using hfit) h1
  simp only [Nat.add_zero, Nat.zero_add] at hst
  simp only [Builtin.copy_, List.getElem?_toArray, List.getElem?_cons_zero, List.getElem?_cons_succ, Sem.run_bind, run_underlying ht, Result.andThen_ok, Builtin.lenOf, Sem.run_pure, sizeOf, typeInfo, run_program, hi, Builtin.firstCells, hld, hst]
  simp [patch]

theorem run_copy0 {t t' ty e : TypeId} {i : TypeInfo} (ht : P.underlying t = some (.slice e)) (hi : P.info? e = some i) {A D : Option Addr} {dn dc n c : Nat} (h0 : Nat.min n dn = 0) :
    (Builtin.copy_ #[t, t'] ty #[.slice D dn dc, .slice A n c]).run P w = .ok (goInt 0) w := by
  have hz : (Builtin.firstCells i.size 0 (.slice A n c)).run P w = .ok #[] w := by
    cases A <;> simp [Builtin.firstCells, loadCells, loadCellsFrom]
  simp only [Builtin.copy_, List.getElem?_toArray, List.getElem?_cons_zero, List.getElem?_cons_succ, Sem.run_bind, run_underlying ht, Result.andThen_ok, Builtin.lenOf, Sem.run_pure, sizeOf, typeInfo, run_program, hi, h0, hz]
  cases D <;> simp [storeCells, goInt]

theorem copy_out (hT : typesChk P cx.types = true) (hm : MemOk B F w0 lim m G w) {t t' ty : TypeId} {d x : AV} {u v : Value} (hd : repA w (Frz B F m G w) m G d .one [u]) (hx : repA w (Frz B F m G w) m G x .one [v])
    (h : ((copyOp cx t d x).go m p).run = some (av, m', p')) : Out P B F w0 lim m G w (Builtin.copy_ #[t, t'] ty #[u, v]) m' av := by
  unfold copyOp at h
  split at h
  · rename_i ue e eb htt
    obtain ⟨hu, hsz, ⟨te, hte, hte'⟩, ie, hie, hib, hb0⟩ := (tyFact_of hT htt).sl
    obtain ⟨i, z, hi, h2, h3, h4, h5⟩ := (tyFact_of hT hte).info
    rw [hie] at hi
    injection hi with hi
    subst hi
    rw [hte'] at h2
    replace h := toList_one h hm hx; obtain ⟨ys, p1, h, hy⟩ := h
    split at h
    · rename_i b ve
      replace h := rd_some h; obtain ⟨c, zf, hc, h⟩ := h
      cases c with
      | var => exact (fail_some h).elim
      | row e1 t1 xs v1 =>
        replace h := ite_some h; rcases h with ⟨hv, h⟩ | ⟨_, h⟩
        · subst hv
          replace h := opt_some h; obtain ⟨zs, hzs, h⟩ := h
          obtain ⟨e2, hxy⟩ := cast_rep hzs
          injection e2 with e2
          subst e2
          cases hxy
          replace h := wr_some h; obtain ⟨c0, hc0, h⟩ := h
          obtain ⟨h1', h2'⟩ := ret_some h
          subst h1'; subst h2'
          rw [hc] at hc0
          injection hc0 with hc0
          injection hc0 with hc0 hz
          subst hc0; subst hz
          obtain ⟨ho, e3, t3, xs3, v3, z3, r1, r2, r3⟩ := one_own hd
          rw [hc] at r1
          injection r1 with r1
          injection r1 with r1 r1'
          injection r1 with s1 s2 s3 s4
          subst s1; subst s2; subst s4; subst r1'
          cases s3
          have hG := r3 rfl
          subst hG
          obtain ⟨A, c, news, e4, k1, k2, k3⟩ := hy
          subst e4
          obtain ⟨cells, o1, o2, o3⟩ := hm.blk _ _ _ hc
          have hl := fun x cs => RepV.length (w := w) (Fr := Frz B F m G w) t1 x cs
          have hnl := k2.length hl
          have hcl := o2.length hl
          have hkeep : ∀ {c1 : Cn}, c1 = .row e1 t1 xs ve → MemOk B F w0 lim (m.set b (c1, false)) G w ∧ Tr B F m G w (m.set b (c1, false)) G w := by
            intro c1 hc1
            have : m.set b (c1, false) = m := by
              funext i
              unfold Mem.set
              split
              · rename_i e; rw [e, hc1, hc]
              · rfl
            rw [this]
            exact ⟨hm, Tr.refl ..⟩
          by_cases h0 : Nat.min ys.length xs.length = 0
          · have hsame : ys.take xs.length ++ xs.drop ys.length = xs := by
              have : ys.length = 0 ∨ xs.length = 0 := by
                rcases Nat.le_total ys.length xs.length with h | h
                · left; rw [← h0]; exact (Nat.min_eq_left h).symm
                · right; rw [← h0]; exact (Nat.min_eq_right h).symm
              rcases this with h | h
              · rw [List.eq_nil_of_length_eq_zero h]; simp
              · rw [List.eq_nil_of_length_eq_zero h]; simp
            obtain ⟨hm1, ht1⟩ := hkeep (c1 := .row e1 t1 (ys.take xs.length ++ xs.drop ys.length) ve) (by rw [hsame])
            obtain ⟨A', c', cells', g1, _⟩ := row_cells hm hc
            refine ⟨G, w, goInt 0, ?_, hm1, ht1, ?_⟩
            · rw [g1]
              exact run_copy0 hu hie h0
            · have : (min ys.length xs.length : Nat) = 0 := h0
              rw [this]
              exact mk_int ..
          · have hpos : 0 < xs.length ∧ 0 < ys.length := by
              have : Nat.min ys.length xs.length = min ys.length xs.length := rfl
              omega
            rcases o1.2 with ⟨n1, n2⟩ | ⟨g, cap, cur, n1, n2, n3, n4, n5, n6, n7⟩
            · omega
            rcases k3 with k3 | ⟨ad, k4, k5⟩
            · rw [k3, List.length_nil] at hnl
              have := Nat.mul_pos hpos.2 hsz
              omega
            · subst k4
              have hmin : min ys.length xs.length = Nat.min ys.length xs.length := rfl
              have hvs := k2.take hl (Nat.min ys.length xs.length)
              have hvl : (news.take (Nat.min ys.length xs.length * t1.size)).length = Nat.min ys.length xs.length * t1.size := by
                rw [List.length_take, hnl]
                have : Nat.min ys.length xs.length * t1.size ≤ ys.length * t1.size := Nat.mul_le_mul_right _ (Nat.min_le_left _ _)
                omega
              have hle : Nat.min ys.length xs.length * t1.size ≤ xs.length * t1.size := Nat.mul_le_mul_right _ (Nat.min_le_right _ _)
              have hcap : xs.length * t1.size ≤ cap * t1.size := Nat.mul_le_mul_right _ n4
              have hrun := run_copy (P := P) (t := t) (t' := t') (ty := ty) (w := w) hu hie (ad := ad) (bd := ⟨g, 0, none⟩) (dn := xs.length) (dc := cap) (n := ys.length) (c := c) (vs := news.take (Nat.min ys.length xs.length * t1.size)) (by rw [hvl, h2])
                (fun j x hx => k5 j x (by rw [List.getElem?_take] at hx; split at hx; exact hx; cases hx)) (cur := cur) (el := e1) rfl n3 (by rw [hvl]; omega) (fun x hx => k2.all (fun x cs hx => RepV.one t1 x cs hx) x (List.mem_of_mem_take hx))
              have hst := hm.write (b := b) (c' := .row e1 t1 (ys.take xs.length ++ xs.drop ys.length) ve) hc (g := g) (by rw [n1]; rfl) (cs := (patch cur.toList 0 (news.take (Nat.min ys.length xs.length * t1.size))).toArray) ⟨rfl, rfl, Nat.le_refl _, fun _ => by simp; omega⟩ fun htr => ?_
              · refine ⟨G, _, _, by rw [n1]; exact hrun, hst.1, hst.2, mk_int ..⟩
              · have hlen2 : (ys.take xs.length ++ xs.drop ys.length).length = xs.length := by simp; omega
                have hcells : patch cells 0 (news.take (Nat.min ys.length xs.length * t1.size)) = news.take (Nat.min ys.length xs.length * t1.size) ++ cells.drop (Nat.min ys.length xs.length * t1.size) := by
                  unfold patch
                  rw [hvl]
                  simp
                refine ⟨patch cells 0 (news.take (Nat.min ys.length xs.length * t1.size)), ⟨?_, .inr ⟨g, cap, _, by rw [hlen2]; exact n1, n2, setRow_heap w g cur _ e1 _ n3, by rw [hlen2]; exact n4, n5, ?_, ?_⟩⟩, ?_, o3⟩
                · rw [hlen2, patch_length (by rw [hvl]; omega)]; exact hcl
                · simp only [List.size_toArray]
                  rw [patch_length (by rw [hvl]; simp; omega)]
                  simpa using n6
                · rw [hlen2]
                  have hcur : cur.toList = cur.toList.take (xs.length * t1.size) ++ cur.toList.drop (xs.length * t1.size) := (List.take_append_drop _ _).symm
                  have hl0 : (cur.toList.take (xs.length * t1.size)).length = xs.length * t1.size := by rw [List.length_take]; simp; omega
                  show (patch cur.toList 0 _).take _ = _
                  rw [← n7]
                  conv => lhs; rw [hcur]
                  rw [patch_append_left (by rw [hl0, hvl]; omega), List.take_left' (by rw [patch_length (by rw [hl0, hvl]; omega), hl0])]
                · rw [hcells]
                  have h1 := hvs.append (o2.drop hl (Nat.min ys.length xs.length))
                  have e5 : ys.take (Nat.min ys.length xs.length) ++ xs.drop (Nat.min ys.length xs.length) = ys.take xs.length ++ xs.drop ys.length := by
                    rcases Nat.le_total ys.length xs.length with h | h
                    · rw [show Nat.min ys.length xs.length = ys.length from Nat.min_eq_left h, List.take_of_length_le (Nat.le_refl _), List.take_of_length_le h]
                    · rw [show Nat.min ys.length xs.length = xs.length from Nat.min_eq_right h, List.drop_of_length_le (Nat.le_refl _), List.drop_of_length_le h]
                  rw [e5] at h1
                  exact h1.mono fun x cs hx => RepV.mono htr.fr _ _ _ hx
        · exact (fail_some h).elim
    · exact (fail_some h).elim
  · exact (fail_some h).elim
end
end Go.Refl
/-
  Structs and arrays that are built, functions as values, calls; all operations together.
-/
set_option linter.unusedVariables false
set_option linter.unusedSimpArgs false
namespace Go.Refl
open Go Go.RowKit

section
variable {P : Program} {B : Nat} {F : Nat → Prop} {w0 : World} {lim : Nat} {m m' : Mem} {G : Nat → Value} {w : World} {p p' : FP} {av : AV} {cx : Cx}

/-! ### Structs and arrays -/
theorem places_some {T : List (TypeId × TI)} (hT : typesChk P T = true) : ∀ {fs : List Field} {off : Nat} {t : Ty}, fieldsChk T fs off t = true →
    ∃ places, fs.mapM (fun f => (P.info? f.type).map fun i => (f.offset, i.size)) = some places ∧ ∀ j u, tyF t j = some u → places[j]? = some (off + offF t j, u.size)
  | [], off, .unit, _ => ⟨[], rfl, fun j u h => by simp [tyF] at h⟩
  | f :: fs, off, .pair a b, hc => by
    simp only [fieldsChk, Bool.and_eq_true] at hc
    obtain ⟨⟨⟨h1, h2⟩, h3⟩, h4⟩ := hc
    obtain ⟨places, q1, q2⟩ := places_some hT h4
    split at h3
    · rename_i te hte
      obtain ⟨i, z, hi, hs, _⟩ := (tyFact_of hT hte).info
      have hta : te.ty = a := by simpa using h3
      rw [hta] at hs
      refine ⟨(f.offset, a.size) :: places, ?_, fun j u hu => ?_⟩
      · simp [List.mapM_cons, hi, q1, hs]
      · cases j with
        | zero =>
          simp [tyF] at hu
          subst hu
          have : f.offset = off := by simpa using h1
          simp [offF, this]
        | succ j =>
          have := q2 j u (by simpa [tyF] using hu)
          simp only [List.getElem?_cons_succ, this, offF]
          congr 2
          omega
    · cases h3
  | [], _, .int _, hc | [], _, .bool, hc | [], _, .str, hc | [], _, .opq, hc | [], _, .pair .., hc | [], _, .arr .., hc | [], _, .sl _, hc
  | _ :: _, _, .int _, hc | _ :: _, _, .bool, hc | _ :: _, _, .str, hc | _ :: _, _, .opq, hc | _ :: _, _, .unit, hc | _ :: _, _, .arr .., hc | _ :: _, _, .sl _, hc => by simp [fieldsChk] at hc

theorem fill_cons {place : Nat → Option (Nat × Nat)} {cells : Array Value} {i : Nat} {v : Value} {rest : List (Nat × Value)} {off size : Nat} (hp : place i = some (off, size)) (hv : v.cells.size = size) (ho : off + size ≤ cells.size) :
    Instr.fill place cells ((i, v) :: rest) = Instr.fill place (patch cells.toList off v.cells.toList).toArray rest := by
  have hfold := foldl_patch v.cells.toList 0 off cells (by simp; omega)
  simp only [Nat.add_zero] at hfold
  simp only [Instr.fill, hp, hv, ne_eq, not_true_eq_false, decide_false, Bool.false_or, decide_eq_true_eq]
  rw [if_neg (by simpa using ho)]
  congr 1
  rw [← hfold, ← Array.foldl_toList]
  simp

theorem fillStruct_some {T : Ty} {place : Nat → Option (Nat × Nat)} (hp : ∀ j u, tyF T j = some u → place j = some (offF T j, u.size)) : ∀ {parts : List (Nat × AV)} {vs : List (Nat × Value)} {a a' : AV} {cells : Array Value},
    fillStruct T parts a = some a' → repsP w (Frz B F m G w) m G parts vs → AV.fits T a = true → repA w (Frz B F m G w) m G a .cells cells.toList →
    ∃ cells', Instr.fill place cells vs = some cells' ∧ AV.fits T a' = true ∧ repA w (Frz B F m G w) m G a' .cells cells'.toList
  | [], vs, a, a', cells, h, hv, hf, hr => by
    simp [fillStruct] at h
    subst h
    rw [show vs = [] from hv]
    exact ⟨cells, rfl, hf, hr⟩
  | (j, x) :: parts, vs, a, a', cells, h, ⟨⟨j', v⟩, l', e, h1, h2, h3⟩, hf, hr => by
    subst e
    dsimp only at h1
    subst h1
    simp only [fillStruct] at h
    split at h
    · rename_i u hu
      split at h
      · rename_i hc
        split at h
        · rename_i b hb
          obtain ⟨u', x0, x', q1, q2, q3, q4, q5⟩ := setNth_rep hf hb hr
          rw [hu] at q1
          injection q1 with q1
          subst q1
          injection q2 with q2
          subst q2
          have hvc := norm_rep _ _ (repA.toCells hc.2 h2)
          have hvl := fits_length hc.1 hvc
          obtain ⟨r1, r2⟩ := q5 _ hvl hc.1 hvc
          have hcl := fits_length hf hr
          have hoff := tyF_off hu
          obtain ⟨cells', s1, s2, s3⟩ := fillStruct_some hp (cells := (patch cells.toList (offF T j) v.cells.toList).toArray) h h3 r1 (by simpa using r2)
          refine ⟨cells', ?_, s2, s3⟩
          rw [fill_cons (hp j u hu) (by simpa using hvl) (by simp at hcl; omega)]
          exact s1
        · cases h
      · cases h
    · cases h

theorem fillArr_some {u : Ty} (hk : 0 < u.size) : ∀ {parts : List (Nat × AV)} {vs : List (Nat × Value)} {acc acc' : List u.D} {cells : Array Value},
    fillArr u parts acc = some acc' → repsP w (Frz B F m G w) m G parts vs → RepL (RepV w (Frz B F m G w) u) acc cells.toList → (∀ q ∈ parts, q.1 < acc.length) →
    ∃ cells', Instr.fill (fun i => some (i * u.size, u.size)) cells vs = some cells' ∧ acc'.length = acc.length ∧ RepL (RepV w (Frz B F m G w) u) acc' cells'.toList
  | [], vs, acc, acc', cells, h, hv, hr, _ => by
    simp [fillArr] at h
    subst h
    rw [show vs = [] from hv]
    exact ⟨cells, rfl, rfl, hr⟩
  | (j, x) :: parts, vs, acc, acc', cells, h, ⟨⟨j', v⟩, l', e, h1, h2, h3⟩, hr, hall => by
    subst e
    dsimp only at h1
    subst h1
    cases x with
    | val t y =>
      simp only [fillArr] at h
      split at h
      · rename_i z hz
        obtain ⟨e, hxy⟩ := cast_rep hz
        subst e
        cases hxy
        have hj : j < acc.length := hall _ (.head _)
        have hle : (j + 1) * t.size ≤ acc.length * t.size := Nat.mul_le_mul_right _ hj
        rw [Nat.succ_mul] at hle
        have hyc := (one_val h2).cells
        have hvl := RepV.length _ _ _ hyc
        have hlen := hr.length (fun x cs => RepV.length t x cs)
        have hset := hr.set (fun x cs => RepV.length t x cs) j hj hyc
        rw [patch_outer hvl] at hset
        obtain ⟨cells', s1, s2, s3⟩ := fillArr_some hk (cells := (patch cells.toList (j * t.size) v.cells.toList).toArray) h h3 (by simpa using hset) (fun q hq => by simpa using hall q (.tail _ hq))
        refine ⟨cells', ?_, by simpa using s2, s3⟩
        rw [fill_cons rfl (by simpa using hvl) (by simp at hlen; omega)]
        exact s1
      · cases h
    | _ => simp [fillArr] at h

theorem build_out (hT : typesChk P cx.types = true) (hm : MemOk B F w0 lim m G w) {t : TypeId} {parts : List (Nat × AV)} {vs : Array (Nat × Value)} (hv : repsP w (Frz B F m G w) m G parts vs.toList)
    (h : ((buildOp cx t parts).go m p).run = some (av, m', p')) : m' = m ∧ Out P B F w0 lim m G w (Instr.build t vs) m' av := by
  unfold buildOp at h
  split at h
  · rename_i n u e eb htt
    obtain ⟨hu, hsz, te, hte, hte'⟩ := (tyFact_of hT htt).arr
    obtain ⟨i, z, hi, h2, h3, h4, h5⟩ := (tyFact_of hT htt).info
    obtain ⟨ie, ze, hie, he2, _⟩ := (tyFact_of hT hte).info
    rw [hte'] at he2
    replace h := ite_some h; rcases h with ⟨hall, h⟩ | ⟨_, h⟩
    · replace h := opt_some h; obtain ⟨l, hl, h⟩ := h
      obtain ⟨h1', h2'⟩ := ret_some h
      subst h1'; subst h2'
      have hz := zeroChk_rep (w := w) (Fr := Frz B F m G w) (.arr n u) _ h4
      obtain ⟨hz1, hz2⟩ := (show _ ∧ _ from hz)
      obtain ⟨cells', q1, q2, q3⟩ := fillArr_some hsz hl hv (show RepL (RepV w (Frz B F m G w) u) (List.replicate n u.zero) z.cells.toList from hz2) (fun q hq => by
        have := List.all_eq_true.1 hall q hq
        simpa using this)
      have hb : P.built t vs.toList = some cells' := by
        simp only [Program.built, hi, hu, h3, hie, he2]
        exact q1
      refine ⟨rfl, out_pure (run_build w t vs cells' hb) hm ?_⟩
      exact mk_val ⟨cells'.toList, by simp, by simpa using q2, q3⟩
    · exact (fail_some h).elim
  · rename_i a b e eb htt
    obtain ⟨i, z, hi, h2, h3, h4, h5⟩ := (tyFact_of hT htt).info
    have hund := (tyFact_of hT htt).und
    replace h := opt_some h; obtain ⟨c, hc, h⟩ := h
    obtain ⟨h1', h2'⟩ := ret_some h
    subst h1'; subst h2'
    obtain ⟨fs, hfs, hund⟩ : ∃ fs, P.underlying t = some (.struct fs) ∧ fieldsChk cx.types fs.toList 0 (.pair a b) = true := by
      unfold undChk at hund
      cases hpu : P.underlying t with
      | none => rw [hpu] at hund; cases hund
      | some d => rw [hpu] at hund; cases d <;> first | (cases hund; done) | exact ⟨_, rfl, hund⟩
    obtain ⟨places, q1, q2⟩ := places_some hT hund
    have hz := explode_rep (m := m) (G := G) (.pair a b) _ _ (zeroChk_rep (w := w) (Fr := Frz B F m G w) (.pair a b) _ h4)
    obtain ⟨cells', s1, s2, s3⟩ := fillStruct_some (place := (places.toArray[·]?)) (fun j u hu => by simpa using q2 j u hu) hc hv (explode_fits _ _) hz
    have hb : P.built t vs.toList = some cells' := by
      simp only [Program.built, hi, hfs, h3, q1]
      exact s1
    refine ⟨rfl, out_pure (cv := ofCells (.pair a b) cells'.toList) ?_ hm (repA.ofCells' s2 s3)⟩
    rw [run_build w t vs cells' hb]
    simp [ofCells, Ty.agg]
  · exact (fail_some h).elim

/-! ### max, min; functions as values; tuples -/
theorem minmax_out (hm : MemOk B F w0 lim m G w) {b : Bool} {xs : List AV} {vs : List Value} {ats : Array TypeId} {ty : TypeId} (hx : repsL w (Frz B F m G w) m G xs vs) (h : minmax b xs = some av) :
    Out P B F w0 lim m G w ((if b = true then Builtin.max_ else Builtin.min_) ats ty vs.toArray) m av := by
  unfold minmax at h
  split at h
  · rename_i k x k' y
    obtain ⟨v1, l1, e1, h1, v2, l2, e2, h2, e3⟩ := hx
    subst e1; subst e2
    rw [show l2 = [] from e3]
    have q1 := one_int h1
    have q2 := one_int h2
    subst q1; subst q2
    split at h
    · rename_i hk
      subst hk
      injection h with h
      subst h
      cases b
      · exact out_pure (cv := .int k (if y < x then y else x)) (by simp [Builtin.min_, Builtin.min2]) hm (mk_int ..)
      · exact out_pure (cv := .int k (if y > x then y else x)) (by simp [Builtin.max_, Builtin.max2]) hm (mk_int ..)
    · cases h
  · cases h

theorem chain_reps : ∀ {l : List AV} {vs : List Value}, repsL w (Frz B F m G w) m G l vs → repA w (Frz B F m G w) m G (chain l) .chain vs
  | [], _, h => h
  | _ :: _, _, ⟨v, l', e, h1, h2⟩ => ⟨v, l', e, h1, chain_reps h2⟩

theorem toList_reps : ∀ {a : AV} {l : List AV} {vs : List Value}, a.toList = some l → repA w (Frz B F m G w) m G a .chain vs → repsL w (Frz B F m G w) m G l vs
  | .un, l, vs, h, hr => by simp [AV.toList] at h; subst h; exact hr
  | .pr a b, l, vs, h, ⟨v, l', e, h1, h2⟩ => by
    simp only [AV.toList] at h
    split at h
    · rename_i l2 hl2
      injection h with h
      subst h
      exact ⟨v, l', e, h1, toList_reps hl2 h2⟩
    · cases h
  | .val .., _, _, h, _ | .nn .., _, _, h, _ | .nil, _, _, h, _ | .nptr, _, _, h, _ | .ptr .., _, _, h, _ | .rptr .., _, _, h, _ | .ref .., _, _, h, _ | .own .., _, _, h, _ | .sub .., _, _, h, _ | .tp _, _, _, h, _
  | .fn .., _, _, h, _ | .undef, _, _, h, _ => by simp [AV.toList] at h

theorem repsL.append : ∀ {a b : List AV} {va vb : List Value}, repsL w (Frz B F m G w) m G a va → repsL w (Frz B F m G w) m G b vb → repsL w (Frz B F m G w) m G (a ++ b) (va ++ vb)
  | [], _, _, _, ha, hb => by rw [show _ = [] from ha]; exact hb
  | _ :: _, _, _, _, ⟨v, l', e, h1, h2⟩, hb => ⟨v, l' ++ _, by rw [e]; rfl, h1, repsL.append h2 hb⟩

theorem reps_map {ρ : Operand → AV} {σ : Operand → Value} : ∀ {l : List Operand}, (∀ x ∈ l, repA w (Frz B F m G w) m G (ρ x) .one [σ x]) → repsL w (Frz B F m G w) m G (l.map ρ) (l.map σ)
  | [], _ => rfl
  | x :: l, h => ⟨σ x, l.map σ, rfl, h x (.head _), reps_map fun y hy => h y (.tail _ hy)⟩

theorem repsP_map {ρ : Operand → AV} {σ : Operand → Value} : ∀ {l : List (Nat × Operand)}, (∀ x ∈ l, repA w (Frz B F m G w) m G (ρ x.2) .one [σ x.2]) → repsP w (Frz B F m G w) m G (l.map fun q => (q.1, ρ q.2)) (l.map fun q => (q.1, σ q.2))
  | [], _ => rfl
  | x :: l, h => ⟨(x.1, σ x.2), _, rfl, rfl, h x (.head _), repsP_map fun y hy => h y (.tail _ hy)⟩

theorem nth_chain : ∀ {l : AV} {j : Nat} {a : AV} {vs : List Value}, l.nth j = some a → repA w (Frz B F m G w) m G l .chain vs → ∃ v, vs[j]? = some v ∧ repA w (Frz B F m G w) m G a .one [v]
  | .pr x y, 0, a, vs, h, ⟨v, l', e, h1, h2⟩ => by
    simp [AV.nth] at h
    subst h; subst e
    exact ⟨v, rfl, h1⟩
  | .pr x y, j + 1, a, vs, h, ⟨v, l', e, h1, h2⟩ => by
    subst e
    obtain ⟨u, q1, q2⟩ := nth_chain (l := y) (by simpa [AV.nth] using h) h2
    exact ⟨u, by simpa using q1, q2⟩
  | .val .., _, _, _, _, hr => hr.elim
  | .un, j, _, _, h, _ | .nn .., j, _, _, h, _ | .nil, j, _, _, h, _ | .nptr, j, _, _, h, _ | .ptr .., j, _, _, h, _ | .rptr .., j, _, _, h, _ | .ref .., j, _, _, h, _ | .own .., j, _, _, h, _ | .sub .., j, _, _, h, _ | .tp _, j, _, _, h, _
  | .fn .., j, _, _, h, _ | .undef, j, _, _, h, _ => by cases j <;> simp [AV.nth] at h

/-! ### Calls by contract -/
def repArgs (w : World) (Fr : Nat → Prop) : (ts : List Ty) → DL ts → List Value → Prop
  | [], _, vs => vs = []
  | t :: ts, x, vs => ∃ v l, vs = v :: l ∧ RepO w Fr t x.1 v ∧ repArgs w Fr ts x.2 l

def repRes (w : World) (Fr : Nat → Prop) (ts : List Ty) (x : DL ts) (v : Value) : Prop :=
  match ts, x with
  | [t], x => RepO w Fr t x.1 v
  | ts, x => ∃ vs, v = .tuple vs.toArray ∧ repArgs w Fr ts x vs

/-- A function keeps a contract: where its pure function answers, it returns that answer, and nothing that was there has turned. -/
def SigOk (P : Program) (f : FuncId) (sg : Sig) : Prop :=
  (∃ fn, P.funcs[f]? = some fn ∧ (fn.name == "runtime.NumGoroutine") = false ∧ fn.body.isNone = false) ∧
  ∀ (Fr : Nat → Prop) (xs : DL sg.args) (r : DL sg.res) (vs : List Value) (w : World), sg.f xs = some r → (∀ k, Fr k → k < w.heap.size) → repArgs w Fr sg.args xs vs →
    Calls P f vs.toArray w fun e w' => match e with
      | .returned v => Below w.heap.size w w' ∧ repRes w' (fun k => Fr k ∨ (w.heap.size ≤ k ∧ k < w'.heap.size)) sg.res r v
      | _ => False

/-- How a cut of a row stands to the row's header. -/
def CutOf (hv : Value) (size len lo n : Nat) (sv : Value) : Prop :=
  lo + n ≤ len ∧ ∃ A c, sv = .slice A n c ∧ n ≤ c ∧ (n ≠ 0 → ∃ g nn cap, hv = .slice (some ⟨g, 0, none⟩) nn cap ∧ A = some ⟨g, lo * size, none⟩)

/-- A function that changes a row of its caller's, and nothing else. -/
def SigMOk (P : Program) (f : FuncId) (sg : MSig) : Prop :=
  (∃ fn, P.funcs[f]? = some fn ∧ (fn.name == "runtime.NumGoroutine") = false ∧ fn.body.isNone = false) ∧ sg.u.rows = false ∧ 0 < sg.u.size ∧
  ∀ (Fr : Nat → Prop) (xs ys : List sg.u.D) (lo n : Nat) (x : DL sg.args) (r : DL sg.res) (hv sv : Value) (vs cells : List Value) (w : World), sg.f xs lo n x = some (r, ys) → (∀ k, Fr k → k < w.heap.size ∧ hdNo hv ≠ some k) →
    w.ownsRow 0 sg.elem sg.u.size hv xs.length cells → RepL (RepV w Fr sg.u) xs cells → CutOf hv sg.u.size xs.length lo n sv → repArgs w Fr sg.args x vs →
    Calls P f (sv :: vs).toArray w fun e w' => match e with
      | .returned v => Below 0 w w' ∧ (∀ k, k < w.heap.size → hdNo hv ≠ some k → w'.heap[k]? = w.heap[k]?) ∧ (∃ cells', w'.ownsRow 0 sg.elem sg.u.size hv ys.length cells' ∧ RepL (RepV w' (fun _ => False) sg.u) ys cells') ∧ repRes w' (fun k => Fr k ∨ (w.heap.size ≤ k ∧ k < w'.heap.size)) sg.res r v
      | _ => False

/-- A function whose result is a row of its own. -/
def SigNOk (P : Program) (f : FuncId) (sg : NSig) : Prop :=
  (∃ fn, P.funcs[f]? = some fn ∧ (fn.name == "runtime.NumGoroutine") = false ∧ fn.body.isNone = false) ∧ sg.u.rows = false ∧ 0 < sg.u.size ∧
  ∀ (Fr : Nat → Prop) (xs : DL sg.args) (ys : List sg.u.D) (vs : List Value) (w : World), sg.f xs = some ys → (∀ k, Fr k → k < w.heap.size) → repArgs w Fr sg.args xs vs →
    Calls P f vs.toArray w fun e w' => match e with
      | .returned v => Below w.heap.size w w' ∧ ∃ cells, w'.ownsRow w.heap.size sg.elem sg.u.size v ys.length cells ∧ RepL (RepV w' (fun _ => False) sg.u) ys cells
      | _ => False

structure SigsOk (P : Program) (cx : Cx) : Prop where
  sig : ∀ f sg, look cx.sigs f = some sg → SigOk P f sg
  chg : ∀ f sg, look cx.muts f = some sg → SigMOk P f sg := by intro f sg h; cases h
  new : ∀ f sg, look cx.news f = some sg → SigNOk P f sg := by intro f sg h; cases h

theorem repArgs.mono {w w' : World} {Fr Fr' : Nat → Prop} (h : ∀ k, Fr k → Fr' k ∧ w'.heap[k]? = w.heap[k]?) : ∀ {ts : List Ty} {x : DL ts} {vs : List Value}, repArgs w Fr ts x vs → repArgs w' Fr' ts x vs
  | [], _, _, hr => hr
  | _ :: _, _, _, ⟨v, l, e, h1, h2⟩ => ⟨v, l, e, h1.mono h, repArgs.mono h h2⟩

theorem repRes.mono' {w w' : World} {Fr Fr' : Nat → Prop} (h : ∀ k, Fr k → Fr' k ∧ w'.heap[k]? = w.heap[k]?) {ts : List Ty} {x : DL ts} {v : Value} (hr : repRes w Fr ts x v) : repRes w' Fr' ts x v := by
  match ts, x, hr with
  | [], x, ⟨vs, e, hr⟩ => exact ⟨vs, e, hr.mono h⟩
  | [t], x, hr => exact RepO.mono h hr
  | t :: u :: ts, x, ⟨vs, e, hr⟩ => exact ⟨vs, e, hr.mono h⟩

theorem repRes.toRepA {w : World} {Fr : Nat → Prop} {m : Mem} {G : Nat → Value} {ts : List Ty} {x : DL ts} {v : Value} (h : repRes w Fr ts x v) : repA w Fr m G (resOf ts x) .one [v] := by
  have key : ∀ {ts : List Ty} {x : DL ts} {vs : List Value}, repArgs w Fr ts x vs → repA w Fr m G (chainOf ts x) .chain vs := by
    intro ts
    induction ts with
    | nil => intro x vs h; exact h
    | cons t ts ih =>
      rintro x vs ⟨v, l, e, h1, h2⟩
      exact ⟨v, l, e, mk_val h1, ih h2⟩
  match ts, x, h with
  | [], x, ⟨vs, e, hr⟩ => exact ⟨vs, by rw [e], key hr⟩
  | [t], x, h => exact mk_val h
  | t :: u :: ts, x, ⟨vs, e, hr⟩ => exact ⟨vs, by rw [e], key hr⟩

theorem RepV.norows {w w' : World} {Fr Fr' : Nat → Prop} : ∀ (t : Ty) (x : t.D) (cs : List Value), t.rows = false → RepV w Fr t x cs → RepV w' Fr' t x cs
  | .int _, _, _, _, h => h
  | .bool, _, _, _, h => h
  | .str, _, _, _, h => h
  | .unit, _, _, _, h => h
  | .opq, _, _, hn, _ => by simp [Ty.rows] at hn
  | .sl _, _, _, hn, _ => by simp [Ty.rows] at hn
  | .pair a b, _, _, hn, ⟨c1, c2, e, h1, h2⟩ => by
    simp only [Ty.rows, Bool.or_eq_false_iff] at hn
    exact ⟨c1, c2, e, RepV.norows a _ _ hn.1 h1, RepV.norows b _ _ hn.2 h2⟩
  | .arr _ t, _, _, hn, ⟨h0, h1⟩ => ⟨h0, h1.mono fun x cs hx => RepV.norows t x cs (by simpa [Ty.rows] using hn) hx⟩

theorem RepO.norows {w w' : World} {Fr Fr' : Nat → Prop} {t : Ty} {x : t.D} {v : Value} (hn : t.rows = false) (h : RepO w Fr t x v) : RepO w' Fr' t x v := by
  unfold RepO at *
  split at h
  · rename_i ha
    obtain ⟨cs, e, hr⟩ := h
    rw [if_pos ha]
    exact ⟨cs, e, RepV.norows t x cs hn hr⟩
  · rename_i ha
    rw [if_neg ha]
    exact RepV.norows t x _ hn h

theorem repRes.norows {w w' : World} {Fr Fr' : Nat → Prop} {ts : List Ty} {x : DL ts} {v : Value} (hn : ts.any Ty.rows = false) (h : repRes w Fr ts x v) : repRes w' Fr' ts x v := by
  have key : ∀ {ts : List Ty} {x : DL ts} {vs : List Value}, ts.any Ty.rows = false → repArgs w Fr ts x vs → repArgs w' Fr' ts x vs := by
    intro ts
    induction ts with
    | nil => intro x vs _ h; exact h
    | cons t ts ih =>
      rintro x vs hn ⟨v, l, e, h1, h2⟩
      simp only [List.any_cons, Bool.or_eq_false_iff] at hn
      exact ⟨v, l, e, h1.norows hn.1, ih hn.2 h2⟩
  match ts, x, h, hn with
  | [], x, ⟨vs, e, hr⟩, hn => exact ⟨vs, e, key hn hr⟩
  | [t], x, h, hn => exact RepO.norows (by simpa using hn) h
  | t :: u :: ts, x, ⟨vs, e, hr⟩, hn => exact ⟨vs, e, key hn hr⟩

theorem toVals_some (z : Bool) {β : Type} : ∀ {ts : List Ty} {as : List AV} {k : DL ts → Eff β} {m : Mem} {p : FP} {r : β × Mem × FP} {vs : List Value}, ((toVals z ts as k).go m p).run = some r → MemOk B F w0 lim m G w →
    repsL w (Frz B F m G w) m G as vs → ∃ x m1 p1, ((k x).go m1 p1).run = some r ∧ MemOk B F w0 lim m1 G w ∧ Tr B F m G w m1 G w ∧ repArgs w (Reach z B F m1 G w) ts x vs
  | [], [], k, m, p, r, vs, h, hm, hv => ⟨(), m, p, h, hm, Tr.refl .., hv⟩
  | t :: ts, a :: as, k, m, p, r, vs, h, hm, ⟨v, l, e, h1, h2⟩ => by
    obtain ⟨x, m1, p1, q1, q2, q3, q4⟩ := toVal_one z h hm h1
    obtain ⟨y, m2, p2, r1, r2, r3, r4⟩ := toVals_some z q1 q2 (repsL.mono q3 h2)
    exact ⟨(x, y), m2, p2, r1, r2, q3.trans r3, v, l, e, q4.mono fun k hk => ⟨Reach.mono z r3 hk, rfl⟩, r4⟩
  | [], _ :: _, _, _, _, _, _, h, _, _ => (fail_some h).elim
  | _ :: _, [], _, _, _, _, _, h, _, _ => (fail_some h).elim
end
end Go.Refl
/-
  Every operation that the abstract run takes does on the machine what the abstract run says.
-/
set_option linter.unusedVariables false
set_option linter.unusedSimpArgs false
namespace Go.Refl
open Go Go.RowKit

section
variable (P : Program) (B : Nat) (F : Nat → Prop) (w0 : World) (lim : Nat) (m : Mem) (G : Nat → Value) (w : World)
/-- What an operation hands on. -/
def Gives (o : Oper) (a : Act) (m' : Mem) (av : AV) : Prop :=
  ∀ (next : Act → World → Prop) (Q : Exit → Act → World → Prop),
    (∀ G' w' cv, MemOk B F w0 lim m' G' w' → Tr B F m G w m' G' w' → repA w' (Frz B F m' G' w') m' G' av .one [cv] → next (a.put o.dst cv) w') → o.wp P a w next Q
end

section
variable {P : Program} {B : Nat} {F : Nat → Prop} {w0 : World} {lim : Nat} {m m' : Mem} {G : Nat → Value} {w : World} {p p' : FP} {av : AV} {cx : Cx} {o : Oper} {a : Act}

theorem Gives.of_out {s : Sem Value} (h : Out P B F w0 lim m G w s m' av) (he : (execOp a.eval o).run P w = (s.run P w).andThen fun v w' => .ok (.value v) w') : Gives P B F w0 lim m G w o a m' av := by
  intro next Q hn
  obtain ⟨G', w', cv, h1, h2, h3, h4⟩ := h
  unfold Oper.wp
  rw [he, h1]
  exact hn G' w' cv h2 h3 h4

theorem Gives.of_outU {s : Sem Unit} (h : OutU P B F w0 lim m G w s m') (he : (execOp a.eval o).run P w = (s.run P w).andThen fun _ w' => .ok .skip w') : Gives P B F w0 lim m G w o a m' .undef := by
  intro next Q hn
  obtain ⟨G', w', h1, h2, h3⟩ := h
  unfold Oper.wp
  rw [he, h1]
  exact hn G' w' undef h2 h3 ⟨_, rfl⟩

/-- A call that changes a live row. -/
theorem mut_core (hm : MemOk B F w0 lim m G w) {f : FuncId} {sg : MSig} (hsg : SigMOk P f sg) {b v lo n : Nat} {xs ys : List sg.u.D} (hb : m b = some (.row sg.elem sg.u xs v, false)) {x : DL sg.args} {r : DL sg.res} (hr : sg.f xs lo n x = some (r, ys))
    {sv : Value} {vs : List Value} (hcut : CutOf (G b) sg.u.size xs.length lo n sv) (hargs : repArgs w (Frz B F m G w) sg.args x vs) :
    Calls P f (sv :: vs).toArray w fun e w' => match e with
      | .returned v' => MemOk B F w0 lim (m.set b (.row sg.elem sg.u ys v, false)) G w' ∧ Tr B F m G w (m.set b (.row sg.elem sg.u ys v, false)) G w' ∧ repRes w' (Frz B F (m.set b (.row sg.elem sg.u ys v, false)) G w') sg.res r v'
      | _ => False := by
  obtain ⟨_, hn1, hn3, hok⟩ := hsg
  obtain ⟨cells, h1, h2, h3⟩ := hm.blk _ _ _ hb
  have hno : ∀ k, hdNo (G b) = some k → B ≤ k ∧ k < w.heap.size := fun k hk => (hm.blk _ _ _ hb).no hk
  have hown0 : w.ownsRow 0 sg.elem sg.u.size (G b) xs.length cells := by
    refine ⟨h1.1, ?_⟩
    rcases h1.2 with h4 | ⟨g, cap, cur, h4, h5, h6⟩
    · exact .inl h4
    · exact .inr ⟨g, cap, cur, h4, Nat.zero_le _, h6⟩
  refine (hok (Frz B F m G w) xs ys lo n x r (G b) sv vs cells w hr (fun k hk => ⟨Frz.lt hm.base hk, fun hk' => ?_⟩) hown0 h2 hcut hargs).mono fun e w' hR => ?_
  · exact hk.2.2 b _ hb hk'
  · cases e with
    | returned v' =>
      obtain ⟨q1, q2, ⟨cells', q3, q4⟩, q5⟩ := hR
      have hlen : xs.length = ys.length := by
        rcases hown0.2 with ⟨h4, h5⟩ | ⟨g, cap, cur, h4, _⟩
        · rcases q3.2 with ⟨_, h7⟩ | ⟨g', cap', cur', h6, _⟩
          · omega
          · rw [h4] at h6; cases h6
        · rcases q3.2 with ⟨h6, _⟩ | ⟨g', cap', cur', h6, _⟩
          · rw [h4] at h6; cases h6
          · rw [h4] at h6; injection h6
      have hst := hm.step (b0 := b) (c0 := .row sg.elem sg.u ys v) (z0 := false) (g0 := G b) (w' := w')
        ⟨q1.os, q1.tape, q1.output, q1.size, fun k hk => q2 k (by have := hm.base; omega) fun hk' => by have := (hno k hk').1; omega⟩
        (fun k hk hk' => q2 k hk (hk' _ hb)) (fun k hk => .inl ⟨⟨_, hb⟩, hk⟩)
        (fun c z hc => by
          rw [hb] at hc
          injection hc with hc
          injection hc with hc1 hc2
          subst hc1; subst hc2
          exact ⟨⟨rfl, rfl, Nat.le_refl _, fun _ => hlen⟩, fun _ => rfl, fun h => h⟩) (hm.lim _ _ hb)
        (fun _ => ⟨cells', by
          refine ⟨q3.1, ?_⟩
          rw [upd, if_pos rfl]
          rcases q3.2 with h4 | ⟨g, cap, cur, h4, h5, h6⟩
          · exact .inl h4
          · exact .inr ⟨g, cap, cur, h4, (hno g (by rw [h4]; rfl)).1, h6⟩, q4.mono fun x cs hx => RepV.norows _ _ _ hn1 hx, h3⟩)
      rw [upd_self] at hst
      refine ⟨hst.1, hst.2, q5.mono' fun k hk => ?_⟩
      rcases hk with hk | ⟨hk1, hk2⟩
      · exact ⟨(hst.2.fr k hk).1, rfl⟩
      · refine ⟨⟨hm.nw k hk1, hk2, fun b2 c2 hb2 hk3 => ?_⟩, rfl⟩
        unfold Mem.set at hb2
        split at hb2
        · rename_i e2
          subst e2
          have := (hno k hk3).2
          omega
        · have := ((hm.blk _ _ _ hb2).no hk3).2
          omega
    | panicked c => exact hR.elim
    | outgrown => exact hR.elim

theorem call_gives (hS : SigsOk P cx) (hm : MemOk B F w0 lim m G w) {site : Nat} (hl : site < lim) {f : FuncId} {args : List AV} {vs : List Value} (hv : repsL w (Frz B F m G w) m G args vs)
    (h : ((callOp cx site f args).go m p).run = some (av, m', p')) (he : (execOp a.eval o).run P w = (callFunc f vs.toArray).run P w) : Gives P B F w0 lim m G w o a m' av := by
  intro next Q hn
  unfold callOp at h
  split at h
  · rename_i sg hsg
    replace hsg : look cx.sigs f = some sg := by
      unfold Cx.sigAt at hsg
      split at hsg
      · cases hsg
      · exact hsg
    obtain ⟨⟨fn, hf1, hf2, hf3⟩, hok⟩ := hS.sig f sg hsg
    obtain ⟨xs, m1, p1, h, hm1, ht1, hx⟩ := toVals_some (sg.res.any Ty.rows) h hm hv
    replace h := ask_some h; obtain ⟨r, hr, h⟩ := h
    obtain ⟨h1', h2'⟩ := ret_some h
    subst h1'; subst h2'
    have hc := hok _ xs r vs w hr (fun k hk => by
      unfold Reach at hk
      split at hk
      · exact Frz.lt hm1.base hk
      · exact hk) hx
    unfold Oper.wp
    have hrun : (callFunc f vs.toArray).run P w = .ok (.enter f vs.toArray) w := by
      simp only [callFunc, Sem.run_bind, run_program, Result.andThen_ok, hf1, hf2, hf3, Bool.false_eq_true, if_false, Sem.run_pure]
    rw [he, hrun]
    refine hc.mono fun e w' hR => ?_
    cases e with
    | returned v =>
      obtain ⟨hb, hres⟩ := hR
      obtain ⟨hm2, ht2⟩ := hm1.grown hb
      refine hn G w' v hm2 (ht1.trans ht2) ?_
      by_cases hz : sg.res.any Ty.rows = true
      · have : repRes w' (Frz B F m1 G w') sg.res r v := by
          have hmono : ∀ k, (Reach (sg.res.any Ty.rows) B F m1 G w k ∨ (w.heap.size ≤ k ∧ k < w'.heap.size)) → Frz B F m1 G w' k ∧ w'.heap[k]? = w'.heap[k]? := by
            rintro k (hk | ⟨hk1, hk2⟩)
            · unfold Reach at hk
              rw [if_pos hz] at hk
              exact ⟨(ht2.fr k hk).1, rfl⟩
            · refine ⟨⟨hm1.nw k hk1, hk2, fun b c hb hk => ?_⟩, rfl⟩
              have := ((hm1.blk _ _ _ hb).no hk).2
              omega
          have key : ∀ {ts : List Ty} {x : DL ts} {v : Value}, repRes w' (fun k => Reach (sg.res.any Ty.rows) B F m1 G w k ∨ (w.heap.size ≤ k ∧ k < w'.heap.size)) ts x v → repRes w' (Frz B F m1 G w') ts x v := by
            intro ts x v h
            match ts, x, h with
            | [], x, ⟨vs, e, hr⟩ => exact ⟨vs, e, hr.mono hmono⟩
            | [t], x, h => exact RepO.mono hmono h
            | t :: u :: ts, x, ⟨vs, e, hr⟩ => exact ⟨vs, e, hr.mono hmono⟩
          exact key hres
        exact this.toRepA
      · exact (repRes.norows (Fr' := Frz B F m1 G w') (by simpa using hz) hres).toRepA
    | panicked c => exact hR.elim
    | outgrown => exact hR.elim
  · split at h
    · rename_i sg a0 as hsg
      have hsm := hS.chg f sg hsg
      obtain ⟨fn, hf1, hf2, hf3⟩ := hsm.1
      obtain ⟨v0, vs, e0, hv0, hvs⟩ := hv
      subst e0
      replace h := toVals_some true h hm hvs
      obtain ⟨x, m1, p1, h, hm1, ht1, hx⟩ := h
      replace hx : repArgs w (Frz B F m1 G w) sg.args x vs := hx.mono fun k hk => ⟨by unfold Reach at hk; rwa [if_pos rfl] at hk, rfl⟩
      replace hv0 := repA.mono ht1 _ _ _ hv0
      have hrun : (callFunc f (v0 :: vs).toArray).run P w = .ok (.enter f (v0 :: vs).toArray) w := by
        simp only [callFunc, Sem.run_bind, run_program, Result.andThen_ok, hf1, hf2, hf3, Bool.false_eq_true, if_false, Sem.run_pure]
      have fin : ∀ {b v' lo n : Nat} {u : Ty} {e : TypeId} {xs : List u.D} {z : Bool}, m1 b = some (.row e u xs v', z) → e = sg.elem →
          ((Eff.opt (Ty.cast (t := .sl u) (u := .sl sg.u) xs) fun ys => .ask (sg.f ys lo n x) fun r => .wr b (.row e sg.u r.2 v') (.ret (resOf sg.res r.1))).go m1 ((b, 0) :: p1)).run = some (av, m', p') →
          CutOf (G b) u.size xs.length lo n v0 → o.wp P a w next Q := by
        intro b v' lo n u e xs z hb he' h hcut
        subst he'
        replace h := opt_some h
        obtain ⟨ys, hy, h⟩ := h
        obtain ⟨e, hxy⟩ := cast_rep hy
        injection e with e
        subst e
        cases hxy
        replace h := ask_some h
        obtain ⟨⟨r, zs⟩, hr, h⟩ := h
        replace h := wr_some h
        obtain ⟨c0, hc0, h⟩ := h
        obtain ⟨e1, e2⟩ := ret_some h
        subst e1; subst e2
        rw [hb] at hc0
        injection hc0 with hc0
        injection hc0 with hc0 hz
        subst hz
        unfold Oper.wp
        rw [he, hrun]
        refine (mut_core hm1 hsm hb hr hcut hx).mono fun e w' hR => ?_
        cases e with
        | returned v =>
          obtain ⟨q1, q2, q3⟩ := hR
          exact hn G w' v q1 (ht1.trans q2) q3.toRepA
        | panicked c => exact hR.elim
        | outgrown => exact hR.elim
      unfold mutOp at h
      split at h
      · rename_i b v
        replace h := rd_some h
        obtain ⟨c, z, hc, h⟩ := h
        cases c with
        | var => exact (fail_some h).elim
        | row e u xs v' =>
          replace h := ite_some h
          rcases h with ⟨⟨hvv, hee⟩, h⟩ | ⟨_, h⟩
          · obtain ⟨h0, e1, t1, xs1, v1, z1, k1, k2, k3⟩ := one_own hv0
            rw [hc] at k1
            injection k1 with k1
            injection k1 with k1 k1'
            injection k1 with s1 s2 s3 s4
            subst s1; subst s2; subst s4; subst k1'
            cases s3
            have hg := k3 hvv
            subst hvv
            have hh : ((Eff.opt (Ty.cast (t := .sl u) (u := .sl sg.u) xs) fun ys => .ask (sg.f ys 0 ys.length x) fun r => .wr b (.row e sg.u r.2 v) (.ret (resOf sg.res r.1))).go m1 ((b, 0) :: p1)).run = some (av, m', p') := h
            have hh2 : ((Eff.opt (Ty.cast (t := .sl u) (u := .sl sg.u) xs) fun ys => .ask (sg.f ys 0 xs.length x) fun r => .wr b (.row e sg.u r.2 v) (.ret (resOf sg.res r.1))).go m1 ((b, 0) :: p1)).run = some (av, m', p') := by
              obtain ⟨ys, hy, h'⟩ := opt_some hh
              obtain ⟨e', hxy⟩ := cast_rep hy
              injection e' with e'
              subst e'
              cases hxy
              rw [hy]
              exact h'
            refine fin hc hee hh2 ⟨by omega, ?_⟩
            obtain ⟨A, c, cells, g1, g2, g3, g4⟩ := row_cells hm1 hc
            rw [hg, g1]
            refine ⟨A, c, rfl, g2, fun hne => ?_⟩
            obtain ⟨cells', r1, r2, r3⟩ := hm1.blk _ _ _ hc
            rcases r1.2 with ⟨r4, r5⟩ | ⟨g, cap, cur, r4, _⟩
            · exact (hne r5).elim
            · rw [g1] at r4
              injection r4 with r4 r5 r6
              subst r4
              exact ⟨g, xs.length, c, rfl, by simp⟩
          · exact (fail_some h).elim
      · rename_i b v lo n
        replace h := rd_some h
        obtain ⟨c, z, hc, h⟩ := h
        cases c with
        | var => exact (fail_some h).elim
        | row e u xs v' =>
          replace h := ite_some h
          rcases h with ⟨⟨hvv, hee⟩, h⟩ | ⟨_, h⟩
          · obtain ⟨h0, e1, t1, xs1, v1, z1, k1, k2, k3⟩ := one_sub hv0
            rw [hc] at k1
            injection k1 with k1
            injection k1 with k1 k1'
            injection k1 with s1 s2 s3 s4
            subst s1; subst s2; subst s4; subst k1'
            cases s3
            have hg := k3 hvv
            subst hvv
            exact fin hc hee h hg
          · exact (fail_some h).elim
      · exact (fail_some h).elim
    · split at h
      · rename_i sg hsg
        obtain ⟨⟨fn, hf1, hf2, hf3⟩, hn1, hn2, hok⟩ := hS.new f sg hsg
        obtain ⟨xs, m1, p1, h, hm1, ht1, hx⟩ := toVals_some true h hm hv
        replace h := ask_some h; obtain ⟨ys, hr, h⟩ := h
        replace h := nw_some h; obtain ⟨hnone, h⟩ := h
        obtain ⟨h1', h2'⟩ := ret_some h
        subst h1'; subst h2'
        replace hx : repArgs w (Frz B F m1 G w) sg.args xs vs := hx.mono fun k hk => ⟨by unfold Reach at hk; rwa [if_pos rfl] at hk, rfl⟩
        have hc := hok _ xs ys vs w hr (fun k hk => Frz.lt hm1.base hk) hx
        unfold Oper.wp
        have hrun : (callFunc f vs.toArray).run P w = .ok (.enter f vs.toArray) w := by
          simp only [callFunc, Sem.run_bind, run_program, Result.andThen_ok, hf1, hf2, hf3, Bool.false_eq_true, if_false, Sem.run_pure]
        rw [he, hrun]
        refine hc.mono fun e w' hR => ?_
        cases e with
        | returned v =>
          obtain ⟨hbl, cells, q2, q3⟩ := hR
          have hno : hdNo v = v.ownBlock ∧ v.oneCell' = true := by
            rcases q2.2 with ⟨rfl, _⟩ | ⟨g, cap, cur, rfl, _⟩ <;> exact ⟨rfl, rfl⟩
          have hnum : ∀ k, hdNo v = some k → w.heap.size ≤ k := by
            intro k hk
            rcases q2.2 with ⟨e1, _⟩ | ⟨g, cap, cur, e1, e2, _⟩
            · rw [e1] at hk; cases hk
            · rw [e1] at hk
              have hk' : g = k := by injection hk
              omega
          have hst := hm1.step (b0 := site) (c0 := .row sg.elem sg.u ys 0) (z0 := false) (g0 := v) (w' := w') (hbl.mono hm1.base) (fun k hk _ => hbl.block k hk) (fun k hk => .inr (hnum k hk)) (fun c z hc => by rw [hnone] at hc; cases hc) hl ?_
          · exact hn _ w' v hst.1 (ht1.trans hst.2) (new_own hno.2)
          · intro htr
            refine ⟨cells, ?_, q3.mono fun x cs hx => RepV.norows _ _ _ hn1 hx, hn2⟩
            have : upd G site v site = v := by simp [upd]
            rw [this]
            refine ⟨q2.1, ?_⟩
            rcases q2.2 with h4 | ⟨g, cap, cur, h4, h5, h6⟩
            · exact .inl h4
            · exact .inr ⟨g, cap, cur, h4, Nat.le_trans hm1.base h5, h6⟩
        | panicked c => exact hR.elim
        | outgrown => exact hR.elim
      · exact (fail_some h).elim

theorem target_some {ρ : AV} {args : List AV} {v : Value} {vs : List Value} {g : FuncId} {l : List AV} (h : target ρ args = some (g, l)) (hv : repA w (Frz B F m G w) m G ρ .one [v]) (ha : repsL w (Frz B F m G w) m G args vs) :
    ∃ x y : List Value, v = .func (.func g) x.toArray y.toArray ∧ repsL w (Frz B F m G w) m G l (x ++ vs ++ y) := by
  unfold target at h
  split at h
  · rename_i f first cap
    split at h
    · rename_i fl cl hf hc
      injection h with h
      injection h with h1 h2
      subst h1; subst h2
      obtain ⟨x, y, e, h1, h2⟩ := one_fn hv
      exact ⟨x, y, e, repsL.append (repsL.append (toList_reps hf h1) ha) (toList_reps hc h2)⟩
    · cases h
  · cases h

theorem run_callValue {c : Call} {f : Operand} (hc : c.callee = .value f) (ho : o.op = .call c) {x y : List Value} {g : FuncId} (hf : a.eval f = .func (.func g) x.toArray y.toArray) :
    (execOp a.eval o).run P w = (callFunc g (x ++ c.args.toList.map a.eval ++ y).toArray).run P w := by
  have e1 : x.toArray ++ c.args.map a.eval ++ y.toArray = (x ++ c.args.toList.map a.eval ++ y).toArray := by
    apply Array.ext'
    simp
  unfold execOp
  simp only [ho, resolve, hc, hf, Deferred.ofValue, Sem.run_bind, Sem.run_pure, Result.andThen_ok, invoke]
  rw [e1]

theorem op_gives (hT : typesChk P cx.types = true) (hS : SigsOk P cx) (hm : MemOk B F w0 lim m G w) {ρ : Operand → AV} {site : Nat} (hl : site < lim)
    (hρ : ∀ x ∈ o.op.operands.toList, repA w (Frz B F m G w) m G (ρ x) .one [a.eval x]) (h : ((opEff cx site ρ o.op).go m p).run = some (av, m', p')) : Gives P B F w0 lim m G w o a m' av := by
  cases ho : o.op with
  | move x =>
    rw [ho] at h hρ
    obtain ⟨h1', h2'⟩ := ret_some h
    subst h1'; subst h2'
    exact .of_out (s := pure (a.eval x)) (out_pure rfl hm (hρ x (by simp [Op.operands]))) (by simp [execOp, ho])
  | assign x =>
    rw [ho] at h hρ
    obtain ⟨h1', h2'⟩ := ret_some h
    subst h1'; subst h2'
    exact .of_out (s := pure (a.eval x)) (out_pure rfl hm (hρ x (by simp [Op.operands]))) (by simp [execOp, ho])
  | pick c x y =>
    rw [ho] at h hρ
    simp only [opEff] at h
    have hc := hρ c (by simp [Op.operands])
    have hx := hρ x (by simp [Op.operands])
    have hy := hρ y (by simp [Op.operands])
    split at h
    · rename_i t ht
      rw [ht] at hc
      have e := one_bool hc
      replace h := tst_some h; rcases h with ⟨ht1, h⟩ | ⟨ht1, h⟩
      · obtain ⟨h1', h2'⟩ := ret_some h
        subst h1'; subst h2'
        exact .of_out (s := pure (a.eval x)) (out_pure rfl hm hx) (by simp [execOp, ho, e, asBool, ht1])
      · obtain ⟨h1', h2'⟩ := ret_some h
        subst h1'; subst h2'
        exact .of_out (s := pure (a.eval y)) (out_pure rfl hm hy) (by simp [execOp, ho, e, asBool, ht1])
    · exact (fail_some h).elim
  | alloc t =>
    rw [ho] at h hρ
    exact .of_out (alloc_out hT hm hl h) (by simp [execOp, ho])
  | box t x =>
    rw [ho] at h hρ
    exact .of_out (box_out hm hl (hρ x (by simp [Op.operands])) h) (by simp [execOp, ho])
  | build t ps =>
    rw [ho] at h hρ
    have hv : repsP w (Frz B F m G w) m G (ps.toList.map fun q => (q.1, ρ q.2)) (ps.map fun q => (q.1, a.eval q.2)).toList := by
      rw [Array.toList_map]
      exact repsP_map fun q hq => hρ q.2 (by simp only [Op.operands]; simp; exact ⟨q.1, by simpa using hq⟩)
    obtain ⟨h1, h2⟩ := build_out hT hm hv h
    subst h1
    exact .of_out h2 (by simp [execOp, ho])
  | buildSlice t len ps =>
    rw [ho] at h hρ
    have hv : repsP w (Frz B F m G w) m G (ps.toList.map fun q => (q.1, ρ q.2)) (ps.map fun q => (q.1, a.eval q.2)).toList := by
      rw [Array.toList_map]
      exact repsP_map fun q hq => hρ q.2 (by simp only [Op.operands]; simp; exact ⟨q.1, by simpa using hq⟩)
    exact .of_out (buildSlice_out hT hm hl hv h) (by simp [execOp, ho])
  | load t x =>
    rw [ho] at h hρ
    obtain ⟨h1, h2⟩ := load_out hT hm (hρ x (by simp [Op.operands])) h
    subst h1
    exact .of_out h2 (by simp [execOp, ho])
  | store t x y =>
    rw [ho] at h hρ
    obtain ⟨h1, h2⟩ := store_out hT hm (hρ x (by simp [Op.operands])) (hρ y (by simp [Op.operands])) h
    subst h1
    exact .of_outU h2 (by simp [execOp, ho])
  | nilCheck x =>
    rw [ho] at h hρ
    have hx := hρ x (by simp [Op.operands])
    simp only [opEff] at h
    split at h
    · rename_i b q hb
      rw [hb] at hx
      obtain ⟨h1', h2'⟩ := ret_some h
      subst h1'; subst h2'
      obtain ⟨T, c, z, g, r1, r2, r3, r4⟩ := one_ptr hx
      exact .of_out (s := pure (a.eval x)) (out_pure rfl hm hx) (by simp [execOp, ho, r4])
    · rename_i b ve i q hb
      rw [hb] at hx
      replace h := rd_some h; obtain ⟨c, z, hc, h⟩ := h
      cases c with
      | var => exact (fail_some h).elim
      | row e1 t1 xs1 v1 =>
        replace h := ite_some h; rcases h with ⟨hv, h⟩ | ⟨_, h⟩
        · obtain ⟨h1', h2'⟩ := ret_some h
          subst h1'; subst h2'
          obtain ⟨ho1, e, t, xs, v', z, r1, r2, r3, r4⟩ := one_rptr hx
          rw [hc] at r1
          injection r1 with r1
          injection r1 with r1 r1'
          injection r1 with s1 s2 s3 s4
          obtain ⟨k1, g, n, cap, k2, k3⟩ := r4 (hv.trans s4)
          exact .of_out (s := pure (a.eval x)) (out_pure rfl hm hx) (by simp [execOp, ho, k3])
        · exact (fail_some h).elim
    · rename_i t y hb
      rw [hb] at hx
      obtain ⟨h1', h2'⟩ := ret_some h
      subst h1'; subst h2'
      obtain ⟨ad, e, _⟩ := one_ref hx
      exact .of_out (s := pure (a.eval x)) (out_pure rfl hm hx) (by simp [execOp, ho, e])
    · exact (fail_some h).elim
  | binOp op t x y t' =>
    rw [ho] at h hρ
    obtain ⟨h1, h2⟩ := binop_out (ox := x) (oy := y) hT hm (hρ x (by simp [Op.operands])) (hρ y (by simp [Op.operands])) h
    subst h1
    exact .of_out h2 (by simp [execOp, ho]; cases (eqGuard op t x y (a.eval x) (a.eval y)).run P w <;> rfl)
  | unOp op t x =>
    rw [ho] at h hρ
    obtain ⟨h1, h2⟩ := unop_out (P := P) hm (hρ x (by simp [Op.operands])) h
    subst h1
    exact .of_out h2 (by simp [execOp, ho])
  | convert src dst x =>
    rw [ho] at h hρ
    obtain ⟨h1, h2⟩ := convOp_out hT hm (hρ x (by simp [Op.operands])) h
    subst h1
    exact .of_out h2 (by simp [execOp, ho])
  | makeFunc fn first cap =>
    rw [ho] at h hρ
    cases fn with
    | func f =>
      simp only [opEff] at h
      obtain ⟨h1', h2'⟩ := ret_some h
      subst h1'; subst h2'
      refine .of_out (s := Instr.makeFunc (.func f) (first.map a.eval) (cap.map a.eval)) (out_pure (cv := .func (.func f) (first.toList.map a.eval).toArray (cap.toList.map a.eval).toArray) ?_ hm ⟨_, _, rfl, ?_, ?_⟩) (by simp [execOp, ho])
      · have e1 : ∀ l : Array Operand, (l.toList.map a.eval).toArray = l.map a.eval := fun l => by apply Array.ext'; simp
        rw [e1, e1]
        rfl
      · exact chain_reps (reps_map fun y hy => hρ y (by simp [Op.operands]; exact .inl (by simpa using hy)))
      · exact chain_reps (reps_map fun y hy => hρ y (by simp [Op.operands]; exact .inr (by simpa using hy)))
    | _ => exact (fail_some h).elim
  | makeSlice t l c =>
    rw [ho] at h hρ
    exact .of_out (makeSlice_out hT hm hl (hρ l (by simp [Op.operands])) (hρ c (by simp [Op.operands])) h) (by simp [execOp, ho])
  | slice t x lo hi mx =>
    rw [ho] at h hρ
    refine .of_out (slice_out hT hm (vlo := lo.map a.eval) (vhi := hi.map a.eval) (vmx := mx.map a.eval) (hρ x (by simp [Op.operands])) ?_ ?_ ?_ h) (by simp [execOp, ho])
    · cases lo with
      | none => exact trivial
      | some y => exact hρ y (by simp [Op.operands])
    · cases hi with
      | none => exact trivial
      | some y => exact hρ y (by simp [Op.operands])
    · cases mx with
      | none => exact trivial
      | some y => exact hρ y (by simp [Op.operands])
  | fieldAddr t x f =>
    rw [ho] at h hρ
    obtain ⟨h1, h2⟩ := fieldAddr_out hT hm (hρ x (by simp [Op.operands])) h
    subst h1
    exact .of_out h2 (by simp [execOp, ho])
  | field t x f =>
    rw [ho] at h hρ
    obtain ⟨h1, h2⟩ := field_out hT hm (hρ x (by simp [Op.operands])) h
    subst h1
    exact .of_out h2 (by simp [execOp, ho])
  | indexAddr t x i =>
    rw [ho] at h hρ
    obtain ⟨h1, h2⟩ := indexAddr_out hT hm (hρ x (by simp [Op.operands])) (hρ i (by simp [Op.operands])) h
    subst h1
    exact .of_out h2 (by simp [execOp, ho])
  | index t x i =>
    rw [ho] at h hρ
    obtain ⟨h1, h2⟩ := index_out hT hm (hρ x (by simp [Op.operands])) (hρ i (by simp [Op.operands])) h
    subst h1
    exact .of_out h2 (by simp [execOp, ho])
  | extract x j =>
    rw [ho] at h hρ
    have hx := hρ x (by simp [Op.operands])
    simp only [opEff] at h
    split at h
    · rename_i l hb
      rw [hb] at hx
      replace h := opt_some h; obtain ⟨y, hy, h⟩ := h
      obtain ⟨h1', h2'⟩ := ret_some h
      subst h1'; subst h2'
      obtain ⟨ws, e, hc⟩ := one_tp hx
      obtain ⟨v, q1, q2⟩ := nth_chain hy hc
      refine .of_out (s := Instr.extract (a.eval x) j) (out_pure ?_ hm q2) (by simp [execOp, ho])
      simp [Instr.extract, e, q1]
    · exact (fail_some h).elim
  | call c =>
    rw [ho] at h hρ
    simp only [opEff] at h
    split at h
    · rename_i b hb
      have ha : ∀ x ∈ c.args.toList, repA w (Frz B F m G w) m G (ρ x) .one [a.eval x] := fun x hx => hρ x (by simp only [Op.operands, Call.operands, hb]; simpa using hx)
      have he : ∀ s : Sem Value, (builtin b c.argTypes o.type (c.args.map fun | .const _ => true | _ => false) (c.args.map a.eval)).run P w = (s.run P w).andThen (fun v w' => .ok (.value v) w') →
          (execOp a.eval o).run P w = (s.run P w).andThen fun v w' => .ok (.value v) w' := by
        intro s hs
        unfold execOp
        simp only [ho, resolve, hb, Sem.run_bind, Sem.run_pure, Result.andThen_ok, invoke]
        exact hs
      have ea : c.args.map a.eval = (c.args.toList.map a.eval).toArray := by apply Array.ext'; simp
      split at h
      · rename_i x t h1 h2
        rw [h1] at ha ea
        obtain ⟨h1', h2'⟩ := len_out (ty := o.type) hT hm (ha x (.head _)) h
        subst h1'
        have et : c.argTypes = #[t] := by apply Array.ext'; simpa using h2
        refine .of_out h2' (he _ ?_)
        rw [ea, et]
        simp [builtin]
      · rename_i s x t t' h1 h2
        rw [h1] at ha ea
        have et : c.argTypes = #[t, t'] := by apply Array.ext'; simpa using h2
        refine .of_out (append_out (ty := o.type) hT hm hl (ha s (.head _)) (ha x (.tail _ (.head _))) h) (he _ ?_)
        rw [ea, et]
        simp [builtin]
      · rename_i s x t t' h1 h2
        rw [h1] at ha ea
        have et : c.argTypes = #[t, t'] := by apply Array.ext'; simpa using h2
        refine .of_out (copy_out (ty := o.type) (t' := t') hT hm (ha s (.head _)) (ha x (.tail _ (.head _))) h) (he _ ?_)
        rw [ea, et]
        simp [builtin]
      · replace h := opt_some h; obtain ⟨y, hy, h⟩ := h
        obtain ⟨h1', h2'⟩ := ret_some h
        subst h1'; subst h2'
        refine .of_out (minmax_out (b := true) (ats := c.argTypes) (ty := o.type) hm (reps_map ha) hy) (he _ ?_)
        rw [ea]
        simp [builtin]
      · replace h := opt_some h; obtain ⟨y, hy, h⟩ := h
        obtain ⟨h1', h2'⟩ := ret_some h
        subst h1'; subst h2'
        refine .of_out (minmax_out (b := false) (ats := c.argTypes) (ty := o.type) hm (reps_map ha) hy) (he _ ?_)
        rw [ea]
        simp [builtin]
      · exact (fail_some h).elim
    · rename_i f hb
      replace h := opt_some h; obtain ⟨y, hy, h⟩ := h
      have ha : repsL w (Frz B F m G w) m G (c.args.toList.map ρ) (c.args.toList.map a.eval) := reps_map fun x hx => hρ x (by simp only [Op.operands, Call.operands, hb]; simp; exact .inr (by simpa using hx))
      obtain ⟨x, z, q1, q2⟩ := target_some hy (hρ f (by simp [Op.operands, Call.operands, hb])) ha
      exact call_gives hS hm hl q2 h (run_callValue hb ho q1)
    · exact (fail_some h).elim
  | _ => rw [ho] at h; exact (fail_some h).elim
end
end Go.Refl
/-
  Operations that don't meet may stand in either order.
-/
set_option linter.unusedVariables false
set_option linter.unusedSimpArgs false
namespace Go.Refl
open Go Go.RowKit

/-! ### What an effect leaves alone -/
def cont (x : Option (Cn × Bool)) : Option Cn := x.map (·.1)

/-- Two memories look alike to a footprint. -/
def Alike (q : FP) (m m2 : Mem) : Prop := ∀ b, ((b, 2) ∈ q → m2 b = m b) ∧ ((∃ k, (b, k) ∈ q) → cont (m2 b) = cont (m b))

/-- What a footprint's effect did to a memory. -/
structure Did (q : FP) (m m' : Mem) : Prop where
  same : ∀ b, (b, 1) ∉ q → (b, 2) ∉ q → m' b = m b
  froze : ∀ b, (b, 1) ∈ q → (b, 2) ∉ q → ∃ c z, m b = some (c, z) ∧ m' b = some (c, true)

theorem go_frame {α : Type} : ∀ (e : Eff α) {m m' : Mem} {p p' : FP} {x : α}, (e.go m p).run = some (x, m', p') → ∃ q, p' = q ++ p ∧ (∀ y ∈ q, y.2 < 3) ∧ Did q m m' ∧
    ∀ (m2 : Mem) (p2 : FP), Alike q m m2 → ∃ m2', (e.go m2 p2).run = some (x, m2', q ++ p2) ∧ ∀ b, (((b, 1) ∈ q ∨ (b, 2) ∈ q) → m2' b = m' b) ∧ ((b, 1) ∉ q → (b, 2) ∉ q → m2' b = m2 b)
  | .ret a, m, m', p, p', x, h => by
    simp only [Eff.go, Pr.run] at h
    injection h with h
    injection h with h1 h2
    injection h2 with h2 h3
    subst h1; subst h2; subst h3
    exact ⟨[], rfl, by simp, ⟨fun _ _ _ => rfl, by simp⟩, fun m2 p2 _ => ⟨m2, rfl, by simp⟩⟩
  | .fail, m, m', p, p', x, h => by cases h
  | .tst c y n, m, m', p, p', x, h => by
    rw [go_tst] at h
    cases c with
    | true =>
      obtain ⟨q, h1, h2, h3, h4⟩ := go_frame y (by simpa using h)
      exact ⟨q, h1, h2, h3, fun m2 p2 ha => by simpa [go_tst] using h4 m2 p2 ha⟩
    | false =>
      obtain ⟨q, h1, h2, h3, h4⟩ := go_frame n (by simpa using h)
      exact ⟨q, h1, h2, h3, fun m2 p2 ha => by simpa [go_tst] using h4 m2 p2 ha⟩
  | .ask y k, m, m', p, p', x, h => by
    obtain ⟨b, hb, h⟩ := ask_some h
    subst hb
    obtain ⟨q, h1, h2, h3, h4⟩ := go_frame (k b) h
    exact ⟨q, h1, h2, h3, fun m2 p2 ha => h4 m2 p2 ha⟩
  | .rd b k, m, m', p, p', x, h => by
    obtain ⟨c, z, hc, h⟩ := rd_some h
    obtain ⟨q, h1, h2, h3, h4⟩ := go_frame (k c) h
    refine ⟨q ++ [(b, 0)], by rw [h1, List.append_assoc]; rfl, ?_, ⟨fun b' n1 n2 => h3.same b' (fun q => n1 (List.mem_append_left _ q)) (fun q => n2 (List.mem_append_left _ q)), fun b' n1 n2 => ?_⟩, fun m2 p2 ha => ?_⟩
    · intro y hy
      rcases List.mem_append.1 hy with hy | hy
      · exact h2 y hy
      · simp at hy; subst hy; simp
    · rcases List.mem_append.1 n1 with n1 | n1
      · exact h3.froze b' n1 fun q => n2 (List.mem_append_left _ q)
      · simp at n1
    · have hb := (ha b).2 ⟨0, by simp⟩
      rw [hc] at hb
      obtain ⟨z2, hz2⟩ : ∃ z2, m2 b = some (c, z2) := by
        cases hm2 : m2 b with
        | none => rw [hm2] at hb; cases hb
        | some y =>
          rw [hm2] at hb
          simp [cont] at hb
          exact ⟨y.2, by rw [← hb]⟩
      obtain ⟨m2', r1, r2⟩ := h4 m2 ((b, 0) :: p2) fun b' => ⟨fun hq => (ha b').1 (List.mem_append_left _ hq), fun ⟨k, hq⟩ => (ha b').2 ⟨k, List.mem_append_left _ hq⟩⟩
      refine ⟨m2', ?_, fun b' => ?_⟩
      · simp only [Eff.go, hz2]
        rw [r1]
        simp
      · simpa using r2 b'
  | .wr b c k, m, m', p, p', x, h => by
    obtain ⟨c0, hc, h⟩ := wr_some h
    obtain ⟨q, h1, h2, h3, h4⟩ := go_frame k h
    refine ⟨q ++ [(b, 2)], by rw [h1, List.append_assoc]; rfl, ?_, ⟨fun b' n1 n2 => ?_, fun b' n1 n2 => ?_⟩, fun m2 p2 ha => ?_⟩
    · intro y hy
      rcases List.mem_append.1 hy with hy | hy
      · exact h2 y hy
      · simp at hy; subst hy; simp
    · have hne : b' ≠ b := fun e => n2 (by subst e; simp)
      rw [h3.same b' (fun q => n1 (List.mem_append_left _ q)) (fun q => n2 (List.mem_append_left _ q))]
      simp [Mem.set, hne]
    · have hne : b' ≠ b := fun e => n2 (by subst e; simp)
      rcases List.mem_append.1 n1 with n1 | n1
      · obtain ⟨c', z', q1, q2⟩ := h3.froze b' n1 fun q => n2 (List.mem_append_left _ q)
        exact ⟨c', z', by simpa [Mem.set, hne] using q1, q2⟩
      · simp at n1
    · have hb := (ha b).1 (by simp)
      have ha' : Alike q (m.set b (c, false)) (m2.set b (c, false)) := fun b' => by
        by_cases e : b' = b
        · subst e; simp [Mem.set]
        · simp only [Mem.set, if_neg e]
          exact ⟨fun hq => (ha b').1 (List.mem_append_left _ hq), fun ⟨k, hq⟩ => (ha b').2 ⟨k, List.mem_append_left _ hq⟩⟩
      obtain ⟨m2', r1, r2⟩ := h4 (m2.set b (c, false)) ((b, 2) :: p2) ha'
      refine ⟨m2', ?_, fun b' => ?_⟩
      · simp only [Eff.go, hb, hc]
        rw [r1]
        simp
      · by_cases e : b' = b
        · subst e
          refine ⟨fun _ => ?_, fun _ n2 => (n2 (by simp)).elim⟩
          by_cases hq : (b', 1) ∈ q ∨ (b', 2) ∈ q
          · exact (r2 b').1 hq
          · have hq1 : (b', 1) ∉ q := fun h => hq (.inl h)
            have hq2 : (b', 2) ∉ q := fun h => hq (.inr h)
            rw [(r2 b').2 hq1 hq2, h3.same b' hq1 hq2]
            simp [Mem.set]
        · have := r2 b'
          simp only [List.mem_append, List.mem_singleton, Prod.mk.injEq, e, false_and, or_false]
          refine ⟨this.1, fun n1 n2 => ?_⟩
          rw [this.2 n1 n2]
          simp [Mem.set, e]
  | .fz b k, m, m', p, p', x, h => by
    obtain ⟨c, z, hc, h⟩ := fz_some h
    obtain ⟨q, h1, h2, h3, h4⟩ := go_frame k h
    refine ⟨q ++ [(b, 1)], by rw [h1, List.append_assoc]; rfl, ?_, ⟨fun b' n1 n2 => ?_, fun b' n1 n2 => ?_⟩, fun m2 p2 ha => ?_⟩
    · intro y hy
      rcases List.mem_append.1 hy with hy | hy
      · exact h2 y hy
      · simp at hy; subst hy; simp
    · have hne : b' ≠ b := fun e => n1 (by subst e; simp)
      rw [h3.same b' (fun q => n1 (List.mem_append_left _ q)) (fun q => n2 (List.mem_append_left _ q))]
      simp [Mem.set, hne]
    · have n2' : (b', 2) ∉ q := fun q => n2 (List.mem_append_left _ q)
      by_cases e : b' = b
      · subst e
        refine ⟨c, z, hc, ?_⟩
        by_cases hq : (b', 1) ∈ q
        · obtain ⟨c', z', q1, q2⟩ := h3.froze b' hq n2'
          simp [Mem.set] at q1
          rw [q2, q1.1]
        · rw [h3.same b' hq n2']
          simp [Mem.set]
      · rcases List.mem_append.1 n1 with n1 | n1
        · obtain ⟨c', z', q1, q2⟩ := h3.froze b' n1 n2'
          exact ⟨c', z', by simpa [Mem.set, e] using q1, q2⟩
        · simp [e] at n1
    · have hb := (ha b).2 ⟨1, by simp⟩
      rw [hc] at hb
      obtain ⟨z2, hz2⟩ : ∃ z2, m2 b = some (c, z2) := by
        cases hm2 : m2 b with
        | none => rw [hm2] at hb; cases hb
        | some y =>
          rw [hm2] at hb
          simp [cont] at hb
          exact ⟨y.2, by rw [← hb]⟩
      have ha' : Alike q (m.set b (c, true)) (m2.set b (c, true)) := fun b' => by
        by_cases e : b' = b
        · subst e; simp [Mem.set]
        · simp only [Mem.set, if_neg e]
          exact ⟨fun hq => (ha b').1 (List.mem_append_left _ hq), fun ⟨k, hq⟩ => (ha b').2 ⟨k, List.mem_append_left _ hq⟩⟩
      obtain ⟨m2', r1, r2⟩ := h4 (m2.set b (c, true)) ((b, 1) :: p2) ha'
      refine ⟨m2', ?_, fun b' => ?_⟩
      · simp only [Eff.go, hz2]
        rw [r1]
        simp
      · by_cases e : b' = b
        · subst e
          refine ⟨fun _ => ?_, fun n1 _ => (n1 (by simp)).elim⟩
          by_cases hq : (b', 1) ∈ q ∨ (b', 2) ∈ q
          · exact (r2 b').1 hq
          · have hq1 : (b', 1) ∉ q := fun h => hq (.inl h)
            have hq2 : (b', 2) ∉ q := fun h => hq (.inr h)
            rw [(r2 b').2 hq1 hq2, h3.same b' hq1 hq2]
            simp [Mem.set]
        · have := r2 b'
          simp only [List.mem_append, List.mem_singleton, Prod.mk.injEq, e, false_and, or_false]
          refine ⟨this.1, fun n1 n2 => ?_⟩
          rw [this.2 n1 n2]
          simp [Mem.set, e]
  | .nw b c k, m, m', p, p', x, h => by
    obtain ⟨hc, h⟩ := nw_some h
    obtain ⟨q, h1, h2, h3, h4⟩ := go_frame k h
    refine ⟨q ++ [(b, 2)], by rw [h1, List.append_assoc]; rfl, ?_, ⟨fun b' n1 n2 => ?_, fun b' n1 n2 => ?_⟩, fun m2 p2 ha => ?_⟩
    · intro y hy
      rcases List.mem_append.1 hy with hy | hy
      · exact h2 y hy
      · simp at hy; subst hy; simp
    · have hne : b' ≠ b := fun e => n2 (by subst e; simp)
      rw [h3.same b' (fun q => n1 (List.mem_append_left _ q)) (fun q => n2 (List.mem_append_left _ q))]
      simp [Mem.set, hne]
    · have hne : b' ≠ b := fun e => n2 (by subst e; simp)
      rcases List.mem_append.1 n1 with n1 | n1
      · obtain ⟨c', z', q1, q2⟩ := h3.froze b' n1 fun q => n2 (List.mem_append_left _ q)
        exact ⟨c', z', by simpa [Mem.set, hne] using q1, q2⟩
      · simp at n1
    · have hb := (ha b).1 (by simp)
      have ha' : Alike q (m.set b (c, false)) (m2.set b (c, false)) := fun b' => by
        by_cases e : b' = b
        · subst e; simp [Mem.set]
        · simp only [Mem.set, if_neg e]
          exact ⟨fun hq => (ha b').1 (List.mem_append_left _ hq), fun ⟨k, hq⟩ => (ha b').2 ⟨k, List.mem_append_left _ hq⟩⟩
      obtain ⟨m2', r1, r2⟩ := h4 (m2.set b (c, false)) ((b, 2) :: p2) ha'
      refine ⟨m2', ?_, fun b' => ?_⟩
      · simp only [Eff.go, hb, hc]
        rw [r1]
        simp
      · by_cases e : b' = b
        · subst e
          refine ⟨fun _ => ?_, fun _ n2 => (n2 (by simp)).elim⟩
          by_cases hq : (b', 1) ∈ q ∨ (b', 2) ∈ q
          · exact (r2 b').1 hq
          · have hq1 : (b', 1) ∉ q := fun h => hq (.inl h)
            have hq2 : (b', 2) ∉ q := fun h => hq (.inr h)
            rw [(r2 b').2 hq1 hq2, h3.same b' hq1 hq2]
            simp [Mem.set]
        · have := r2 b'
          simp only [List.mem_append, List.mem_singleton, Prod.mk.injEq, e, false_and, or_false]
          refine ⟨this.1, fun n1 n2 => ?_⟩
          rw [this.2 n1 n2]
          simp [Mem.set, e]

/-- Footprints that leave each other alone. -/
theorem apartF_spec {p q : FP} (h : apartF p q = true) {b k k' : Nat} (hp : (b, k) ∈ p) (hq : (b, k') ∈ q) : k < 2 ∧ k' < 2 := by
  have := List.all_eq_true.1 (List.all_eq_true.1 h _ hp) _ hq
  simp only [apartX, Bool.or_eq_true, Bool.and_eq_true, Bool.not_eq_true'] at this
  rcases this with this | this
  · have h1 : Nat.beq b b = true := Nat.beq_refl b
    rw [h1] at this
    cases this
  · simp [Nat.blt] at this
    omega

theorem cont_did {q : FP} {m m' : Mem} (h : Did q m m') {b : Nat} (hb : (b, 2) ∉ q) : cont (m' b) = cont (m b) := by
  by_cases h1 : (b, 1) ∈ q
  · obtain ⟨c, z, q1, q2⟩ := h.froze b h1 hb
    rw [q1, q2]
    rfl
  · rw [h.same b h1 hb]

/-- Two effects that leave each other alone, in the other order. -/
theorem eff_swap {α β : Type} {e : Eff α} {f : Eff β} {m m1 m2 : Mem} {x : α} {y : β} {p q : FP} (he : (e.go m []).run = some (x, m1, p)) (hf : (f.go m1 []).run = some (y, m2, q)) (ha : apartF p q = true) :
    ∃ my, (f.go m []).run = some (y, my, q) ∧ (e.go my []).run = some (x, m2, p) ∧ (∀ z ∈ q, present m z.1 = present m1 z.1) ∧ (∀ z ∈ p, present my z.1 = present m z.1) := by
  obtain ⟨p', e1, _, hd, hfr⟩ := go_frame e he
  obtain ⟨q', e2, _, hd2, hfr2⟩ := go_frame f hf
  rw [List.append_nil] at e1 e2
  subst e1; subst e2
  have hlow : ∀ {b k k'}, (b, k) ∈ p → (b, k') ∈ q → k < 2 ∧ k' < 2 := fun hp hq => apartF_spec ha hp hq
  have a1 : Alike q m1 m := fun b => by
    refine ⟨fun hq => ?_, fun ⟨k, hq⟩ => ?_⟩
    · rw [hd.same b (fun hp => by have := (hlow hp hq).2; omega) (fun hp => by have := (hlow hp hq).2; omega)]
    · rw [cont_did hd fun hp => by have := (hlow hp hq).1; omega]
  obtain ⟨my, r1, r2⟩ := hfr2 m [] a1
  rw [List.append_nil] at r1
  have a2 : Alike p m my := fun b => by
    by_cases hq : (b, 1) ∈ q ∨ (b, 2) ∈ q
    · refine ⟨fun hp => ?_, fun ⟨k, hp⟩ => ?_⟩
      · rcases hq with hq | hq <;> (have := (hlow hp hq).1; omega)
      · have hq2 : (b, 2) ∉ q := fun hq => by have := (hlow hp hq).2; omega
        have hp2 : (b, 2) ∉ p := fun hp => by rcases hq with hq | hq <;> (have := (hlow hp hq).1; omega)
        rw [(r2 b).1 hq, cont_did hd2 hq2, cont_did hd hp2]
    · have h1 : (b, 1) ∉ q := fun h => hq (.inl h)
      have h2 : (b, 2) ∉ q := fun h => hq (.inr h)
      rw [(r2 b).2 h1 h2]
      exact ⟨fun _ => rfl, fun _ => rfl⟩
  obtain ⟨m3, s1, s2⟩ := hfr my [] a2
  rw [List.append_nil] at s1
  have hpc : ∀ {a b : Option (Cn × Bool)}, cont a = cont b → a.isSome = b.isSome := by
    intro a b h
    cases a <;> cases b <;> simp [cont] at h ⊢
  refine ⟨my, r1, ?_, fun z hz => hpc ((a1 z.1).2 ⟨z.2, hz⟩), fun z hz => hpc ((a2 z.1).2 ⟨z.2, hz⟩)⟩
  have : m3 = m2 := by
    funext b
    by_cases hp : (b, 1) ∈ p ∨ (b, 2) ∈ p
    · rw [(s2 b).1 hp]
      by_cases hq : (b, 1) ∈ q ∨ (b, 2) ∈ q
      · have hq2 : (b, 2) ∉ q := fun hq => by rcases hp with hp | hp <;> (have := (hlow hp hq).2; omega)
        have hq1 : (b, 1) ∈ q := hq.resolve_right hq2
        have hp2 : (b, 2) ∉ p := fun hp => by have := (hlow hp hq1).1; omega
        have hp1 : (b, 1) ∈ p := hp.resolve_right hp2
        obtain ⟨c, z, t1, t2⟩ := hd.froze b hp1 hp2
        obtain ⟨c', z', t3, t4⟩ := hd2.froze b hq1 hq2
        rw [t2] at t3
        injection t3 with t3
        injection t3 with t3 _
        rw [t2, t4, t3]
      · rw [hd2.same b (fun h => hq (.inl h)) (fun h => hq (.inr h))]
    · have hp1 : (b, 1) ∉ p := fun h => hp (.inl h)
      have hp2 : (b, 2) ∉ p := fun h => hp (.inr h)
      rw [(s2 b).2 hp1 hp2]
      by_cases hq : (b, 1) ∈ q ∨ (b, 2) ∈ q
      · exact (r2 b).1 hq
      · have hq1 : (b, 1) ∉ q := fun h => hq (.inl h)
        have hq2 : (b, 2) ∉ q := fun h => hq (.inr h)
        rw [(r2 b).2 hq1 hq2, hd2.same b hq1 hq2, hd.same b hp1 hp2]
  rw [← this]
  exact s1

/-! ### One operation, told plainly -/
/-- Is the operation wanted, by the temporaries? -/
def gv (ops : List Oper) (o : Oper) (env : List AV) : Option Bool := match o.guard with
  | none => some true
  | some (j, want) => match (ops[j]?).bind (·.dst) with
    | some d => match env.getD d .undef with
      | .val .bool b => some (b == want)
      | .tp .un => some false
      | _ => none
    | none => none

theorem set_getD_self {l : List AV} {d : Nat} {v : AV} (h : l.getD d .undef = v) (hv : v ≠ .undef) : l.set d v = l := by
  have hd : d < l.length := by
    rcases Nat.lt_or_ge d l.length with hd | hd
    · exact hd
    · rw [List.getD_eq_getElem?_getD, List.getElem?_eq_none hd] at h
      exact (hv h.symm).elim
  rw [List.getD_eq_getElem?_getD, List.getElem?_eq_getElem hd] at h
  subst h
  simp

theorem wantedK_run {β : Type} {ops : List Oper} {o : Oper} {env : List AV} {kn : List Nat} {k : Bool → List AV → List Nat → Pr β} : ∃ kn', (wantedK ops o env kn k).run = (gv ops o env).bind fun w => (k w env kn').run := by
  unfold wantedK gv
  cases o.guard with
  | none => exact ⟨kn, rfl⟩
  | some jw =>
    obtain ⟨j, want⟩ := jw
    simp only
    cases (ops[j]?).bind (·.dst) with
    | none => exact ⟨kn, rfl⟩
    | some d =>
      simp only
      generalize hb : env.getD d .undef = av
      cases av with
      | val t b =>
        cases t <;> try exact ⟨kn, rfl⟩
        have hs := set_getD_self hb (by simp)
        change Bool at b
        cases hk : kn.any (Nat.beq d) with
        | true =>
          refine ⟨kn, ?_⟩
          cases b <;> cases want <;> rfl
        | false =>
          refine ⟨d :: kn, ?_⟩
          cases b
          · simp only [Pr.run, Bool.false_eq_true, if_false, hs, Option.bind_some]
            cases want <;> rfl
          · simp only [Pr.run, if_true, hs, Option.bind_some]
            cases want <;> rfl
      | tp l => cases l <;> exact ⟨kn, rfl⟩
      | _ => exact ⟨kn, rfl⟩

theorem opEffK_run {cx : Cx} {site : Nat} {env : List AV} {kn : List Nat} {op : Op} {m : Mem} {p : FP} : ((opEffK cx site env kn op).go m p).run = ((opEff cx site (ev env) op).go m p).run := by
  unfold opEffK
  split
  · split
    · rename_i t _ ht
      simp only [opEff, ht]
      change Bool at t
      cases t <;> rfl
    · rfl
  · rfl

theorem bind_run {α β : Type} : ∀ (x : Pr α) (f : α → Pr β), (x.bind f).run = x.run.bind fun a => (f a).run
  | .ret _, _ => rfl
  | .fail, _ => rfl
  | .tst c y n, f => by
    simp only [Pr.bind, Pr.run, bind_run y f, bind_run n f]
    split <;> rfl
  | .ask m k, f => by
    simp only [Pr.bind, Pr.run]
    cases m with
    | none => rfl
    | some b => exact bind_run (k b) f

theorem runK_run {α γ : Type} : ∀ (x : Pr α) (K : α → Option γ), x.runK K = x.run.bind K
  | .ret _, _ => rfl
  | .fail, _ => rfl
  | .tst c y n, K => by
    simp only [Pr.runK, Pr.run, runK_run y K, runK_run n K]
    split <;> rfl
  | .ask m k, K => by
    simp only [Pr.runK, Pr.run]
    cases m with
    | none => rfl
    | some b => exact runK_run (k b) K

/-- One operation that isn't a call that is walked into. -/
inductive Stp (cx : Cx) (inl : Inl) (fb base : Nat) (ops : List Oper) (i : Nat) (o : Oper) : List AV × Mem → List AV × Mem → FP → Prop
  | run {env : List AV} {m m' : Mem} {av : AV} {p : FP} (hg : gv ops o env = some true) (hn : inlined inl (base + i) env o.op = none) (hl : base + i < fb + 1000000) (h : ((opEff cx (base + i) (ev env) o.op).go m []).run = some (av, m', p))
      (hq : (p.all fun x => Nat.ble fb x.1 || present m x.1) = true) : Stp cx inl fb base ops i o (env, m) (putEnv env o.dst av, m') p
  | skip {env : List AV} {m : Mem} (hg : gv ops o env = some false) : Stp cx inl fb base ops i o (env, m) (putEnv env o.dst (.tp .un), m) []

/-- What a step comes to: a plain operation, or a call that is walked into. -/
theorem stepR_some {cx : Cx} {inl : Inl} {ids : List Nat} {fb base : Nat} {ops : List Oper} {i : Nat} {o : Oper} {env env' : List AV} {m m' : Mem} {kn kn' : List Nat} {p : FP} (h : (stepR cx inl ids fb ops (base + i) o env m kn).run = some (env', m', p, kn')) :
    Stp cx inl fb base ops i o (env, m) (env', m') p ∨
    (gv ops o env = some true ∧ p = [(0, 3)] ∧ ∃ run av, inlined inl (base + i) env o.op = some run ∧ (run m ids).run = some (av, m') ∧ closed m' env [] = true ∧ env' = putEnv env o.dst av) := by
  unfold stepR at h
  obtain ⟨kn1, hw⟩ := wantedK_run (ops := ops) (o := o) (env := env) (kn := kn) (k := fun w env kn =>
    match w with
    | true => match inlined inl (base + i) env o.op with
      | some run => (run m ids).bind fun r => if closed r.2 env [] then .ret (putEnv env o.dst r.1, r.2, [(0, 3)], putKn kn o.dst false) else .fail
      | none => if base + i < fb + 1000000 then ((opEffK cx (base + i) env kn o.op).go m []).bind fun r =>
          if (r.2.2.all fun x => Nat.ble fb x.1 || present m x.1) = true then .ret (putEnv env o.dst r.1, r.2.1, r.2.2, putKn kn o.dst (hint kn env o.op)) else .fail
        else .fail
    | false => (.ret (putEnv env o.dst (.tp .un), m, [], putKn kn o.dst false) : Pr (List AV × Mem × FP × List Nat)))
  replace h := hw.symm.trans h
  clear hw
  cases hg : gv ops o env with
  | none => rw [hg] at h; cases h
  | some w =>
    rw [hg] at h
    simp only [Option.bind_some] at h
    cases w with
    | true =>
      simp only at h
      split at h
      · rename_i run hi
        rw [bind_run] at h
        obtain ⟨⟨av, m1⟩, h1, h2⟩ := Option.bind_eq_some_iff.1 h
        split at h2
        · rename_i hc
          simp only [Pr.run] at h2
          injection h2 with h2
          injection h2 with q1 q2
          injection q2 with q2 q3
          injection q3 with q3 _
          subst q1; subst q2; subst q3
          exact .inr ⟨rfl, rfl, run, av, hi, h1, hc, rfl⟩
        · cases h2
      · rename_i hi
        split at h
        · rename_i hl
          rw [bind_run, opEffK_run] at h
          obtain ⟨⟨av, m1, p1⟩, h1, h2⟩ := Option.bind_eq_some_iff.1 h
          split at h2
          · rename_i hq
            simp only [Pr.run] at h2
            injection h2 with h2
            injection h2 with q1 q2
            injection q2 with q2 q3
            injection q3 with q3 _
            subst q1; subst q2; subst q3
            exact .inl (.run hg hi hl h1 hq)
          · cases h2
        · cases h
    | false =>
      simp only [Pr.run] at h
      injection h with h
      injection h with q1 q2
      injection q2 with q2 q3
      injection q3 with q3 _
      subst q1; subst q2; subst q3
      exact .inl (.skip hg)

/-! ### Temporaries -/
theorem ev_congr {env env' : List AV} {x : Operand} (h : ∀ t, x = .tmp t → env'.getD t .undef = env.getD t .undef) : ev env' x = ev env x := by
  cases x with
  | tmp t => exact h t rfl
  | _ => rfl

theorem putEnv_getD {env : List AV} {dst : Option Tmp} {v : AV} {t : Nat} (h : dst ≠ some t) : (putEnv env dst v).getD t .undef = env.getD t .undef := by
  cases dst with
  | none => rfl
  | some d =>
    simp only [putEnv, List.getD_eq_getElem?_getD]
    rw [List.getElem?_set_ne (by intro e; exact h (by rw [e]))]

theorem putEnv_comm {env : List AV} {d e : Option Tmp} {u v : AV} (h : ∀ t, d = some t → e ≠ some t) : putEnv (putEnv env d u) e v = putEnv (putEnv env e v) d u := by
  cases d with
  | none => rfl
  | some d =>
    cases e with
    | none => rfl
    | some e =>
      simp only [putEnv]
      exact List.set_comm _ _ (by intro q; exact h d rfl (by rw [q]))

theorem gv_congr {ops : List Oper} {o : Oper} {env env' : List AV} (h : ∀ t ∈ guardTmp ops o, env'.getD t .undef = env.getD t .undef) : gv ops o env' = gv ops o env := by
  unfold gv
  unfold guardTmp at h
  split
  · rfl
  · rename_i j want hg
    rw [hg] at h
    simp only at h
    split
    · rename_i d hd
      rw [hd] at h
      rw [h d (by simp)]
    · rfl

theorem map_congr {ρ ρ' : Operand → AV} : ∀ {l : List Operand}, (∀ x ∈ l, ρ' x = ρ x) → l.map ρ' = l.map ρ
  | [], _ => rfl
  | x :: l, h => by rw [List.map_cons, List.map_cons, h x (.head _), map_congr fun y hy => h y (.tail _ hy)]

theorem mapP_congr {ρ ρ' : Operand → AV} : ∀ {l : List (Nat × Operand)}, (∀ x ∈ l, ρ' x.2 = ρ x.2) → (l.map fun q => (q.1, ρ' q.2)) = l.map fun q => (q.1, ρ q.2)
  | [], _ => rfl
  | x :: l, h => by rw [List.map_cons, List.map_cons, h x (.head _), mapP_congr fun y hy => h y (.tail _ hy)]

theorem opEff_congr {cx : Cx} {site : Nat} {ρ ρ' : Operand → AV} (op : Op) (h : ∀ x ∈ op.operands.toList, ρ' x = ρ x) : opEff cx site ρ' op = opEff cx site ρ op := by
  cases op with
  | call c =>
    have ha : c.args.toList.map ρ' = c.args.toList.map ρ := map_congr fun x hx => h x (by simp only [Op.operands, Call.operands]; simp; exact .inr (by simpa using hx))
    have ha' : ∀ x ∈ c.args.toList, ρ' x = ρ x := fun x hx => h x (by simp only [Op.operands, Call.operands]; simp; exact .inr (by simpa using hx))
    simp only [opEff]
    split
    · split
      · rename_i h1 _ _; rw [h1] at ha'; simp only [ha' _ (.head _)]
      · rename_i h1 _ _; rw [h1] at ha'; simp only [ha' _ (.head _), ha' _ (.tail _ (.head _))]
      · rename_i h1 _ _; rw [h1] at ha'; simp only [ha' _ (.head _), ha' _ (.tail _ (.head _))]
      · rw [ha]
      · rw [ha]
      · rfl
    · rename_i f hf
      rw [ha, h f (by simp [Op.operands, Call.operands, hf])]
    · rfl
  | build t ps =>
    simp only [opEff]
    rw [mapP_congr fun q hq => h q.2 (by simp only [Op.operands]; simp; exact ⟨q.1, by simpa using hq⟩)]
  | buildSlice t l ps =>
    simp only [opEff]
    rw [mapP_congr fun q hq => h q.2 (by simp only [Op.operands]; simp; exact ⟨q.1, by simpa using hq⟩)]
  | makeFunc fn first cap =>
    cases fn with
    | func f =>
      simp only [opEff]
      rw [map_congr fun x hx => h x (by simp [Op.operands]; exact .inl (by simpa using hx)), map_congr fun x hx => h x (by simp [Op.operands]; exact .inr (by simpa using hx))]
    | _ => rfl
  | slice t x lo hi mx =>
    simp only [opEff]
    rw [h x (by simp [Op.operands])]
    have h1 : lo.map ρ' = lo.map ρ := by
      cases lo with
      | none => rfl
      | some y => rw [Option.map_some, Option.map_some, h y (by simp [Op.operands])]
    have h2 : hi.map ρ' = hi.map ρ := by
      cases hi with
      | none => rfl
      | some y => rw [Option.map_some, Option.map_some, h y (by simp [Op.operands])]
    have h3 : mx.map ρ' = mx.map ρ := by
      cases mx with
      | none => rfl
      | some y => rw [Option.map_some, Option.map_some, h y (by simp [Op.operands])]
    rw [h1, h2, h3]
  | pick c x y =>
    simp only [opEff]
    rw [h c (by simp [Op.operands]), h x (by simp [Op.operands]), h y (by simp [Op.operands])]
  | store t x y =>
    simp only [opEff]
    rw [h x (by simp [Op.operands]), h y (by simp [Op.operands])]
  | binOp op t x y t' =>
    simp only [opEff]
    rw [h x (by simp [Op.operands]), h y (by simp [Op.operands])]
  | makeSlice t x y =>
    simp only [opEff]
    rw [h x (by simp [Op.operands]), h y (by simp [Op.operands])]
  | indexAddr t x y =>
    simp only [opEff]
    rw [h x (by simp [Op.operands]), h y (by simp [Op.operands])]
  | index t x y =>
    simp only [opEff]
    rw [h x (by simp [Op.operands]), h y (by simp [Op.operands])]
  | move x => simp only [opEff]; rw [h x (by simp [Op.operands])]
  | assign x => simp only [opEff]; rw [h x (by simp [Op.operands])]
  | box t x => simp only [opEff]; rw [h x (by simp [Op.operands])]
  | load t x => simp only [opEff]; rw [h x (by simp [Op.operands])]
  | nilCheck x => simp only [opEff]; rw [h x (by simp [Op.operands])]
  | unOp op t x => simp only [opEff]; rw [h x (by simp [Op.operands])]
  | convert s d x => simp only [opEff]; rw [h x (by simp [Op.operands])]
  | fieldAddr t x f => simp only [opEff]; rw [h x (by simp [Op.operands])]
  | field t x f => simp only [opEff]; rw [h x (by simp [Op.operands])]
  | extract x f => simp only [opEff]; rw [h x (by simp [Op.operands])]
  | _ => rfl

theorem inlined_congr {inl : Inl} {site : Nat} {env env' : List AV} (op : Op) (h : ∀ x ∈ op.operands.toList, ev env' x = ev env x) : inlined inl site env' op = inlined inl site env op := by
  cases op with
  | call c =>
    have ha : c.args.toList.map (ev env') = c.args.toList.map (ev env) := map_congr fun x hx => h x (by simp only [Op.operands, Call.operands]; simp; exact .inr (by simpa using hx))
    simp only [inlined]
    split
    · rename_i f hf
      rw [ha, h f (by simp [Op.operands, Call.operands, hf])]
    · rfl
  | _ => rfl

theorem temps_mem {o : Oper} {t : Nat} (h : Operand.tmp t ∈ o.op.operands.toList) : t ∈ temps o := by
  unfold temps
  exact List.mem_filterMap.2 ⟨_, h, rfl⟩

/-- Two steps that leave each other alone, in the other order. -/
theorem stp_swap {cx : Cx} {inl : Inl} {fb base : Nat} {ops : List Oper} {i j : Nat} {o u : Oper} {s s1 s2 : List AV × Mem} {p q : FP} (h1 : Stp cx inl fb base ops j o s s1 p) (h2 : Stp cx inl fb base ops i u s1 s2 q) (hF : apartF p q = true)
    (hT : apartT ops o u = true) : ∃ sy, Stp cx inl fb base ops i u s sy q ∧ Stp cx inl fb base ops j o sy s2 p := by
  simp only [apartT, Bool.and_eq_true] at hT
  obtain ⟨t1, t2⟩ := hT
  -- what u looks at, o doesn't write; what o looks at, u doesn't write
  have d1 : ∀ t, t ∈ looks ops u → o.dst ≠ some t := by
    intro t ht e
    rw [e] at t1
    simp only [Bool.and_eq_true, Bool.not_eq_true', List.contains_eq_mem, decide_eq_false_iff_not] at t1
    exact t1.1 ht
  have d2 : ∀ t, t ∈ looks ops o → u.dst ≠ some t := by
    intro t ht e
    rw [e] at t2
    simp only [Bool.not_eq_true', List.contains_eq_mem, decide_eq_false_iff_not] at t2
    exact t2 ht
  have d3 : ∀ t, o.dst = some t → u.dst ≠ some t := by
    intro t e e'
    rw [e] at t1
    simp only [Bool.and_eq_true, Bool.not_eq_true', List.contains_eq_mem, decide_eq_false_iff_not] at t1
    exact t1.2 (by simp [e'])
  have eq : ∀ {env : List AV} {x : Oper} {dst : Option Tmp} {v : AV}, (∀ t, t ∈ looks ops x → dst ≠ some t) → gv ops x (putEnv env dst v) = gv ops x env ∧ (∀ y ∈ x.op.operands.toList, ev (putEnv env dst v) y = ev env y) := by
    intro env x dst v hd
    refine ⟨gv_congr fun t ht => putEnv_getD (hd t (List.mem_append_right _ ht)), fun y hy => ev_congr fun t e => putEnv_getD (hd t (List.mem_append_left _ (temps_mem (e ▸ hy))))⟩
  cases h1 with
  | skip hg =>
    rename_i env m
    cases h2 with
    | skip hg2 =>
      refine ⟨(putEnv env u.dst (.tp .un), m), .skip (by rw [← (eq d1).1]; exact hg2), ?_⟩
      rw [putEnv_comm d3]
      exact .skip (by rw [(eq d2).1]; exact hg)
    | run hg2 hn hl h hq =>
      rename_i m' av
      obtain ⟨g1, g2⟩ := eq (env := env) (v := .tp .un) d1
      refine ⟨(putEnv env u.dst av, m'), .run (by rw [← g1]; exact hg2) (by rw [← inlined_congr u.op g2]; exact hn) hl (by rw [← opEff_congr u.op g2]; exact h) hq, ?_⟩
      rw [putEnv_comm d3]
      exact .skip (by rw [(eq d2).1]; exact hg)
  | run hg hn hl h hq =>
    rename_i env m m1 av
    cases h2 with
    | skip hg2 =>
      obtain ⟨g1, g2⟩ := eq (env := env) (v := .tp .un) d2
      refine ⟨(putEnv env u.dst (.tp .un), m), .skip (by rw [← (eq d1).1]; exact hg2), ?_⟩
      rw [putEnv_comm d3]
      exact .run (by rw [g1]; exact hg) (by rw [inlined_congr o.op g2]; exact hn) hl (by rw [opEff_congr o.op g2]; exact h) hq
    | run hg2 hn2 hl2 h2 hq2 =>
      rename_i m2 av2
      obtain ⟨g1, g2⟩ := eq (env := env) (v := av) d1
      obtain ⟨k1, k2⟩ := eq (env := env) (v := av2) d2
      rw [opEff_congr u.op g2] at h2
      obtain ⟨my, r1, r2, r3, r4⟩ := eff_swap h h2 hF
      have hall : ∀ {q : FP} {a b : Mem}, (∀ z ∈ q, present b z.1 = present a z.1) → (q.all fun x => Nat.ble fb x.1 || present a x.1) = true → (q.all fun x => Nat.ble fb x.1 || present b x.1) = true := by
        intro q a b h1 h2
        rw [List.all_eq_true] at h2 ⊢
        intro z hz
        rw [h1 z hz]
        exact h2 z hz
      refine ⟨(putEnv env u.dst av2, my), .run (by rw [← g1]; exact hg2) (by rw [← inlined_congr u.op g2]; exact hn2) hl2 r1 (hall r3 hq2), ?_⟩
      rw [putEnv_comm d3]
      exact .run (by rw [k1]; exact hg) (by rw [inlined_congr o.op k2]; exact hn) hl (by rw [opEff_congr o.op k2]; exact r2) (hall r4 hq)

/-! ### Chains of steps -/
inductive Chn (cx : Cx) (inl : Inl) (fb base : Nat) (ops : List Oper) : List (Nat × Oper × FP) → List AV × Mem → List AV × Mem → Prop
  | nil {s : List AV × Mem} : Chn cx inl fb base ops [] s s
  | cons {i : Nat} {o : Oper} {p : FP} {l : List (Nat × Oper × FP)} {s s1 s2 : List AV × Mem} (h : Stp cx inl fb base ops i o s s1 p) (t : Chn cx inl fb base ops l s1 s2) : Chn cx inl fb base ops ((i, o, p) :: l) s s2

/-- What may stand in either order. -/
def Free (ops : List Oper) (x y : Nat × Oper × FP) : Prop := waitsFor y.2.1 x.1 = true ∨ (apartF x.2.2 y.2.2 = true ∧ apartT ops x.2.1 y.2.1 = true)

/-- An operation that waits for none of those ahead of it may be brought to the front. -/
theorem Chn.front {cx : Cx} {inl : Inl} {fb base : Nat} {ops : List Oper} {x : Nat × Oper × FP} : ∀ {pre post : List (Nat × Oper × FP)} {s s2 : List AV × Mem}, Chn cx inl fb base ops (pre ++ x :: post) s s2 →
    (∀ y ∈ pre, Free ops y x) → (∀ y ∈ pre, waitsFor x.2.1 y.1 = false) → Chn cx inl fb base ops (x :: (pre ++ post)) s s2
  | [], post, s, s2, h, _, _ => h
  | (i, o, p) :: pre, post, s, s2, .cons h t, hf, hw => by
    have ht := Chn.front t (fun y hy => hf y (.tail _ hy)) (fun y hy => hw y (.tail _ hy))
    obtain ⟨j, u, q⟩ := x
    cases ht with
    | cons h2 t2 =>
      have := hf (i, o, p) (.head _)
      rcases this with hx | ⟨hx, hy⟩
      · rw [hw (i, o, p) (.head _)] at hx
        cases hx
      · obtain ⟨sy, r1, r2⟩ := stp_swap h h2 hx hy
        exact .cons r1 (.cons r2 t2)
end Go.Refl
