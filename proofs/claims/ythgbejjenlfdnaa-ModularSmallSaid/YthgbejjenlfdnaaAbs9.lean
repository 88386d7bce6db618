/-
  New rows, literals, append, copy.
-/
import Derived.Test.YthgbejjenlfdnaaAbs8
set_option linter.unusedVariables false
set_option linter.unusedSimpArgs false
namespace Go.Refl
open Go Go.RowKit

section
variable {P : Program} {B : Nat} {F : Nat → Prop} {w0 : World} {lim : Nat} {m m' : Mem} {G : Nat → Value} {w : World} {p p' : FP} {av : AV} {cx : Cx}

/-! ### New rows -/
theorem MemOk.newRow (hm : MemOk B F w0 lim m G w) {site : Nat} (hs : m site = none) (hl : site < lim) {e : TypeId} {t : Ty} {xs : List t.D} {arr : Array Value} {cap : Nat} (h0 : 0 < t.size) (hn : xs.length ≤ cap) (hc : cap ≤ maxLen)
    (ha : arr.size = cap * t.size) (hr : RepL (RepV w (Frz B F m G w) t) xs (arr.toList.take (xs.length * t.size))) :
    MemOk B F w0 lim (m.set site (.row e t xs 0, false)) (upd G site (.slice (some ⟨w.heap.size, 0, none⟩) xs.length cap)) (w.alloc (.cells arr e)) ∧
    Tr B F m G w (m.set site (.row e t xs 0, false)) (upd G site (.slice (some ⟨w.heap.size, 0, none⟩) xs.length cap)) (w.alloc (.cells arr e)) := by
  refine hm.step (Below.alloc (Below.refl _ _) hm.base _) (fun k hk _ => heap_alloc_old w _ k hk) (fun k hk => .inr (by simp [hdNo] at hk; omega)) (fun c z hc => by rw [hs] at hc; cases hc) hl fun htr => ?_
  refine ⟨_, ⟨hr.length (fun x cs => RepV.length t x cs), .inr ⟨w.heap.size, cap, arr, by simp [upd], hm.base, heap_alloc_new w _, hn, hc, ha, rfl⟩⟩, hr.mono fun x cs hx => RepV.mono htr.fr _ _ _ hx, h0⟩

theorem new_own {site : Nat} {e : TypeId} {t : Ty} {xs : List t.D} {z : Bool} {v : Value} (hv : v.oneCell' = true) {w' : World} {Fr : Nat → Prop} : repA w' Fr (m.set site (.row e t xs 0, z)) (upd G site v) (.own site 0) .one [v] :=
  ⟨_, rfl, hv, e, t, xs, 0, z, by simp [Mem.set], Nat.le_refl _, fun _ => by simp [upd]⟩

/-- Rows filled with one value. -/
theorem filled_piece {z : Array Value} {k n : Nat} (hz : z.size = k) (hk : 0 < k) (i : Nat) (hi : i < n) :
    piece ((Array.range (n * k)).map fun j => z[j % z.size]!).toList (i * k) k = z.toList := by
  have hle : (i + 1) * k ≤ n * k := Nat.mul_le_mul_right _ hi
  rw [Nat.succ_mul] at hle
  apply List.ext_getElem?
  intro j
  unfold piece
  rw [List.getElem?_take]
  by_cases hj : j < k
  · rw [if_pos hj, List.getElem?_drop]
    have h1 : i * k + j < n * k := by omega
    have h2 : (i * k + j) % k = j := by rw [Nat.mul_comm, Nat.mul_add_mod, Nat.mod_eq_of_lt hj]
    have h3 : j < z.size := by omega
    simp only [Array.getElem?_toList, Array.getElem?_map, Array.getElem?_range, h1, if_true, Option.map_some, hz, h2]
    rw [getElem!_pos z j h3, getElem?_pos z j h3]
  · rw [if_neg hj]
    rw [List.getElem?_eq_none (by simp; omega)]

theorem filled_rep {Fr : Nat → Prop} {t : Ty} {z : Array Value} {n : Nat} (hz : z.size = t.size) (hk : 0 < t.size) {x : t.D} (hr : RepV w Fr t x z.toList) :
    RepL (RepV w Fr t) (List.replicate n x) ((Array.range (n * t.size)).map fun j => z[j % z.size]!).toList :=
  RepL.of_pieces (k := t.size) n _ (by simp) fun i hi => by rw [filled_piece hz hk i hi]; exact hr

theorem makeSlice_out (hT : typesChk P cx.types = true) (hm : MemOk B F w0 lim m G w) {site : Nat} (hl : site < lim) {t : TypeId} {x y : AV} {u v : Value} (hx : repA w (Frz B F m G w) m G x .one [u]) (hy : repA w (Frz B F m G w) m G y .one [v])
    (h : ((makeSliceOp cx site t x y).go m p).run = some (av, m', p')) : Out P B F w0 lim m G w (Instr.makeSlice t u v) m' av := by
  unfold makeSliceOp at h
  split at h
  · rename_i ue e eb kn n kc c htt
    obtain ⟨hu, hsz, ⟨te, hte, hte'⟩, ie, hie, hib, hb0⟩ := (tyFact_of hT htt).sl
    obtain ⟨i, z, hi, h2, h3, h4, h5⟩ := (tyFact_of hT hte).info
    have e1 := one_int hx
    have e2 := one_int hy
    subst e1; subst e2
    replace h := tst_some h; rcases h with ⟨hc, h⟩ | ⟨_, h⟩
    · simp only [Bool.and_eq_true, decide_eq_true_eq] at hc
      obtain ⟨⟨hn0, hnc⟩, hcb⟩ := hc
      replace h := nw_some h; obtain ⟨hn, h⟩ := h
      obtain ⟨h1', h2'⟩ := ret_some h
      subst h1'; subst h2'
      rw [hie] at hi
      injection hi with hi
      subst hi
      rw [hte'] at h2 h4
      obtain ⟨n', rfl⟩ := Int.eq_ofNat_of_zero_le hn0
      obtain ⟨c', rfl⟩ := Int.eq_ofNat_of_zero_le (Int.le_trans hn0 hnc)
      have hnc' : n' ≤ c' := by exact Int.ofNat_le.1 hnc
      have hcb' : c' * eb ≤ 140737488355328 := by exact Int.ofNat_le.1 (by simpa using hcb)
      have hc47 : c' ≤ 140737488355328 := Nat.le_trans (Nat.le_mul_of_pos_right _ hb0) hcb'
      have hwc : IntKind.i64.wrap (c' : Int) = (c' : Int) := by simp [IntKind.wrap, IntKind.bits, IntKind.signed]; omega
      have hwn : IntKind.i64.wrap (n' : Int) = (n' : Int) := by simp [IntKind.wrap, IntKind.bits, IntKind.signed]; omega
      have hzs : z.cells.size = ue.size := by
        have := RepV.length (w := w) (Fr := fun _ => True) ue _ _ (zeroChk_rep ue _ h4)
        simpa using this
      have hfull := filled_rep (w := w) (Fr := Frz B F m G w) (t := ue) (n := c') hzs hsz (zeroChk_rep ue _ h4)
      have hpart := hfull.take (fun x cs => RepV.length ue x cs) n'
      rw [List.take_replicate, Nat.min_eq_left hnc'] at hpart
      have hlen : (List.replicate (Int.toNat (n' : Int)) ue.zero).length = n' := by simp
      have hnew := hm.newRow (e := e) (t := ue) (xs := List.replicate (Int.toNat (n' : Int)) ue.zero) (arr := (Array.range (c' * ue.size)).map fun j => z.cells[j % z.cells.size]!) (cap := c') hn hl hsz (by rw [hlen]; exact hnc') (by simp only [maxLen]; omega) (by simp) (by rw [hlen]; simpa using hpart)
      refine ⟨_, _, _, ?_, hnew.1, hnew.2, new_own rfl⟩
      rw [hlen]
      have hbig : ¬ ((c' : Int) < 0 ∨ (ie.bytes : Int) * (c' : Int) > 2 ^ 48) := by
        rw [hib]
        have : ((eb : Int) * (c' : Int)) = ((c' * eb : Nat) : Int) := by rw [Nat.mul_comm]; simp
        rw [this]
        omega
      have hbd : (decide ((c' : Int) < 0) || decide ((ie.bytes : Int) * (c' : Int) > 2 ^ 48)) = false := by simpa using hbig
      simp only [Instr.makeSlice, Sem.run_bind, run_underlying hu, Result.andThen_ok, asInt, asIntOf, Sem.run_pure, typeInfo, run_program, hie, hwc, hwn, hbd, Bool.false_or]
      have hneg : (decide ((n' : Int) < 0) || decide ((n' : Int) > (c' : Int))) = false := by simp; omega
      rw [hneg]
      simp only [Bool.false_eq_true, if_false, Sem.run_bind, run_askRoom, Result.andThen_ok, sizeOf, typeInfo, run_program, hie, h2, Sem.run_pure, Int.toNat_natCast]
      by_cases hc0 : c' * ue.size = 0
      · have : c' = 0 := by rcases Nat.mul_eq_zero.1 hc0 with h | h <;> omega
        subst this
        have e0 : ∀ f : Nat → Value, (Array.range 0).map f = #[] := fun f => Array.eq_empty_of_size_eq_zero (by simp)
        simp [newRow, e0]
      · simp only [if_neg hc0, Sem.run_bind, zeroValue, typeInfo, run_program, Result.andThen_ok, hie, h3, Sem.run_pure]
        simp [newRow]
    · exact (fail_some h).elim
  · exact (fail_some h).elim

/-! ### Literals -/
theorem foldl_patch : ∀ (l : List Value) (k off : Nat) (cs : Array Value), off + k + l.length ≤ cs.size → ((l.zipIdx k).foldl (fun cs (x : Value × Nat) => cs.setIfInBounds (off + x.2) x.1) cs).toList = patch cs.toList (off + k) l
  | [], k, off, cs, _ => by simp [patch]
  | v :: l, k, off, cs, h => by
    simp only [List.length_cons] at h
    rw [List.zipIdx_cons, List.foldl_cons, foldl_patch l (k + 1) off _ (by simp; omega)]
    simp only [Array.toList_setIfInBounds]
    unfold patch
    rw [List.set_eq_take_append_cons_drop, if_pos (by simp; omega)]
    have h1 : (cs.toList.take (off + k)).length = off + k := by rw [List.length_take]; simp; omega
    rw [show off + (k + 1) = (cs.toList.take (off + k)).length + 1 by rw [h1]; omega, List.take_append, List.drop_append]
    rw [List.take_of_length_le (by omega)]
    simp only [Nat.add_sub_cancel_left, List.take_succ_cons, List.take_zero, List.append_assoc, List.cons_append, List.nil_append]
    congr 2
    congr 1
    rw [List.drop_of_length_le (by omega), List.nil_append, show (cs.toList.take (off + k)).length + 1 + l.length - (cs.toList.take (off + k)).length = l.length + 1 by omega]
    simp only [List.drop_succ_cons, List.drop_drop]
    congr 1
    simp only [List.length_cons]
    omega

def repsL (w : World) (Fr : Nat → Prop) (m : Mem) (G : Nat → Value) : List AV → List Value → Prop
  | [], vs => vs = []
  | a :: l, vs => ∃ v l', vs = v :: l' ∧ repA w Fr m G a .one [v] ∧ repsL w Fr m G l l'

def repsP (w : World) (Fr : Nat → Prop) (m : Mem) (G : Nat → Value) : List (Nat × AV) → List (Nat × Value) → Prop
  | [], vs => vs = []
  | a :: l, vs => ∃ v l', vs = v :: l' ∧ a.1 = v.1 ∧ repA w Fr m G a.2 .one [v.2] ∧ repsP w Fr m G l l'

theorem repsP.mono {m' : Mem} {G' : Nat → Value} {w' : World} (h : Tr B F m G w m' G' w') : ∀ {l : List (Nat × AV)} {vs : List (Nat × Value)}, repsP w (Frz B F m G w) m G l vs → repsP w' (Frz B F m' G' w') m' G' l vs
  | [], _, hr => hr
  | _ :: _, _, ⟨v, l', e, h1, h2, h3⟩ => ⟨v, l', e, h1, repA.mono h _ _ _ h2, repsP.mono h h3⟩
theorem repsL.mono {m' : Mem} {G' : Nat → Value} {w' : World} (h : Tr B F m G w m' G' w') : ∀ {l : List AV} {vs : List Value}, repsL w (Frz B F m G w) m G l vs → repsL w' (Frz B F m' G' w') m' G' l vs
  | [], _, hr => hr
  | _ :: _, _, ⟨v, l', e, h2, h3⟩ => ⟨v, l', e, repA.mono h _ _ _ h2, repsL.mono h h3⟩

theorem fillSlice_some {u : Ty} (hk : 0 < u.size) : ∀ {parts : List (Nat × AV)} {vs : List (Nat × Value)} {acc : List u.D} {cells : Array Value} {k : List u.D → Eff AV} {m : Mem} {p : FP} {r : AV × Mem × FP},
    ((fillSlice u parts acc k).go m p).run = some r → MemOk B F w0 lim m G w → repsP w (Frz B F m G w) m G parts vs → RepL (RepV w (Frz B F m G w) u) acc cells.toList →
    ∃ acc' m1 p1, ((k acc').go m1 p1).run = some r ∧ acc'.length = acc.length ∧ MemOk B F w0 lim m1 G w ∧ Tr B F m G w m1 G w ∧
      ((∀ v ∈ vs, v.1 < acc.length) → ∃ cells', Instr.fill (fun i => some (i * u.size, u.size)) cells vs = some cells' ∧ RepL (RepV w (Frz B F m1 G w) u) acc' cells'.toList)
  | [], vs, acc, cells, k, m, p, r, h, hm, hv, ha => by
    rw [show vs = [] from hv]
    exact ⟨acc, m, p, h, rfl, hm, Tr.refl .., fun _ => ⟨cells, rfl, ha⟩⟩
  | (i, x) :: parts, vs, acc, cells, k, m, p, r, h, hm, ⟨⟨i', v⟩, l', e, h1, h2, h3⟩, ha => by
    subst e
    dsimp only at h1
    subst h1
    obtain ⟨y, m1, p1, h, hm1, ht1, hy⟩ := toVal_one true h hm h2
    have hyc := hy.cells
    rw [show Reach true B F m1 G w = Frz B F m1 G w from rfl] at hyc
    have hvl := RepV.length _ _ _ hyc
    have ha1 := ha.mono (R' := RepV w (Frz B F m1 G w) u) fun x cs hx => RepV.mono ht1.fr _ _ _ hx
    have hlen := ha.length (fun x cs => RepV.length u x cs)
    by_cases hi : i < acc.length
    · have hle : (i + 1) * u.size ≤ acc.length * u.size := Nat.mul_le_mul_right _ hi
      rw [Nat.succ_mul] at hle
      have hfold := foldl_patch v.cells.toList 0 (i * u.size) cells (by simp at hlen hvl ⊢; omega)
      have hset := ha1.set (fun x cs => RepV.length u x cs) i hi hyc
      rw [patch_outer hvl] at hset
      simp only [Nat.add_zero] at hfold
      rw [← hfold] at hset
      obtain ⟨acc', m2, p2, q1, q2, q3, q4, q5⟩ := fillSlice_some hk h hm1 (repsP.mono ht1 h3) hset
      refine ⟨acc', m2, p2, q1, by simpa using q2, q3, ht1.trans q4, fun hall => ?_⟩
      obtain ⟨cells', q6, q7⟩ := q5 (fun v hv => by simpa using hall v (.tail _ hv))
      refine ⟨cells', ?_, q7⟩
      have hs1 : v.cells.size = u.size := by simpa using hvl
      have hs2 : ¬ (i * u.size + v.cells.size > cells.size) := by simp at hlen; omega
      simp only [Instr.fill, hs1, ne_eq, not_true_eq_false, decide_false, Bool.false_or, decide_eq_true_eq]
      rw [hs1] at hs2
      rw [if_neg (by simpa using hs2)]
      rw [← q6]
      congr 1
      rw [← Array.foldl_toList]
      simp
    · have hset : acc.set i y = acc := List.set_eq_of_length_le (by omega)
      rw [hset] at h
      obtain ⟨acc', m2, p2, q1, q2, q3, q4, q5⟩ := fillSlice_some hk h hm1 (repsP.mono ht1 h3) ha1
      exact ⟨acc', m2, p2, q1, q2, q3, ht1.trans q4, fun hall => (hi (hall _ (.head _))).elim⟩

theorem buildSlice_out (hT : typesChk P cx.types = true) (hm : MemOk B F w0 lim m G w) {site : Nat} (hl : site < lim) {t : TypeId} {len : Nat} {parts : List (Nat × AV)} {vs : Array (Nat × Value)} (hv : repsP w (Frz B F m G w) m G parts vs.toList)
    (h : ((buildSliceOp cx site t len parts).go m p).run = some (av, m', p')) : Out P B F w0 lim m G w (Instr.buildSlice t len vs) m' av := by
  unfold buildSliceOp at h
  split at h
  · rename_i ue e eb htt
    obtain ⟨hu, hsz, ⟨te, hte, hte'⟩, ie, hie, hib, hb0⟩ := (tyFact_of hT htt).sl
    obtain ⟨i, z, hi, h2, h3, h4, h5⟩ := (tyFact_of hT hte).info
    rw [hie] at hi
    injection hi with hi
    subst hi
    rw [hte'] at h2 h4
    have hzs : z.cells.size = ue.size := by
      have := RepV.length (w := w) (Fr := fun _ => True) ue _ _ (zeroChk_rep ue _ h4)
      simpa using this
    have hfull := filled_rep (w := w) (Fr := Frz B F m G w) (t := ue) (n := len) hzs hsz (zeroChk_rep ue _ h4)
    replace h := ite_some h; rcases h with ⟨⟨hall, hbig⟩, h⟩ | ⟨_, h⟩
    · obtain ⟨acc', m1, p1, h, hlen, hm1, ht1, hfill⟩ := fillSlice_some hsz h hm hv hfull
      have hvall : ∀ v ∈ vs.toList, v.1 < (List.replicate len ue.zero).length := by
        intro v hvm
        have key : ∀ (l : List (Nat × AV)) (us : List (Nat × Value)), repsP w (Frz B F m G w) m G l us → (l.all fun q => decide (q.1 < len)) = true → ∀ v ∈ us, v.1 < len := by
          intro l
          induction l with
          | nil => intro us hu _ v hv; rw [show us = [] from hu] at hv; cases hv
          | cons a l ih =>
            rintro us ⟨v0, l', e, h1, h2, h3⟩ ha v hv
            subst e
            simp only [List.all_cons, Bool.and_eq_true, decide_eq_true_eq] at ha
            rcases List.mem_cons.1 hv with rfl | hv
            · rw [← h1]; exact ha.1
            · exact ih _ h3 ha.2 v hv
        simpa using key parts vs.toList hv hall v hvm
      obtain ⟨cells', hf, hr⟩ := hfill hvall
      replace h := nw_some h; obtain ⟨hn, h⟩ := h
      obtain ⟨h1', h2'⟩ := ret_some h
      subst h1'; subst h2'
      simp only [List.length_replicate] at hlen
      have hsize := hr.length (fun x cs => RepV.length ue x cs)
      have hcs : cells'.size = len * ue.size := by rw [hlen] at hsize; simpa using hsize
      have hnew := hm1.newRow (e := e) (t := ue) (xs := acc') (arr := cells') (cap := len) hn hl hsz (by omega) (by simp only [maxLen]; have := Nat.le_mul_of_pos_right len hsz; omega) hcs (by rw [List.take_of_length_le (by omega)]; exact hr)
      refine ⟨_, _, _, ?_, hnew.1, ht1.trans hnew.2, new_own rfl⟩
      simp only [Instr.buildSlice, Sem.run_bind, run_underlying hu, Result.andThen_ok, sizeOf, typeInfo, run_program, hie, Sem.run_pure, h2]
      rw [hlen]
      have hbig' : ¬ (len * ue.size > 2 ^ 24) := by omega
      simp only [if_neg hbig', Sem.run_bind, Sem.run_pure, Result.andThen_ok]
      by_cases hc0 : len * ue.size = 0
      · have hl0 : len = 0 := by rcases Nat.mul_eq_zero.1 hc0 with h | h <;> omega
        subst hl0
        have hv0 : vs.toList = [] := by
          cases hvs : vs.toList with
          | nil => rfl
          | cons a l => have := hvall a (by rw [hvs]; exact .head _); simp at this
        rw [hv0] at hf
        simp only [Instr.fill] at hf
        injection hf with hf
        have e0 : ∀ f : Nat → Value, (Array.range 0).map f = #[] := fun f => Array.eq_empty_of_size_eq_zero (by simp)
        subst hf
        simp [hv0, Instr.fill, newRow, e0]
      · simp only [if_neg hc0, Sem.run_bind, zeroValue, typeInfo, run_program, Result.andThen_ok, hie, h3, Sem.run_pure]
        rw [hf]
        simp [newRow]
    · exact (fail_some h).elim
  · exact (fail_some h).elim

/-! ### append, copy -/
theorem append_tt (ty t t' e e' : TypeId) (ht : P.underlying t = some (.slice e)) (ht' : P.underlying t' = some (.slice e')) (args : Array Value) :
    (Builtin.append_ #[t, t'] ty args).run P w = (Builtin.append_ #[t, t] ty args).run P w := by
  unfold Builtin.append_
  simp only [List.getElem?_toArray, List.getElem?_cons_zero, List.getElem?_cons_succ]
  split
  · rename_i h1 h2 h3
    simp only [Prod.mk.injEq, Option.some.injEq] at h3
    obtain ⟨rfl, _, _⟩ := h3
    simp only [Sem.run_bind, run_underlying ht, Result.andThen_ok]
    cases h1 <;> simp only [Sem.run_bind, run_underlying ht, run_underlying ht', Result.andThen_ok, Sem.run_pure]
  · rfl

/-- A slice whose elements lead to what stays; the row itself may be a live one. -/
def ListAt (w : World) (Fr : Nat → Prop) (u : Ty) (ys : List u.D) (v : Value) : Prop :=
  ∃ A c cells, v = .slice A ys.length c ∧ ys.length ≤ c ∧ RepL (RepV w Fr u) ys cells ∧ (cells = [] ∨ ∃ ad, A = some ad ∧ ∀ j x, cells[j]? = some x → w.cell? (ad.add j) = some x)

theorem ListAt.of_rep {Fr : Nat → Prop} {u : Ty} {ys : List u.D} {v : Value} (h : RepO w Fr (.sl u) ys v) : ListAt w Fr u ys v := by
  obtain ⟨A, c, cells, e, h1, h2, h3⟩ := one_sl h
  refine ⟨A, c, cells, e, h1, h2, ?_⟩
  rcases h3 with h3 | ⟨ad, q1, _, q2⟩
  · exact .inl h3
  · exact .inr ⟨ad, q1, q2⟩

theorem toList_one {β : Type} {u : Ty} {a : AV} {k : List u.D → Eff β} {r : β × Mem × FP} {v : Value} (h : ((toVal false (.sl u) a k).go m p).run = some r) (hm : MemOk B F w0 lim m G w) (hr : repA w (Frz B F m G w) m G a .one [v]) :
    ∃ ys p1, ((k ys).go m p1).run = some r ∧ ListAt w (Frz B F m G w) u ys v := by
  cases a with
  | val t x =>
    replace h := opt_some (show ((Eff.opt (Ty.cast (t := t) (u := .sl u) x) k).go m p).run = some r from h); obtain ⟨y, hy, h⟩ := h
    obtain ⟨e, hxy⟩ := cast_rep hy
    subst e
    cases hxy
    exact ⟨_, _, h, .of_rep (one_val hr)⟩
  | nn t xs =>
    replace h := opt_some (show ((Eff.opt (Ty.cast (t := .sl t) (u := .sl u) xs) k).go m p).run = some r from h); obtain ⟨y, hy, h⟩ := h
    obtain ⟨e, hxy⟩ := cast_rep hy
    injection e with e
    subst e
    cases hxy
    exact ⟨_, _, h, .of_rep (show RepO w (Frz B F m G w) (.sl t) xs v from (one_nn hr).1)⟩
  | nil =>
    have e := one_nil hr
    subst e
    exact ⟨[], _, h, none, 0, [], rfl, Nat.le_refl _, rfl, .inl rfl⟩
  | own b ve =>
    replace h := rd_some h; obtain ⟨c, z, hc, h⟩ := h
    cases c with
    | var => exact (fail_some h).elim
    | row e t xs v1 =>
      replace h := ite_some h; rcases h with ⟨hv, h⟩ | ⟨_, h⟩
      · subst hv
        replace h := opt_some h; obtain ⟨y, hy, h⟩ := h
        obtain ⟨e, hxy⟩ := cast_rep hy
        injection e with e
        subst e
        cases hxy
        obtain ⟨ho, e3, t3, xs3, v3, z3, r1, r2, r3⟩ := one_own hr
        rw [hc] at r1
        injection r1 with r1
        injection r1 with r1 r1'
        injection r1 with s1 s2 s3 s4
        subst s1; subst s2; subst s4; subst r1'
        cases s3
        have hG := r3 rfl
        subst hG
        obtain ⟨A, c, cells, g1, g2, g3, g4⟩ := row_cells hm hc
        refine ⟨_, _, h, A, c, cells, g1, g2, g3, ?_⟩
        rcases g4 with g4 | ⟨g, g5, g6, g7⟩
        · exact .inl g4
        · exact .inr ⟨_, g5, fun j u hu => by rw [add_zero_off]; exact g7 j u hu⟩
      · exact (fail_some h).elim
  | sub b ve lo n =>
    replace h := rd_some h; obtain ⟨c, z, hc, h⟩ := h
    cases c with
    | var => exact (fail_some h).elim
    | row e t xs v1 =>
      replace h := ite_some h; rcases h with ⟨hv, h⟩ | ⟨_, h⟩
      · subst hv
        replace h := opt_some h; obtain ⟨y, hy, h⟩ := h
        obtain ⟨e, hxy⟩ := cast_rep hy
        injection e with e
        subst e
        cases hxy
        obtain ⟨ho, e3, t3, xs3, v3, z3, r1, r2, r3⟩ := one_sub hr
        rw [hc] at r1
        injection r1 with r1
        injection r1 with r1 r1'
        injection r1 with s1 s2 s3 s4
        subst s1; subst s2; subst s4; subst r1'
        cases s3
        obtain ⟨k1, A', c', k2, k3, k4⟩ := r3 rfl
        subst k2
        obtain ⟨A, c, cells, g1, g2, g3, g4⟩ := row_cells hm hc
        have hlen : ((xs.drop lo).take n).length = n := by rw [List.length_take, List.length_drop]; omega
        have hl := fun x cs => RepV.length (w := w) (Fr := Frz B F m G w) t x cs
        have hcl := (g3.drop hl lo).take hl n
        refine ⟨_, _, h, A', c', _, by rw [hlen], by rw [hlen]; exact k3, hcl, ?_⟩
        by_cases h0 : n = 0
        · left; simp [h0]
        · obtain ⟨g, nn, cap, s1, s2⟩ := k4 h0
          rcases g4 with g4 | ⟨g', g5, g6, g7⟩
          · left; simp [g4]
          · right
            rw [s1] at g6
            simp [hdNo] at g6
            subst g6
            refine ⟨_, s2, fun j x hx => ?_⟩
            rw [add_off]
            refine g7 _ x ?_
            rw [List.getElem?_take] at hx
            split at hx
            · rwa [List.getElem?_drop] at hx
            · cases hx
      · exact (fail_some h).elim
  | _ => exact (fail_some h).elim

theorem append_none {t e : TypeId} {i : TypeInfo} (ht : P.underlying t = some (.slice e)) (hi : P.info? e = some i) {ty : TypeId} {base : Nat} {v : Value} {n : Nat} {xs : List Value} (h : w.ownsRow base e i.size v n xs) {A : Option Addr} {c : Nat} :
    (Builtin.append_ #[t, t] ty #[v, .slice A 0 c]).run P w = .ok v w := by
  have hz : ∀ A : Option Addr, (Builtin.firstCells i.size 0 (.slice A 0 c)).run P w = .ok #[] w := by
    intro A
    cases A <;> simp [Builtin.firstCells, loadCells, loadCellsFrom]
  rcases h.2 with ⟨rfl, rfl⟩ | ⟨g, cap, cur, rfl, hb, hg, hn, _⟩
  · simp [Builtin.append_, run_underlying ht, sizeOf, typeInfo, hi, Builtin.lenOf, hz]
  · simp [Builtin.append_, run_underlying ht, sizeOf, typeInfo, hi, Builtin.lenOf, hz, hn, storeCells]

/-- append to a row of one's own of what a typed slice holds. -/
theorem append_run {T : List (TypeId × TI)} (hT : typesChk P T = true) {t : TypeId} {u : Ty} {e : TypeId} {eb : Nat} (htt : look T t = some ⟨.sl u, e, eb⟩) {ty : TypeId} {v : Value} {n : Nat} {cells : List Value} (ho : w.ownsRow B e u.size v n cells) {Fr : Nat → Prop} {ys : List u.D} {x : Value}
    (hx : ListAt w Fr u ys x) (hb : (n + ys.length) * eb ≤ 140737488355328) (hB : B ≤ w.heap.size) :
    ∃ v' w' news, (Builtin.append_ #[t, t] ty #[v, x]).run P w = .ok v' w' ∧ w'.ownsRow B e u.size v' (n + ys.length) (cells ++ news) ∧ RepL (RepV w Fr u) ys news ∧ w.grownBy w' v.ownBlock ∧ (v'.ownBlock = v.ownBlock ∨ v'.ownBlock = some w.heap.size) := by
  obtain ⟨hu, hsz, ⟨te, hte, hte'⟩, ie, hie, hib, hb0⟩ := (tyFact_of hT htt).sl
  obtain ⟨i, z, hi, h2, h3, h4, h5⟩ := (tyFact_of hT hte).info
  rw [hie] at hi
  injection hi with hi
  subst hi
  rw [hte'] at h2 h4
  have hzs : z.cells.size = u.size := by
    have := RepV.length (w := w) (Fr := fun _ => True) u _ _ (zeroChk_rep u _ h4)
    simpa using this
  obtain ⟨A, c, news, e1, r1, r2, r3⟩ := hx
  subst e1
  have hnl := r2.length (fun x cs => RepV.length u x cs)
  have h47 : n + ys.length ≤ 140737488355328 := Nat.le_trans (Nat.le_mul_of_pos_right _ hb0) hb
  by_cases hz0 : ys.length = 0
  · have hy : ys = [] := List.eq_nil_of_length_eq_zero hz0
    subst hy
    have hnews : news = [] := r2
    subst hnews
    refine ⟨v, w, [], ?_, by simpa using ho, rfl, ⟨rfl, rfl, rfl, Nat.le_refl _, fun _ _ _ => rfl⟩, .inl rfl⟩
    rw [← h2] at ho
    exact append_none hu hie ho
  · rcases r3 with r3 | ⟨ad, e2, hc⟩
    · rw [r3, List.length_nil] at hnl
      have := Nat.mul_pos (show 0 < ys.length by omega) hsz
      omega
    · subst e2
      obtain ⟨v', w', q1, q2, q3, _, q5⟩ := run_append_own_at (P := P) w B t ty e ie z u.size eb hu hie h3 h2 hib hzs hsz v n cells ho ad ys.length c news (by omega) hc (r2.all fun x cs hx => RepV.one u x cs hx) (by simp only [maxLen]; omega) hb hB
      exact ⟨v', w', news, q1, q2, r2, q3, q5⟩

theorem ownBlock_hdNo {w : World} {base : Nat} {e : TypeId} {size : Nat} {v : Value} {n : Nat} {xs : List Value} (h : w.ownsRow base e size v n xs) : hdNo v = v.ownBlock ∧ v.oneCell' = true := by
  rcases h.2 with ⟨rfl, _⟩ | ⟨g, cap, cur, rfl, _⟩ <;> exact ⟨rfl, rfl⟩

theorem append_out (hT : typesChk P cx.types = true) (hm : MemOk B F w0 lim m G w) {site : Nat} (hl : site < lim) {t t' ty : TypeId} {s x : AV} {u v : Value} (hs : repA w (Frz B F m G w) m G s .one [u]) (hx : repA w (Frz B F m G w) m G x .one [v])
    (h : ((appendOp cx site t t' s x).go m p).run = some (av, m', p')) : Out P B F w0 lim m G w (Builtin.append_ #[t, t'] ty #[u, v]) m' av := by
  unfold appendOp at h
  split at h
  · rename_i ue e eb ue' e' eb' htt htt'
    obtain ⟨hu, hsz, _, _⟩ := (tyFact_of hT htt).sl
    have hu' := (tyFact_of hT htt').sl.1
    have htt1 := append_tt (P := P) (w := w) ty t t' e e' hu hu' #[u, v]
    replace h := toList_one h hm hx; obtain ⟨ys, p1, h, hy⟩ := h
    split at h
    · have e1 := one_nil hs
      subst e1
      replace h := tst_some h; rcases h with ⟨hc, h⟩ | ⟨_, h⟩
      · replace h := nw_some h; obtain ⟨hn, h⟩ := h
        obtain ⟨h1', h2'⟩ := ret_some h
        subst h1'; subst h2'
        have hc' : ys.length * eb ≤ 140737488355328 := by simpa using hc
        obtain ⟨v', w', news, q1, q2, q3, q4, q5⟩ := append_run (P := P) (B := B) hT htt (ty := ty) (World.ownsRow_nil w B e ue.size) hy (by simpa using hc') hm.base
        have hno := ownBlock_hdNo q2
        have hbl : Below w.heap.size w w' := ⟨q4.os, q4.tape, q4.output, q4.size, fun k hk => q4.block k hk (by simp [Value.ownBlock])⟩
        have hnum : ∀ k, hdNo v' = some k → w.heap.size ≤ k := by
          intro k hk
          rw [hno.1] at hk
          rcases q5 with q5 | q5 <;> rw [q5] at hk
          · simp [Value.ownBlock] at hk
          · injection hk with hk; omega
        have hst := hm.step (b0 := site) (c0 := .row e ue ys 0) (z0 := false) (g0 := v') (w' := w') (hbl.mono hm.base) (fun k hk _ => hbl.block k hk) (fun k hk => .inr (hnum k hk)) (fun c z hc => by rw [hn] at hc; cases hc) hl ?_
        · exact ⟨_, _, _, by rw [htt1]; exact q1, hst.1, hst.2, new_own hno.2⟩
        · intro htr
          refine ⟨news, ?_, q3.mono fun x cs hx => RepV.mono htr.fr _ _ _ hx, hsz⟩
          have : upd G site v' site = v' := by simp [upd]
          rw [this]
          simpa using q2
      · exact (fail_some h).elim
    · rename_i b ve
      replace h := rd_some h; obtain ⟨c, z, hc, h⟩ := h
      cases c with
      | var => exact (fail_some h).elim
      | row e1 t1 xs v1 =>
        replace h := ite_some h; rcases h with ⟨⟨hv, he⟩, h⟩ | ⟨_, h⟩
        · subst hv; subst he
          replace h := opt_some h; obtain ⟨zs, hzs, h⟩ := h
          obtain ⟨e2, hxy⟩ := cast_rep hzs
          injection e2 with e2
          subst e2
          cases hxy
          replace h := tst_some h; rcases h with ⟨hcb, h⟩ | ⟨_, h⟩
          · replace h := wr_some h; obtain ⟨c0, hc0, h⟩ := h
            obtain ⟨h1', h2'⟩ := ret_some h
            subst h1'; subst h2'
            rw [hc] at hc0
            injection hc0 with hc0
            injection hc0 with hc0 hz
            subst hc0; subst hz
            obtain ⟨ho, e3, t3, xs3, v3, z3, r1, r2, r3⟩ := one_own hs
            rw [hc] at r1
            injection r1 with r1
            injection r1 with r1 r1'
            injection r1 with s1 s2 s3 s4
            subst s1; subst s2; subst s4; subst r1'
            cases s3
            have hG := r3 rfl
            subst hG
            obtain ⟨cells, o1, o2, o3⟩ := hm.blk _ _ _ hc
            have hcb' : (xs.length + ys.length) * eb ≤ 140737488355328 := by simpa using hcb
            obtain ⟨v', w', news, q1, q2, q3, q4, q5⟩ := append_run (P := P) (B := B) hT htt (ty := ty) o1 hy hcb' hm.base
            have hno := ownBlock_hdNo q2
            have hno0 := ownBlock_hdNo o1
            have hbl : Below B w w' := (Below.refl B w).grown q4 hm.base fun k hk => ((hm.blk _ _ _ hc).no (hno0.1.trans hk)).1
            have hst := hm.step (b0 := b) (c0 := .row e t1 (xs ++ ys) (ve + 1)) (z0 := false) (g0 := v') (w' := w') hbl
              (fun k hk hne => q4.block k hk (by rw [← hno0.1]; exact fun q => hne _ hc q.symm))
              (fun k hk => by
                rw [hno.1] at hk
                rcases q5 with q5 | q5 <;> rw [q5] at hk
                · exact .inl ⟨⟨_, hc⟩, hno0.1.trans hk⟩
                · injection hk with hk; exact .inr (by omega))
              (fun c1 z1 h1 => by
                rw [hc] at h1
                injection h1 with h1
                injection h1 with h1 h2
                subst h1; subst h2
                exact ⟨⟨rfl, rfl, by omega, fun q => by omega⟩, fun q => by simp [sameHead] at q, id⟩) (hm.lim _ _ hc) ?_
            · refine ⟨_, _, _, by rw [htt1]; exact q1, hst.1, hst.2, ?_⟩
              exact ⟨_, rfl, hno.2, e, t1, xs ++ ys, ve + 1, false, by simp [Mem.set], Nat.le_refl _, fun _ => by simp [upd]⟩
            · intro htr
              refine ⟨cells ++ news, ?_, (o2.mono fun x cs hx => RepV.mono htr.fr _ _ _ hx).append (q3.mono fun x cs hx => RepV.mono htr.fr _ _ _ hx), o3⟩
              have : upd G b v' b = v' := by simp [upd]
              rw [this, List.length_append]
              exact q2
          · exact (fail_some h).elim
        · exact (fail_some h).elim
    · exact (fail_some h).elim
  · exact (fail_some h).elim

theorem run_copy {t t' ty e : TypeId} {i : TypeInfo} (ht : P.underlying t = some (.slice e)) (hi : P.info? e = some i) {ad bd : Addr} {dn dc n c : Nat} {vs : List Value} (hl : vs.length = Nat.min n dn * i.size)
    (hc : ∀ j x, vs[j]? = some x → w.cell? (ad.add j) = some x) {g : Nat} {cur : Array Value} {el : TypeId} (hg : bd = ⟨g, 0, none⟩) (hh : w.heap[g]? = some (.cells cur el (0, 0))) (hfit : vs.length ≤ cur.size) (h1 : ∀ x ∈ vs, x.oneCell' = true) :
    (Builtin.copy_ #[t, t'] ty #[.slice (some bd) dn dc, .slice (some ad) n c]).run P w = .ok (goInt (Nat.min n dn : Nat)) (w.setRow g (patch cur.toList 0 vs).toArray) := by
  subst hg
  have hld := run_loadCells_list (P := P) w ad vs hc
  rw [hl] at hld
  have hst := run_storeCells_at P g 0 el vs 0 cur w hh (by simpa using hfit) h1
  simp only [Nat.add_zero, Nat.zero_add] at hst
  simp only [Builtin.copy_, List.getElem?_toArray, List.getElem?_cons_zero, List.getElem?_cons_succ, Sem.run_bind, run_underlying ht, Result.andThen_ok, Builtin.lenOf, Sem.run_pure, sizeOf, typeInfo, run_program, hi, Builtin.firstCells, hld, hst]
  simp [patch]

theorem run_copy0 {t t' ty e : TypeId} {i : TypeInfo} (ht : P.underlying t = some (.slice e)) (hi : P.info? e = some i) {A D : Option Addr} {dn dc n c : Nat} (h0 : Nat.min n dn = 0) :
    (Builtin.copy_ #[t, t'] ty #[.slice D dn dc, .slice A n c]).run P w = .ok (goInt 0) w := by
  have hz : (Builtin.firstCells i.size 0 (.slice A n c)).run P w = .ok #[] w := by
    cases A <;> simp [Builtin.firstCells, loadCells, loadCellsFrom]
  simp only [Builtin.copy_, List.getElem?_toArray, List.getElem?_cons_zero, List.getElem?_cons_succ, Sem.run_bind, run_underlying ht, Result.andThen_ok, Builtin.lenOf, Sem.run_pure, sizeOf, typeInfo, run_program, hi, h0, hz]
  cases D <;> simp [storeCells, goInt]

theorem copy_out (hT : typesChk P cx.types = true) (hm : MemOk B F w0 lim m G w) {t t' ty : TypeId} {d x : AV} {u v : Value} (hd : repA w (Frz B F m G w) m G d .one [u]) (hx : repA w (Frz B F m G w) m G x .one [v])
    (h : ((copyOp cx t d x).go m p).run = some (av, m', p')) : Out P B F w0 lim m G w (Builtin.copy_ #[t, t'] ty #[u, v]) m' av := by
  unfold copyOp at h
  split at h
  · rename_i ue e eb htt
    obtain ⟨hu, hsz, ⟨te, hte, hte'⟩, ie, hie, hib, hb0⟩ := (tyFact_of hT htt).sl
    obtain ⟨i, z, hi, h2, h3, h4, h5⟩ := (tyFact_of hT hte).info
    rw [hie] at hi
    injection hi with hi
    subst hi
    rw [hte'] at h2
    replace h := toList_one h hm hx; obtain ⟨ys, p1, h, hy⟩ := h
    split at h
    · rename_i b ve
      replace h := rd_some h; obtain ⟨c, zf, hc, h⟩ := h
      cases c with
      | var => exact (fail_some h).elim
      | row e1 t1 xs v1 =>
        replace h := ite_some h; rcases h with ⟨hv, h⟩ | ⟨_, h⟩
        · subst hv
          replace h := opt_some h; obtain ⟨zs, hzs, h⟩ := h
          obtain ⟨e2, hxy⟩ := cast_rep hzs
          injection e2 with e2
          subst e2
          cases hxy
          replace h := wr_some h; obtain ⟨c0, hc0, h⟩ := h
          obtain ⟨h1', h2'⟩ := ret_some h
          subst h1'; subst h2'
          rw [hc] at hc0
          injection hc0 with hc0
          injection hc0 with hc0 hz
          subst hc0; subst hz
          obtain ⟨ho, e3, t3, xs3, v3, z3, r1, r2, r3⟩ := one_own hd
          rw [hc] at r1
          injection r1 with r1
          injection r1 with r1 r1'
          injection r1 with s1 s2 s3 s4
          subst s1; subst s2; subst s4; subst r1'
          cases s3
          have hG := r3 rfl
          subst hG
          obtain ⟨A, c, news, e4, k1, k2, k3⟩ := hy
          subst e4
          obtain ⟨cells, o1, o2, o3⟩ := hm.blk _ _ _ hc
          have hl := fun x cs => RepV.length (w := w) (Fr := Frz B F m G w) t1 x cs
          have hnl := k2.length hl
          have hcl := o2.length hl
          have hkeep : ∀ {c1 : Cn}, c1 = .row e1 t1 xs ve → MemOk B F w0 lim (m.set b (c1, false)) G w ∧ Tr B F m G w (m.set b (c1, false)) G w := by
            intro c1 hc1
            have : m.set b (c1, false) = m := by
              funext i
              unfold Mem.set
              split
              · rename_i e; rw [e, hc1, hc]
              · rfl
            rw [this]
            exact ⟨hm, Tr.refl ..⟩
          by_cases h0 : Nat.min ys.length xs.length = 0
          · have hsame : ys.take xs.length ++ xs.drop ys.length = xs := by
              have : ys.length = 0 ∨ xs.length = 0 := by
                rcases Nat.le_total ys.length xs.length with h | h
                · left; rw [← h0]; exact (Nat.min_eq_left h).symm
                · right; rw [← h0]; exact (Nat.min_eq_right h).symm
              rcases this with h | h
              · rw [List.eq_nil_of_length_eq_zero h]; simp
              · rw [List.eq_nil_of_length_eq_zero h]; simp
            obtain ⟨hm1, ht1⟩ := hkeep (c1 := .row e1 t1 (ys.take xs.length ++ xs.drop ys.length) ve) (by rw [hsame])
            obtain ⟨A', c', cells', g1, _⟩ := row_cells hm hc
            refine ⟨G, w, goInt 0, ?_, hm1, ht1, ?_⟩
            · rw [g1]
              exact run_copy0 hu hie h0
            · have : (min ys.length xs.length : Nat) = 0 := h0
              rw [this]
              exact mk_int ..
          · have hpos : 0 < xs.length ∧ 0 < ys.length := by
              have : Nat.min ys.length xs.length = min ys.length xs.length := rfl
              omega
            rcases o1.2 with ⟨n1, n2⟩ | ⟨g, cap, cur, n1, n2, n3, n4, n5, n6, n7⟩
            · omega
            rcases k3 with k3 | ⟨ad, k4, k5⟩
            · rw [k3, List.length_nil] at hnl
              have := Nat.mul_pos hpos.2 hsz
              omega
            · subst k4
              have hmin : min ys.length xs.length = Nat.min ys.length xs.length := rfl
              have hvs := k2.take hl (Nat.min ys.length xs.length)
              have hvl : (news.take (Nat.min ys.length xs.length * t1.size)).length = Nat.min ys.length xs.length * t1.size := by
                rw [List.length_take, hnl]
                have : Nat.min ys.length xs.length * t1.size ≤ ys.length * t1.size := Nat.mul_le_mul_right _ (Nat.min_le_left _ _)
                omega
              have hle : Nat.min ys.length xs.length * t1.size ≤ xs.length * t1.size := Nat.mul_le_mul_right _ (Nat.min_le_right _ _)
              have hcap : xs.length * t1.size ≤ cap * t1.size := Nat.mul_le_mul_right _ n4
              have hrun := run_copy (P := P) (t := t) (t' := t') (ty := ty) (w := w) hu hie (ad := ad) (bd := ⟨g, 0, none⟩) (dn := xs.length) (dc := cap) (n := ys.length) (c := c) (vs := news.take (Nat.min ys.length xs.length * t1.size)) (by rw [hvl, h2])
                (fun j x hx => k5 j x (by rw [List.getElem?_take] at hx; split at hx; exact hx; cases hx)) (cur := cur) (el := e1) rfl n3 (by rw [hvl]; omega) (fun x hx => k2.all (fun x cs hx => RepV.one t1 x cs hx) x (List.mem_of_mem_take hx))
              have hst := hm.write (b := b) (c' := .row e1 t1 (ys.take xs.length ++ xs.drop ys.length) ve) hc (g := g) (by rw [n1]; rfl) (cs := (patch cur.toList 0 (news.take (Nat.min ys.length xs.length * t1.size))).toArray) ⟨rfl, rfl, Nat.le_refl _, fun _ => by simp; omega⟩ fun htr => ?_
              · refine ⟨G, _, _, by rw [n1]; exact hrun, hst.1, hst.2, mk_int ..⟩
              · have hlen2 : (ys.take xs.length ++ xs.drop ys.length).length = xs.length := by simp; omega
                have hcells : patch cells 0 (news.take (Nat.min ys.length xs.length * t1.size)) = news.take (Nat.min ys.length xs.length * t1.size) ++ cells.drop (Nat.min ys.length xs.length * t1.size) := by
                  unfold patch
                  rw [hvl]
                  simp
                refine ⟨patch cells 0 (news.take (Nat.min ys.length xs.length * t1.size)), ⟨?_, .inr ⟨g, cap, _, by rw [hlen2]; exact n1, n2, setRow_heap w g cur _ e1 _ n3, by rw [hlen2]; exact n4, n5, ?_, ?_⟩⟩, ?_, o3⟩
                · rw [hlen2, patch_length (by rw [hvl]; omega)]; exact hcl
                · simp only [List.size_toArray]
                  rw [patch_length (by rw [hvl]; simp; omega)]
                  simpa using n6
                · rw [hlen2]
                  have hcur : cur.toList = cur.toList.take (xs.length * t1.size) ++ cur.toList.drop (xs.length * t1.size) := (List.take_append_drop _ _).symm
                  have hl0 : (cur.toList.take (xs.length * t1.size)).length = xs.length * t1.size := by rw [List.length_take]; simp; omega
                  show (patch cur.toList 0 _).take _ = _
                  rw [← n7]
                  conv => lhs; rw [hcur]
                  rw [patch_append_left (by rw [hl0, hvl]; omega), List.take_left' (by rw [patch_length (by rw [hl0, hvl]; omega), hl0])]
                · rw [hcells]
                  have h1 := hvs.append (o2.drop hl (Nat.min ys.length xs.length))
                  have e5 : ys.take (Nat.min ys.length xs.length) ++ xs.drop (Nat.min ys.length xs.length) = ys.take xs.length ++ xs.drop ys.length := by
                    rcases Nat.le_total ys.length xs.length with h | h
                    · rw [show Nat.min ys.length xs.length = ys.length from Nat.min_eq_left h, List.take_of_length_le (Nat.le_refl _), List.take_of_length_le h]
                    · rw [show Nat.min ys.length xs.length = xs.length from Nat.min_eq_right h, List.drop_of_length_le (Nat.le_refl _), List.drop_of_length_le h]
                  rw [e5] at h1
                  exact h1.mono fun x cs hx => RepV.mono htr.fr _ _ _ hx
        · exact (fail_some h).elim
    · exact (fail_some h).elim
  · exact (fail_some h).elim
end
end Go.Refl
