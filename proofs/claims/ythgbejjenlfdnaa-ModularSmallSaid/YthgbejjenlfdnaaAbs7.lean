/-
  Parts, loads, stores, new variables, cuts.
-/
import Derived.Test.YthgbejjenlfdnaaAbs6
set_option linter.unusedVariables false
set_option linter.unusedSimpArgs false
namespace Go.Refl
open Go Go.RowKit

section
variable {P : Program} {B : Nat} {F : Nat → Prop} {w0 : World} {lim : Nat} {m m' : Mem} {G : Nat → Value} {w : World} {p p' : FP} {av : AV} {cx : Cx}

theorem run_loadVar {T : List (TypeId × TI)} {t : TypeId} {ti : TI} (ht : TyFact P T t ti) {ad : Addr} {cs : List Value} (hl : cs.length = ti.ty.size) (hc : ∀ j u, cs[j]? = some u → w.cell? (ad.add j) = some u) :
    (loadVar t ad).run P w = .ok (ofCells ti.ty cs) w := by
  simp only [loadVar, Sem.run_bind, ht.isAgg w, Result.andThen_ok, ofCells]
  split
  · rename_i ha
    simp only [Sem.run_bind, ht.sizeOf w, Result.andThen_ok, ← hl, run_loadCells_list w ad cs hc, Sem.run_pure]
  · rename_i ha
    have h1 := not_agg_size ti.ty (by simpa using ha)
    rw [h1] at hl
    obtain ⟨v, rfl⟩ := List.length_eq_one_iff.1 hl
    have : w.cell? ad = some v := by
      have := hc 0 v rfl
      simpa [Addr.add] using this
    simp [this]

theorem run_part {T : List (TypeId × TI)} {t : TypeId} {ti : TI} (ht : TyFact P T t ti) {cs : List Value} {off : Nat} (hl : off + ti.ty.size ≤ cs.length) :
    (part t cs.toArray off).run P w = .ok (ofCells ti.ty (piece cs off ti.ty.size)) w := by
  simp only [part, Sem.run_bind, ht.isAgg w, Result.andThen_ok, ofCells]
  split
  · rename_i ha
    simp only [Sem.run_bind, ht.sizeOf w, Result.andThen_ok, Sem.run_pure]
    congr 2
    apply Array.ext'
    simp [piece, List.extract_eq_take_drop]
  · rename_i ha
    have h1 := not_agg_size ti.ty (by simpa using ha)
    rw [h1] at hl ⊢
    have hlt : off < cs.length := by omega
    have : piece cs off 1 = [cs[off]] := by
      unfold piece
      rw [List.drop_eq_getElem_cons hlt]
      rfl
    simp [this, hlt]

theorem cell_row {g : Nat} {arr : Array Value} {e : TypeId} {fr : Nat × Nat} (hg : w.heap[g]? = some (.cells arr e fr)) {o n : Nat} : ∀ j u, (piece arr.toList o n)[j]? = some u → w.cell? ((⟨g, o, none⟩ : Addr).add j) = some u := by
  intro j u hu
  rw [add_off, cell_of_row w g (o + j) arr e fr hg]
  unfold piece at hu
  rw [List.getElem?_take] at hu
  split at hu
  · rw [List.getElem?_drop] at hu
    simpa using hu
  · cases hu

/-- The value of a part that was read out of cells. -/
theorem part_rep {Fr : Nat → Prop} {u : Ty} {a : AV} {cs : List Value} (hr : repA w Fr m G a .cells cs) (hf : AV.fits u a = true ∨ ∃ x, a = .val u x) : repA w Fr m G a .one [ofCells u cs] := by
  rcases hf with hf | ⟨x, rfl⟩
  · exact repA.ofCells' hf hr
  · exact ⟨_, rfl, RepV.operand hr⟩

theorem index_out (hT : typesChk P cx.types = true) (hm : MemOk B F w0 lim m G w) {t : TypeId} {x i : AV} {u v : Value} (hx : repA w (Frz B F m G w) m G x .one [u]) (hi : repA w (Frz B F m G w) m G i .one [v])
    (h : ((indexOp cx t x i).go m p).run = some (av, m', p')) : m' = m ∧ Out P B F w0 lim m G w (Instr.index t u v) m' av := by
  unfold indexOp at h
  split at h
  · rename_i s htt
    have hu := (tyFact_of hT htt).str
    have e1 := one_str hx
    subst e1
    replace h := inRange_some hi h; obtain ⟨kk, j, e2, h0, h1, h2, h⟩ := h
    subst e2
    obtain ⟨h1', h2'⟩ := ret_some h
    subst h1'; subst h2'
    refine ⟨rfl, out_pure (cv := .int .u8 ((s.getD j.toNat 0).toNat : Int)) ?_ hm (mk_int ..)⟩
    have hb : (⟨s.toArray⟩ : ByteArray)[j.toNat]? = some (s.getD j.toNat 0) := by
      have hlt : j.toNat < (⟨s.toArray⟩ : ByteArray).size := by simpa [ByteArray.size] using h1
      have e1 : (⟨s.toArray⟩ : ByteArray)[j.toNat]? = some ((⟨s.toArray⟩ : ByteArray)[j.toNat]'hlt) := getElem?_pos (⟨s.toArray⟩ : ByteArray) j.toNat hlt
      have e2 : (⟨s.toArray⟩ : ByteArray)[j.toNat]'hlt = s[j.toNat] := rfl
      rw [e1, e2]
      simp [List.getD_eq_getElem?_getD, List.getElem?_eq_getElem h1]
    simp [Instr.index, asIntOf, run_underlying hu, h0, hb]
  · rename_i n ue e eb n' u' l htt
    replace h := ite_some h; rcases h with ⟨⟨hn, hu1⟩, h⟩ | ⟨_, h⟩
    · subst hn; subst hu1
      obtain ⟨hu, hsz, te, hte, hte'⟩ := (tyFact_of hT htt).arr
      have hft := tyFact_of hT hte
      have hso := hft.sizeOf w
      replace h := inRange_some hi h; obtain ⟨kk, j, e2, h0, h1, h2, h⟩ := h
      subst e2
      obtain ⟨h1', h2'⟩ := ret_some h
      subst h1'; subst h2'
      obtain ⟨cs, e3, r1, r2⟩ := (show ∃ cs : List Value, u = .agg cs.toArray ∧ RepV w (Frz B F m G w) (.arr n ue) l cs from one_val hx)
      subst e3
      have hlen := r2.length (fun x cs => RepV.length ue x cs)
      have hle : (j.toNat + 1) * ue.size ≤ n * ue.size := Nat.mul_le_mul_right _ h1
      rw [Nat.succ_mul] at hle
      rw [r1] at hlen
      have hpart := run_part (P := P) (w := w) hft (cs := cs) (off := j.toNat * te.ty.size) (by rw [hte']; omega)
      have hg := r2.get (fun x cs => RepV.length ue x cs) j.toNat ue.zero (by omega)
      refine ⟨rfl, out_pure (cv := ofCells te.ty (piece cs (j.toNat * te.ty.size) te.ty.size)) ?_ hm ?_⟩
      · simp [Instr.index, asIntOf, run_underlying hu, h0, h2, hso, hpart]
      · rw [hte']
        exact mk_val (RepV.operand hg)
    · exact (fail_some h).elim
  · exact (fail_some h).elim

theorem agg_cells {a b : Ty} {x : AV} {v : Value} {Fr : Nat → Prop} (hf : AV.fits (.pair a b) x.norm = true) (hx : repA w Fr m G x .one [v]) : ∃ cs : List Value, v = .agg cs.toArray ∧ repA w Fr m G x.norm .cells cs := by
  cases x with
  | val t y =>
    have ht : t.agg = true := by
      cases t <;> simp [AV.norm, explode, AV.fits] at hf <;> rfl
    have := one_val hx
    unfold RepO at this
    rw [if_pos ht] at this
    obtain ⟨cs, e, hr⟩ := this
    exact ⟨cs, e, explode_rep _ _ _ hr⟩
  | pr y z =>
    obtain ⟨c1, c2, e, h1, h2⟩ := hx
    injection e with e
    exact ⟨c1 ++ c2, e, _, _, rfl, norm_rep _ _ h1, norm_rep _ _ h2⟩
  | _ => simp [AV.norm, AV.fits] at hf

theorem field_out (hT : typesChk P cx.types = true) (hm : MemOk B F w0 lim m G w) {t : TypeId} {x : AV} {f : Nat} {u : Value} (hx : repA w (Frz B F m G w) m G x .one [u])
    (h : ((fieldOp cx t x f).go m p).run = some (av, m', p')) : m' = m ∧ Out P B F w0 lim m G w (Instr.field t u f) m' av := by
  unfold fieldOp at h
  split at h
  · rename_i ue e eb htt
    split at h
    · rename_i uf huf
      replace h := ite_some h; rcases h with ⟨hf, h⟩ | ⟨_, h⟩
      · replace h := opt_some h; obtain ⟨a, ha, h⟩ := h
        obtain ⟨h1', h2'⟩ := ret_some h
        subst h1'; subst h2'
        obtain ⟨fs, fd, q1, q2, q3, q4, te, q5, q6⟩ := (tyFact_of hT htt).field huf
        cases ue with
        | pair ta tb =>
          obtain ⟨cs, e1, hr⟩ := agg_cells hf hx
          subst e1
          obtain ⟨r1, r2⟩ := nth_rep hf huf ha hr
          have hlen := fits_length hf hr
          have hoff := tyF_off huf
          have hpart := run_part (P := P) (w := w) (tyFact_of hT q5) (cs := cs) (off := fd.offset) (by rw [q6, q3]; simp only; omega)
          refine ⟨rfl, out_pure (cv := ofCells te.ty (piece cs fd.offset te.ty.size)) ?_ hm ?_⟩
          · simp [Instr.field, run_underlying q1, q2, asAgg, hpart]
          · rw [q6, q3]
            exact repA.ofCells' r1 r2
        | _ => simp [tyF] at huf
      · exact (fail_some h).elim
    · exact (fail_some h).elim
  · exact (fail_some h).elim

theorem fieldAddr_out (hT : typesChk P cx.types = true) (hm : MemOk B F w0 lim m G w) {t : TypeId} {x : AV} {f : Nat} {u : Value} (hx : repA w (Frz B F m G w) m G x .one [u])
    (h : ((fieldAddrOp cx t x f).go m p).run = some (av, m', p')) : m' = m ∧ Out P B F w0 lim m G w (Instr.fieldAt t u f) m' av := by
  unfold fieldAddrOp at h
  split at h
  · rename_i ue e eb htt
    have key : ∀ {uf : Ty} {ad : Addr}, tyF ue f = some uf → (Instr.fieldAt t (.pointer (some ad)) f).run P w = .ok (.pointer (some (ad.add (offF ue f)))) w := by
      intro uf ad huf
      obtain ⟨fs, fd, q1, q2, q3, q4, te, q5, q6⟩ := (tyFact_of hT htt).field huf
      have hso := (tyFact_of hT q5).sizeOf w
      rw [q6] at hso
      simp [Instr.fieldAt, run_underlying q1, q2, Instr.sureAddr, fieldPlace, hso, q4, q3]
    split at h
    · rename_i uf b q huf
      replace h := rd_some h; obtain ⟨c, z, hc, h⟩ := h
      cases c with
      | row => exact (fail_some h).elim
      | var Tv cv0 =>
        replace h := ite_some h; rcases h with ⟨hq, h⟩ | ⟨_, h⟩
        · obtain ⟨h1', h2'⟩ := ret_some h
          subst h1'; subst h2'
          obtain ⟨T', c', z', g, r1, r2, r3, r4⟩ := one_ptr hx
          rw [hc] at r1
          injection r1 with r1
          injection r1 with r1 _
          injection r1 with r1 _
          subst r1; subst r4
          obtain ⟨s1, s2⟩ := okP_snoc (s := .fld f) r2 hq ⟨uf, huf, trivial⟩
          refine ⟨rfl, out_pure (key huf) hm ?_⟩
          exact ⟨_, rfl, _, _, _, g, hc, s1, r3, by rw [s2, add_off]; simp [offP, huf]⟩
        · exact (fail_some h).elim
    · rename_i uf b ve k q huf
      replace h := rd_some h; obtain ⟨c, z, hc, h⟩ := h
      cases c with
      | var => exact (fail_some h).elim
      | row e1 Tv xs v1 =>
        replace h := ite_some h; rcases h with ⟨⟨hv, hq⟩, h⟩ | ⟨_, h⟩
        · obtain ⟨h1', h2'⟩ := ret_some h
          subst h1'; subst h2'
          obtain ⟨ho, e3, t3, xs3, v3, z3, r1, r2, r3, r4⟩ := one_rptr hx
          rw [hc] at r1
          injection r1 with r1
          injection r1 with r1 r1'
          injection r1 with s1 s2 s3 s4
          subst s1; subst s2; subst s4; subst r1'
          cases s3
          obtain ⟨s1, s2⟩ := okP_snoc (s := .fld f) r3 hq ⟨uf, huf, trivial⟩
          obtain ⟨k1, g, cap, nn, k2, k3⟩ := r4 hv
          subst k3
          refine ⟨rfl, out_pure (key huf) hm ?_⟩
          exact ⟨_, rfl, rfl, _, _, _, _, _, hc, r2, s1, fun _ => ⟨k1, g, cap, nn, k2, by rw [s2, add_off]; simp [offP, huf, Nat.add_assoc]⟩⟩
        · exact (fail_some h).elim
    · rename_i uf u' y huf
      replace h := ite_some h; rcases h with ⟨hu1, h⟩ | ⟨_, h⟩
      · subst hu1
        replace h := opt_some h; obtain ⟨a, ha, h⟩ := h
        obtain ⟨h1', h2'⟩ := ret_some h
        subst h1'; subst h2'
        obtain ⟨ad, e3, r1, cs, r2, r3⟩ := one_ref hx
        subst e3
        refine ⟨rfl, out_pure (key huf) hm ?_⟩
        obtain ⟨q1, q2⟩ := getF_rep ha r2
        refine ⟨_, rfl, _, rfl, by rw [add_block]; exact r1, _, q2, fun j u hu => ?_⟩
        rw [add_add]
        refine r3 _ u ?_
        unfold piece at hu
        rw [List.getElem?_take] at hu
        split at hu
        · rwa [List.getElem?_drop] at hu
        · cases hu
      · exact (fail_some h).elim
    · exact (fail_some h).elim
  · exact (fail_some h).elim

theorem load_out (hT : typesChk P cx.types = true) (hm : MemOk B F w0 lim m G w) {t : TypeId} {x : AV} {u : Value} (hx : repA w (Frz B F m G w) m G x .one [u])
    (h : ((loadOp cx t x).go m p).run = some (av, m', p')) : m' = m ∧ Out P B F w0 lim m G w (Instr.loadAt t u) m' av := by
  unfold loadOp at h
  split at h
  · rename_i ue e eb htt
    have hft := tyFact_of hT htt
    have key : ∀ {ad : Addr}, (Instr.loadAt t (.pointer (some ad))).run P w = (loadVar t ad).run P w := by
      intro ad
      simp [Instr.loadAt, Instr.sureAddr]
    split at h
    · rename_i b q
      replace h := rd_some h; obtain ⟨c, z, hc, h⟩ := h
      cases c with
      | row => exact (fail_some h).elim
      | var Tv cv0 =>
        replace h := ite_some h; rcases h with ⟨hq, h⟩ | ⟨_, h⟩
        · replace h := opt_some h; obtain ⟨a, ha, h⟩ := h
          obtain ⟨h1', h2'⟩ := ret_some h
          subst h1'; subst h2'
          obtain ⟨T', c', z', g, r1, r2, r3, r4⟩ := one_ptr hx
          rw [hc] at r1
          injection r1 with r1
          injection r1 with r1 _
          injection r1 with r1 _
          subst r1; subst r4
          obtain ⟨g', arr, e', k1, k2, k3, k4, k5⟩ := hm.blk _ _ _ hc
          rw [r3] at k1
          injection k1 with k1
          injection k1 with k1
          injection k1 with k1
          subst k1
          obtain ⟨s1, s2⟩ := get_rep r2 k4 hq ha k5
          have hlen := fits_length k4 k5
          have hoff := okP_off r2 hq
          refine ⟨rfl, out_pure (cv := ofCells ue (piece arr.toList (offP q Tv) ue.size)) ?_ hm (part_rep s1 s2)⟩
          rw [key, run_loadVar hft (cs := piece arr.toList (offP q Tv) ue.size) (piece_length (by omega)) (cell_row k3)]
        · exact (fail_some h).elim
    · rename_i b ve k q
      replace h := rd_some h; obtain ⟨c, z, hc, h⟩ := h
      cases c with
      | var => exact (fail_some h).elim
      | row e1 Tv xs v1 =>
        replace h := ite_some h; rcases h with ⟨⟨hv, hq⟩, h⟩ | ⟨_, h⟩
        · replace h := opt_some h; obtain ⟨a, ha, h⟩ := h
          obtain ⟨h1', h2'⟩ := ret_some h
          subst h1'; subst h2'
          obtain ⟨ho, e3, t3, xs3, v3, z3, r1, r2, r3, r4⟩ := one_rptr hx
          rw [hc] at r1
          injection r1 with r1
          injection r1 with r1 r1'
          injection r1 with s1 s2 s3 s4
          subst s1; subst s2; subst s4; subst r1'
          cases s3
          obtain ⟨k1, g, cap, nn, k2, k3⟩ := r4 hv
          subst k3
          obtain ⟨cells, o1, o2, o3⟩ := hm.blk _ _ _ hc
          have hgz := o2.get (fun x cs => RepV.length Tv x cs) k Tv.zero k1
          obtain ⟨q1, q2⟩ := getP_rep r3 ha hgz
          rw [hq] at q1
          injection q1 with q1
          obtain ⟨a1, a2⟩ := a
          dsimp only at q1
          subst q1
          have hoff := okP_off r3 hq
          have hlen := o2.length (fun x cs => RepV.length Tv x cs)
          have hle : (k + 1) * Tv.size ≤ xs.length * Tv.size := Nat.mul_le_mul_right _ k1
          rw [Nat.succ_mul] at hle
          have q2' : RepV w (Frz B F m G w) ue a2 (piece (piece cells (k * Tv.size) Tv.size) (offP q Tv) ue.size) := q2
          rw [piece_piece hoff] at q2'
          have hcell : ∀ j u, (piece cells (k * Tv.size + offP q Tv) ue.size)[j]? = some u → w.cell? ((⟨g, k * Tv.size + offP q Tv, none⟩ : Addr).add j) = some u := by
            intro j u hu
            rw [add_off]
            unfold piece at hu
            rw [List.getElem?_take] at hu
            split at hu
            · rw [List.getElem?_drop] at hu
              have := o1.cells (g := g) (by rw [k2]; rfl) _ u hu
              rwa [add_zero_off] at this
            · cases hu
          refine ⟨rfl, out_pure (cv := ofCells ue (piece cells (k * Tv.size + offP q Tv) ue.size)) ?_ hm ?_⟩
          · rw [key, run_loadVar hft (cs := piece cells (k * Tv.size + offP q Tv) ue.size) (piece_length (show _ ≤ _ by omega)) hcell]
          · exact mk_val (RepV.operand q2')
        · exact (fail_some h).elim
    · rename_i u' y
      replace h := ite_some h; rcases h with ⟨hu1, h⟩ | ⟨_, h⟩
      · subst hu1
        obtain ⟨h1', h2'⟩ := ret_some h
        subst h1'; subst h2'
        obtain ⟨ad, e3, r1, cs, r2, r3⟩ := one_ref hx
        subst e3
        refine ⟨rfl, out_pure (cv := ofCells ue cs) ?_ hm (mk_val (RepV.operand r2))⟩
        rw [key, run_loadVar hft (cs := cs) (RepV.length _ _ _ r2) r3]
      · exact (fail_some h).elim
    · exact (fail_some h).elim
  · exact (fail_some h).elim

/-! ### Stores -/
theorem patch_outer {cs c : List Value} {o n : Nat} (h : c.length = n) : cs.take o ++ (c ++ cs.drop (o + n)) = patch cs o c := by
  unfold patch
  rw [h]

theorem run_storeVar {T : List (TypeId × TI)} {t : TypeId} {ti : TI} (ht : TyFact P T t ti) {g o : Nat} {cur : Array Value} {e : TypeId} (hg : w.heap[g]? = some (.cells cur e (0, 0))) {v : Value} (hl : v.cells.size = ti.ty.size)
    (hfit : o + v.cells.size ≤ cur.size) (h1 : ∀ x ∈ v.cells.toList, x.oneCell' = true) :
    (storeVar t ⟨g, o, none⟩ v).run P w = .ok () (w.setRow g (patch cur.toList o v.cells.toList).toArray) := by
  have hs := run_storeCells_at P g o e v.cells.toList 0 cur w hg (by simpa using hfit) h1
  simp only [storeVar, Sem.run_bind, ht.sizeOf w, Result.andThen_ok, hl, ne_eq, not_true_eq_false, if_false]
  simp only [Nat.add_zero] at hs
  rw [hs]
  simp [patch]

theorem below_setRow {g : Nat} {cs : Array Value} : Below g w (w.setRow g cs) := by
  refine ⟨rfl, rfl, rfl, by simp [World.setRow], fun k hk => setRow_other w g k cs (by omega)⟩

theorem cells_all_one : ∀ {a : AV} {cs : List Value} {Fr : Nat → Prop}, repA w Fr m G a .cells cs → ∀ u ∈ cs, u.oneCell' = true
  | .val t x, cs, _, h => RepV.one t x cs h
  | .pr a b, cs, _, ⟨c1, c2, e, h1, h2⟩ => by
    intro u hu
    rw [e, List.mem_append] at hu
    rcases hu with hu | hu
    · exact cells_all_one h1 u hu
    · exact cells_all_one h2 u hu
  | .un, cs, _, h => by rw [show cs = [] from h]; simp
  | .fn .., _, _, ⟨x, y, e, _⟩ => by rw [e]; simp [Value.oneCell']
  | .tp _, _, _, h => h.elim
  | .undef, _, _, ⟨v, e, h⟩ => by rw [e]; simpa using (show v.oneCell' = true from h)
  | .nn .., _, _, ⟨v, e, h⟩ => by rw [e]; simpa using repS.oneCell h
  | .nil, _, _, ⟨v, e, h⟩ => by rw [e]; simpa using repS.oneCell (a := .nil) h
  | .nptr, _, _, ⟨v, e, h⟩ => by rw [e]; simpa using repS.oneCell (a := .nptr) h
  | .ptr .., _, _, ⟨v, e, h⟩ => by rw [e]; simpa using repS.oneCell h
  | .rptr .., _, _, ⟨v, e, h⟩ => by rw [e]; simpa using repS.oneCell h
  | .ref .., _, _, ⟨v, e, h⟩ => by rw [e]; simpa using repS.oneCell h
  | .own .., _, _, ⟨v, e, h⟩ => by rw [e]; simpa using repS.oneCell h
  | .sub .., _, _, ⟨v, e, h⟩ => by rw [e]; simpa using repS.oneCell h

/-- What an action without a value comes to. -/
def OutU (P : Program) (B : Nat) (F : Nat → Prop) (w0 : World) (lim : Nat) (m : Mem) (G : Nat → Value) (w : World) (s : Sem Unit) (m' : Mem) : Prop :=
  ∃ G' w', s.run P w = .ok () w' ∧ MemOk B F w0 lim m' G' w' ∧ Tr B F m G w m' G' w'

theorem upd_self (G : Nat → Value) (b : Nat) : upd G b (G b) = G := by
  funext i
  unfold upd
  split
  · rename_i e; rw [e]
  · rfl

/-- A live block's row of cells is written. -/
theorem MemOk.write (hm : MemOk B F w0 lim m G w) {b : Nat} {c c' : Cn} (hb : m b = some (c, false)) {g : Nat} (hg : hdNo (G b) = some g) {cs : Array Value} (hc : compat c c')
    (hok : Tr B F m G w (m.set b (c', false)) G (w.setRow g cs) → CnOk B F (m.set b (c', false)) G (w.setRow g cs) b c') :
    MemOk B F w0 lim (m.set b (c', false)) G (w.setRow g cs) ∧ Tr B F m G w (m.set b (c', false)) G (w.setRow g cs) := by
  have hno := (hm.blk _ _ _ hb).no hg
  have := hm.step (b0 := b) (c0 := c') (z0 := false) (g0 := G b) (w' := w.setRow g cs) ((below_setRow (w := w) (g := g) (cs := cs)).mono hno.1)
    (fun k hk hne => setRow_other w g k cs fun e => hne c hb (by rw [hg, e])) (fun k hk => .inl ⟨⟨_, hb⟩, hk⟩)
    (fun c1 z1 h1 => by rw [hb] at h1; injection h1 with h1; injection h1 with h1 h2; subst h1; subst h2; exact ⟨hc, fun _ => rfl, id⟩) (hm.lim _ _ hb)
  rw [upd_self] at this
  exact this hok

theorem store_out (hT : typesChk P cx.types = true) (hm : MemOk B F w0 lim m G w) {t : TypeId} {x y : AV} {u v : Value} (hx : repA w (Frz B F m G w) m G x .one [u]) (hy : repA w (Frz B F m G w) m G y .one [v])
    (h : ((storeOp cx t x y).go m p).run = some (av, m', p')) : av = .undef ∧ OutU P B F w0 lim m G w (Instr.storeAt t u v) m' := by
  unfold storeOp at h
  split at h
  · rename_i ue e eb htt
    have hft := tyFact_of hT htt
    have key : ∀ {ad : Addr}, (Instr.storeAt t (.pointer (some ad)) v).run P w = (storeVar t ad v).run P w := by
      intro ad
      simp [Instr.storeAt, Instr.sureAddr]
    split at h
    · rename_i b q
      replace h := rd_some h; obtain ⟨c, z, hc, h⟩ := h
      cases c with
      | row => exact (fail_some h).elim
      | var Tv cv0 =>
        replace h := ite_some h; rcases h with ⟨⟨hq, hf, hs⟩, h⟩ | ⟨_, h⟩
        · replace h := opt_some h; obtain ⟨c', hc', h⟩ := h
          replace h := wr_some h; obtain ⟨c1, hc1, h⟩ := h
          obtain ⟨h1', h2'⟩ := ret_some h
          subst h1'; subst h2'
          rw [hc] at hc1
          injection hc1 with hc1
          injection hc1 with hc1 hz
          subst hc1; subst hz
          obtain ⟨T', c2, z', g, r1, r2, r3, r4⟩ := one_ptr hx
          rw [hc] at r1
          injection r1 with r1
          injection r1 with r1 _
          injection r1 with r1 _
          subst r1; subst r4
          obtain ⟨g', arr, e', k1, k2, k3, k4, k5⟩ := hm.blk _ _ _ hc
          rw [r3] at k1
          injection k1 with k1
          injection k1 with k1
          injection k1 with k1
          subst k1
          have hyc := norm_rep _ _ (repA.toCells hs hy)
          have hvl := fits_length hf hyc
          have hlen := fits_length k4 k5
          have hoff := okP_off r2 hq
          refine ⟨rfl, G, _, by rw [key]; exact run_storeVar hft k3 (by simpa using hvl) (by simp at hvl hlen; omega) (cells_all_one hyc), ?_⟩
          refine hm.write hc (by rw [r3]; rfl) rfl fun htr => ?_
          obtain ⟨s1, s2⟩ := set_rep r2 k4 hq hc' hf (repA.mono htr _ _ _ hyc) (repA.mono htr _ _ _ k5)
          exact ⟨g, _, e', r3, k2, setRow_heap w g arr _ e' _ k3, s1, by simpa using s2⟩
        · exact (fail_some h).elim
    · rename_i b ve k q
      obtain ⟨yv, m1, p1, h, hm1, ht1, hyv⟩ := toVal_one true h hm hy
      replace h := rd_some h; obtain ⟨c, z, hc, h⟩ := h
      cases c with
      | var => exact (fail_some h).elim
      | row e1 Tv xs v1 =>
        replace h := ite_some h; rcases h with ⟨⟨hv, hq⟩, h⟩ | ⟨_, h⟩
        · subst hv
          replace h := opt_some h; obtain ⟨x', hx', h⟩ := h
          replace h := wr_some h; obtain ⟨c1, hc1, h⟩ := h
          obtain ⟨h1', h2'⟩ := ret_some h
          subst h1'; subst h2'
          have hx1 := repA.mono ht1 _ _ _ hx
          rw [hc] at hc1
          injection hc1 with hc1
          injection hc1 with hc1 hz
          subst hc1; subst hz
          obtain ⟨ho, e3, t3, xs3, v3, z3, r1, r2, r3, r4⟩ := one_rptr hx1
          rw [hc] at r1
          injection r1 with r1
          injection r1 with r1 r1'
          injection r1 with s1 s2 s3 s4
          subst s1; subst s2; subst s4; subst r1'
          cases s3
          obtain ⟨k1, g, nn, cap, k2, k3⟩ := r4 rfl
          subst k3
          obtain ⟨cells, o1, o2, o3⟩ := hm1.blk _ _ _ hc
          rcases o1.2 with ⟨n1, _⟩ | ⟨g', cap', cur, n1, n2, n3, n4, n5, n6, n7⟩
          · rw [k2] at n1; cases n1
          have hgz := o2.get (fun x cs => RepV.length Tv x cs) k Tv.zero k1
          obtain ⟨q1, q2⟩ := setP_rep r3 hx' hgz
          have n1' := n1
          rw [k2] at n1
          injection n1 with n1
          injection n1 with n1
          injection n1 with n1
          subst n1
          have hcl := hyv.cells
          rw [show Reach true B F m1 G w = Frz B F m1 G w from rfl] at hcl
          have hvl := RepV.length _ _ _ hcl
          have hoff := okP_off r3 hq
          have hlen := o2.length (fun x cs => RepV.length Tv x cs)
          have hle : (k + 1) * Tv.size ≤ xs.length * Tv.size := Nat.mul_le_mul_right _ k1
          rw [Nat.succ_mul] at hle
          have hcap : xs.length * Tv.size ≤ cap' * Tv.size := Nat.mul_le_mul_right _ n4
          have hcl' : v.cells.toList.length = ue.size := hvl
          have hcs : v.cells.size = ue.size := by simpa using hcl'
          have hst := run_storeVar hft n3 (v := v) (o := k * Tv.size + offP q Tv) (by simpa using hvl) (by simp only [Array.length_toList] at hcl'; omega) (RepV.one _ _ _ hcl)
          have hw := hm1.write (b := b) (c' := .row e1 Tv (xs.set k x') ve) hc (g := g) (by rw [k2]; rfl) (cs := (patch cur.toList (k * Tv.size + offP q Tv) v.cells.toList).toArray) ⟨rfl, rfl, Nat.le_refl _, fun _ => by simp⟩ fun htr => ?_
          · exact ⟨rfl, G, _, by rw [key]; exact hst, hw.1, ht1.trans hw.2⟩
          · have hnew : RepV w (Frz B F m1 G w) Tv x' (patch (piece cells (k * Tv.size) Tv.size) (offP q Tv) v.cells.toList) := q2 _ hcl
            have hset := o2.set (fun x cs => RepV.length Tv x cs) k k1 hnew
            have hpp : cells.take (k * Tv.size) ++ (patch (piece cells (k * Tv.size) Tv.size) (offP q Tv) v.cells.toList ++ cells.drop (k * Tv.size + Tv.size)) = patch cells (k * Tv.size + offP q Tv) v.cells.toList := by
              rw [← patch_patch (cs := cells) (n := Tv.size) (by omega) (by rw [hcl']; exact hoff)]
              exact patch_outer (RepV.length _ _ _ hnew)
            rw [hpp] at hset
            refine ⟨patch cells (k * Tv.size + offP q Tv) v.cells.toList, ⟨?_, .inr ⟨g, cap', _, by simpa using n1', n2, setRow_heap w g cur _ e1 _ n3, by simpa using n4, n5, ?_, ?_⟩⟩, hset.mono fun x cs hx => RepV.mono htr.fr _ _ _ hx, o3⟩
            · rw [patch_length (by omega)]; simpa using hlen
            · simp only [List.size_toArray]
              rw [patch_length (by simp; omega)]
              simpa using n6
            · have : (patch cur.toList (k * Tv.size + offP q Tv) v.cells.toList).take (xs.length * Tv.size) = patch (cur.toList.take (xs.length * Tv.size)) (k * Tv.size + offP q Tv) v.cells.toList := by
                have hcur : cur.toList = cur.toList.take (xs.length * Tv.size) ++ cur.toList.drop (xs.length * Tv.size) := (List.take_append_drop _ _).symm
                have hl0 : (cur.toList.take (xs.length * Tv.size)).length = xs.length * Tv.size := by rw [List.length_take]; simp; omega
                conv => lhs; rw [hcur]
                rw [patch_append_left (by rw [hl0]; omega), List.take_left' (by rw [patch_length (by rw [hl0]; omega), hl0])]
              rw [List.length_set, this, n7]
        · exact (fail_some h).elim
    · exact (fail_some h).elim
  · exact (fail_some h).elim
end
end Go.Refl
