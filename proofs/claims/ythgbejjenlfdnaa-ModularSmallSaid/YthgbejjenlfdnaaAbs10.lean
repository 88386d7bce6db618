/-
  Structs and arrays that are built, functions as values, calls; all operations together.
-/
import Derived.Test.YthgbejjenlfdnaaAbs9
import Derived.Laws.Tables
set_option linter.unusedVariables false
set_option linter.unusedSimpArgs false
namespace Go.Refl
open Go Go.RowKit

section
variable {P : Program} {B : Nat} {F : Nat → Prop} {w0 : World} {lim : Nat} {m m' : Mem} {G : Nat → Value} {w : World} {p p' : FP} {av : AV} {cx : Cx}

/-! ### Structs and arrays -/
theorem places_some {T : List (TypeId × TI)} (hT : typesChk P T = true) : ∀ {fs : List Field} {off : Nat} {t : Ty}, fieldsChk T fs off t = true →
    ∃ places, fs.mapM (fun f => (P.info? f.type).map fun i => (f.offset, i.size)) = some places ∧ ∀ j u, tyF t j = some u → places[j]? = some (off + offF t j, u.size)
  | [], off, .unit, _ => ⟨[], rfl, fun j u h => by simp [tyF] at h⟩
  | f :: fs, off, .pair a b, hc => by
    simp only [fieldsChk, Bool.and_eq_true] at hc
    obtain ⟨⟨⟨h1, h2⟩, h3⟩, h4⟩ := hc
    obtain ⟨places, q1, q2⟩ := places_some hT h4
    split at h3
    · rename_i te hte
      obtain ⟨i, z, hi, hs, _⟩ := (tyFact_of hT hte).info
      have hta : te.ty = a := by simpa using h3
      rw [hta] at hs
      refine ⟨(f.offset, a.size) :: places, ?_, fun j u hu => ?_⟩
      · simp [List.mapM_cons, hi, q1, hs]
      · cases j with
        | zero =>
          simp [tyF] at hu
          subst hu
          have : f.offset = off := by simpa using h1
          simp [offF, this]
        | succ j =>
          have := q2 j u (by simpa [tyF] using hu)
          simp only [List.getElem?_cons_succ, this, offF]
          congr 2
          omega
    · cases h3
  | [], _, .int _, hc | [], _, .bool, hc | [], _, .str, hc | [], _, .opq, hc | [], _, .pair .., hc | [], _, .arr .., hc | [], _, .sl _, hc
  | _ :: _, _, .int _, hc | _ :: _, _, .bool, hc | _ :: _, _, .str, hc | _ :: _, _, .opq, hc | _ :: _, _, .unit, hc | _ :: _, _, .arr .., hc | _ :: _, _, .sl _, hc => by simp [fieldsChk] at hc

theorem fill_cons {place : Nat → Option (Nat × Nat)} {cells : Array Value} {i : Nat} {v : Value} {rest : List (Nat × Value)} {off size : Nat} (hp : place i = some (off, size)) (hv : v.cells.size = size) (ho : off + size ≤ cells.size) :
    Instr.fill place cells ((i, v) :: rest) = Instr.fill place (patch cells.toList off v.cells.toList).toArray rest := by
  have hfold := foldl_patch v.cells.toList 0 off cells (by simp; omega)
  simp only [Nat.add_zero] at hfold
  simp only [Instr.fill, hp, hv, ne_eq, not_true_eq_false, decide_false, Bool.false_or, decide_eq_true_eq]
  rw [if_neg (by simpa using ho)]
  congr 1
  rw [← hfold, ← Array.foldl_toList]
  simp

theorem fillStruct_some {T : Ty} {place : Nat → Option (Nat × Nat)} (hp : ∀ j u, tyF T j = some u → place j = some (offF T j, u.size)) : ∀ {parts : List (Nat × AV)} {vs : List (Nat × Value)} {a a' : AV} {cells : Array Value},
    fillStruct T parts a = some a' → repsP w (Frz B F m G w) m G parts vs → AV.fits T a = true → repA w (Frz B F m G w) m G a .cells cells.toList →
    ∃ cells', Instr.fill place cells vs = some cells' ∧ AV.fits T a' = true ∧ repA w (Frz B F m G w) m G a' .cells cells'.toList
  | [], vs, a, a', cells, h, hv, hf, hr => by
    simp [fillStruct] at h
    subst h
    rw [show vs = [] from hv]
    exact ⟨cells, rfl, hf, hr⟩
  | (j, x) :: parts, vs, a, a', cells, h, ⟨⟨j', v⟩, l', e, h1, h2, h3⟩, hf, hr => by
    subst e
    dsimp only at h1
    subst h1
    simp only [fillStruct] at h
    split at h
    · rename_i u hu
      split at h
      · rename_i hc
        split at h
        · rename_i b hb
          obtain ⟨u', x0, x', q1, q2, q3, q4, q5⟩ := setNth_rep hf hb hr
          rw [hu] at q1
          injection q1 with q1
          subst q1
          injection q2 with q2
          subst q2
          have hvc := norm_rep _ _ (repA.toCells hc.2 h2)
          have hvl := fits_length hc.1 hvc
          obtain ⟨r1, r2⟩ := q5 _ hvl hc.1 hvc
          have hcl := fits_length hf hr
          have hoff := tyF_off hu
          obtain ⟨cells', s1, s2, s3⟩ := fillStruct_some hp (cells := (patch cells.toList (offF T j) v.cells.toList).toArray) h h3 r1 (by simpa using r2)
          refine ⟨cells', ?_, s2, s3⟩
          rw [fill_cons (hp j u hu) (by simpa using hvl) (by simp at hcl; omega)]
          exact s1
        · cases h
      · cases h
    · cases h

theorem fillArr_some {u : Ty} (hk : 0 < u.size) : ∀ {parts : List (Nat × AV)} {vs : List (Nat × Value)} {acc acc' : List u.D} {cells : Array Value},
    fillArr u parts acc = some acc' → repsP w (Frz B F m G w) m G parts vs → RepL (RepV w (Frz B F m G w) u) acc cells.toList → (∀ q ∈ parts, q.1 < acc.length) →
    ∃ cells', Instr.fill (fun i => some (i * u.size, u.size)) cells vs = some cells' ∧ acc'.length = acc.length ∧ RepL (RepV w (Frz B F m G w) u) acc' cells'.toList
  | [], vs, acc, acc', cells, h, hv, hr, _ => by
    simp [fillArr] at h
    subst h
    rw [show vs = [] from hv]
    exact ⟨cells, rfl, rfl, hr⟩
  | (j, x) :: parts, vs, acc, acc', cells, h, ⟨⟨j', v⟩, l', e, h1, h2, h3⟩, hr, hall => by
    subst e
    dsimp only at h1
    subst h1
    cases x with
    | val t y =>
      simp only [fillArr] at h
      split at h
      · rename_i z hz
        obtain ⟨e, hxy⟩ := cast_rep hz
        subst e
        cases hxy
        have hj : j < acc.length := hall _ (.head _)
        have hle : (j + 1) * t.size ≤ acc.length * t.size := Nat.mul_le_mul_right _ hj
        rw [Nat.succ_mul] at hle
        have hyc := (one_val h2).cells
        have hvl := RepV.length _ _ _ hyc
        have hlen := hr.length (fun x cs => RepV.length t x cs)
        have hset := hr.set (fun x cs => RepV.length t x cs) j hj hyc
        rw [patch_outer hvl] at hset
        obtain ⟨cells', s1, s2, s3⟩ := fillArr_some hk (cells := (patch cells.toList (j * t.size) v.cells.toList).toArray) h h3 (by simpa using hset) (fun q hq => by simpa using hall q (.tail _ hq))
        refine ⟨cells', ?_, by simpa using s2, s3⟩
        rw [fill_cons rfl (by simpa using hvl) (by simp at hlen; omega)]
        exact s1
      · cases h
    | _ => simp [fillArr] at h

theorem build_out (hT : typesChk P cx.types = true) (hm : MemOk B F w0 lim m G w) {t : TypeId} {parts : List (Nat × AV)} {vs : Array (Nat × Value)} (hv : repsP w (Frz B F m G w) m G parts vs.toList)
    (h : ((buildOp cx t parts).go m p).run = some (av, m', p')) : m' = m ∧ Out P B F w0 lim m G w (Instr.build t vs) m' av := by
  unfold buildOp at h
  split at h
  · rename_i n u e eb htt
    obtain ⟨hu, hsz, te, hte, hte'⟩ := (tyFact_of hT htt).arr
    obtain ⟨i, z, hi, h2, h3, h4, h5⟩ := (tyFact_of hT htt).info
    obtain ⟨ie, ze, hie, he2, _⟩ := (tyFact_of hT hte).info
    rw [hte'] at he2
    replace h := ite_some h; rcases h with ⟨hall, h⟩ | ⟨_, h⟩
    · replace h := opt_some h; obtain ⟨l, hl, h⟩ := h
      obtain ⟨h1', h2'⟩ := ret_some h
      subst h1'; subst h2'
      have hz := zeroChk_rep (w := w) (Fr := Frz B F m G w) (.arr n u) _ h4
      obtain ⟨hz1, hz2⟩ := (show _ ∧ _ from hz)
      obtain ⟨cells', q1, q2, q3⟩ := fillArr_some hsz hl hv (show RepL (RepV w (Frz B F m G w) u) (List.replicate n u.zero) z.cells.toList from hz2) (fun q hq => by
        have := List.all_eq_true.1 hall q hq
        simpa using this)
      have hb : P.built t vs.toList = some cells' := by
        simp only [Program.built, hi, hu, h3, hie, he2]
        exact q1
      refine ⟨rfl, out_pure (run_build w t vs cells' hb) hm ?_⟩
      exact mk_val ⟨cells'.toList, by simp, by simpa using q2, q3⟩
    · exact (fail_some h).elim
  · rename_i a b e eb htt
    obtain ⟨i, z, hi, h2, h3, h4, h5⟩ := (tyFact_of hT htt).info
    have hund := (tyFact_of hT htt).und
    replace h := opt_some h; obtain ⟨c, hc, h⟩ := h
    obtain ⟨h1', h2'⟩ := ret_some h
    subst h1'; subst h2'
    obtain ⟨fs, hfs, hund⟩ : ∃ fs, P.underlying t = some (.struct fs) ∧ fieldsChk cx.types fs.toList 0 (.pair a b) = true := by
      unfold undChk at hund
      cases hpu : P.underlying t with
      | none => rw [hpu] at hund; cases hund
      | some d => rw [hpu] at hund; cases d <;> first | (cases hund; done) | exact ⟨_, rfl, hund⟩
    obtain ⟨places, q1, q2⟩ := places_some hT hund
    have hz := explode_rep (m := m) (G := G) (.pair a b) _ _ (zeroChk_rep (w := w) (Fr := Frz B F m G w) (.pair a b) _ h4)
    obtain ⟨cells', s1, s2, s3⟩ := fillStruct_some (place := (places.toArray[·]?)) (fun j u hu => by simpa using q2 j u hu) hc hv (explode_fits _ _) hz
    have hb : P.built t vs.toList = some cells' := by
      simp only [Program.built, hi, hfs, h3, q1]
      exact s1
    refine ⟨rfl, out_pure (cv := ofCells (.pair a b) cells'.toList) ?_ hm (repA.ofCells' s2 s3)⟩
    rw [run_build w t vs cells' hb]
    simp [ofCells, Ty.agg]
  · exact (fail_some h).elim

/-! ### max, min; functions as values; tuples -/
theorem minmax_out (hm : MemOk B F w0 lim m G w) {b : Bool} {xs : List AV} {vs : List Value} {ats : Array TypeId} {ty : TypeId} (hx : repsL w (Frz B F m G w) m G xs vs) (h : minmax b xs = some av) :
    Out P B F w0 lim m G w ((if b = true then Builtin.max_ else Builtin.min_) ats ty vs.toArray) m av := by
  unfold minmax at h
  split at h
  · rename_i k x k' y
    obtain ⟨v1, l1, e1, h1, v2, l2, e2, h2, e3⟩ := hx
    subst e1; subst e2
    rw [show l2 = [] from e3]
    have q1 := one_int h1
    have q2 := one_int h2
    subst q1; subst q2
    split at h
    · rename_i hk
      subst hk
      injection h with h
      subst h
      cases b
      · exact out_pure (cv := .int k (if y < x then y else x)) (by simp [Builtin.min_, Builtin.min2]) hm (mk_int ..)
      · exact out_pure (cv := .int k (if y > x then y else x)) (by simp [Builtin.max_, Builtin.max2]) hm (mk_int ..)
    · cases h
  · cases h

theorem chain_reps : ∀ {l : List AV} {vs : List Value}, repsL w (Frz B F m G w) m G l vs → repA w (Frz B F m G w) m G (chain l) .chain vs
  | [], _, h => h
  | _ :: _, _, ⟨v, l', e, h1, h2⟩ => ⟨v, l', e, h1, chain_reps h2⟩

theorem toList_reps : ∀ {a : AV} {l : List AV} {vs : List Value}, a.toList = some l → repA w (Frz B F m G w) m G a .chain vs → repsL w (Frz B F m G w) m G l vs
  | .un, l, vs, h, hr => by simp [AV.toList] at h; subst h; exact hr
  | .pr a b, l, vs, h, ⟨v, l', e, h1, h2⟩ => by
    simp only [AV.toList] at h
    split at h
    · rename_i l2 hl2
      injection h with h
      subst h
      exact ⟨v, l', e, h1, toList_reps hl2 h2⟩
    · cases h
  | .val .., _, _, h, _ | .nn .., _, _, h, _ | .nil, _, _, h, _ | .nptr, _, _, h, _ | .ptr .., _, _, h, _ | .rptr .., _, _, h, _ | .ref .., _, _, h, _ | .own .., _, _, h, _ | .sub .., _, _, h, _ | .tp _, _, _, h, _
  | .fn .., _, _, h, _ | .undef, _, _, h, _ => by simp [AV.toList] at h

theorem repsL.append : ∀ {a b : List AV} {va vb : List Value}, repsL w (Frz B F m G w) m G a va → repsL w (Frz B F m G w) m G b vb → repsL w (Frz B F m G w) m G (a ++ b) (va ++ vb)
  | [], _, _, _, ha, hb => by rw [show _ = [] from ha]; exact hb
  | _ :: _, _, _, _, ⟨v, l', e, h1, h2⟩, hb => ⟨v, l' ++ _, by rw [e]; rfl, h1, repsL.append h2 hb⟩

theorem reps_map {ρ : Operand → AV} {σ : Operand → Value} : ∀ {l : List Operand}, (∀ x ∈ l, repA w (Frz B F m G w) m G (ρ x) .one [σ x]) → repsL w (Frz B F m G w) m G (l.map ρ) (l.map σ)
  | [], _ => rfl
  | x :: l, h => ⟨σ x, l.map σ, rfl, h x (.head _), reps_map fun y hy => h y (.tail _ hy)⟩

theorem repsP_map {ρ : Operand → AV} {σ : Operand → Value} : ∀ {l : List (Nat × Operand)}, (∀ x ∈ l, repA w (Frz B F m G w) m G (ρ x.2) .one [σ x.2]) → repsP w (Frz B F m G w) m G (l.map fun q => (q.1, ρ q.2)) (l.map fun q => (q.1, σ q.2))
  | [], _ => rfl
  | x :: l, h => ⟨(x.1, σ x.2), _, rfl, rfl, h x (.head _), repsP_map fun y hy => h y (.tail _ hy)⟩

theorem nth_chain : ∀ {l : AV} {j : Nat} {a : AV} {vs : List Value}, l.nth j = some a → repA w (Frz B F m G w) m G l .chain vs → ∃ v, vs[j]? = some v ∧ repA w (Frz B F m G w) m G a .one [v]
  | .pr x y, 0, a, vs, h, ⟨v, l', e, h1, h2⟩ => by
    simp [AV.nth] at h
    subst h; subst e
    exact ⟨v, rfl, h1⟩
  | .pr x y, j + 1, a, vs, h, ⟨v, l', e, h1, h2⟩ => by
    subst e
    obtain ⟨u, q1, q2⟩ := nth_chain (l := y) (by simpa [AV.nth] using h) h2
    exact ⟨u, by simpa using q1, q2⟩
  | .val .., _, _, _, _, hr => hr.elim
  | .un, j, _, _, h, _ | .nn .., j, _, _, h, _ | .nil, j, _, _, h, _ | .nptr, j, _, _, h, _ | .ptr .., j, _, _, h, _ | .rptr .., j, _, _, h, _ | .ref .., j, _, _, h, _ | .own .., j, _, _, h, _ | .sub .., j, _, _, h, _ | .tp _, j, _, _, h, _
  | .fn .., j, _, _, h, _ | .undef, j, _, _, h, _ => by cases j <;> simp [AV.nth] at h

/-! ### Calls by contract -/
def repArgs (w : World) (Fr : Nat → Prop) : (ts : List Ty) → DL ts → List Value → Prop
  | [], _, vs => vs = []
  | t :: ts, x, vs => ∃ v l, vs = v :: l ∧ RepO w Fr t x.1 v ∧ repArgs w Fr ts x.2 l

def repRes (w : World) (Fr : Nat → Prop) (ts : List Ty) (x : DL ts) (v : Value) : Prop :=
  match ts, x with
  | [t], x => RepO w Fr t x.1 v
  | ts, x => ∃ vs, v = .tuple vs.toArray ∧ repArgs w Fr ts x vs

/-- A function keeps a contract: where its pure function answers, it returns that answer, and nothing that was there has turned. -/
def SigOk (P : Program) (f : FuncId) (sg : Sig) : Prop :=
  (∃ fn, P.funcs[f]? = some fn ∧ (fn.name == "runtime.NumGoroutine") = false ∧ fn.body.isNone = false) ∧
  ∀ (Fr : Nat → Prop) (xs : DL sg.args) (r : DL sg.res) (vs : List Value) (w : World), sg.f xs = some r → (∀ k, Fr k → k < w.heap.size) → repArgs w Fr sg.args xs vs →
    Calls P f vs.toArray w fun e w' => match e with
      | .returned v => Below w.heap.size w w' ∧ repRes w' (fun k => Fr k ∨ (w.heap.size ≤ k ∧ k < w'.heap.size)) sg.res r v
      | _ => False

/-- How a cut of a row stands to the row's header. -/
def CutOf (hv : Value) (size len lo n : Nat) (sv : Value) : Prop :=
  lo + n ≤ len ∧ ∃ A c, sv = .slice A n c ∧ n ≤ c ∧ (n ≠ 0 → ∃ g nn cap, hv = .slice (some ⟨g, 0, none⟩) nn cap ∧ A = some ⟨g, lo * size, none⟩)

/-- A function that changes a row of its caller's, and nothing else. -/
def SigMOk (P : Program) (f : FuncId) (sg : MSig) : Prop :=
  (∃ fn, P.funcs[f]? = some fn ∧ (fn.name == "runtime.NumGoroutine") = false ∧ fn.body.isNone = false) ∧ sg.u.rows = false ∧ sg.res.any Ty.rows = false ∧ 0 < sg.u.size ∧
  ∀ (Fr : Nat → Prop) (xs ys : List sg.u.D) (lo n : Nat) (x : DL sg.args) (r : DL sg.res) (hv sv : Value) (vs cells : List Value) (w : World), sg.f xs lo n x = some (r, ys) → (∀ k, Fr k → k < w.heap.size ∧ hdNo hv ≠ some k) →
    w.ownsRow 0 sg.elem sg.u.size hv xs.length cells → RepL (RepV w Fr sg.u) xs cells → CutOf hv sg.u.size xs.length lo n sv → repArgs w Fr sg.args x vs →
    Calls P f (sv :: vs).toArray w fun e w' => match e with
      | .returned v => Below 0 w w' ∧ (∀ k, k < w.heap.size → hdNo hv ≠ some k → w'.heap[k]? = w.heap[k]?) ∧ (∃ cells', w'.ownsRow 0 sg.elem sg.u.size hv ys.length cells' ∧ RepL (RepV w' (fun _ => False) sg.u) ys cells') ∧ repRes w' (fun _ => False) sg.res r v
      | _ => False

/-- A function whose result is a row of its own. -/
def SigNOk (P : Program) (f : FuncId) (sg : NSig) : Prop :=
  (∃ fn, P.funcs[f]? = some fn ∧ (fn.name == "runtime.NumGoroutine") = false ∧ fn.body.isNone = false) ∧ sg.u.rows = false ∧ 0 < sg.u.size ∧
  ∀ (Fr : Nat → Prop) (xs : DL sg.args) (ys : List sg.u.D) (vs : List Value) (w : World), sg.f xs = some ys → (∀ k, Fr k → k < w.heap.size) → repArgs w Fr sg.args xs vs →
    Calls P f vs.toArray w fun e w' => match e with
      | .returned v => Below w.heap.size w w' ∧ ∃ cells, w'.ownsRow w.heap.size sg.elem sg.u.size v ys.length cells ∧ RepL (RepV w' (fun _ => False) sg.u) ys cells
      | _ => False

structure SigsOk (P : Program) (cx : Cx) : Prop where
  sig : ∀ f sg, look cx.sigs f = some sg → SigOk P f sg
  chg : ∀ f sg, look cx.muts f = some sg → SigMOk P f sg := by intro f sg h; cases h
  new : ∀ f sg, look cx.news f = some sg → SigNOk P f sg := by intro f sg h; cases h

theorem repArgs.mono {w w' : World} {Fr Fr' : Nat → Prop} (h : ∀ k, Fr k → Fr' k ∧ w'.heap[k]? = w.heap[k]?) : ∀ {ts : List Ty} {x : DL ts} {vs : List Value}, repArgs w Fr ts x vs → repArgs w' Fr' ts x vs
  | [], _, _, hr => hr
  | _ :: _, _, _, ⟨v, l, e, h1, h2⟩ => ⟨v, l, e, h1.mono h, repArgs.mono h h2⟩

theorem repRes.toRepA {w : World} {Fr : Nat → Prop} {m : Mem} {G : Nat → Value} {ts : List Ty} {x : DL ts} {v : Value} (h : repRes w Fr ts x v) : repA w Fr m G (resOf ts x) .one [v] := by
  have key : ∀ {ts : List Ty} {x : DL ts} {vs : List Value}, repArgs w Fr ts x vs → repA w Fr m G (chainOf ts x) .chain vs := by
    intro ts
    induction ts with
    | nil => intro x vs h; exact h
    | cons t ts ih =>
      rintro x vs ⟨v, l, e, h1, h2⟩
      exact ⟨v, l, e, mk_val h1, ih h2⟩
  match ts, x, h with
  | [], x, ⟨vs, e, hr⟩ => exact ⟨vs, by rw [e], key hr⟩
  | [t], x, h => exact mk_val h
  | t :: u :: ts, x, ⟨vs, e, hr⟩ => exact ⟨vs, by rw [e], key hr⟩

theorem RepV.norows {w w' : World} {Fr Fr' : Nat → Prop} : ∀ (t : Ty) (x : t.D) (cs : List Value), t.rows = false → RepV w Fr t x cs → RepV w' Fr' t x cs
  | .int _, _, _, _, h => h
  | .bool, _, _, _, h => h
  | .str, _, _, _, h => h
  | .unit, _, _, _, h => h
  | .opq, _, _, hn, _ => by simp [Ty.rows] at hn
  | .sl _, _, _, hn, _ => by simp [Ty.rows] at hn
  | .pair a b, _, _, hn, ⟨c1, c2, e, h1, h2⟩ => by
    simp only [Ty.rows, Bool.or_eq_false_iff] at hn
    exact ⟨c1, c2, e, RepV.norows a _ _ hn.1 h1, RepV.norows b _ _ hn.2 h2⟩
  | .arr _ t, _, _, hn, ⟨h0, h1⟩ => ⟨h0, h1.mono fun x cs hx => RepV.norows t x cs (by simpa [Ty.rows] using hn) hx⟩

theorem RepO.norows {w w' : World} {Fr Fr' : Nat → Prop} {t : Ty} {x : t.D} {v : Value} (hn : t.rows = false) (h : RepO w Fr t x v) : RepO w' Fr' t x v := by
  unfold RepO at *
  split at h
  · rename_i ha
    obtain ⟨cs, e, hr⟩ := h
    rw [if_pos ha]
    exact ⟨cs, e, RepV.norows t x cs hn hr⟩
  · rename_i ha
    rw [if_neg ha]
    exact RepV.norows t x _ hn h

theorem repRes.norows {w w' : World} {Fr Fr' : Nat → Prop} {ts : List Ty} {x : DL ts} {v : Value} (hn : ts.any Ty.rows = false) (h : repRes w Fr ts x v) : repRes w' Fr' ts x v := by
  have key : ∀ {ts : List Ty} {x : DL ts} {vs : List Value}, ts.any Ty.rows = false → repArgs w Fr ts x vs → repArgs w' Fr' ts x vs := by
    intro ts
    induction ts with
    | nil => intro x vs _ h; exact h
    | cons t ts ih =>
      rintro x vs hn ⟨v, l, e, h1, h2⟩
      simp only [List.any_cons, Bool.or_eq_false_iff] at hn
      exact ⟨v, l, e, h1.norows hn.1, ih hn.2 h2⟩
  match ts, x, h, hn with
  | [], x, ⟨vs, e, hr⟩, hn => exact ⟨vs, e, key hn hr⟩
  | [t], x, h, hn => exact RepO.norows (by simpa using hn) h
  | t :: u :: ts, x, ⟨vs, e, hr⟩, hn => exact ⟨vs, e, key hn hr⟩

theorem toVals_some (z : Bool) {β : Type} : ∀ {ts : List Ty} {as : List AV} {k : DL ts → Eff β} {m : Mem} {p : FP} {r : β × Mem × FP} {vs : List Value}, ((toVals z ts as k).go m p).run = some r → MemOk B F w0 lim m G w →
    repsL w (Frz B F m G w) m G as vs → ∃ x m1 p1, ((k x).go m1 p1).run = some r ∧ MemOk B F w0 lim m1 G w ∧ Tr B F m G w m1 G w ∧ repArgs w (Reach z B F m1 G w) ts x vs
  | [], [], k, m, p, r, vs, h, hm, hv => ⟨(), m, p, h, hm, Tr.refl .., hv⟩
  | t :: ts, a :: as, k, m, p, r, vs, h, hm, ⟨v, l, e, h1, h2⟩ => by
    obtain ⟨x, m1, p1, q1, q2, q3, q4⟩ := toVal_one z h hm h1
    obtain ⟨y, m2, p2, r1, r2, r3, r4⟩ := toVals_some z q1 q2 (repsL.mono q3 h2)
    exact ⟨(x, y), m2, p2, r1, r2, q3.trans r3, v, l, e, q4.mono fun k hk => ⟨Reach.mono z r3 hk, rfl⟩, r4⟩
  | [], _ :: _, _, _, _, _, _, h, _, _ => (fail_some h).elim
  | _ :: _, [], _, _, _, _, _, h, _, _ => (fail_some h).elim
end
end Go.Refl
