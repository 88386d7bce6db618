/-
  Operations without memory of their own: numbers, tests, places, parts; loads and stores; new variables.
-/
import Derived.Test.YthgbejjenlfdnaaAbs5
import Derived.Laws.Rows
import Derived.Laws.Cells
import Derived.Laws.Strings
set_option linter.unusedVariables false
set_option linter.unusedSimpArgs false
namespace Go.Refl
open Go Go.RowKit

section
variable (P : Program) (B : Nat) (F : Nat → Prop) (w0 : World) (lim : Nat) (m : Mem) (G : Nat → Value) (w : World)
/-- What an action of the machine comes to, as the abstract run says. -/
def Out (s : Sem Value) (m' : Mem) (av : AV) : Prop :=
  ∃ G' w' cv, s.run P w = .ok cv w' ∧ MemOk B F w0 lim m' G' w' ∧ Tr B F m G w m' G' w' ∧ repA w' (Frz B F m' G' w') m' G' av .one [cv]
end

section
variable {P : Program} {T : List (TypeId × TI)} {B : Nat} {F : Nat → Prop} {w0 : World} {lim : Nat} {m m' : Mem} {G : Nat → Value} {w : World} {p p' : FP} {av : AV}

theorem out_pure {s : Sem Value} {cv : Value} (hr : s.run P w = .ok cv w) (hm : MemOk B F w0 lim m G w) (hv : repA w (Frz B F m G w) m G av .one [cv]) : Out P B F w0 lim m G w s m av :=
  ⟨G, w, cv, hr, hm, Tr.refl .., hv⟩


/-! ### Numbers -/
theorem intOp_out (hm : MemOk B F w0 lim m G w) {op : BinOp} {k : IntKind} {a b : Int} (hop : op ≠ .shl ∧ op ≠ .shr) (t : TypeId) (h : ((intOp op k a b).go m p).run = some (av, m', p')) :
    m' = m ∧ Out P B F w0 lim m G w (binOp op t (.int k a) (.int k b)) m' av := by
  cases op <;> simp only [intOp, bitop] at h
  case shl => exact (hop.1 rfl).elim
  case shr => exact (hop.2 rfl).elim
  case quo =>
    replace h := tst_some h; rcases h with ⟨_, h⟩ | ⟨hc, h⟩
    · exact (fail_some h).elim
    · obtain ⟨h1, h2⟩ := ret_some h
      subst h1; subst h2
      have hb : ¬ b = 0 := by simpa using hc
      exact ⟨rfl, out_pure (cv := .int k (k.wrap (a.tdiv b))) (by simp [binOp, Op.intDiv, hb]) hm (mk_int ..)⟩
  case rem =>
    replace h := tst_some h; rcases h with ⟨_, h⟩ | ⟨hc, h⟩
    · exact (fail_some h).elim
    · obtain ⟨h1, h2⟩ := ret_some h
      subst h1; subst h2
      have hb : ¬ b = 0 := by simpa using hc
      exact ⟨rfl, out_pure (cv := .int k (a.tmod b)) (by simp [binOp, Op.intDiv, hb]) hm (mk_int ..)⟩
  all_goals
    try simp only [Eff.opt] at h
    first
      | exact (fail_some h).elim
      | skip
    obtain ⟨h1, h2⟩ := ret_some h
    subst h1; subst h2
    refine ⟨rfl, ?_⟩
    first
      | exact out_pure (by simp only [binOp, ne_eq, not_true_eq_false, ite_false] <;> rfl) hm (mk_int ..)
      | exact out_pure (by simp only [binOp, ne_eq, not_true_eq_false, ite_false] <;> rfl) hm (mk_bool ..)

theorem eqGuard_nop {op : BinOp} {t : TypeId} {x y : Operand} {a b : Value} (h : (a ≠ .nilIface) ∧ ∀ c, a ≠ .agg c) : (eqGuard op t x y a b).run P w = .ok () w := by
  cases op <;> first
    | rfl
    | (cases a <;> first | rfl | exact (h.1 rfl).elim | exact (h.2 _ rfl).elim)

theorem equal_bool {t : TypeId} (hu : P.underlying t = some .bool) (a b : Bool) : (Op.equal t (.bool a) (.bool b)).run P w = .ok (a == b) w := by
  unfold Op.equal
  obtain ⟨d, hd⟩ : ∃ d, Op.maxDepth = d + 1 := ⟨9999, rfl⟩
  rw [hd]
  simp only [Op.equalIn, Sem.run_bind, run_underlying hu, Result.andThen_ok, Sem.run_pure]
theorem equal_nil {t e : TypeId} (hu : P.underlying t = some (.slice e)) (b : Option Addr) (n c : Nat) : (Op.equal t (.slice none 0 0) (.slice b n c)).run P w = .ok b.isNone w := by
  unfold Op.equal
  obtain ⟨d, hd⟩ : ∃ d, Op.maxDepth = d + 1 := ⟨9999, rfl⟩
  rw [hd]
  simp only [Op.equalIn, Sem.run_bind, run_underlying hu, Result.andThen_ok, Sem.run_pure]
theorem equal_nn {t e : TypeId} (hu : P.underlying t = some (.slice e)) (b : Addr) (n c : Nat) : (Op.equal t (.slice (some b) n c) (.slice none 0 0)).run P w = .ok false w := by
  unfold Op.equal
  obtain ⟨d, hd⟩ : ∃ d, Op.maxDepth = d + 1 := ⟨9999, rfl⟩
  rw [hd]
  simp only [Op.equalIn, Sem.run_bind, run_underlying hu, Result.andThen_ok, Sem.run_pure]

theorem binop_out {cx : Cx} (hT : typesChk P cx.types = true) (hm : MemOk B F w0 lim m G w) {op : BinOp} {t : TypeId} {x y : AV} {ox oy : Operand} {u v : Value} (hx : repA w (Frz B F m G w) m G x .one [u]) (hy : repA w (Frz B F m G w) m G y .one [v])
    (h : ((binop cx op t x y).go m p).run = some (av, m', p')) : m' = m ∧ Out P B F w0 lim m G w (do eqGuard op t ox oy u v; binOp op t u v) m' av := by
  unfold binop at h
  split at h
  · rename_i k a k' b
    have e1 := one_int hx
    have e2 := one_int hy
    subst e1; subst e2
    have hg : (eqGuard op t ox oy (.int k a) (.int k' b)).run P w = .ok () w := eqGuard_nop ⟨by simp, by simp⟩
    have key : ∀ {m' av}, Out P B F w0 lim m G w (binOp op t (.int k a) (.int k' b)) m' av → Out P B F w0 lim m G w (do eqGuard op t ox oy (.int k a) (.int k' b); binOp op t (.int k a) (.int k' b)) m' av := by
      rintro m' av ⟨G', w', cv, h1, h2⟩
      exact ⟨G', w', cv, by simp only [Sem.run_bind, hg, Result.andThen_ok]; exact h1, h2⟩
    split at h
    · replace h := tst_some h; rcases h with ⟨_, h⟩ | ⟨hc, h⟩
      · exact (fail_some h).elim
      · obtain ⟨h1, h2⟩ := ret_some h
        subst h1; subst h2
        have hb : ¬ b < 0 := by simpa using hc
        exact ⟨rfl, key (out_pure (by simp only [binOp, Op.shift, if_neg hb] <;> rfl) hm (mk_int ..))⟩
    · replace h := tst_some h; rcases h with ⟨_, h⟩ | ⟨hc, h⟩
      · exact (fail_some h).elim
      · obtain ⟨h1, h2⟩ := ret_some h
        subst h1; subst h2
        have hb : ¬ b < 0 := by simpa using hc
        exact ⟨rfl, key (out_pure (by simp only [binOp, Op.shift, if_neg hb] <;> rfl) hm (mk_int ..))⟩
    · rename_i n1 n2
      replace h := ite_some h; rcases h with ⟨hk, h⟩ | ⟨_, h⟩
      · subst hk
        obtain ⟨h1, h2⟩ := intOp_out hm ⟨n1, n2⟩ t h
        exact ⟨h1, key h2⟩
      · exact (fail_some h).elim
  · rename_i a b
    have e1 := one_bool hx
    have e2 := one_bool hy
    subst e1; subst e2
    have hg : (eqGuard op t ox oy (.bool a) (.bool b)).run P w = .ok () w := eqGuard_nop ⟨by simp, by simp⟩
    split at h <;> first | exact (fail_some h).elim | skip
    all_goals
      rename_i e1 e2 htt
      obtain ⟨h1, h2⟩ := ret_some h
      subst h1; subst h2
      have hu := (tyFact_of hT htt).bool
      exact ⟨rfl, out_pure (by simp only [Sem.run_bind, hg, Result.andThen_ok]; simp only [binOp, Sem.run_bind, equal_bool hu, Result.andThen_ok] <;> rfl) hm (mk_bool ..)⟩
  · rename_i a b
    have e1 := one_str hx
    have e2 := one_str hy
    subst e1; subst e2
    have hg : (eqGuard op t ox oy (.string ⟨a.toArray⟩) (.string ⟨b.toArray⟩)).run P w = .ok () w := eqGuard_nop ⟨by simp, by simp⟩
    have hl : ∀ l : List UInt8, (⟨l.toArray⟩ : ByteArray).toList = l := by
      intro l
      exact ByteArray.toList_mk l
    unfold strOp at h
    split at h
    · replace h := tst_some h; rcases h with ⟨hc, h⟩ | ⟨hc, h⟩
      · obtain ⟨h1, h2⟩ := ret_some h
        subst h1; subst h2
        have hc' : a.length + b.length ≤ 9223372036854775807 := by simpa using hc
        refine ⟨rfl, out_pure (cv := .string (⟨a.toArray⟩ ++ ⟨b.toArray⟩)) ?_ hm ?_⟩
        · simp only [Sem.run_bind, hg, Result.andThen_ok]
          have : ¬ (((⟨a.toArray⟩ : ByteArray).size + (⟨b.toArray⟩ : ByteArray).size : Nat) : Int) > IntKind.i64.max := by
            have h1 : (⟨a.toArray⟩ : ByteArray).size = a.length := by simp [ByteArray.size]
            have h2 : (⟨b.toArray⟩ : ByteArray).size = b.length := by simp [ByteArray.size]
            have : IntKind.i64.max = 9223372036854775807 := by decide
            rw [h1, h2, this]
            omega
          simp only [binOp, Op.stringOp, if_neg this]
          rfl
        · have : ((⟨a.toArray⟩ : ByteArray) ++ ⟨b.toArray⟩) = ⟨(a ++ b).toArray⟩ := by
            apply ByteArray.ext
            simp
          rw [this]
          exact mk_str _
      · exact (fail_some h).elim
    · obtain ⟨h1, h2⟩ := ret_some h
      subst h1; subst h2
      exact ⟨rfl, out_pure (by simp only [Sem.run_bind, hg, Result.andThen_ok]; simp [binOp, Op.stringOp, hl] <;> rfl) hm (mk_bool ..)⟩
    · obtain ⟨h1, h2⟩ := ret_some h
      subst h1; subst h2
      exact ⟨rfl, out_pure (by simp only [Sem.run_bind, hg, Result.andThen_ok]; simp [binOp, Op.stringOp, hl] <;> rfl) hm (mk_bool ..)⟩
    · exact (fail_some h).elim
  · have e1 := one_nil hx
    have e2 := one_nil hy
    subst e1; subst e2
    have hg : (eqGuard op t ox oy (.slice none 0 0) (.slice none 0 0)).run P w = .ok () w := eqGuard_nop ⟨by simp, by simp⟩
    split at h <;> first | exact (fail_some h).elim | skip
    all_goals
      rename_i e1 e2 e3 htt
      obtain ⟨h1, h2⟩ := ret_some h
      subst h1; subst h2
      have hu := (tyFact_of hT htt).sl.1
      exact ⟨rfl, out_pure (by simp only [Sem.run_bind, hg, Result.andThen_ok]; simp only [binOp, Sem.run_bind, equal_nil hu, equal_nn hu, Result.andThen_ok] <;> rfl) hm (mk_bool ..)⟩
  · obtain ⟨_, ad, n, c, e1⟩ := one_nn hx
    have e2 := one_nil hy
    subst e1; subst e2
    have hg : (eqGuard op t ox oy (.slice (some ad) n c) (.slice none 0 0)).run P w = .ok () w := eqGuard_nop ⟨by simp, by simp⟩
    split at h <;> first | exact (fail_some h).elim | skip
    all_goals
      rename_i e1 e2 e3 htt
      obtain ⟨h1, h2⟩ := ret_some h
      subst h1; subst h2
      have hu := (tyFact_of hT htt).sl.1
      exact ⟨rfl, out_pure (by simp only [Sem.run_bind, hg, Result.andThen_ok]; simp only [binOp, Sem.run_bind, equal_nil hu, equal_nn hu, Result.andThen_ok] <;> rfl) hm (mk_bool ..)⟩
  · exact (fail_some h).elim

theorem unop_out (hm : MemOk B F w0 lim m G w) {op : UnOp} {x : AV} {u : Value} (hx : repA w (Frz B F m G w) m G x .one [u]) (h : ((unop op x).go m p).run = some (av, m', p')) : m' = m ∧ Out P B F w0 lim m G w (Op.unary op u) m' av := by
  unfold unop at h
  split at h
  · have e1 := one_int hx
    subst e1
    obtain ⟨h1, h2⟩ := ret_some h
    subst h1; subst h2
    exact ⟨rfl, out_pure (by simp [Op.unary, Op.intArith] <;> rfl) hm (mk_int ..)⟩
  · have e1 := one_int hx
    subst e1
    simp only [bitop, Eff.opt] at h
    obtain ⟨h1, h2⟩ := ret_some h
    subst h1; subst h2
    exact ⟨rfl, out_pure (by simp [Op.unary, Op.intBits] <;> rfl) hm (mk_int ..)⟩
  · have e1 := one_bool hx
    subst e1
    obtain ⟨h1, h2⟩ := ret_some h
    subst h1; subst h2
    exact ⟨rfl, out_pure (by simp [Op.unary] <;> rfl) hm (mk_bool ..)⟩
  · exact (fail_some h).elim

theorem convOp_out {cx : Cx} (hT : typesChk P cx.types = true) (hm : MemOk B F w0 lim m G w) {src dst : TypeId} {x : AV} {u : Value} (hx : repA w (Frz B F m G w) m G x .one [u]) (h : ((convOp cx src dst x).go m p).run = some (av, m', p')) :
    m' = m ∧ Out P B F w0 lim m G w (convert src dst u) m' av := by
  unfold convOp at h
  split at h
  · rename_i hs hd
    have e1 := one_int hx
    subst e1
    obtain ⟨h1, h2⟩ := ret_some h
    subst h1; subst h2
    have us := (tyFact_of hT hs).int
    have ud := (tyFact_of hT hd).int
    exact ⟨rfl, out_pure (by simp [convert, run_underlying us, run_underlying ud, Conv.intToInt] <;> rfl) hm (mk_int ..)⟩
  · exact (fail_some h).elim

/-! ### Places -/
theorem inRange_some {i : AV} {n : Nat} {k : Nat → Eff AV} {u : Value} (hi : repA w (Frz B F m G w) m G i .one [u]) (h : ((inRange i n k).go m p).run = some (av, m', p')) :
    ∃ kk j, u = .int kk j ∧ 0 ≤ j ∧ j.toNat < n ∧ j < (n : Int) ∧ ((k j.toNat).go m p).run = some (av, m', p') := by
  unfold inRange at h
  split at h
  · rename_i kk j
    have e1 := one_int hi
    subst e1
    replace h := tst_some h; rcases h with ⟨hc, h⟩ | ⟨_, h⟩
    · simp only [Bool.and_eq_true, decide_eq_true_eq] at hc
      exact ⟨kk, j, rfl, hc.1, (Int.toNat_lt hc.1).2 hc.2, hc.2, h⟩
    · exact (fail_some h).elim
  · exact (fail_some h).elim

theorem rowAt_elem {Fr : Nat → Prop} {A : Option Addr} {cells : List Value} {i n : Nat} (hr : RowAt w Fr A cells) (hn : 0 < n) (hl : i * n + n ≤ cells.length) :
    ∃ ad, A = some ad ∧ Fr ad.block ∧ ∀ j u, (piece cells (i * n) n)[j]? = some u → w.cell? ((ad.add (i * n)).add j) = some u := by
  rcases hr with hr | ⟨ad, e, hf, hc⟩
  · rw [hr, List.length_nil] at hl
    exact (Nat.not_succ_le_zero _ (Nat.le_trans hn (Nat.le_trans (Nat.le_add_left n (i * n)) hl))).elim
  · refine ⟨ad, e, hf, fun j u hu => ?_⟩
    rw [add_add]
    refine hc _ u ?_
    unfold piece at hu
    rw [List.getElem?_take] at hu
    split at hu
    · rwa [List.getElem?_drop] at hu
    · cases hu

/-- The place of an element of rows that stay. -/
theorem ref_elem {Fr : Nat → Prop} {u : Ty} {l : List u.D} {A : Option Addr} {cells : List Value} {i : Nat} (hs : 0 < u.size) (hl : RepL (RepV w Fr u) l cells) (hr : RowAt w Fr A cells) (hi : i < l.length) :
    ∃ ad, A = some ad ∧ repA w Fr m G (.ref u (l.getD i u.zero)) .one [.pointer (some (ad.add (i * u.size)))] := by
  have hlen := hl.length (fun x cs => RepV.length u x cs)
  have hle : (i + 1) * u.size ≤ l.length * u.size := Nat.mul_le_mul_right _ hi
  rw [Nat.succ_mul] at hle
  obtain ⟨ad, e, hf, hc⟩ := rowAt_elem hr hs (i := i) (by omega)
  exact ⟨ad, e, _, rfl, _, rfl, by rw [add_block]; exact hf, _, hl.get (fun x cs => RepV.length u x cs) i u.zero hi, hc⟩

theorem run_indexAt_slice {t : TypeId} {e : TypeId} (ht : P.underlying t = some (.slice e)) {sz : Nat} (hs : (sizeOf e).run P w = .ok sz w) {ad : Addr} {len c : Nat} {kk : IntKind} {j : Int} (h0 : 0 ≤ j) (h1 : j < (len : Int)) :
    (Instr.indexAt t (.slice (some ad) len c) (.int kk j)).run P w = .ok (.pointer (some (ad.add (j.toNat * sz)))) w := by
  simp [Instr.indexAt, asIntOf, run_underlying ht, h0, h1, hs]

theorem run_indexAt_arr {t : TypeId} {e : TypeId} {n : Nat} (ht : P.underlying t = some (.array n e)) {sz : Nat} (hs : (sizeOf e).run P w = .ok sz w) {ad : Addr} {kk : IntKind} {j : Int} (h0 : 0 ≤ j) (h1 : j < (n : Int)) :
    (Instr.indexAt t (.pointer (some ad)) (.int kk j)).run P w = .ok (.pointer (some (ad.add (j.toNat * sz)))) w := by
  simp [Instr.indexAt, asIntOf, run_underlying ht, h0, h1, hs, Instr.sureAddr]

theorem okP_snoc : ∀ {q : List Step} {s : Step} {T u : Ty}, okP q T → tyAt q T = some u → okP [s] u → okP (q ++ [s]) T ∧ offP (q ++ [s]) T = offP q T + offP [s] u
  | [], s, T, u, _, ht, hs => by
    simp [tyAt] at ht
    subst ht
    exact ⟨hs, by simp [offP]⟩
  | .fld j :: q, s, T, u, ⟨v, hv, hq⟩, ht, hs => by
    simp only [tyAt, hv] at ht
    obtain ⟨h1, h2⟩ := okP_snoc hq ht hs
    exact ⟨⟨v, hv, h1⟩, by simp [offP, hv, h2, Nat.add_assoc]⟩
  | .idx i :: q, s, .arr n v, u, ⟨hi, hq⟩, ht, hs => by
    simp only [tyAt] at ht
    obtain ⟨h1, h2⟩ := okP_snoc hq ht hs
    exact ⟨⟨hi, h1⟩, by simp [offP, h2, Nat.add_assoc]⟩
  | .idx _ :: _, _, .int _, _, hp, _, _ | .idx _ :: _, _, .bool, _, hp, _, _ | .idx _ :: _, _, .str, _, hp, _, _ | .idx _ :: _, _, .unit, _, hp, _, _ | .idx _ :: _, _, .opq, _, hp, _, _
  | .idx _ :: _, _, .pair .., _, hp, _, _ | .idx _ :: _, _, .sl _, _, hp, _, _ => hp.elim

theorem row_at (hm : MemOk B F w0 lim m G w) {b ve : Nat} {lo n : Nat} {e : TypeId} {t : Ty} {xs : List t.D} {v' : Nat} {z : Bool} (hb : m b = some (.row e t xs v', z)) {i : Nat} (hi : i < xs.length) (hs : 0 < t.size) :
    ∃ g nn cap, G b = .slice (some ⟨g, 0, none⟩) nn cap := by
  obtain ⟨A, c, cells, h1, h2, h3, h4⟩ := row_cells hm hb
  rcases h4 with h4 | ⟨g, h4, _⟩
  · have := h3.length (fun x cs => RepV.length t x cs)
    rw [h4, List.length_nil] at this
    have := Nat.mul_pos (show 0 < xs.length by omega) hs
    omega
  · exact ⟨g, _, c, by rw [h1, h4]⟩

theorem indexAddr_out {cx : Cx} (hT : typesChk P cx.types = true) (hm : MemOk B F w0 lim m G w) {t : TypeId} {x i : AV} {u v : Value} (hx : repA w (Frz B F m G w) m G x .one [u]) (hi : repA w (Frz B F m G w) m G i .one [v])
    (h : ((indexAddrOp cx t x i).go m p).run = some (av, m', p')) : m' = m ∧ Out P B F w0 lim m G w (Instr.indexAt t u v) m' av := by
  unfold indexAddrOp at h
  split at h
  · rename_i ue e eb htt
    obtain ⟨hu, hsz, ⟨te, hte, hte'⟩, _⟩ := (tyFact_of hT htt).sl
    have hso := (tyFact_of hT hte).sizeOf w
    rw [hte'] at hso
    split at h
    · -- a row of one's own
      rename_i b ve
      replace h := rd_some h; obtain ⟨c, z, hc, h⟩ := h
      cases c with
      | var => exact (fail_some h).elim
      | row e1 t1 xs v1 =>
        replace h := ite_some h; rcases h with ⟨⟨hv, hu1⟩, h⟩ | ⟨_, h⟩
        · subst hv; subst hu1
          replace h := inRange_some hi h; obtain ⟨kk, j, e2, h0, h1, h2, h⟩ := h
          subst e2
          obtain ⟨q1, q2⟩ := ret_some h
          subst q1; subst q2
          obtain ⟨ho, e3, t3, xs3, v3, z3, r1, r2, r3⟩ := one_own hx
          rw [hc] at r1
          injection r1 with r1
          injection r1 with r1 r1'
          injection r1 with s1 s2 s3 s4
          subst s1; subst s2; subst s4; subst r1'
          cases s3
          have hG := r3 rfl
          subst hG
          obtain ⟨g, nn, cap, hg⟩ := row_at hm (ve := 0) (lo := 0) (n := 0) hc h1 hsz
          obtain ⟨A, c, cells, g1, g2, g3, g4⟩ := row_cells hm hc
          rw [hg] at g1
          injection g1 with g1 g5 g6
          subst g5
          refine ⟨rfl, out_pure (cv := .pointer (some ⟨g, j.toNat * ue.size, none⟩)) ?_ hm ?_⟩
          · rw [hg, run_indexAt_slice hu hso h0 h2, add_zero_off]
          · exact ⟨_, rfl, rfl, _, _, _, _, _, hc, Nat.le_refl _, trivial, fun _ => ⟨h1, g, _, cap, hg, by simp [offP]⟩⟩
        · exact (fail_some h).elim
    · rename_i b ve lo n
      replace h := rd_some h; obtain ⟨c, z, hc, h⟩ := h
      cases c with
      | var => exact (fail_some h).elim
      | row e1 t1 xs v1 =>
        replace h := ite_some h; rcases h with ⟨⟨hv, hu1⟩, h⟩ | ⟨_, h⟩
        · subst hv; subst hu1
          replace h := inRange_some hi h; obtain ⟨kk, j, e2, h0, h1, h2, h⟩ := h
          subst e2
          obtain ⟨q1, q2⟩ := ret_some h
          subst q1; subst q2
          obtain ⟨ho, e3, t3, xs3, v3, z3, r1, r2, r3⟩ := one_sub hx
          rw [hc] at r1
          injection r1 with r1
          injection r1 with r1 r1'
          injection r1 with s1 s2 s3 s4
          subst s1; subst s2; subst s4; subst r1'
          cases s3
          obtain ⟨k1, A, c, k2, k3, k4⟩ := r3 rfl
          subst k2
          obtain ⟨g, nn, cap, k5, k6⟩ := k4 (by omega)
          subst k6
          refine ⟨rfl, out_pure (cv := .pointer (some ⟨g, lo * ue.size + j.toNat * ue.size, none⟩)) ?_ hm ?_⟩
          · rw [run_indexAt_slice hu hso h0 h2, add_off]
          · exact ⟨_, rfl, rfl, _, _, _, _, _, hc, Nat.le_refl _, trivial, fun _ => ⟨by omega, g, _, cap, k5, by simp [offP, Nat.add_mul]⟩⟩
        · exact (fail_some h).elim
    · rename_i u' l
      replace h := ite_some h; rcases h with ⟨hu1, h⟩ | ⟨_, h⟩
      · subst hu1
        replace h := inRange_some hi h; obtain ⟨kk, j, e2, h0, h1, h2, h⟩ := h
        subst e2
        obtain ⟨q1, q2⟩ := ret_some h
        subst q1; subst q2
        obtain ⟨A, c, cells, e3, r1, r2, r3⟩ := one_sl (one_val hx)
        subst e3
        obtain ⟨ad, e4, hr⟩ := ref_elem (m := m) (G := G) hsz r2 r3 h1
        subst e4
        exact ⟨rfl, out_pure (run_indexAt_slice hu hso h0 h2) hm hr⟩
      · exact (fail_some h).elim
    · rename_i u' l
      replace h := ite_some h; rcases h with ⟨hu1, h⟩ | ⟨_, h⟩
      · subst hu1
        replace h := inRange_some hi h; obtain ⟨kk, j, e2, h0, h1, h2, h⟩ := h
        subst e2
        obtain ⟨q1, q2⟩ := ret_some h
        subst q1; subst q2
        obtain ⟨A, c, cells, e3, r1, r2, r3⟩ := one_sl (show RepO w (Frz B F m G w) (.sl ue) l u from (one_nn hx).1)
        subst e3
        obtain ⟨ad, e4, hr⟩ := ref_elem (m := m) (G := G) hsz r2 r3 h1
        subst e4
        exact ⟨rfl, out_pure (run_indexAt_slice hu hso h0 h2) hm hr⟩
      · exact (fail_some h).elim
    · exact (fail_some h).elim
  · rename_i n ue e eb htt
    obtain ⟨hu, hsz, te, hte, hte'⟩ := (tyFact_of hT htt).arr
    have hso := (tyFact_of hT hte).sizeOf w
    rw [hte'] at hso
    replace h := ite_some h; rcases h with ⟨_, h⟩ | ⟨_, h⟩
    · exact (fail_some h).elim
    split at h
    · rename_i b q
      replace h := rd_some h; obtain ⟨c, z, hc, h⟩ := h
      cases c with
      | row => exact (fail_some h).elim
      | var Tv cv0 =>
        replace h := ite_some h; rcases h with ⟨hq, h⟩ | ⟨_, h⟩
        · replace h := inRange_some hi h; obtain ⟨kk, j, e2, h0, h1, h2, h⟩ := h
          subst e2
          obtain ⟨q1, q2⟩ := ret_some h
          subst q1; subst q2
          obtain ⟨T', c', z', g, r1, r2, r3, r4⟩ := one_ptr hx
          rw [hc] at r1
          injection r1 with r1
          injection r1 with r1 _
          injection r1 with r1 _
          subst r1; subst r4
          obtain ⟨s1, s2⟩ := okP_snoc (s := .idx j.toNat) r2 hq (show _ ∧ True from ⟨h1, trivial⟩)
          refine ⟨rfl, out_pure (cv := .pointer (some ⟨g, offP q Tv + j.toNat * ue.size, none⟩)) ?_ hm ?_⟩
          · rw [run_indexAt_arr hu hso h0 h2, add_off]
          · exact ⟨_, rfl, _, _, _, g, hc, s1, r3, by rw [s2]; simp [offP]⟩
        · exact (fail_some h).elim
    · rename_i b ve k q
      replace h := rd_some h; obtain ⟨c, z, hc, h⟩ := h
      cases c with
      | var => exact (fail_some h).elim
      | row e1 Tv xs v1 =>
        replace h := ite_some h; rcases h with ⟨⟨hv, hq⟩, h⟩ | ⟨_, h⟩
        · replace h := inRange_some hi h; obtain ⟨kk, j, e2, h0, h1, h2, h⟩ := h
          subst e2
          obtain ⟨q1, q2⟩ := ret_some h
          subst q1; subst q2
          obtain ⟨ho, e3, t3, xs3, v3, z3, r1, r2, r3, r4⟩ := one_rptr hx
          rw [hc] at r1
          injection r1 with r1
          injection r1 with r1 r1'
          injection r1 with s1 s2 s3 s4
          subst s1; subst s2; subst s4; subst r1'
          cases s3
          obtain ⟨s1, s2⟩ := okP_snoc (s := .idx j.toNat) r3 hq (show _ ∧ True from ⟨h1, trivial⟩)
          obtain ⟨k1, g, cap, nn, k2, k3⟩ := r4 hv
          subst k3
          refine ⟨rfl, out_pure (cv := .pointer (some ⟨g, k * Tv.size + offP q Tv + j.toNat * ue.size, none⟩)) ?_ hm ?_⟩
          · rw [run_indexAt_arr hu hso h0 h2, add_off]
          · exact ⟨_, rfl, rfl, _, _, _, _, _, hc, r2, s1, fun _ => ⟨k1, g, cap, nn, k2, by rw [s2]; simp [offP, Nat.add_assoc]⟩⟩
        · exact (fail_some h).elim
    · rename_i n' u' l
      replace h := ite_some h; rcases h with ⟨⟨hn, hu1⟩, h⟩ | ⟨_, h⟩
      · subst hn; subst hu1
        replace h := inRange_some hi h; obtain ⟨kk, j, e2, h0, h1, h2, h⟩ := h
        subst e2
        obtain ⟨q1, q2⟩ := ret_some h
        subst q1; subst q2
        obtain ⟨ad, e3, r1, cs, ⟨r2, r3⟩, r4⟩ := one_ref hx
        subst e3
        refine ⟨rfl, out_pure (run_indexAt_arr hu hso h0 h2) hm ?_⟩
        have hlen := r3.length (fun x cs => RepV.length ue x cs)
        have hle : (j.toNat + 1) * ue.size ≤ n * ue.size := Nat.mul_le_mul_right _ h1
        rw [Nat.succ_mul] at hle
        refine ⟨_, rfl, _, rfl, by rw [add_block]; exact r1, _, r3.get (fun x cs => RepV.length ue x cs) j.toNat ue.zero (by omega), fun j' u hu => ?_⟩
        rw [add_add]
        refine r4 _ u ?_
        rw [List.getElem?_take] at hu
        split at hu
        · rwa [List.getElem?_drop] at hu
        · cases hu
      · exact (fail_some h).elim
    · exact (fail_some h).elim
  · exact (fail_some h).elim
end
end Go.Refl
