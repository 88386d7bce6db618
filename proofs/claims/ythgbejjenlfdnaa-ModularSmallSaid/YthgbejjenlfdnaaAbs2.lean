/-
  How typed values lie in memory: the relation, and what becomes of it when memory grows, when a part is read and when a part is written.
-/
import Derived.Test.YthgbejjenlfdnaaAbs1
import Derived.Laws.AppendOwn
import Derived.Laws.OwnMore
set_option linter.unusedVariables false
namespace Go.Refl
open Go

/-! ### Lists of values in rows of cells -/
def RepL {α : Type} (R : α → List Value → Prop) : List α → List Value → Prop
  | [], cs => cs = []
  | x :: l, cs => ∃ c1 c2, cs = c1 ++ c2 ∧ R x c1 ∧ RepL R l c2

section
variable {α : Type} {R R' : α → List Value → Prop}
theorem RepL.mono (h : ∀ x cs, R x cs → R' x cs) : ∀ {l : List α} {cs : List Value}, RepL R l cs → RepL R' l cs
  | [], _, hl => hl
  | _ :: _, _, ⟨c1, c2, e, h1, h2⟩ => ⟨c1, c2, e, h _ _ h1, RepL.mono h h2⟩
theorem RepL.length {n : Nat} (h : ∀ x cs, R x cs → cs.length = n) : ∀ {l : List α} {cs : List Value}, RepL R l cs → cs.length = l.length * n
  | [], _, hl => by simp [show _ = [] from hl]
  | _ :: _, _, ⟨c1, c2, e, h1, h2⟩ => by
    rw [e, List.length_append, h _ _ h1, RepL.length h h2, List.length_cons, Nat.succ_mul, Nat.add_comm]
theorem RepL.append : ∀ {a b : List α} {ca cb : List Value}, RepL R a ca → RepL R b cb → RepL R (a ++ b) (ca ++ cb)
  | [], _, _, _, ha, hb => by rw [show _ = [] from ha]; exact hb
  | _ :: _, _, _, _, ⟨c1, c2, e, h1, h2⟩, hb => ⟨c1, c2 ++ _, by rw [e, List.append_assoc], h1, RepL.append h2 hb⟩
theorem RepL.split : ∀ {a b : List α} {cs : List Value}, RepL R (a ++ b) cs → ∃ ca cb, cs = ca ++ cb ∧ RepL R a ca ∧ RepL R b cb
  | [], _, cs, h => ⟨[], cs, rfl, rfl, h⟩
  | _ :: _, _, _, ⟨c1, c2, e, h1, h2⟩ => by
    obtain ⟨ca, cb, e', ha, hb⟩ := RepL.split h2
    exact ⟨c1 ++ ca, cb, by rw [e, e', List.append_assoc], ⟨c1, ca, rfl, h1, ha⟩, hb⟩
theorem RepL.one {x : α} {cs : List Value} : RepL R [x] cs ↔ R x cs :=
  ⟨fun ⟨c1, c2, e, h1, h2⟩ => by rw [show c2 = [] from h2, List.append_nil] at e; exact e ▸ h1, fun h => ⟨cs, [], by simp, h, rfl⟩⟩
theorem RepL.take {n : Nat} (h : ∀ x cs, R x cs → cs.length = n) {l : List α} {cs : List Value} (hl : RepL R l cs) (k : Nat) : RepL R (l.take k) (cs.take (k * n)) := by
  have h0 := hl
  rw [← List.take_append_drop k l] at hl
  obtain ⟨ca, cb, e, ha, hb⟩ := hl.split
  have hla := ha.length h
  rcases Nat.le_total k l.length with hk | hk
  · rw [List.length_take, Nat.min_eq_left hk] at hla
    rw [e, List.take_left' hla]
    exact ha
  · have hlen := h0.length h
    rw [List.take_of_length_le hk, List.take_of_length_le (by rw [hlen]; exact Nat.mul_le_mul_right _ hk)]
    exact h0
theorem RepL.drop {n : Nat} (h : ∀ x cs, R x cs → cs.length = n) {l : List α} {cs : List Value} (hl : RepL R l cs) (k : Nat) : RepL R (l.drop k) (cs.drop (k * n)) := by
  have h0 := hl
  rw [← List.take_append_drop k l] at hl
  obtain ⟨ca, cb, e, ha, hb⟩ := hl.split
  have hla := ha.length h
  rcases Nat.le_total k l.length with hk | hk
  · rw [List.length_take, Nat.min_eq_left hk] at hla
    rw [e, List.drop_left' hla]
    exact hb
  · have hlen := h0.length h
    rw [List.drop_of_length_le hk, List.drop_of_length_le (by rw [hlen]; exact Nat.mul_le_mul_right _ hk)]
    rfl
theorem RepL.get {n : Nat} (h : ∀ x cs, R x cs → cs.length = n) {l : List α} {cs : List Value} (hl : RepL R l cs) (i : Nat) (d : α) (hi : i < l.length) :
    R (l.getD i d) ((cs.drop (i * n)).take n) := by
  have h1 := (hl.drop h i).take h 1
  rw [Nat.one_mul] at h1
  have h2 : (l.drop i).take 1 = [l[i]] := by rw [List.drop_eq_getElem_cons hi]; rfl
  have h3 : l.getD i d = l[i] := by simp [List.getD_eq_getElem?_getD, List.getElem?_eq_getElem hi]
  rw [h2, ← h3] at h1
  exact RepL.one.1 h1
theorem RepL.set {n : Nat} (h : ∀ x cs, R x cs → cs.length = n) {l : List α} {cs : List Value} (hl : RepL R l cs) (i : Nat) (hi : i < l.length) {x : α} {c : List Value} (hx : R x c) :
    RepL R (l.set i x) (cs.take (i * n) ++ (c ++ cs.drop (i * n + n))) := by
  have h1 := hl.take h i
  have h2 := hl.drop h (i + 1)
  rw [List.set_eq_take_append_cons_drop, if_pos hi]
  refine h1.append ⟨c, _, rfl, hx, ?_⟩
  rw [Nat.succ_mul] at h2
  exact h2
theorem RepL.replicate {x : α} {c : List Value} (hx : R x c) : ∀ n, RepL R (List.replicate n x) (List.replicate n c).flatten
  | 0 => rfl
  | n + 1 => ⟨c, _, rfl, hx, RepL.replicate hx n⟩
theorem RepL.all {p : Value → Prop} (h : ∀ x cs, R x cs → ∀ u ∈ cs, p u) : ∀ {l : List α} {cs : List Value}, RepL R l cs → ∀ u ∈ cs, p u
  | [], _, hl => by rw [show _ = [] from hl]; simp
  | _ :: _, _, ⟨c1, c2, e, h1, h2⟩ => by
    intro u hu
    rw [e, List.mem_append] at hu
    rcases hu with hu | hu
    · exact h _ _ h1 u hu
    · exact RepL.all h h2 u hu
end

/-! ### Typed values -/
def RowAt (w : World) (Fr : Nat → Prop) (A : Option Addr) (cs : List Value) : Prop :=
  cs = [] ∨ ∃ ad, A = some ad ∧ Fr ad.block ∧ ∀ j u, cs[j]? = some u → w.cell? (ad.add j) = some u

def RepV (w : World) (Fr : Nat → Prop) : (t : Ty) → t.D → List Value → Prop
  | .int k, n, cs => cs = [.int k n]
  | .bool, b, cs => cs = [.bool b]
  | .str, s, cs => cs = [.string ⟨s.toArray⟩]
  | .unit, _, cs => cs = []
  | .opq, _, cs => ∃ v, cs = [v] ∧ v.oneCell' = true
  | .pair a b, x, cs => ∃ c1 c2, cs = c1 ++ c2 ∧ RepV w Fr a x.1 c1 ∧ RepV w Fr b x.2 c2
  | .arr n t, l, cs => l.length = n ∧ RepL (RepV w Fr t) l cs
  | .sl t, l, cs => ∃ A c cells, cs = [.slice A l.length c] ∧ l.length ≤ c ∧ RepL (RepV w Fr t) l cells ∧ RowAt w Fr A cells

theorem RepV.length {w : World} {Fr : Nat → Prop} : ∀ (t : Ty) (x : t.D) (cs : List Value), RepV w Fr t x cs → cs.length = t.size
  | .int _, _, _, h => by rw [show _ = [_] from h]; rfl
  | .bool, _, _, h => by rw [show _ = [_] from h]; rfl
  | .str, _, _, h => by rw [show _ = [_] from h]; rfl
  | .unit, _, _, h => by rw [show _ = [] from h]; rfl
  | .opq, _, _, ⟨v, h, _⟩ => by rw [h]; rfl
  | .pair a b, x, _, ⟨c1, c2, e, h1, h2⟩ => by rw [e, List.length_append, RepV.length a _ _ h1, RepV.length b _ _ h2]; rfl
  | .arr n t, l, _, ⟨hn, hl⟩ => by rw [hl.length (fun x cs => RepV.length t x cs), hn]; rfl
  | .sl _, _, _, ⟨A, c, cells, e, _⟩ => by rw [e]; rfl

theorem RowAt.mono {w w' : World} {Fr Fr' : Nat → Prop} (h : ∀ k, Fr k → Fr' k ∧ w'.heap[k]? = w.heap[k]?) {A : Option Addr} {cs : List Value} (hr : RowAt w Fr A cs) : RowAt w' Fr' A cs := by
  rcases hr with hr | ⟨ad, e, hf, hc⟩
  · exact .inl hr
  · exact .inr ⟨ad, e, (h _ hf).1, fun j u hu => by
      have hb : (ad.add j).block = ad.block := by unfold Addr.add; split <;> rfl
      rw [World.cell?_of_block (w := w) (by rw [hb]; exact (h _ hf).2)]
      exact hc j u hu⟩

theorem RepV.mono {w w' : World} {Fr Fr' : Nat → Prop} (h : ∀ k, Fr k → Fr' k ∧ w'.heap[k]? = w.heap[k]?) : ∀ (t : Ty) (x : t.D) (cs : List Value), RepV w Fr t x cs → RepV w' Fr' t x cs
  | .int _, _, _, hr => hr
  | .bool, _, _, hr => hr
  | .str, _, _, hr => hr
  | .unit, _, _, hr => hr
  | .opq, _, _, hr => hr
  | .pair a b, _, _, ⟨c1, c2, e, h1, h2⟩ => ⟨c1, c2, e, RepV.mono h a _ _ h1, RepV.mono h b _ _ h2⟩
  | .arr _ t, _, _, ⟨hn, hl⟩ => ⟨hn, hl.mono fun x cs hx => RepV.mono h t x cs hx⟩
  | .sl t, _, _, ⟨A, c, cells, e, hc, hl, hr⟩ => ⟨A, c, cells, e, hc, hl.mono fun x cs hx => RepV.mono h t x cs hx, hr.mono h⟩

theorem RepV.one {w : World} {Fr : Nat → Prop} : ∀ (t : Ty) (x : t.D) (cs : List Value), RepV w Fr t x cs → ∀ u ∈ cs, u.oneCell' = true
  | .int _, _, _, h => by rw [show _ = [_] from h]; simp [Value.oneCell']
  | .bool, _, _, h => by rw [show _ = [_] from h]; simp [Value.oneCell']
  | .str, _, _, h => by rw [show _ = [_] from h]; simp [Value.oneCell']
  | .unit, _, _, h => by rw [show _ = [] from h]; simp
  | .opq, _, _, ⟨v, h, h1⟩ => by rw [h]; simpa using h1
  | .pair a b, _, _, ⟨c1, c2, e, h1, h2⟩ => by
    intro u hu
    rw [e, List.mem_append] at hu
    rcases hu with hu | hu
    · exact RepV.one a _ _ h1 u hu
    · exact RepV.one b _ _ h2 u hu
  | .arr _ t, _, _, ⟨_, hl⟩ => hl.all fun x cs hx => RepV.one t x cs hx
  | .sl _, _, _, ⟨A, c, cells, e, _⟩ => by rw [e]; simp [Value.oneCell']

/-- The value of an operand. -/
def RepO (w : World) (Fr : Nat → Prop) (t : Ty) (x : t.D) (v : Value) : Prop :=
  if t.agg = true then ∃ cs : List Value, v = .agg cs.toArray ∧ RepV w Fr t x cs else RepV w Fr t x [v]

theorem RepO.mono {w w' : World} {Fr Fr' : Nat → Prop} (h : ∀ k, Fr k → Fr' k ∧ w'.heap[k]? = w.heap[k]?) {t : Ty} {x : t.D} {v : Value} (hr : RepO w Fr t x v) : RepO w' Fr' t x v := by
  unfold RepO at *
  split at hr
  · rename_i ha
    obtain ⟨cs, e, hc⟩ := hr
    rw [if_pos ha]
    exact ⟨cs, e, RepV.mono h t x cs hc⟩
  · rename_i ha
    rw [if_neg ha]
    exact RepV.mono h t x _ hr

theorem not_agg_size : ∀ (t : Ty), t.agg = false → t.size = 1
  | .int _, _ | .bool, _ | .str, _ | .opq, _ | .sl _, _ => rfl
  | .unit, h | .pair .., h | .arr .., h => by simp [Ty.agg] at h

/-- The cells of an operand's value. -/
theorem RepO.cells {w : World} {Fr : Nat → Prop} {t : Ty} {x : t.D} {v : Value} (h : RepO w Fr t x v) : RepV w Fr t x v.cells.toList := by
  unfold RepO at h
  split at h
  · obtain ⟨cs, rfl, hc⟩ := h
    simpa [Value.cells] using hc
  · rename_i ha
    have h1 : v.oneCell' = true := RepV.one t x _ h v (by simp)
    have : v.cells.toList = [v] := by cases v <;> first | rfl | simp [Value.oneCell'] at h1
    rw [this]
    exact h

/-- A value out of its cells, as a load makes it. -/
def ofCells (t : Ty) (cs : List Value) : Value := if t.agg = true then .agg cs.toArray else cs.getD 0 undef

theorem RepV.operand {w : World} {Fr : Nat → Prop} {t : Ty} {x : t.D} {cs : List Value} (h : RepV w Fr t x cs) : RepO w Fr t x (ofCells t cs) := by
  unfold RepO ofCells
  split
  · exact ⟨cs, rfl, h⟩
  · rename_i ha
    have hl := RepV.length t x cs h
    rw [not_agg_size t (by simpa using ha)] at hl
    obtain ⟨v, rfl⟩ := List.length_eq_one_iff.1 hl
    exact h

theorem RepV.zeroL {w : World} {Fr : Nat → Prop} (t : Ty) (x : t.D) (cs : List Value) (h : RepV w Fr t x cs) (n : Nat) : RepL (RepV w Fr t) (List.replicate n x) (List.replicate n cs).flatten := RepL.replicate h n

/-! ### Paths -/
def offF : Ty → Nat → Nat
  | .pair _ _, 0 => 0
  | .pair a b, j + 1 => a.size + offF b j
  | _, _ => 0

def offP : List Step → Ty → Nat
  | [], _ => 0
  | .fld j :: p, t => offF t j + (match tyF t j with
    | some u => offP p u
    | none => 0)
  | .idx i :: p, .arr _ u => i * u.size + offP p u
  | _, _ => 0

def okP : List Step → Ty → Prop
  | [], _ => True
  | .fld j :: p, t => ∃ u, tyF t j = some u ∧ okP p u
  | .idx i :: p, .arr n u => i < n ∧ okP p u
  | _, _ => False

/-- A piece of a list: from o on, n elements. -/
def piece (cs : List Value) (o n : Nat) : List Value := (cs.drop o).take n
/-- A piece replaced. -/
def patch (cs : List Value) (o : Nat) (c : List Value) : List Value := cs.take o ++ (c ++ cs.drop (o + c.length))

theorem piece_append_left {a b : List Value} {o n : Nat} (h : o + n ≤ a.length) : piece (a ++ b) o n = piece a o n := by
  unfold piece
  rw [List.drop_append_of_le_length (by omega), List.take_append_of_le_length (by rw [List.length_drop]; omega)]
theorem piece_append_right {a b : List Value} {o n : Nat} : piece (a ++ b) (a.length + o) n = piece b o n := by
  unfold piece
  rw [List.drop_append, List.drop_of_length_le (by omega)]
  simp
theorem piece_piece {cs : List Value} {o n o' n' : Nat} (h : o' + n' ≤ n) : piece (piece cs o n) o' n' = piece cs (o + o') n' := by
  unfold piece
  rw [List.drop_take, List.take_take, List.drop_drop, Nat.min_eq_left (by omega)]
theorem piece_length {cs : List Value} {o n : Nat} (h : o + n ≤ cs.length) : (piece cs o n).length = n := by
  unfold piece
  rw [List.length_take, List.length_drop]
  omega
theorem patch_length {cs c : List Value} {o : Nat} (h : o + c.length ≤ cs.length) : (patch cs o c).length = cs.length := by
  unfold patch
  simp only [List.length_append, List.length_take, List.length_drop]
  omega
theorem patch_append_left {a b c : List Value} {o : Nat} (h : o + c.length ≤ a.length) : patch (a ++ b) o c = patch a o c ++ b := by
  unfold patch
  rw [List.take_append_of_le_length (by omega), List.drop_append_of_le_length (by omega)]
  simp only [List.append_assoc]
theorem patch_append_right {a b c : List Value} {o : Nat} : patch (a ++ b) (a.length + o) c = a ++ patch b o c := by
  unfold patch
  rw [show a.length + o + c.length = a.length + (o + c.length) by omega, List.take_append, List.drop_append]
  simp [List.take_of_length_le]
/-- A piece of a piece replaced. -/
theorem patch_patch {cs c : List Value} {o n o' : Nat} (h : o + n ≤ cs.length) (h' : o' + c.length ≤ n) : patch cs o (patch (piece cs o n) o' c) = patch cs (o + o') c := by
  have hl : (patch (piece cs o n) o' c).length = n := by rw [patch_length (by rw [piece_length h]; exact h'), piece_length h]
  have e : cs = cs.take o ++ (piece cs o n ++ cs.drop (o + n)) := by
    unfold piece
    rw [show cs.drop (o + n) = (cs.drop o).drop n by rw [List.drop_drop], List.take_append_drop, List.take_append_drop]
  have ho : (cs.take o).length = o := by rw [List.length_take]; omega
  conv => rhs; rw [e]
  rw [show o + o' = (cs.take o).length + o' by rw [ho], patch_append_right, patch_append_left (by rw [piece_length h]; exact h')]
  unfold patch
  rw [← show patch (piece cs o n) o' c = (piece cs o n).take o' ++ (c ++ (piece cs o n).drop (o' + c.length)) from rfl, hl]

theorem tyF_off : ∀ {t : Ty} {j : Nat} {u : Ty}, tyF t j = some u → offF t j + u.size ≤ t.size
  | .pair a b, 0, u, h => by simp [tyF] at h; subst h; simp [offF, Ty.size]
  | .pair a b, j + 1, u, h => by
    have := tyF_off (t := b) (by simpa [tyF] using h)
    simp only [offF, Ty.size]
    omega
  | .int _, _, _, h | .bool, _, _, h | .str, _, _, h | .unit, _, _, h | .opq, _, _, h | .arr .., _, _, h | .sl _, _, _, h => by simp [tyF] at h

theorem okP_off : ∀ {p : List Step} {t u : Ty}, okP p t → tyAt p t = some u → offP p t + u.size ≤ t.size
  | [], t, u, _, h => by simp [tyAt] at h; subst h; simp [offP]
  | .fld j :: p, t, u, ⟨v, hv, hp⟩, h => by
    simp only [tyAt, hv] at h
    have h1 := okP_off hp h
    have h2 := tyF_off hv
    simp only [offP, hv]
    omega
  | .idx i :: p, .arr n v, u, ⟨hi, hp⟩, h => by
    simp only [tyAt] at h
    have h1 := okP_off hp h
    simp only [offP, Ty.size]
    have : (i + 1) * v.size ≤ n * v.size := Nat.mul_le_mul_right _ hi
    rw [Nat.succ_mul] at this
    omega
  | .idx _ :: _, .int _, _, hp, _ | .idx _ :: _, .bool, _, hp, _ | .idx _ :: _, .str, _, hp, _ | .idx _ :: _, .unit, _, hp, _ | .idx _ :: _, .opq, _, hp, _
  | .idx _ :: _, .pair .., _, hp, _ | .idx _ :: _, .sl _, _, hp, _ => hp.elim

section
variable {w : World} {Fr : Nat → Prop}
theorem getF_rep : ∀ {t : Ty} {x : t.D} {j : Nat} {y : TV} {cs : List Value}, getF t x j = some y → RepV w Fr t x cs → tyF t j = some y.1 ∧ RepV w Fr y.1 y.2 (piece cs (offF t j) y.1.size)
  | .pair a b, x, 0, y, cs, h, ⟨c1, c2, e, h1, h2⟩ => by
    simp [getF] at h
    subst h
    refine ⟨rfl, ?_⟩
    have hl := RepV.length a _ _ h1
    show RepV w Fr a x.1 (piece cs 0 a.size)
    rw [e, piece_append_left (by omega)]
    simpa [piece, ← hl] using h1
  | .pair a b, x, j + 1, y, cs, h, ⟨c1, c2, e, h1, h2⟩ => by
    obtain ⟨ht, hr⟩ := getF_rep (t := b) (by simpa [getF] using h) h2
    refine ⟨ht, ?_⟩
    rw [e, offF, ← RepV.length a _ _ h1, piece_append_right]
    exact hr
  | .int _, _, _, _, _, h, _ | .bool, _, _, _, _, h, _ | .str, _, _, _, _, h, _ | .unit, _, _, _, _, h, _ | .opq, _, _, _, _, h, _ | .arr .., _, _, _, _, h, _ | .sl _, _, _, _, _, h, _ => by
    simp [getF] at h

theorem getP_rep : ∀ {p : List Step} {t : Ty} {x : t.D} {y : TV} {cs : List Value}, okP p t → getP t x p = some y → RepV w Fr t x cs → tyAt p t = some y.1 ∧ RepV w Fr y.1 y.2 (piece cs (offP p t) y.1.size)
  | [], t, x, y, cs, _, h, hr => by
    simp [getP] at h
    subst h
    refine ⟨rfl, ?_⟩
    simpa [piece, offP, ← RepV.length t x cs hr] using hr
  | .fld j :: p, t, x, y, cs, ⟨u, hu, hp⟩, h, hr => by
    simp only [getP] at h
    split at h
    · rename_i z hz
      obtain ⟨ht, hz'⟩ := getF_rep hz hr
      rw [hu] at ht
      injection ht with ht
      subst ht
      obtain ⟨ht, hy⟩ := getP_rep hp h hz'
      refine ⟨by simpa [tyAt, hu] using ht, ?_⟩
      rw [piece_piece (okP_off hp ht)] at hy
      simpa [offP, hu] using hy
    · cases h
  | .idx i :: p, .arr n u, l, y, cs, ⟨hi, hp⟩, h, ⟨hn, hl⟩ => by
    simp only [getP, getI] at h
    have hz := hl.get (fun x cs => RepV.length u x cs) i u.zero (by omega)
    obtain ⟨ht, hy⟩ := getP_rep hp h hz
    refine ⟨by simpa [tyAt] using ht, ?_⟩
    have hy' : RepV w Fr y.1 y.2 (piece (piece cs (i * u.size) u.size) (offP p u) y.1.size) := hy
    rw [piece_piece (okP_off hp ht)] at hy'
    simpa [offP] using hy'
  | .idx _ :: _, .int _, _, _, _, hp, _, _ | .idx _ :: _, .bool, _, _, _, hp, _, _ | .idx _ :: _, .str, _, _, _, hp, _, _ | .idx _ :: _, .unit, _, _, _, hp, _, _ | .idx _ :: _, .opq, _, _, _, hp, _, _
  | .idx _ :: _, .pair .., _, _, _, hp, _, _ | .idx _ :: _, .sl _, _, _, _, hp, _, _ => hp.elim

theorem setF_rep : ∀ {t : Ty} {x x' : t.D} {j : Nat} {f : (u : Ty) → u.D → Option u.D} {cs : List Value}, setF t x j f = some x' → RepV w Fr t x cs →
    ∃ u, tyF t j = some u ∧ ∃ y y', f u y = some y' ∧ RepV w Fr u y (piece cs (offF t j) u.size) ∧ ∀ c, RepV w Fr u y' c → RepV w Fr t x' (patch cs (offF t j) c)
  | .pair a b, x, x', 0, f, cs, h, ⟨c1, c2, e, h1, h2⟩ => by
    simp only [setF] at h
    split at h
    · rename_i y hy
      injection h with h
      subst h
      have hl := RepV.length a _ _ h1
      refine ⟨a, rfl, x.1, y, hy, ?_, fun c hc => ?_⟩
      · rw [e, offF, piece_append_left (by omega)]
        simpa [piece, ← hl] using h1
      · have hlc := RepV.length a _ _ hc
        rw [e, offF, patch_append_left (by omega)]
        refine ⟨_, _, rfl, ?_, h2⟩
        have : patch c1 0 c = c := by unfold patch; simp [List.drop_of_length_le (show c1.length ≤ c.length by omega)]
        rw [this]
        exact hc
    · cases h
  | .pair a b, x, x', j + 1, f, cs, h, ⟨c1, c2, e, h1, h2⟩ => by
    simp only [setF] at h
    split at h
    · rename_i y hy
      injection h with h
      subst h
      obtain ⟨u, ht, z, z', hz, hr, hs⟩ := setF_rep hy h2
      refine ⟨u, ht, z, z', hz, ?_, fun c hc => ?_⟩
      · rw [e, offF, ← RepV.length a _ _ h1, piece_append_right]
        exact hr
      · rw [e, offF, ← RepV.length a _ _ h1, patch_append_right]
        exact ⟨_, _, rfl, h1, hs c hc⟩
    · cases h
  | .int _, _, _, _, _, _, h, _ | .bool, _, _, _, _, _, h, _ | .str, _, _, _, _, _, h, _ | .unit, _, _, _, _, _, h, _ | .opq, _, _, _, _, _, h, _ | .arr .., _, _, _, _, _, h, _ | .sl _, _, _, _, _, _, h, _ => by
    simp [setF] at h

theorem cast_rep {t u : Ty} {x : t.D} {y : u.D} (h : Ty.cast x = some y) : t = u ∧ HEq x y := by
  unfold Ty.cast at h
  split at h
  · rename_i e
    subst e
    injection h with h
    exact ⟨rfl, heq_of_eq h⟩
  · cases h

theorem setP_rep : ∀ {p : List Step} {t : Ty} {x x' : t.D} {v : TV} {cs : List Value}, okP p t → setP p v t x = some x' → RepV w Fr t x cs →
    tyAt p t = some v.1 ∧ ∀ c, RepV w Fr v.1 v.2 c → RepV w Fr t x' (patch cs (offP p t) c)
  | [], t, x, x', v, cs, _, h, hr => by
    obtain ⟨e, h'⟩ := cast_rep h
    obtain ⟨u, y⟩ := v
    dsimp only at e
    subst e
    cases h'
    refine ⟨rfl, fun c hc => ?_⟩
    have h1 := RepV.length _ _ _ hr
    have h2 := RepV.length _ _ _ hc
    dsimp only at h1 h2
    have : patch cs 0 c = c := by unfold patch; simp [List.drop_of_length_le (show cs.length ≤ c.length by omega)]
    rw [offP, this]
    exact hc
  | .fld j :: p, t, x, x', v, cs, ⟨u, hu, hp⟩, h, hr => by
    simp only [setP] at h
    obtain ⟨u', ht, y, y', hf, hy, hs⟩ := setF_rep h hr
    rw [hu] at ht
    injection ht with ht
    subst ht
    obtain ⟨ht, hq⟩ := setP_rep hp hf hy
    refine ⟨by simpa [tyAt, hu] using ht, fun c hc => ?_⟩
    have := hs _ (hq c hc)
    have hlc := RepV.length _ _ _ hc
    rw [patch_patch (by rw [RepV.length t x cs hr]; exact tyF_off hu) (by rw [hlc]; exact okP_off hp ht)] at this
    simpa [offP, hu] using this
  | .idx i :: p, .arr n u, l, l', v, cs, ⟨hi, hp⟩, h, ⟨hn, hl⟩ => by
    simp only [setP, setI] at h
    split at h
    · rename_i y hy
      injection h with h
      subst h
      have hz := hl.get (fun x cs => RepV.length u x cs) i u.zero (by omega)
      obtain ⟨ht, hq⟩ := setP_rep hp hy hz
      refine ⟨by simpa [tyAt] using ht, fun c hc => ⟨by simpa using hn, ?_⟩⟩
      have h1 := hq c hc
      have hlc := RepV.length _ _ _ hc
      have hlcs : cs.length = n * u.size := by rw [hl.length (fun x cs => RepV.length u x cs), hn]
      have hle : (i + 1) * u.size ≤ n * u.size := Nat.mul_le_mul_right _ hi
      rw [Nat.succ_mul] at hle
      have h2 := hl.set (fun x cs => RepV.length u x cs) i (by omega) h1
      have h3 : cs.take (i * u.size) ++ (patch ((cs.drop (i * u.size)).take u.size) (offP p u) c ++ cs.drop (i * u.size + u.size)) = patch cs (i * u.size) (patch (piece cs (i * u.size) u.size) (offP p u) c) := by
        have hl' := RepV.length u _ _ h1
        unfold piece
        conv => rhs; unfold patch
        rw [← show patch ((cs.drop (i * u.size)).take u.size) (offP p u) c = ((cs.drop (i * u.size)).take u.size).take (offP p u) ++ (c ++ ((cs.drop (i * u.size)).take u.size).drop (offP p u + c.length)) from rfl, hl']
      rw [h3, patch_patch (by omega) (by rw [hlc]; exact okP_off hp ht)] at h2
      simpa [offP] using h2
    · cases h
  | .idx _ :: _, .int _, _, _, _, _, hp, _, _ | .idx _ :: _, .bool, _, _, _, _, hp, _, _ | .idx _ :: _, .str, _, _, _, _, hp, _, _ | .idx _ :: _, .unit, _, _, _, _, hp, _, _ | .idx _ :: _, .opq, _, _, _, _, hp, _, _
  | .idx _ :: _, .pair .., _, _, _, _, hp, _, _ | .idx _ :: _, .sl _, _, _, _, _, hp, _, _ => hp.elim
end
end Go.Refl
