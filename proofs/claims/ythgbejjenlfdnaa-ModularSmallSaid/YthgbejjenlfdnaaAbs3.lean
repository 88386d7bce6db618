/-
  How abstract values and abstract memory stand to the machine's: the relation, what keeps it, parts of variables.
-/
import Derived.Test.YthgbejjenlfdnaaAbs2
set_option linter.unusedVariables false
namespace Go.Refl
open Go Go.RowKit

inductive Md where
  | one | chain | cells

/-- The block behind a header. -/
def hdNo : Value → Option Nat
  | .pointer (some a) => some a.block
  | .slice (some a) _ _ => some a.block
  | _ => none

/-- The blocks that stay as they are: those that came in (F), and the call's own that are no live block of the abstract memory. -/
def Frz (B : Nat) (F : Nat → Prop) (m : Mem) (G : Nat → Value) (w : World) (k : Nat) : Prop :=
  (k < B ∧ F k) ∨ (B ≤ k ∧ k < w.heap.size ∧ ∀ b c, m b = some (c, false) → hdNo (G b) ≠ some k)

/-- What a value in one cell is. -/
def repS (w : World) (Fr : Nat → Prop) (m : Mem) (G : Nat → Value) : AV → Value → Prop
  | .nn t xs, v => RepV w Fr (.sl t) xs [v] ∧ ∃ a n c, v = .slice (some a) n c
  | .nil, v => v = .slice none 0 0
  | .nptr, v => v = .pointer none
  | .ptr b p, v => ∃ T c z g, m b = some (.var T c, z) ∧ okP p T ∧ G b = .pointer (some ⟨g, 0, none⟩) ∧ v = .pointer (some ⟨g, offP p T, none⟩)
  | .rptr b ve i p, v => v.oneCell' = true ∧ ∃ e t xs v' z, m b = some (.row e t xs v', z) ∧ ve ≤ v' ∧ okP p t ∧
      (ve = v' → i < xs.length ∧ ∃ g n cap, G b = .slice (some ⟨g, 0, none⟩) n cap ∧ v = .pointer (some ⟨g, i * t.size + offP p t, none⟩))
  | .ref t x, v => ∃ ad, v = .pointer (some ad) ∧ Fr ad.block ∧ ∃ cs, RepV w Fr t x cs ∧ ∀ j u, cs[j]? = some u → w.cell? (ad.add j) = some u
  | .own b ve, v => v.oneCell' = true ∧ ∃ e t xs v' z, m b = some (.row e t xs v', z) ∧ ve ≤ v' ∧ (ve = v' → v = G b)
  | .sub b ve lo n, v => v.oneCell' = true ∧ ∃ e t xs v' z, m b = some (.row e t xs v', z) ∧ ve ≤ v' ∧
      (ve = v' → lo + n ≤ xs.length ∧ ∃ A c, v = .slice A n c ∧ n ≤ c ∧ (n ≠ 0 → ∃ g nn cap, G b = .slice (some ⟨g, 0, none⟩) nn cap ∧ A = some ⟨g, lo * t.size, none⟩))
  | .undef, v => v.oneCell' = true
  | _, _ => False

def repA (w : World) (Fr : Nat → Prop) (m : Mem) (G : Nat → Value) : AV → Md → List Value → Prop
  | .val t x, .one, vs => ∃ v, vs = [v] ∧ RepO w Fr t x v
  | .val t x, .cells, cs => RepV w Fr t x cs
  | .pr a b, .one, vs => ∃ c1 c2, vs = [.agg (c1 ++ c2).toArray] ∧ repA w Fr m G a .cells c1 ∧ repA w Fr m G b .cells c2
  | .pr a b, .cells, cs => ∃ c1 c2, cs = c1 ++ c2 ∧ repA w Fr m G a .cells c1 ∧ repA w Fr m G b .cells c2
  | .pr a b, .chain, vs => ∃ v l, vs = v :: l ∧ repA w Fr m G a .one [v] ∧ repA w Fr m G b .chain l
  | .un, .one, vs => vs = [.agg #[]]
  | .un, _, vs => vs = []
  | .tp l, .one, vs => ∃ ws, vs = [.tuple ws.toArray] ∧ repA w Fr m G l .chain ws
  | .fn f a b, .one, vs => ∃ x y, vs = [.func (.func f) x.toArray y.toArray] ∧ repA w Fr m G a .chain x ∧ repA w Fr m G b .chain y
  | .fn f a b, .cells, vs => ∃ x y, vs = [.func (.func f) x.toArray y.toArray] ∧ repA w Fr m G a .chain x ∧ repA w Fr m G b .chain y
  | .undef, .one, vs => ∃ v, vs = [v]
  | .val _ _, .chain, _ => False
  | .tp _, _, _ => False
  | _, .chain, _ => False
  | a, _, vs => ∃ v, vs = [v] ∧ repS w Fr m G a v

/-! ### Steps that keep what is known -/
def compat : Cn → Cn → Prop
  | .var T _, .var T' _ => T = T'
  | .row e t xs v, .row e' t' xs' v' => e = e' ∧ t = t' ∧ v ≤ v' ∧ (v = v' → xs.length = xs'.length)
  | _, _ => False

def sameHead : Cn → Cn → Prop
  | .row _ _ _ v, .row _ _ _ v' => v = v'
  | _, _ => True

structure Tr (B : Nat) (F : Nat → Prop) (m : Mem) (G : Nat → Value) (w : World) (m' : Mem) (G' : Nat → Value) (w' : World) : Prop where
  fr : ∀ k, Frz B F m G w k → Frz B F m' G' w' k ∧ w'.heap[k]? = w.heap[k]?
  blk : ∀ b c z, m b = some (c, z) → ∃ c' z', m' b = some (c', z') ∧ compat c c' ∧ (sameHead c c' → G' b = G b)

theorem compat.refl (c : Cn) : compat c c := by cases c <;> simp [compat]
theorem compat.trans : ∀ {a b c : Cn}, compat a b → compat b c → compat a c
  | .var _ _, .var _ _, .var _ _, h, k => Eq.trans (show _ = _ from h) (show _ = _ from k)
  | .row _ _ _ _, .row _ _ _ _, .row _ _ _ _, ⟨h1, h2, h3, h4⟩, ⟨k1, k2, k3, k4⟩ => by
    subst h1; subst h2; subst k1; subst k2
    refine ⟨rfl, rfl, by omega, fun e => ?_⟩
    rw [h4 (by omega), k4 (by omega)]
  | .var _ _, .var _ _, .row _ _ _ _, _, k => k.elim
  | .var _ _, .row _ _ _ _, _, h, _ => h.elim
  | .row _ _ _ _, .var _ _, _, h, _ => h.elim
  | .row _ _ _ _, .row _ _ _ _, .var _ _, _, k => k.elim

theorem sameHead.trans : ∀ {a b c : Cn}, compat a b → compat b c → sameHead a c → sameHead a b ∧ sameHead b c
  | .var _ _, .var _ _, .var _ _, _, _, _ => ⟨trivial, trivial⟩
  | .row _ _ _ _, .row _ _ _ _, .row _ _ _ _, ⟨_, _, h3, _⟩, ⟨_, _, k3, _⟩, hs => by
    simp only [sameHead] at *
    omega
  | .var _ _, .var _ _, .row _ _ _ _, _, k, _ => k.elim
  | .var _ _, .row _ _ _ _, _, h, _, _ => h.elim
  | .row _ _ _ _, .var _ _, _, h, _, _ => h.elim
  | .row _ _ _ _, .row _ _ _ _, .var _ _, _, k, _ => k.elim

theorem Tr.refl (B : Nat) (F : Nat → Prop) (m : Mem) (G : Nat → Value) (w : World) : Tr B F m G w m G w :=
  ⟨fun _ h => ⟨h, rfl⟩, fun b c z h => ⟨c, z, h, compat.refl c, fun _ => rfl⟩⟩

theorem Tr.trans {B : Nat} {F : Nat → Prop} {m m' m'' : Mem} {G G' G'' : Nat → Value} {w w' w'' : World} (h : Tr B F m G w m' G' w') (k : Tr B F m' G' w' m'' G'' w'') : Tr B F m G w m'' G'' w'' := by
  refine ⟨fun j hj => ?_, fun b c z hb => ?_⟩
  · obtain ⟨h1, h2⟩ := h.fr j hj
    obtain ⟨k1, k2⟩ := k.fr j h1
    exact ⟨k1, k2.trans h2⟩
  · obtain ⟨c', z', h1, h2, h3⟩ := h.blk b c z hb
    obtain ⟨c'', z'', k1, k2, k3⟩ := k.blk b c' z' h1
    refine ⟨c'', z'', k1, h2.trans k2, fun hs => ?_⟩
    obtain ⟨s1, s2⟩ := sameHead.trans h2 k2 hs
    rw [k3 s2, h3 s1]

section
variable {B : Nat} {F : Nat → Prop} {m m' : Mem} {G G' : Nat → Value} {w w' : World}

theorem repS.mono (h : Tr B F m G w m' G' w') : ∀ {a : AV} {v : Value}, repS w (Frz B F m G w) m G a v → repS w' (Frz B F m' G' w') m' G' a v
  | .nn t xs, v, ⟨h1, h2⟩ => ⟨RepV.mono h.fr _ _ _ h1, h2⟩
  | .nil, _, hr => hr
  | .nptr, _, hr => hr
  | .ptr b p, v, ⟨T, c, z, g, h1, h2, h3, h4⟩ => by
    obtain ⟨c', z', k1, k2, k3⟩ := h.blk b _ z h1
    cases c' <;> simp [compat] at k2
    subst k2
    exact ⟨_, _, z', g, k1, h2, by rw [k3 trivial]; exact h3, h4⟩
  | .rptr b ve i p, v, ⟨h0, e, t, xs, v', z, h1, h2, h3, h4⟩ => by
    obtain ⟨c', z', k1, k2, k3⟩ := h.blk b _ z h1
    cases c' <;> simp [compat] at k2
    obtain ⟨rfl, rfl, k4, k5⟩ := k2
    refine ⟨h0, _, _, _, _, z', k1, by omega, h3, fun hv => ?_⟩
    have : ve = v' := by omega
    obtain ⟨q1, q2⟩ := h4 this
    subst this
    rw [k3 hv]
    exact ⟨by rw [← k5 hv]; exact q1, q2⟩
  | .ref t x, v, ⟨ad, h1, h2, cs, h3, h4⟩ => by
    obtain ⟨q1, q2⟩ := h.fr _ h2
    refine ⟨ad, h1, q1, cs, RepV.mono h.fr _ _ _ h3, fun j u hu => ?_⟩
    have hb : (ad.add j).block = ad.block := by unfold Addr.add; split <;> rfl
    rw [World.cell?_of_block (w := w) (by rw [hb]; exact q2)]
    exact h4 j u hu
  | .own b ve, v, ⟨h0, e, t, xs, v', z, h1, h2, h3⟩ => by
    obtain ⟨c', z', k1, k2, k3⟩ := h.blk b _ z h1
    cases c' <;> simp [compat] at k2
    obtain ⟨rfl, rfl, k4, k5⟩ := k2
    refine ⟨h0, _, _, _, _, z', k1, by omega, fun hv => ?_⟩
    have : ve = v' := by omega
    rw [h3 this]
    subst this
    exact (k3 hv).symm
  | .sub b ve lo n, v, ⟨h0, e, t, xs, v', z, h1, h2, h3⟩ => by
    obtain ⟨c', z', k1, k2, k3⟩ := h.blk b _ z h1
    cases c' <;> simp [compat] at k2
    obtain ⟨rfl, rfl, k4, k5⟩ := k2
    refine ⟨h0, _, _, _, _, z', k1, by omega, fun hv => ?_⟩
    have : ve = v' := by omega
    obtain ⟨q1, q2⟩ := h3 this
    subst this
    rw [k3 hv, ← k5 hv]
    exact ⟨q1, q2⟩
  | .undef, _, hr => hr

theorem repA.mono (h : Tr B F m G w m' G' w') : ∀ (a : AV) (md : Md) (vs : List Value), repA w (Frz B F m G w) m G a md vs → repA w' (Frz B F m' G' w') m' G' a md vs
  | .val t x, .one, vs, ⟨v, e, hr⟩ => ⟨v, e, hr.mono h.fr⟩
  | .val t x, .cells, cs, hr => RepV.mono h.fr _ _ _ hr
  | .pr a b, .one, vs, ⟨c1, c2, e, h1, h2⟩ => ⟨c1, c2, e, repA.mono h a _ _ h1, repA.mono h b _ _ h2⟩
  | .pr a b, .cells, vs, ⟨c1, c2, e, h1, h2⟩ => ⟨c1, c2, e, repA.mono h a _ _ h1, repA.mono h b _ _ h2⟩
  | .pr a b, .chain, vs, ⟨v, l, e, h1, h2⟩ => ⟨v, l, e, repA.mono h a _ _ h1, repA.mono h b _ _ h2⟩
  | .un, .one, _, hr => hr
  | .un, .cells, _, hr => hr
  | .un, .chain, _, hr => hr
  | .tp l, .one, _, ⟨ws, e, hr⟩ => ⟨ws, e, repA.mono h l _ _ hr⟩
  | .fn f a b, .one, vs, ⟨x, y, e, h1, h2⟩ => ⟨x, y, e, repA.mono h a _ _ h1, repA.mono h b _ _ h2⟩
  | .fn f a b, .cells, vs, ⟨x, y, e, h1, h2⟩ => ⟨x, y, e, repA.mono h a _ _ h1, repA.mono h b _ _ h2⟩
  | .undef, .one, _, hr => hr
  | .undef, .cells, _, ⟨v, e, hr⟩ => ⟨v, e, repS.mono h hr⟩
  | .nn .., .one, _, ⟨v, e, hr⟩ => ⟨v, e, repS.mono h hr⟩
  | .nn .., .cells, _, ⟨v, e, hr⟩ => ⟨v, e, repS.mono h hr⟩
  | .nil, .one, _, ⟨v, e, hr⟩ => ⟨v, e, repS.mono (a := .nil) h hr⟩
  | .nil, .cells, _, ⟨v, e, hr⟩ => ⟨v, e, repS.mono (a := .nil) h hr⟩
  | .nptr, .one, _, ⟨v, e, hr⟩ => ⟨v, e, repS.mono (a := .nptr) h hr⟩
  | .nptr, .cells, _, ⟨v, e, hr⟩ => ⟨v, e, repS.mono (a := .nptr) h hr⟩
  | .ptr .., .one, _, ⟨v, e, hr⟩ => ⟨v, e, repS.mono h hr⟩
  | .ptr .., .cells, _, ⟨v, e, hr⟩ => ⟨v, e, repS.mono h hr⟩
  | .rptr .., .one, _, ⟨v, e, hr⟩ => ⟨v, e, repS.mono h hr⟩
  | .rptr .., .cells, _, ⟨v, e, hr⟩ => ⟨v, e, repS.mono h hr⟩
  | .ref .., .one, _, ⟨v, e, hr⟩ => ⟨v, e, repS.mono h hr⟩
  | .ref .., .cells, _, ⟨v, e, hr⟩ => ⟨v, e, repS.mono h hr⟩
  | .own .., .one, _, ⟨v, e, hr⟩ => ⟨v, e, repS.mono h hr⟩
  | .own .., .cells, _, ⟨v, e, hr⟩ => ⟨v, e, repS.mono h hr⟩
  | .sub .., .one, _, ⟨v, e, hr⟩ => ⟨v, e, repS.mono h hr⟩
  | .sub .., .cells, _, ⟨v, e, hr⟩ => ⟨v, e, repS.mono h hr⟩
end

/-! ### Values, their parts, their cells -/
section
variable {w : World} {Fr : Nat → Prop} {m : Mem} {G : Nat → Value}

theorem repS.oneCell : ∀ {a : AV} {v : Value}, repS w Fr m G a v → v.oneCell' = true
  | .nn t xs, v, ⟨_, a, n, c, h2⟩ => by rw [h2]; rfl
  | .nil, _, hr => by rw [show _ = Value.slice none 0 0 from hr]; rfl
  | .nptr, _, hr => by rw [show _ = Value.pointer none from hr]; rfl
  | .ptr b p, v, ⟨T, c, z, g, h1, h2, h3, h4⟩ => by rw [h4]; rfl
  | .rptr b ve i p, v, ⟨h0, _⟩ => h0
  | .ref t x, v, ⟨ad, h1, _⟩ => by rw [h1]; rfl
  | .own b ve, v, ⟨h0, _⟩ => h0
  | .sub b ve lo n, v, ⟨h0, _⟩ => h0
  | .undef, _, hr => hr

theorem cells_one {v : Value} (h : v.oneCell' = true) : v.cells.toList = [v] := by cases v <;> first | rfl | simp [Value.oneCell'] at h

/-- An operand's value, in its cells. -/
theorem repA.toCells : ∀ {a : AV} {v : Value}, a.solid = true → repA w Fr m G a .one [v] → repA w Fr m G a .cells v.cells.toList
  | .val t x, v, _, ⟨v', e, hr⟩ => by injection e with e; subst e; exact hr.cells
  | .pr a b, v, _, ⟨c1, c2, e, h1, h2⟩ => by injection e with e; subst e; exact ⟨c1, c2, by simp [Value.cells], h1, h2⟩
  | .un, v, _, hr => by injection (show [v] = [_] from hr) with e; subst e; show _ = []; simp [Value.cells]
  | .fn f a b, v, _, ⟨x, y, e, h1, h2⟩ => by injection e with e; subst e; exact ⟨x, y, rfl, h1, h2⟩
  | .nn .., v, _, ⟨v', e, hr⟩ => by injection e with e; subst e; exact ⟨v, cells_one hr.oneCell, hr⟩
  | .nil, v, _, ⟨v', e, hr⟩ => by injection e with e; subst e; exact ⟨v, cells_one (repS.oneCell (a := .nil) hr), hr⟩
  | .nptr, v, _, ⟨v', e, hr⟩ => by injection e with e; subst e; exact ⟨v, cells_one (repS.oneCell (a := .nptr) hr), hr⟩
  | .ptr .., v, _, ⟨v', e, hr⟩ => by injection e with e; subst e; exact ⟨v, cells_one hr.oneCell, hr⟩
  | .rptr .., v, _, ⟨v', e, hr⟩ => by injection e with e; subst e; exact ⟨v, cells_one hr.oneCell, hr⟩
  | .ref .., v, _, ⟨v', e, hr⟩ => by injection e with e; subst e; exact ⟨v, cells_one hr.oneCell, hr⟩
  | .own .., v, _, ⟨v', e, hr⟩ => by injection e with e; subst e; exact ⟨v, cells_one hr.oneCell, hr⟩
  | .sub .., v, _, ⟨v', e, hr⟩ => by injection e with e; subst e; exact ⟨v, cells_one hr.oneCell, hr⟩
  | .tp _, _, h, _ | .undef, _, h, _ => by simp [AV.solid] at h

theorem explode_rep : ∀ (t : Ty) (x : t.D) (cs : List Value), RepV w Fr t x cs → repA w Fr m G (explode t x) .cells cs
  | .pair a b, x, cs, ⟨c1, c2, e, h1, h2⟩ => ⟨c1, c2, e, explode_rep a _ _ h1, explode_rep b _ _ h2⟩
  | .unit, _, _, h => h
  | .int _, _, _, h | .bool, _, _, h | .str, _, _, h | .opq, _, _, h | .arr .., _, _, h | .sl _, _, _, h => h

theorem norm_rep : ∀ (a : AV) (cs : List Value), repA w Fr m G a .cells cs → repA w Fr m G a.norm .cells cs
  | .val t x, cs, h => explode_rep t x cs h
  | .pr a b, cs, ⟨c1, c2, e, h1, h2⟩ => ⟨c1, c2, e, norm_rep a _ h1, norm_rep b _ h2⟩
  | .un, _, h => h
  | .tp _, _, h => h
  | .fn .., _, h => h
  | .undef, _, h => h
  | .nn .., _, h => h
  | .nil, _, h => h
  | .nptr, _, h => h
  | .ptr .., _, h => h
  | .rptr .., _, h => h
  | .ref .., _, h => h
  | .own .., _, h => h
  | .sub .., _, h => h

/-- Out of its cells a value is an operand's. -/
theorem repA.ofCells' : ∀ {t : Ty} {a : AV} {cs : List Value}, AV.fits t a = true → repA w Fr m G a .cells cs → repA w Fr m G a .one [ofCells t cs]
  | t, .val u x, cs, hf, hr => by
    have e : t = u := by
      cases t <;> simp [AV.fits] at hf <;> exact hf
    subst e
    exact ⟨_, rfl, hr.operand⟩
  | t, .pr a b, cs, hf, ⟨c1, c2, e, h1, h2⟩ => by
    have ha : t.agg = true := by cases t <;> simp [AV.fits] at hf <;> rfl
    refine ⟨c1, c2, ?_, h1, h2⟩
    rw [ofCells, if_pos ha, e]
  | t, .un, cs, hf, h => by
    have ha : t.agg = true := by cases t <;> simp [AV.fits] at hf <;> rfl
    show [_] = [_]
    rw [ofCells, if_pos ha, show cs = [] from h]
  | t, .fn f a b, cs, hf, ⟨x, y, e, h1, h2⟩ => by
    have ha : t.agg = false := by cases t <;> simp [AV.fits] at hf <;> rfl
    exact ⟨x, y, by rw [ofCells, if_neg (by simp [ha]), e]; rfl, h1, h2⟩
  | t, .undef, cs, hf, ⟨v, e, h⟩ => by
    have ha : t.agg = false := by cases t <;> simp [AV.fits] at hf <;> rfl
    exact ⟨v, by rw [ofCells, if_neg (by simp [ha]), e]; rfl⟩
  | t, .tp _, _, hf, _ => by cases t <;> simp [AV.fits] at hf
  | t, .nn .., _, hf, ⟨v, e, h⟩ => by
    have ha : t.agg = false := by cases t <;> simp [AV.fits] at hf <;> rfl
    exact ⟨v, by rw [ofCells, if_neg (by simp [ha]), e]; rfl, h⟩
  | t, .nil, _, hf, ⟨v, e, h⟩ => by
    have ha : t.agg = false := by cases t <;> simp [AV.fits] at hf <;> rfl
    exact ⟨v, by rw [ofCells, if_neg (by simp [ha]), e]; rfl, h⟩
  | t, .nptr, _, hf, ⟨v, e, h⟩ => by
    have ha : t.agg = false := by cases t <;> simp [AV.fits] at hf <;> rfl
    exact ⟨v, by rw [ofCells, if_neg (by simp [ha]), e]; rfl, h⟩
  | t, .ptr .., _, hf, ⟨v, e, h⟩ => by
    have ha : t.agg = false := by cases t <;> simp [AV.fits] at hf <;> rfl
    exact ⟨v, by rw [ofCells, if_neg (by simp [ha]), e]; rfl, h⟩
  | t, .rptr .., _, hf, ⟨v, e, h⟩ => by
    have ha : t.agg = false := by cases t <;> simp [AV.fits] at hf <;> rfl
    exact ⟨v, by rw [ofCells, if_neg (by simp [ha]), e]; rfl, h⟩
  | t, .ref .., _, hf, ⟨v, e, h⟩ => by
    have ha : t.agg = false := by cases t <;> simp [AV.fits] at hf <;> rfl
    exact ⟨v, by rw [ofCells, if_neg (by simp [ha]), e]; rfl, h⟩
  | t, .own .., _, hf, ⟨v, e, h⟩ => by
    have ha : t.agg = false := by cases t <;> simp [AV.fits] at hf <;> rfl
    exact ⟨v, by rw [ofCells, if_neg (by simp [ha]), e]; rfl, h⟩
  | t, .sub .., _, hf, ⟨v, e, h⟩ => by
    have ha : t.agg = false := by cases t <;> simp [AV.fits] at hf <;> rfl
    exact ⟨v, by rw [ofCells, if_neg (by simp [ha]), e]; rfl, h⟩

theorem fits_pair {a b : Ty} {c : AV} (h : AV.fits (.pair a b) c = true) : ∃ x y, c = .pr x y ∧ AV.fits a x = true ∧ AV.fits b y = true := by
  cases c <;> simp [AV.fits] at h
  exact ⟨_, _, rfl, h⟩
theorem fits_arr {n : Nat} {t : Ty} {c : AV} (h : AV.fits (.arr n t) c = true) : ∃ x, c = .val (.arr n t) x := by
  cases c <;> simp [AV.fits] at h
  subst h
  exact ⟨_, rfl⟩

theorem fits_length : ∀ {t : Ty} {c : AV} {cs : List Value}, AV.fits t c = true → repA w Fr m G c .cells cs → cs.length = t.size
  | .pair a b, c, cs, hf, hr => by
    obtain ⟨x, y, rfl, h1, h2⟩ := fits_pair hf
    obtain ⟨c1, c2, rfl, r1, r2⟩ := hr
    rw [List.length_append, fits_length h1 r1, fits_length h2 r2]
    rfl
  | .unit, c, cs, hf, hr => by
    cases c <;> simp [AV.fits] at hf
    rw [show cs = [] from hr]
    rfl
  | .arr n t, c, cs, hf, hr => by
    obtain ⟨x, rfl⟩ := fits_arr hf
    exact RepV.length _ _ _ hr
  | .int k, c, cs, hf, hr => by
    cases c <;> simp [AV.fits] at hf
    · subst hf; exact RepV.length _ _ _ hr
    · obtain ⟨v, e, _⟩ := hr; rw [e]; rfl
  | .bool, c, cs, hf, hr => by
    cases c <;> simp [AV.fits] at hf
    · subst hf; exact RepV.length _ _ _ hr
    · obtain ⟨v, e, _⟩ := hr; rw [e]; rfl
  | .str, c, cs, hf, hr => by
    cases c <;> simp [AV.fits] at hf
    · subst hf; exact RepV.length _ _ _ hr
    · obtain ⟨v, e, _⟩ := hr; rw [e]; rfl
  | .opq, c, cs, hf, hr => by
    cases c <;> simp [AV.fits] at hf
    all_goals first
      | (subst hf; exact RepV.length _ _ _ hr)
      | (obtain ⟨v, e, _⟩ := hr; rw [e]; rfl)
      | (obtain ⟨x, y, e, _⟩ := hr; rw [e]; rfl)
  | .sl t, c, cs, hf, hr => by
    cases c <;> simp [AV.fits] at hf
    all_goals first
      | (subst hf; exact RepV.length _ _ _ hr)
      | (obtain ⟨v, e, _⟩ := hr; rw [e]; rfl)

theorem nth_rep : ∀ {t : Ty} {c : AV} {j : Nat} {a : AV} {u : Ty} {cs : List Value}, AV.fits t c = true → tyF t j = some u → c.nth j = some a → repA w Fr m G c .cells cs →
    AV.fits u a = true ∧ repA w Fr m G a .cells (piece cs (offF t j) u.size)
  | .pair ta tb, c, 0, a, u, cs, hf, ht, hn, hr => by
    obtain ⟨x, y, rfl, h1, h2⟩ := fits_pair hf
    obtain ⟨c1, c2, rfl, r1, r2⟩ := hr
    simp [AV.nth] at hn
    simp [tyF] at ht
    subst hn; subst ht
    have hl := fits_length h1 r1
    refine ⟨h1, ?_⟩
    rw [offF, piece_append_left (by omega)]
    simpa [piece, ← hl] using r1
  | .pair ta tb, c, j + 1, a, u, cs, hf, ht, hn, hr => by
    obtain ⟨x, y, rfl, h1, h2⟩ := fits_pair hf
    obtain ⟨c1, c2, rfl, r1, r2⟩ := hr
    simp only [AV.nth] at hn
    obtain ⟨q1, q2⟩ := nth_rep h2 (by simpa [tyF] using ht) hn r2
    refine ⟨q1, ?_⟩
    rw [offF, ← fits_length h1 r1, piece_append_right]
    exact q2
  | .int _, _, _, _, _, _, _, h, _, _ | .bool, _, _, _, _, _, _, h, _, _ | .str, _, _, _, _, _, _, h, _, _ | .unit, _, _, _, _, _, _, h, _, _ | .opq, _, _, _, _, _, _, h, _, _ | .arr .., _, _, _, _, _, _, h, _, _
  | .sl _, _, _, _, _, _, _, h, _, _ => by simp [tyF] at h

theorem fits_val : ∀ {t : Ty} {u : Ty} {x : u.D}, AV.fits t (.val u x) = true → t = u := by
  intro t u x h
  cases t <;> simp [AV.fits] at h <;> exact h

theorem val_fits {t : Ty} (ht : ∀ a b, t ≠ .pair a b) (hu : t ≠ .unit) (x : t.D) : AV.fits t (.val t x) = true := by
  cases t <;> simp [AV.fits] at * 

theorem get_rep : ∀ {p : List Step} {t : Ty} {c a : AV} {u : Ty} {cs : List Value}, okP p t → AV.fits t c = true → tyAt p t = some u → c.get p = some a → repA w Fr m G c .cells cs →
    repA w Fr m G a .cells (piece cs (offP p t) u.size) ∧ (AV.fits u a = true ∨ ∃ x, a = .val u x)
  | [], t, c, a, u, cs, _, hf, ht, hg, hr => by
    have : c.get [] = some c := by cases c <;> rfl
    rw [this] at hg
    injection hg with hg
    subst hg
    simp [tyAt] at ht
    subst ht
    refine ⟨?_, .inl hf⟩
    have := fits_length hf hr
    simpa [piece, offP, ← this] using hr
  | .fld j :: p, t, c, a, u, cs, ⟨v, hv, hp⟩, hf, ht, hg, hr => by
    cases c
    case val t' x =>
      have e := fits_val hf
      subst e
      simp only [AV.get] at hg
      split at hg
      · rename_i y hy
        injection hg with hg
        subst hg
        obtain ⟨q1, q2⟩ := getP_rep (p := .fld j :: p) ⟨v, hv, hp⟩ hy hr
        rw [ht] at q1
        injection q1 with q1
        subst q1
        exact ⟨q2, .inr ⟨_, rfl⟩⟩
      · cases hg
    all_goals
      simp only [AV.get] at hg
      split at hg
      · rename_i b hb
        obtain ⟨q1, q2⟩ := nth_rep hf hv hb hr
        simp only [tyAt, hv] at ht
        obtain ⟨r1, r2⟩ := get_rep hp q1 ht hg q2
        rw [piece_piece (okP_off hp ht)] at r1
        exact ⟨by simpa [offP, hv] using r1, r2⟩
      · cases hg
  | .idx i :: p, t, c, a, u, cs, hp, hf, ht, hg, hr => by
    cases c
    case val t' x =>
      have e := fits_val hf
      subst e
      simp only [AV.get] at hg
      split at hg
      · rename_i y hy
        injection hg with hg
        subst hg
        obtain ⟨q1, q2⟩ := getP_rep hp hy hr
        rw [ht] at q1
        injection q1 with q1
        subst q1
        exact ⟨q2, .inr ⟨_, rfl⟩⟩
      · cases hg
    all_goals simp [AV.get] at hg

theorem setNth_rep : ∀ {t : Ty} {c c' : AV} {j : Nat} {f : AV → Option AV} {cs : List Value}, AV.fits t c = true → AV.setNth f c j = some c' → repA w Fr m G c .cells cs →
    ∃ u x x', tyF t j = some u ∧ f x = some x' ∧ AV.fits u x = true ∧ repA w Fr m G x .cells (piece cs (offF t j) u.size) ∧
      ∀ d, d.length = u.size → AV.fits u x' = true → repA w Fr m G x' .cells d → AV.fits t c' = true ∧ repA w Fr m G c' .cells (patch cs (offF t j) d)
  | .pair ta tb, c, c', 0, f, cs, hf, hs, hr => by
    obtain ⟨x, y, rfl, h1, h2⟩ := fits_pair hf
    obtain ⟨c1, c2, rfl, r1, r2⟩ := hr
    simp only [AV.setNth] at hs
    split at hs
    · rename_i x' hx
      injection hs with hs
      subst hs
      have hl := fits_length h1 r1
      refine ⟨ta, x, x', rfl, hx, h1, ?_, fun d hd h3 h4 => ⟨by simp [AV.fits, h3, h2], ?_⟩⟩
      · rw [offF, piece_append_left (by omega)]
        simpa [piece, ← hl] using r1
      · rw [offF, patch_append_left (by omega)]
        have : patch c1 0 d = d := by unfold patch; simp [List.drop_of_length_le (show c1.length ≤ d.length by omega)]
        rw [this]
        exact ⟨_, _, rfl, h4, r2⟩
    · cases hs
  | .pair ta tb, c, c', j + 1, f, cs, hf, hs, hr => by
    obtain ⟨x, y, rfl, h1, h2⟩ := fits_pair hf
    obtain ⟨c1, c2, rfl, r1, r2⟩ := hr
    simp only [AV.setNth] at hs
    split at hs
    · rename_i y' hy
      injection hs with hs
      subst hs
      obtain ⟨u, z, z', q1, q2, q3, q4, q5⟩ := setNth_rep h2 hy r2
      refine ⟨u, z, z', by simpa [tyF] using q1, q2, q3, ?_, fun d hd h3 h4 => ?_⟩
      · rw [offF, ← fits_length h1 r1, piece_append_right]
        exact q4
      · obtain ⟨s1, s2⟩ := q5 d hd h3 h4
        rw [offF, ← fits_length h1 r1, patch_append_right]
        exact ⟨by simp [AV.fits, h1, s1], _, _, rfl, r1, s2⟩
    · cases hs
  | .unit, c, c', j, f, cs, hf, hs, hr | .int _, c, c', j, f, cs, hf, hs, hr | .bool, c, c', j, f, cs, hf, hs, hr | .str, c, c', j, f, cs, hf, hs, hr | .opq, c, c', j, f, cs, hf, hs, hr
  | .arr .., c, c', j, f, cs, hf, hs, hr | .sl _, c, c', j, f, cs, hf, hs, hr => by
    cases c <;> first | (simp [AV.fits] at hf; done) | (cases j <;> simp [AV.setNth] at hs)

theorem set_rep : ∀ {p : List Step} {t : Ty} {c c' v : AV} {u : Ty} {cs d : List Value}, okP p t → AV.fits t c = true → tyAt p t = some u → AV.set v p c = some c' →
    AV.fits u v = true → repA w Fr m G v .cells d → repA w Fr m G c .cells cs → AV.fits t c' = true ∧ repA w Fr m G c' .cells (patch cs (offP p t) d)
  | [], t, c, c', v, u, cs, d, _, hf, ht, hs, hfv, hv, hr => by
    simp [AV.set] at hs
    simp [tyAt] at ht
    subst hs; subst ht
    have h1 := fits_length hf hr
    have h2 := fits_length hfv hv
    have : patch cs 0 d = d := by unfold patch; simp [List.drop_of_length_le (show cs.length ≤ d.length by omega)]
    rw [offP, this]
    exact ⟨hfv, hv⟩
  | .fld j :: p, t, c, c', v, u, cs, d, ⟨u1, hu1, hp⟩, hf, ht, hs, hfv, hv, hr => by
    simp only [AV.set] at hs
    obtain ⟨u', x, x', q1, q2, q3, q4, q5⟩ := setNth_rep hf hs hr
    rw [hu1] at q1
    injection q1 with q1
    subst q1
    simp only [tyAt, hu1] at ht
    obtain ⟨s1, s2⟩ := set_rep hp q3 ht q2 hfv hv q4
    have hd := fits_length hfv hv
    obtain ⟨r1, r2⟩ := q5 _ (fits_length s1 s2) s1 s2
    refine ⟨r1, ?_⟩
    rw [patch_patch (by rw [fits_length hf hr]; exact tyF_off hu1) (by rw [hd]; exact okP_off hp ht)] at r2
    simpa [offP, hu1] using r2
  | .idx i :: p, t, c, c', v, u, cs, d, hp, hf, ht, hs, hfv, hv, hr => by
    cases c <;> simp only [AV.set] at hs <;> try (cases hs; done)
    rename_i t' x
    cases v <;> simp only at hs <;> try (cases hs; done)
    rename_i u' y
    split at hs
    · rename_i z hz
      injection hs with hs
      subst hs
      have e := fits_val hf
      subst e
      have e := fits_val hfv
      subst e
      obtain ⟨q1, q2⟩ := setP_rep hp hz hr
      have ht' : t ≠ .unit ∧ ∀ a b, t ≠ .pair a b := by
        cases t <;> simp_all [okP]
      exact ⟨val_fits ht'.2 ht'.1 _, q2 d hv⟩
    · cases hs
end

/-! ### The memory -/
def CnOk (B : Nat) (F : Nat → Prop) (m : Mem) (G : Nat → Value) (w : World) (b : Nat) : Cn → Prop
  | .var T c => ∃ g arr e, G b = .pointer (some ⟨g, 0, none⟩) ∧ B ≤ g ∧ w.heap[g]? = some (.cells arr e (0, 0)) ∧ AV.fits T c = true ∧ repA w (Frz B F m G w) m G c .cells arr.toList
  | .row e t xs _ => ∃ cells, w.ownsRow B e t.size (G b) xs.length cells ∧ RepL (RepV w (Frz B F m G w) t) xs cells ∧ 0 < t.size

structure MemOk (B : Nat) (F : Nat → Prop) (w0 : World) (lim : Nat) (m : Mem) (G : Nat → Value) (w : World) : Prop where
  below : Below B w0 w
  base : B ≤ w.heap.size
  blk : ∀ b c z, m b = some (c, z) → CnOk B F m G w b c
  dist : ∀ b b' x y, b ≠ b' → m b = some x → m b' = some y → ∀ k, hdNo (G b) = some k → hdNo (G b') ≠ some k
  lim : ∀ b x, m b = some x → b < lim

end Go.Refl
