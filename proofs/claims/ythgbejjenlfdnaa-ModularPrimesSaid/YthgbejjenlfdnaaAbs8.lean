import Derived.Test.YthgbejjenlfdnaaAbs4
import Derived.Calls
import Derived.Laws.Rows
import Derived.Laws.Cells
import Derived.Laws.Strings
import Derived.Maps.AppendAt
/-
  What single operations do: values as typed ones, numbers, places, loads and stores.
-/
set_option linter.unusedVariables false
namespace Go.Refl
open Go Go.RowKit

theorem add_zero_off (g n : Nat) : (⟨g, 0, none⟩ : Addr).add n = ⟨g, n, none⟩ := by unfold Addr.add; split <;> simp_all
theorem add_off (g o n : Nat) : (⟨g, o, none⟩ : Addr).add n = ⟨g, o + n, none⟩ := by unfold Addr.add; split <;> simp_all
theorem add_add (a : Addr) (m n : Nat) : (a.add m).add n = a.add (m + n) := by
  unfold Addr.add
  by_cases h1 : m = 0 <;> by_cases h2 : n = 0 <;> simp [h1, h2, Nat.add_assoc]
theorem add_block (a : Addr) (n : Nat) : (a.add n).block = a.block := by unfold Addr.add; split <;> rfl

/-! ### What an effect comes to -/
section
variable {α : Type}
theorem go_tst (c : Bool) (y n : Eff α) (m : Mem) (p : FP) : ((Eff.tst c y n).go m p).run = if c = true then (y.go m p).run else (n.go m p).run := rfl
theorem opt_some {β γ : Type} {o : Option β} {k : β → Eff γ} {m : Mem} {p : FP} {r : γ × Mem × FP} (h : ((Eff.opt o k).go m p).run = some r) : ∃ b, o = some b ∧ ((k b).go m p).run = some r := by
  cases o with
  | none => cases h
  | some b => exact ⟨b, rfl, h⟩
theorem rd_some {k : Cn → Eff α} {b : Nat} {m : Mem} {p : FP} {r : α × Mem × FP} (h : ((Eff.rd b k).go m p).run = some r) : ∃ c z, m b = some (c, z) ∧ ((k c).go m ((b, 0) :: p)).run = some r := by
  simp only [Eff.go] at h
  split at h
  · rename_i c z hc
    exact ⟨c, z, hc, h⟩
  · cases h
theorem wr_some {k : Eff α} {b : Nat} {c : Cn} {m : Mem} {p : FP} {r : α × Mem × FP} (h : ((Eff.wr b c k).go m p).run = some r) : ∃ c0, m b = some (c0, false) ∧ (k.go (m.set b (c, false)) ((b, 2) :: p)).run = some r := by
  simp only [Eff.go] at h
  split at h
  · rename_i c0 hc
    exact ⟨c0, hc, h⟩
  · cases h
theorem fz_some {k : Eff α} {b : Nat} {m : Mem} {p : FP} {r : α × Mem × FP} (h : ((Eff.fz b k).go m p).run = some r) : ∃ c z, m b = some (c, z) ∧ (k.go (m.set b (c, true)) ((b, 1) :: p)).run = some r := by
  simp only [Eff.go] at h
  split at h
  · rename_i c z hc
    exact ⟨c, z, hc, h⟩
  · cases h
theorem nw_some {k : Eff α} {b : Nat} {c : Cn} {m : Mem} {p : FP} {r : α × Mem × FP} (h : ((Eff.nw b c k).go m p).run = some r) : m b = none ∧ (k.go (m.set b (c, false)) ((b, 2) :: p)).run = some r := by
  simp only [Eff.go] at h
  split at h
  · rename_i hc
    exact ⟨hc, h⟩
  · cases h
theorem tst_some {c : Bool} {y n : Eff α} {m : Mem} {p : FP} {r : α × Mem × FP} (h : ((Eff.tst c y n).go m p).run = some r) : (c = true ∧ (y.go m p).run = some r) ∨ (c = false ∧ (n.go m p).run = some r) := by
  rw [go_tst] at h
  cases c <;> simp at h
  · exact .inr ⟨rfl, h⟩
  · exact .inl ⟨rfl, h⟩
theorem ask_some {β : Type} {x : Option β} {k : β → Eff α} {m : Mem} {p : FP} {r : α × Mem × FP} (h : ((Eff.ask x k).go m p).run = some r) : ∃ b, x = some b ∧ ((k b).go m p).run = some r := by
  cases x with
  | none => cases h
  | some b => exact ⟨b, rfl, h⟩
theorem ret_some {x : α} {m m' : Mem} {p p' : FP} {y : α} (h : ((Eff.ret x).go m p).run = some (y, m', p')) : x = y ∧ m = m' := by
  simp only [Eff.go, Pr.run] at h
  injection h with h
  injection h with h1 h2
  injection h2 with h2 _
  exact ⟨h1, h2⟩
theorem fail_some {m : Mem} {p : FP} {r : α × Mem × FP} (h : ((Eff.fail : Eff α).go m p).run = some r) : False := by cases h
theorem ite_some {c : Prop} [Decidable c] {y n : Eff α} {m : Mem} {p : FP} {r : α × Mem × FP} (h : ((if c then y else n).go m p).run = some r) : (c ∧ (y.go m p).run = some r) ∨ (¬ c ∧ (n.go m p).run = some r) := by
  split at h
  · rename_i hc; exact .inl ⟨hc, h⟩
  · rename_i hc; exact .inr ⟨hc, h⟩
end

/-! ### Single values -/
section
variable {w : World} {Fr : Nat → Prop} {m : Mem} {G : Nat → Value}
theorem one_int {k : IntKind} {n : Int} {v : Value} (h : repA w Fr m G (.val (.int k) n) .one [v]) : v = .int k n := by
  obtain ⟨v', e, hr⟩ := h
  injection e with e
  subst e
  injection (show [v] = [_] from hr)
theorem one_bool {b : Bool} {v : Value} (h : repA w Fr m G (.val .bool b) .one [v]) : v = .bool b := by
  obtain ⟨v', e, hr⟩ := h
  injection e with e
  subst e
  injection (show [v] = [_] from hr)
theorem one_str {s : List UInt8} {v : Value} (h : repA w Fr m G (.val .str s) .one [v]) : v = .string ⟨s.toArray⟩ := by
  obtain ⟨v', e, hr⟩ := h
  injection e with e
  subst e
  injection (show [v] = [_] from hr)
theorem mk_int (k : IntKind) (n : Int) : repA w Fr m G (.val (.int k) n) .one [.int k n] := ⟨_, rfl, rfl⟩
theorem mk_bool (b : Bool) : repA w Fr m G (.val .bool b) .one [.bool b] := ⟨_, rfl, rfl⟩
theorem mk_str (s : List UInt8) : repA w Fr m G (.val .str s) .one [.string ⟨s.toArray⟩] := ⟨_, rfl, rfl⟩
theorem one_val {t : Ty} {x : t.D} {v : Value} (h : repA w Fr m G (.val t x) .one [v]) : RepO w Fr t x v := by
  obtain ⟨v', e, hr⟩ := h
  injection e with e
  subst e
  exact hr
theorem mk_val {t : Ty} {x : t.D} {v : Value} (h : RepO w Fr t x v) : repA w Fr m G (.val t x) .one [v] := ⟨_, rfl, h⟩
theorem one_sl {t : Ty} {l : List t.D} {v : Value} (h : RepO w Fr (.sl t) l v) : ∃ A c cells, v = .slice A l.length c ∧ l.length ≤ c ∧ RepL (RepV w Fr t) l cells ∧ RowAt w Fr A cells := by
  obtain ⟨A, c, cells, e, h⟩ := (show RepV w Fr (.sl t) l [v] from h)
  injection e with e
  exact ⟨A, c, cells, e, h⟩
theorem mk_sl {t : Ty} {l : List t.D} {A : Option Addr} {c : Nat} {cells : List Value} (h1 : l.length ≤ c) (h2 : RepL (RepV w Fr t) l cells) (h3 : RowAt w Fr A cells) : RepO w Fr (.sl t) l (.slice A l.length c) :=
  ⟨A, c, cells, rfl, h1, h2, h3⟩
theorem one_s {a : AV} {v : Value} (ha : ∀ t x, a ≠ .val t x) (hu : a ≠ .undef) (h : repA w Fr m G a .one [v]) (hs : ∀ v', repA w Fr m G a .one [v'] → (∃ u, [v'] = [u] ∧ repS w Fr m G a u)) : repS w Fr m G a v := by
  obtain ⟨u, e, hr⟩ := hs v h
  injection e with e
  subst e
  exact hr
theorem one_own {b ve : Nat} {v : Value} (h : repA w Fr m G (.own b ve) .one [v]) : repS w Fr m G (.own b ve) v := by
  obtain ⟨u, e, hr⟩ := h
  injection e with e
  exact e ▸ hr
theorem one_sub {b ve lo n : Nat} {v : Value} (h : repA w Fr m G (.sub b ve lo n) .one [v]) : repS w Fr m G (.sub b ve lo n) v := by
  obtain ⟨u, e, hr⟩ := h
  injection e with e
  exact e ▸ hr
theorem one_ptr {b : Nat} {p : List Step} {v : Value} (h : repA w Fr m G (.ptr b p) .one [v]) : repS w Fr m G (.ptr b p) v := by
  obtain ⟨u, e, hr⟩ := h
  injection e with e
  exact e ▸ hr
theorem one_rptr {b ve i : Nat} {p : List Step} {v : Value} (h : repA w Fr m G (.rptr b ve i p) .one [v]) : repS w Fr m G (.rptr b ve i p) v := by
  obtain ⟨u, e, hr⟩ := h
  injection e with e
  exact e ▸ hr
theorem one_ref {t : Ty} {x : t.D} {v : Value} (h : repA w Fr m G (.ref t x) .one [v]) : repS w Fr m G (.ref t x) v := by
  obtain ⟨u, e, hr⟩ := h
  injection e with e
  exact e ▸ hr
theorem one_nn {t : Ty} {x : List t.D} {v : Value} (h : repA w Fr m G (.nn t x) .one [v]) : repS w Fr m G (.nn t x) v := by
  obtain ⟨u, e, hr⟩ := h
  injection e with e
  exact e ▸ hr
theorem one_nil {v : Value} (h : repA w Fr m G .nil .one [v]) : v = .slice none 0 0 := by
  obtain ⟨u, e, hr⟩ := h
  injection e with e
  exact e ▸ hr
theorem one_fn {f : FuncId} {a b : AV} {v : Value} (h : repA w Fr m G (.fn f a b) .one [v]) : ∃ x y, v = .func (.func f) x.toArray y.toArray ∧ repA w Fr m G a .chain x ∧ repA w Fr m G b .chain y := by
  obtain ⟨x, y, e, hr⟩ := h
  injection e with e
  exact ⟨x, y, e, hr⟩
theorem one_tp {l : AV} {v : Value} (h : repA w Fr m G (.tp l) .one [v]) : ∃ ws, v = .tuple ws.toArray ∧ repA w Fr m G l .chain ws := by
  obtain ⟨ws, e, hr⟩ := h
  injection e with e
  exact ⟨ws, e, hr⟩
end

/-! ### Typed values out of abstract ones -/
section
variable {B : Nat} {F : Nat → Prop} {w0 : World} {lim : Nat} {m : Mem} {G : Nat → Value} {w : World}

/-- The blocks that a typed value may lead to: where its rows have been frozen those that stay; else all. -/
def Reach (z : Bool) (B : Nat) (F : Nat → Prop) (m : Mem) (G : Nat → Value) (w : World) : Nat → Prop := fun k => if z = true then Frz B F m G w k else k < w.heap.size

theorem Frz.lt (hB : B ≤ w.heap.size) {k : Nat} (h : Frz B F m G w k) : k < w.heap.size := by
  exact h.2.1

theorem Reach.of_frz (z : Bool) (hB : B ≤ w.heap.size) {k : Nat} (h : Frz B F m G w k) : Reach z B F m G w k := by
  unfold Reach
  split
  · exact h
  · exact h.lt hB

theorem Reach.mono {m' : Mem} (z : Bool) (ht : Tr B F m G w m' G w) {k : Nat} (h : Reach z B F m G w k) : Reach z B F m' G w k := by
  unfold Reach at *
  split at h
  · rename_i hz; rw [if_pos hz]; exact (ht.fr k h).1
  · rename_i hz; rw [if_neg hz]; exact h

/-- The cells of a live row. -/
theorem row_cells (h : MemOk B F w0 lim m G w) {b : Nat} {e : TypeId} {t : Ty} {xs : List t.D} {v : Nat} {z : Bool} (hm : m b = some (.row e t xs v, z)) :
    ∃ A c cells, G b = .slice A xs.length c ∧ xs.length ≤ c ∧ RepL (RepV w (Frz B F m G w) t) xs cells ∧ (cells = [] ∨ ∃ g, A = some ⟨g, 0, none⟩ ∧ hdNo (G b) = some g ∧ ∀ j u, cells[j]? = some u → w.cell? ⟨g, j, none⟩ = some u) := by
  obtain ⟨cells, h1, h2, h3⟩ := h.blk _ _ _ hm
  rcases h1.2 with ⟨h4, h5⟩ | ⟨g, cap, cur, h4, h5, h6, h7, h8, h9, h10⟩
  · have hx : cells = [] := List.eq_nil_of_length_eq_zero (by rw [h1.1, h5]; simp)
    exact ⟨none, 0, cells, by rw [h4, h5], by omega, h2, .inl hx⟩
  · refine ⟨some ⟨g, 0, none⟩, cap, cells, h4, h7, h2, .inr ⟨g, rfl, by rw [h4]; rfl, fun j u hu => ?_⟩⟩
    have := h1.cells (g := g) (by rw [h4]; rfl) j u hu
    rwa [add_zero_off] at this

theorem toVal_cells (z : Bool) {β : Type} : ∀ {t : Ty} {a : AV} {k : t.D → Eff β} {m : Mem} {p : FP} {r : β × Mem × FP} {cs : List Value}, ((toVal z t a k).go m p).run = some r → MemOk B F w0 lim m G w →
    repA w (Frz B F m G w) m G a .cells cs → ∃ x m1 p1, ((k x).go m1 p1).run = some r ∧ MemOk B F w0 lim m1 G w ∧ Tr B F m G w m1 G w ∧ RepV w (Reach z B F m1 G w) t x cs
  | t, .val u y, k, m, p, r, cs, h, hm, hr => by
    have h' : ((Eff.opt (Ty.cast (t := u) (u := t) y) k).go m p).run = some r := by cases t <;> exact h
    obtain ⟨x, hx, hk⟩ := opt_some h'
    obtain ⟨e, hxy⟩ := cast_rep hx
    subst e
    cases hxy
    exact ⟨_, m, p, hk, hm, Tr.refl .., RepV.mono (fun k hk => ⟨Reach.of_frz z hm.base hk, rfl⟩) _ _ _ hr⟩
  | .sl t, .nn u xs, k, m, p, r, cs, h, hm, hr => by
    obtain ⟨x, hx, hk⟩ := opt_some (show ((Eff.opt (Ty.cast (t := .sl u) (u := .sl t) xs) k).go m p).run = some r from h)
    obtain ⟨e, hxy⟩ := cast_rep hx
    injection e with e
    subst e
    cases hxy
    obtain ⟨v, e, h1, h2⟩ := hr
    subst e
    exact ⟨_, m, p, hk, hm, Tr.refl .., RepV.mono (fun k hk => ⟨Reach.of_frz z hm.base hk, rfl⟩) _ _ _ h1⟩
  | .sl t, .nil, k, m, p, r, cs, h, hm, hr => by
    obtain ⟨v, e, h1⟩ := hr
    subst e
    refine ⟨[], m, p, h, hm, Tr.refl .., none, 0, [], ?_, Nat.le_refl _, rfl, .inl rfl⟩
    rw [show v = Value.slice none 0 0 from h1]
    rfl
  | .sl t, .own b v, k, m, p, r, cs, h, hm, hr => by
    obtain ⟨c, z0, hc, h⟩ := rd_some h
    cases c with
    | var => exact (fail_some h).elim
    | row e u xs v' =>
      obtain ⟨cv, ecs, h1, e1, t1, xs1, v1, z1, h2, h3, h4⟩ := hr
      subst ecs
      rw [hc] at h2
      injection h2 with h2
      injection h2 with h2 h2'
      injection h2 with q1 q2 q3 q4
      subst q1; subst q2; subst q4; subst h2'
      cases q3
      rcases ite_some h with ⟨hv, h⟩ | ⟨_, h⟩
      · obtain ⟨ys, hy, h⟩ := opt_some h
        obtain ⟨e, hxy⟩ := cast_rep hy
        injection e with e
        subst e
        cases hxy
        have hcv := h4 hv
        subst hcv
        obtain ⟨A, c, cells, g1, g2, g3, g4⟩ := row_cells hm hc
        cases z with
        | true =>
          obtain ⟨c', z', hc', h⟩ := fz_some h
          rw [hc] at hc'
          injection hc' with hc'
          injection hc' with hc' _
          subst hc'
          obtain ⟨hm1, ht1⟩ := hm.freeze hc
          refine ⟨_, _, _, h, hm1, ht1, A, c, cells, by rw [g1], g2, g3.mono fun x cs hx => RepV.mono (fun k hk => ⟨(ht1.fr k hk).1, rfl⟩) _ _ _ hx, ?_⟩
          rcases g4 with g4 | ⟨g, g5, g6, g7⟩
          · exact .inl g4
          · exact .inr ⟨_, g5, hm1.frz_live (b := b) (c := .row e u xs v') (by simp [Mem.set]) g6, fun j u hu => by rw [add_zero_off]; exact g7 j u hu⟩
        | false =>
          refine ⟨_, _, _, h, hm, Tr.refl .., A, c, cells, by rw [g1], g2, g3.mono fun x cs hx => RepV.mono (fun k hk => ⟨Frz.lt hm.base hk, rfl⟩) _ _ _ hx, ?_⟩
          rcases g4 with g4 | ⟨g, g5, g6, g7⟩
          · exact .inl g4
          · exact .inr ⟨_, g5, ((hm.blk _ _ _ hc).no g6).2, fun j u hu => by rw [add_zero_off]; exact g7 j u hu⟩
      · exact (fail_some h).elim
  | .sl t, .sub b v lo n, k, m, p, r, cs, h, hm, hr => by
    obtain ⟨c, z0, hc, h⟩ := rd_some h
    cases c with
    | var => exact (fail_some h).elim
    | row e u xs v' =>
      obtain ⟨cv, ecs, h1, e1, t1, xs1, v1, z1, h2, h3, h4⟩ := hr
      subst ecs
      rw [hc] at h2
      injection h2 with h2
      injection h2 with h2 h2'
      injection h2 with q1 q2 q3 q4
      subst q1; subst q2; subst q4; subst h2'
      cases q3
      rcases ite_some h with ⟨hv, h⟩ | ⟨_, h⟩
      · obtain ⟨ys, hy, h⟩ := opt_some h
        obtain ⟨e, hxy⟩ := cast_rep hy
        injection e with e
        subst e
        cases hxy
        obtain ⟨q1, A', c', q2, q3, q4⟩ := h4 hv
        subst q2
        obtain ⟨A, c, cells, g1, g2, g3, g4⟩ := row_cells hm hc
        have hlen : ((xs.drop lo).take n).length = n := by rw [List.length_take, List.length_drop]; omega
        have hl := fun x cs => RepV.length (w := w) (Fr := Frz B F m G w) u x cs
        have hcl := (g3.drop hl lo).take hl n
        have at_ : (List.take (n * u.size) (List.drop (lo * u.size) cells)) = [] ∨ ∃ g, A' = some ⟨g, lo * u.size, none⟩ ∧ hdNo (G b) = some g ∧ ∀ j x, (List.take (n * u.size) (List.drop (lo * u.size) cells))[j]? = some x → w.cell? ((⟨g, lo * u.size, none⟩ : Addr).add j) = some x := by
          by_cases h0 : n = 0
          · left; simp [h0]
          · obtain ⟨g, nn, cap, s1, s2⟩ := q4 h0
            rcases g4 with g4 | ⟨g', g5, g6, g7⟩
            · left; simp [g4]
            · right
              rw [s1] at g6
              simp [hdNo] at g6
              subst g6
              refine ⟨g, s2, by rw [s1]; rfl, fun j x hx => ?_⟩
              rw [add_off]
              refine g7 _ x ?_
              rw [List.getElem?_take] at hx
              split at hx
              · rwa [List.getElem?_drop] at hx
              · cases hx
        cases z with
        | true =>
          obtain ⟨c'', z', hc', h⟩ := fz_some h
          rw [hc] at hc'
          injection hc' with hc'
          injection hc' with hc' _
          subst hc'
          obtain ⟨hm1, ht1⟩ := hm.freeze hc
          refine ⟨_, _, _, h, hm1, ht1, A', c', _, by rw [hlen], by rw [hlen]; exact q3, hcl.mono fun x cs hx => RepV.mono (fun k hk => ⟨(ht1.fr k hk).1, rfl⟩) _ _ _ hx, ?_⟩
          rcases at_ with g4 | ⟨g, g5, g6, g7⟩
          · exact .inl g4
          · exact .inr ⟨_, g5, hm1.frz_live (b := b) (c := .row e u xs v') (by simp [Mem.set]) g6, g7⟩
        | false =>
          refine ⟨_, _, _, h, hm, Tr.refl .., A', c', _, by rw [hlen], by rw [hlen]; exact q3, hcl.mono fun x cs hx => RepV.mono (fun k hk => ⟨Frz.lt hm.base hk, rfl⟩) _ _ _ hx, ?_⟩
          rcases at_ with g4 | ⟨g, g5, g6, g7⟩
          · exact .inl g4
          · exact .inr ⟨_, g5, ((hm.blk _ _ _ hc).no g6).2, g7⟩
      · exact (fail_some h).elim
  | .pair a b, .pr x y, k, m, p, r, cs, h, hm, hr => by
    obtain ⟨c1, c2, e, h1, h2⟩ := hr
    obtain ⟨u, m1, p1, hk, hm1, ht1, hu⟩ := toVal_cells z (t := a) h hm h1
    obtain ⟨v, m2, p2, hk, hm2, ht2, hv⟩ := toVal_cells z (t := b) hk hm1 (repA.mono ht1 _ _ _ h2)
    exact ⟨(u, v), m2, p2, hk, hm2, ht1.trans ht2, c1, c2, e, RepV.mono (fun k hk => ⟨Reach.mono z ht2 hk, rfl⟩) _ _ _ hu, hv⟩
  | .unit, .un, k, m, p, r, cs, h, hm, hr => ⟨(), m, p, h, hm, Tr.refl .., hr⟩
  | .int _, .nn .., _, _, _, _, _, h, _, _ | .int _, .nil, _, _, _, _, _, h, _, _ | .int _, .nptr, _, _, _, _, _, h, _, _ | .int _, .ptr .., _, _, _, _, _, h, _, _ | .int _, .rptr .., _, _, _, _, _, h, _, _
  | .int _, .ref .., _, _, _, _, _, h, _, _ | .int _, .own .., _, _, _, _, _, h, _, _ | .int _, .sub .., _, _, _, _, _, h, _, _ | .int _, .pr .., _, _, _, _, _, h, _, _ | .int _, .un, _, _, _, _, _, h, _, _
  | .int _, .tp _, _, _, _, _, _, h, _, _ | .int _, .fn .., _, _, _, _, _, h, _, _ | .int _, .undef, _, _, _, _, _, h, _, _ => (fail_some h).elim
  | .bool, .nn .., _, _, _, _, _, h, _, _ | .bool, .nil, _, _, _, _, _, h, _, _ | .bool, .nptr, _, _, _, _, _, h, _, _ | .bool, .ptr .., _, _, _, _, _, h, _, _ | .bool, .rptr .., _, _, _, _, _, h, _, _
  | .bool, .ref .., _, _, _, _, _, h, _, _ | .bool, .own .., _, _, _, _, _, h, _, _ | .bool, .sub .., _, _, _, _, _, h, _, _ | .bool, .pr .., _, _, _, _, _, h, _, _ | .bool, .un, _, _, _, _, _, h, _, _
  | .bool, .tp _, _, _, _, _, _, h, _, _ | .bool, .fn .., _, _, _, _, _, h, _, _ | .bool, .undef, _, _, _, _, _, h, _, _ => (fail_some h).elim
  | .str, .nn .., _, _, _, _, _, h, _, _ | .str, .nil, _, _, _, _, _, h, _, _ | .str, .nptr, _, _, _, _, _, h, _, _ | .str, .ptr .., _, _, _, _, _, h, _, _ | .str, .rptr .., _, _, _, _, _, h, _, _
  | .str, .ref .., _, _, _, _, _, h, _, _ | .str, .own .., _, _, _, _, _, h, _, _ | .str, .sub .., _, _, _, _, _, h, _, _ | .str, .pr .., _, _, _, _, _, h, _, _ | .str, .un, _, _, _, _, _, h, _, _
  | .str, .tp _, _, _, _, _, _, h, _, _ | .str, .fn .., _, _, _, _, _, h, _, _ | .str, .undef, _, _, _, _, _, h, _, _ => (fail_some h).elim
  | .opq, .nn .., _, _, _, _, _, h, _, _ | .opq, .nil, _, _, _, _, _, h, _, _ | .opq, .nptr, _, _, _, _, _, h, _, _ | .opq, .ptr .., _, _, _, _, _, h, _, _ | .opq, .rptr .., _, _, _, _, _, h, _, _
  | .opq, .ref .., _, _, _, _, _, h, _, _ | .opq, .own .., _, _, _, _, _, h, _, _ | .opq, .sub .., _, _, _, _, _, h, _, _ | .opq, .pr .., _, _, _, _, _, h, _, _ | .opq, .un, _, _, _, _, _, h, _, _
  | .opq, .tp _, _, _, _, _, _, h, _, _ | .opq, .fn .., _, _, _, _, _, h, _, _ | .opq, .undef, _, _, _, _, _, h, _, _ => (fail_some h).elim
  | .arr .., .nn .., _, _, _, _, _, h, _, _ | .arr .., .nil, _, _, _, _, _, h, _, _ | .arr .., .nptr, _, _, _, _, _, h, _, _ | .arr .., .ptr .., _, _, _, _, _, h, _, _ | .arr .., .rptr .., _, _, _, _, _, h, _, _
  | .arr .., .ref .., _, _, _, _, _, h, _, _ | .arr .., .own .., _, _, _, _, _, h, _, _ | .arr .., .sub .., _, _, _, _, _, h, _, _ | .arr .., .pr .., _, _, _, _, _, h, _, _ | .arr .., .un, _, _, _, _, _, h, _, _
  | .arr .., .tp _, _, _, _, _, _, h, _, _ | .arr .., .fn .., _, _, _, _, _, h, _, _ | .arr .., .undef, _, _, _, _, _, h, _, _ => (fail_some h).elim
  | .unit, .nn .., _, _, _, _, _, h, _, _ | .unit, .nil, _, _, _, _, _, h, _, _ | .unit, .nptr, _, _, _, _, _, h, _, _ | .unit, .ptr .., _, _, _, _, _, h, _, _ | .unit, .rptr .., _, _, _, _, _, h, _, _
  | .unit, .ref .., _, _, _, _, _, h, _, _ | .unit, .own .., _, _, _, _, _, h, _, _ | .unit, .sub .., _, _, _, _, _, h, _, _ | .unit, .pr .., _, _, _, _, _, h, _, _
  | .unit, .tp _, _, _, _, _, _, h, _, _ | .unit, .fn .., _, _, _, _, _, h, _, _ | .unit, .undef, _, _, _, _, _, h, _, _ => (fail_some h).elim
  | .pair .., .nn .., _, _, _, _, _, h, _, _ | .pair .., .nil, _, _, _, _, _, h, _, _ | .pair .., .nptr, _, _, _, _, _, h, _, _ | .pair .., .ptr .., _, _, _, _, _, h, _, _ | .pair .., .rptr .., _, _, _, _, _, h, _, _
  | .pair .., .ref .., _, _, _, _, _, h, _, _ | .pair .., .own .., _, _, _, _, _, h, _, _ | .pair .., .sub .., _, _, _, _, _, h, _, _ | .pair .., .un, _, _, _, _, _, h, _, _
  | .pair .., .tp _, _, _, _, _, _, h, _, _ | .pair .., .fn .., _, _, _, _, _, h, _, _ | .pair .., .undef, _, _, _, _, _, h, _, _ => (fail_some h).elim
  | .sl _, .nptr, _, _, _, _, _, h, _, _ | .sl _, .ptr .., _, _, _, _, _, h, _, _ | .sl _, .rptr .., _, _, _, _, _, h, _, _ | .sl _, .ref .., _, _, _, _, _, h, _, _ | .sl _, .pr .., _, _, _, _, _, h, _, _
  | .sl _, .un, _, _, _, _, _, h, _, _ | .sl _, .tp _, _, _, _, _, _, h, _, _ | .sl _, .fn .., _, _, _, _, _, h, _, _ | .sl _, .undef, _, _, _, _, _, h, _, _ => (fail_some h).elim

theorem toVal_solid (z : Bool) {β : Type} : ∀ {t : Ty} {a : AV} {k : t.D → Eff β} {m : Mem} {p : FP} {r : β × Mem × FP}, ((toVal z t a k).go m p).run = some r → (∃ u x, a = .val u x ∧ t = u) ∨ (t.agg = true ∧ ((∃ x y, a = .pr x y) ∨ a = .un)) ∨
    (t.agg = false ∧ ((∃ u xs, a = .nn u xs) ∨ a = .nil ∨ (∃ b v, a = .own b v) ∨ (∃ b v lo n, a = .sub b v lo n))) := by
  intro t a k m p r h
  cases a with
  | val u y =>
    have h' : ((Eff.opt (Ty.cast (t := u) (u := t) y) k).go m p).run = some r := by cases t <;> exact h
    obtain ⟨x, hx, _⟩ := opt_some h'
    exact .inl ⟨u, y, rfl, (cast_rep hx).1.symm⟩
  | _ => cases t <;> first | exact (fail_some h).elim | (refine .inr (.inl ⟨rfl, ?_⟩); simp; done) | (refine .inr (.inr ⟨rfl, ?_⟩); simp; done)

theorem toVal_one (z : Bool) {β : Type} {t : Ty} {a : AV} {k : t.D → Eff β} {p : FP} {r : β × Mem × FP} {v : Value} (h : ((toVal z t a k).go m p).run = some r) (hm : MemOk B F w0 lim m G w)
    (hr : repA w (Frz B F m G w) m G a .one [v]) : ∃ x m1 p1, ((k x).go m1 p1).run = some r ∧ MemOk B F w0 lim m1 G w ∧ Tr B F m G w m1 G w ∧ RepO w (Reach z B F m1 G w) t x v := by
  have hs := toVal_solid z h
  rcases hs with ⟨u, x, rfl, rfl⟩ | ⟨ha, hs⟩ | ⟨ha, hs⟩
  · have h' : ((Eff.opt (Ty.cast (t := t) (u := t) x) k).go m p).run = some r := by cases t <;> exact h
    obtain ⟨y, hy, hk⟩ := opt_some h'
    obtain ⟨_, hxy⟩ := cast_rep hy
    cases hxy
    exact ⟨_, m, p, hk, hm, Tr.refl .., (one_val hr).mono fun k hk => ⟨Reach.of_frz z hm.base hk, rfl⟩⟩
  · have hc : ∃ cs : List Value, v = .agg cs.toArray ∧ repA w (Frz B F m G w) m G a .cells cs := by
      rcases hs with ⟨x, y, rfl⟩ | rfl
      · obtain ⟨c1, c2, e, h1, h2⟩ := hr
        injection e with e
        exact ⟨_, e, c1, c2, rfl, h1, h2⟩
      · injection (show [v] = [_] from hr) with e
        exact ⟨[], e, rfl⟩
    obtain ⟨cs, e, hc⟩ := hc
    obtain ⟨x, m1, p1, h1, h2, h3, h4⟩ := toVal_cells z h hm hc
    refine ⟨x, m1, p1, h1, h2, h3, ?_⟩
    unfold RepO
    rw [if_pos ha]
    exact ⟨cs, e, h4⟩
  · have hc : repA w (Frz B F m G w) m G a .cells [v] := by
      rcases hs with ⟨u, xs, rfl⟩ | rfl | ⟨b, v, rfl⟩ | ⟨b, v, lo, n, rfl⟩ <;> exact hr
    obtain ⟨x, m1, p1, h1, h2, h3, h4⟩ := toVal_cells z h hm hc
    refine ⟨x, m1, p1, h1, h2, h3, ?_⟩
    unfold RepO
    rw [if_neg (by simp [ha])]
    exact h4
end
end Go.Refl
/-
  Operations without memory of their own: numbers, tests, places, parts; loads and stores; new variables.
-/
set_option linter.unusedVariables false
set_option linter.unusedSimpArgs false
namespace Go.Refl
open Go Go.RowKit

section
variable (P : Program) (B : Nat) (F : Nat → Prop) (w0 : World) (lim : Nat) (m : Mem) (G : Nat → Value) (w : World)
/-- What an action of the machine comes to, as the abstract run says. -/
def Out (s : Sem Value) (m' : Mem) (av : AV) : Prop :=
  ∃ G' w' cv, s.run P w = .ok cv w' ∧ MemOk B F w0 lim m' G' w' ∧ Tr B F m G w m' G' w' ∧ repA w' (Frz B F m' G' w') m' G' av .one [cv]
end

section
variable {P : Program} {T : List (TypeId × TI)} {B : Nat} {F : Nat → Prop} {w0 : World} {lim : Nat} {m m' : Mem} {G : Nat → Value} {w : World} {p p' : FP} {av : AV}

theorem out_pure {s : Sem Value} {cv : Value} (hr : s.run P w = .ok cv w) (hm : MemOk B F w0 lim m G w) (hv : repA w (Frz B F m G w) m G av .one [cv]) : Out P B F w0 lim m G w s m av :=
  ⟨G, w, cv, hr, hm, Tr.refl .., hv⟩


/-! ### Numbers -/
theorem intOp_out (hm : MemOk B F w0 lim m G w) {op : BinOp} {k : IntKind} {a b : Int} (hop : op ≠ .shl ∧ op ≠ .shr) (t : TypeId) (h : ((intOp op k a b).go m p).run = some (av, m', p')) :
    m' = m ∧ Out P B F w0 lim m G w (binOp op t (.int k a) (.int k b)) m' av := by
  cases op <;> simp only [intOp, bitop] at h
  case shl => exact (hop.1 rfl).elim
  case shr => exact (hop.2 rfl).elim
  case quo =>
    replace h := tst_some h; rcases h with ⟨_, h⟩ | ⟨hc, h⟩
    · exact (fail_some h).elim
    · obtain ⟨h1, h2⟩ := ret_some h
      subst h1; subst h2
      have hb : ¬ b = 0 := by simpa using hc
      exact ⟨rfl, out_pure (cv := .int k (k.wrap (a.tdiv b))) (by simp [binOp, Op.intDiv, hb]) hm (mk_int ..)⟩
  case rem =>
    replace h := tst_some h; rcases h with ⟨_, h⟩ | ⟨hc, h⟩
    · exact (fail_some h).elim
    · obtain ⟨h1, h2⟩ := ret_some h
      subst h1; subst h2
      have hb : ¬ b = 0 := by simpa using hc
      exact ⟨rfl, out_pure (cv := .int k (a.tmod b)) (by simp [binOp, Op.intDiv, hb]) hm (mk_int ..)⟩
  all_goals
    try simp only [Eff.opt] at h
    first
      | exact (fail_some h).elim
      | skip
    obtain ⟨h1, h2⟩ := ret_some h
    subst h1; subst h2
    refine ⟨rfl, ?_⟩
    first
      | exact out_pure (by simp only [binOp, ne_eq, not_true_eq_false, ite_false] <;> rfl) hm (mk_int ..)
      | exact out_pure (by simp only [binOp, ne_eq, not_true_eq_false, ite_false] <;> rfl) hm (mk_bool ..)

theorem eqGuard_nop {op : BinOp} {t : TypeId} {x y : Operand} {a b : Value} (h : (a ≠ .nilIface) ∧ ∀ c, a ≠ .agg c) : (eqGuard op t x y a b).run P w = .ok () w := by
  cases op <;> first
    | rfl
    | (cases a <;> first | rfl | exact (h.1 rfl).elim | exact (h.2 _ rfl).elim)

theorem equal_bool {t : TypeId} (hu : P.underlying t = some .bool) (a b : Bool) : (Op.equal t (.bool a) (.bool b)).run P w = .ok (a == b) w := by
  unfold Op.equal
  obtain ⟨d, hd⟩ : ∃ d, Op.maxDepth = d + 1 := ⟨9999, rfl⟩
  rw [hd]
  simp only [Op.equalIn, Sem.run_bind, run_underlying hu, Result.andThen_ok, Sem.run_pure]
theorem equal_nil {t e : TypeId} (hu : P.underlying t = some (.slice e)) (b : Option Addr) (n c : Nat) : (Op.equal t (.slice none 0 0) (.slice b n c)).run P w = .ok b.isNone w := by
  unfold Op.equal
  obtain ⟨d, hd⟩ : ∃ d, Op.maxDepth = d + 1 := ⟨9999, rfl⟩
  rw [hd]
  simp only [Op.equalIn, Sem.run_bind, run_underlying hu, Result.andThen_ok, Sem.run_pure]
theorem equal_nn {t e : TypeId} (hu : P.underlying t = some (.slice e)) (b : Addr) (n c : Nat) : (Op.equal t (.slice (some b) n c) (.slice none 0 0)).run P w = .ok false w := by
  unfold Op.equal
  obtain ⟨d, hd⟩ : ∃ d, Op.maxDepth = d + 1 := ⟨9999, rfl⟩
  rw [hd]
  simp only [Op.equalIn, Sem.run_bind, run_underlying hu, Result.andThen_ok, Sem.run_pure]

theorem binop_out {cx : Cx} (hT : typesChk P cx.types = true) (hm : MemOk B F w0 lim m G w) {op : BinOp} {t : TypeId} {x y : AV} {ox oy : Operand} {u v : Value} (hx : repA w (Frz B F m G w) m G x .one [u]) (hy : repA w (Frz B F m G w) m G y .one [v])
    (h : ((binop cx op t x y).go m p).run = some (av, m', p')) : m' = m ∧ Out P B F w0 lim m G w (do eqGuard op t ox oy u v; binOp op t u v) m' av := by
  unfold binop at h
  split at h
  · rename_i k a k' b
    have e1 := one_int hx
    have e2 := one_int hy
    subst e1; subst e2
    have hg : (eqGuard op t ox oy (.int k a) (.int k' b)).run P w = .ok () w := eqGuard_nop ⟨by simp, by simp⟩
    have key : ∀ {m' av}, Out P B F w0 lim m G w (binOp op t (.int k a) (.int k' b)) m' av → Out P B F w0 lim m G w (do eqGuard op t ox oy (.int k a) (.int k' b); binOp op t (.int k a) (.int k' b)) m' av := by
      rintro m' av ⟨G', w', cv, h1, h2⟩
      exact ⟨G', w', cv, by simp only [Sem.run_bind, hg, Result.andThen_ok]; exact h1, h2⟩
    split at h
    · replace h := tst_some h; rcases h with ⟨_, h⟩ | ⟨hc, h⟩
      · exact (fail_some h).elim
      · obtain ⟨h1, h2⟩ := ret_some h
        subst h1; subst h2
        have hb : ¬ b < 0 := by simpa using hc
        exact ⟨rfl, key (out_pure (by simp only [binOp, Op.shift, if_neg hb] <;> rfl) hm (mk_int ..))⟩
    · replace h := tst_some h; rcases h with ⟨_, h⟩ | ⟨hc, h⟩
      · exact (fail_some h).elim
      · obtain ⟨h1, h2⟩ := ret_some h
        subst h1; subst h2
        have hb : ¬ b < 0 := by simpa using hc
        exact ⟨rfl, key (out_pure (by simp only [binOp, Op.shift, if_neg hb] <;> rfl) hm (mk_int ..))⟩
    · rename_i n1 n2
      replace h := ite_some h; rcases h with ⟨hk, h⟩ | ⟨_, h⟩
      · subst hk
        obtain ⟨h1, h2⟩ := intOp_out hm ⟨n1, n2⟩ t h
        exact ⟨h1, key h2⟩
      · exact (fail_some h).elim
  · rename_i a b
    have e1 := one_bool hx
    have e2 := one_bool hy
    subst e1; subst e2
    have hg : (eqGuard op t ox oy (.bool a) (.bool b)).run P w = .ok () w := eqGuard_nop ⟨by simp, by simp⟩
    split at h <;> first | exact (fail_some h).elim | skip
    all_goals
      rename_i e1 e2 htt
      obtain ⟨h1, h2⟩ := ret_some h
      subst h1; subst h2
      have hu := (tyFact_of hT htt).bool
      exact ⟨rfl, out_pure (by simp only [Sem.run_bind, hg, Result.andThen_ok]; simp only [binOp, Sem.run_bind, equal_bool hu, Result.andThen_ok] <;> rfl) hm (mk_bool ..)⟩
  · rename_i a b
    have e1 := one_str hx
    have e2 := one_str hy
    subst e1; subst e2
    have hg : (eqGuard op t ox oy (.string ⟨a.toArray⟩) (.string ⟨b.toArray⟩)).run P w = .ok () w := eqGuard_nop ⟨by simp, by simp⟩
    have hl : ∀ l : List UInt8, (⟨l.toArray⟩ : ByteArray).toList = l := by
      intro l
      exact ByteArray.toList_mk l
    unfold strOp at h
    split at h
    · replace h := tst_some h; rcases h with ⟨hc, h⟩ | ⟨hc, h⟩
      · obtain ⟨h1, h2⟩ := ret_some h
        subst h1; subst h2
        have hc' : a.length + b.length ≤ 9223372036854775807 := by simpa using hc
        refine ⟨rfl, out_pure (cv := .string (⟨a.toArray⟩ ++ ⟨b.toArray⟩)) ?_ hm ?_⟩
        · simp only [Sem.run_bind, hg, Result.andThen_ok]
          have : ¬ (((⟨a.toArray⟩ : ByteArray).size + (⟨b.toArray⟩ : ByteArray).size : Nat) : Int) > IntKind.i64.max := by
            have h1 : (⟨a.toArray⟩ : ByteArray).size = a.length := by simp [ByteArray.size]
            have h2 : (⟨b.toArray⟩ : ByteArray).size = b.length := by simp [ByteArray.size]
            have : IntKind.i64.max = 9223372036854775807 := by decide
            rw [h1, h2, this]
            omega
          simp only [binOp, Op.stringOp, if_neg this]
          rfl
        · have : ((⟨a.toArray⟩ : ByteArray) ++ ⟨b.toArray⟩) = ⟨(a ++ b).toArray⟩ := by
            apply ByteArray.ext
            simp
          rw [this]
          exact mk_str _
      · exact (fail_some h).elim
    · obtain ⟨h1, h2⟩ := ret_some h
      subst h1; subst h2
      exact ⟨rfl, out_pure (by simp only [Sem.run_bind, hg, Result.andThen_ok]; simp [binOp, Op.stringOp, hl] <;> rfl) hm (mk_bool ..)⟩
    · obtain ⟨h1, h2⟩ := ret_some h
      subst h1; subst h2
      exact ⟨rfl, out_pure (by simp only [Sem.run_bind, hg, Result.andThen_ok]; simp [binOp, Op.stringOp, hl] <;> rfl) hm (mk_bool ..)⟩
    · exact (fail_some h).elim
  · have e1 := one_nil hx
    have e2 := one_nil hy
    subst e1; subst e2
    have hg : (eqGuard op t ox oy (.slice none 0 0) (.slice none 0 0)).run P w = .ok () w := eqGuard_nop ⟨by simp, by simp⟩
    split at h <;> first | exact (fail_some h).elim | skip
    all_goals
      rename_i e1 e2 e3 htt
      obtain ⟨h1, h2⟩ := ret_some h
      subst h1; subst h2
      have hu := (tyFact_of hT htt).sl.1
      exact ⟨rfl, out_pure (by simp only [Sem.run_bind, hg, Result.andThen_ok]; simp only [binOp, Sem.run_bind, equal_nil hu, equal_nn hu, Result.andThen_ok] <;> rfl) hm (mk_bool ..)⟩
  · obtain ⟨_, ad, n, c, e1⟩ := one_nn hx
    have e2 := one_nil hy
    subst e1; subst e2
    have hg : (eqGuard op t ox oy (.slice (some ad) n c) (.slice none 0 0)).run P w = .ok () w := eqGuard_nop ⟨by simp, by simp⟩
    split at h <;> first | exact (fail_some h).elim | skip
    all_goals
      rename_i e1 e2 e3 htt
      obtain ⟨h1, h2⟩ := ret_some h
      subst h1; subst h2
      have hu := (tyFact_of hT htt).sl.1
      exact ⟨rfl, out_pure (by simp only [Sem.run_bind, hg, Result.andThen_ok]; simp only [binOp, Sem.run_bind, equal_nil hu, equal_nn hu, Result.andThen_ok] <;> rfl) hm (mk_bool ..)⟩
  · exact (fail_some h).elim

theorem unop_out (hm : MemOk B F w0 lim m G w) {op : UnOp} {x : AV} {u : Value} (hx : repA w (Frz B F m G w) m G x .one [u]) (h : ((unop op x).go m p).run = some (av, m', p')) : m' = m ∧ Out P B F w0 lim m G w (Op.unary op u) m' av := by
  unfold unop at h
  split at h
  · have e1 := one_int hx
    subst e1
    obtain ⟨h1, h2⟩ := ret_some h
    subst h1; subst h2
    exact ⟨rfl, out_pure (by simp [Op.unary, Op.intArith] <;> rfl) hm (mk_int ..)⟩
  · have e1 := one_int hx
    subst e1
    simp only [bitop, Eff.opt] at h
    obtain ⟨h1, h2⟩ := ret_some h
    subst h1; subst h2
    exact ⟨rfl, out_pure (by simp [Op.unary, Op.intBits] <;> rfl) hm (mk_int ..)⟩
  · have e1 := one_bool hx
    subst e1
    obtain ⟨h1, h2⟩ := ret_some h
    subst h1; subst h2
    exact ⟨rfl, out_pure (by simp [Op.unary] <;> rfl) hm (mk_bool ..)⟩
  · exact (fail_some h).elim

theorem convOp_out {cx : Cx} (hT : typesChk P cx.types = true) (hm : MemOk B F w0 lim m G w) {src dst : TypeId} {x : AV} {u : Value} (hx : repA w (Frz B F m G w) m G x .one [u]) (h : ((convOp cx src dst x).go m p).run = some (av, m', p')) :
    m' = m ∧ Out P B F w0 lim m G w (convert src dst u) m' av := by
  unfold convOp at h
  split at h
  · rename_i hs hd
    have e1 := one_int hx
    subst e1
    obtain ⟨h1, h2⟩ := ret_some h
    subst h1; subst h2
    have us := (tyFact_of hT hs).int
    have ud := (tyFact_of hT hd).int
    exact ⟨rfl, out_pure (by simp [convert, run_underlying us, run_underlying ud, Conv.intToInt] <;> rfl) hm (mk_int ..)⟩
  · exact (fail_some h).elim

/-! ### Places -/
theorem inRange_some {i : AV} {n : Nat} {k : Nat → Eff AV} {u : Value} (hi : repA w (Frz B F m G w) m G i .one [u]) (h : ((inRange i n k).go m p).run = some (av, m', p')) :
    ∃ kk j, u = .int kk j ∧ 0 ≤ j ∧ j.toNat < n ∧ j < (n : Int) ∧ ((k j.toNat).go m p).run = some (av, m', p') := by
  unfold inRange at h
  split at h
  · rename_i kk j
    have e1 := one_int hi
    subst e1
    replace h := tst_some h; rcases h with ⟨hc, h⟩ | ⟨_, h⟩
    · simp only [Bool.and_eq_true, decide_eq_true_eq] at hc
      exact ⟨kk, j, rfl, hc.1, (Int.toNat_lt hc.1).2 hc.2, hc.2, h⟩
    · exact (fail_some h).elim
  · exact (fail_some h).elim

theorem rowAt_elem {Fr : Nat → Prop} {A : Option Addr} {cells : List Value} {i n : Nat} (hr : RowAt w Fr A cells) (hn : 0 < n) (hl : i * n + n ≤ cells.length) :
    ∃ ad, A = some ad ∧ Fr ad.block ∧ ∀ j u, (piece cells (i * n) n)[j]? = some u → w.cell? ((ad.add (i * n)).add j) = some u := by
  rcases hr with hr | ⟨ad, e, hf, hc⟩
  · rw [hr, List.length_nil] at hl
    exact (Nat.not_succ_le_zero _ (Nat.le_trans hn (Nat.le_trans (Nat.le_add_left n (i * n)) hl))).elim
  · refine ⟨ad, e, hf, fun j u hu => ?_⟩
    rw [add_add]
    refine hc _ u ?_
    unfold piece at hu
    rw [List.getElem?_take] at hu
    split at hu
    · rwa [List.getElem?_drop] at hu
    · cases hu

/-- The place of an element of rows that stay. -/
theorem ref_elem {Fr : Nat → Prop} {u : Ty} {l : List u.D} {A : Option Addr} {cells : List Value} {i : Nat} (hs : 0 < u.size) (hl : RepL (RepV w Fr u) l cells) (hr : RowAt w Fr A cells) (hi : i < l.length) :
    ∃ ad, A = some ad ∧ repA w Fr m G (.ref u (l.getD i u.zero)) .one [.pointer (some (ad.add (i * u.size)))] := by
  have hlen := hl.length (fun x cs => RepV.length u x cs)
  have hle : (i + 1) * u.size ≤ l.length * u.size := Nat.mul_le_mul_right _ hi
  rw [Nat.succ_mul] at hle
  obtain ⟨ad, e, hf, hc⟩ := rowAt_elem hr hs (i := i) (by omega)
  exact ⟨ad, e, _, rfl, _, rfl, by rw [add_block]; exact hf, _, hl.get (fun x cs => RepV.length u x cs) i u.zero hi, hc⟩

theorem run_indexAt_slice {t : TypeId} {e : TypeId} (ht : P.underlying t = some (.slice e)) {sz : Nat} (hs : (sizeOf e).run P w = .ok sz w) {ad : Addr} {len c : Nat} {kk : IntKind} {j : Int} (h0 : 0 ≤ j) (h1 : j < (len : Int)) :
    (Instr.indexAt t (.slice (some ad) len c) (.int kk j)).run P w = .ok (.pointer (some (ad.add (j.toNat * sz)))) w := by
  simp [Instr.indexAt, asIntOf, run_underlying ht, h0, h1, hs]

theorem run_indexAt_arr {t : TypeId} {e : TypeId} {n : Nat} (ht : P.underlying t = some (.array n e)) {sz : Nat} (hs : (sizeOf e).run P w = .ok sz w) {ad : Addr} {kk : IntKind} {j : Int} (h0 : 0 ≤ j) (h1 : j < (n : Int)) :
    (Instr.indexAt t (.pointer (some ad)) (.int kk j)).run P w = .ok (.pointer (some (ad.add (j.toNat * sz)))) w := by
  simp [Instr.indexAt, asIntOf, run_underlying ht, h0, h1, hs, Instr.sureAddr]

theorem okP_snoc : ∀ {q : List Step} {s : Step} {T u : Ty}, okP q T → tyAt q T = some u → okP [s] u → okP (q ++ [s]) T ∧ offP (q ++ [s]) T = offP q T + offP [s] u
  | [], s, T, u, _, ht, hs => by
    simp [tyAt] at ht
    subst ht
    exact ⟨hs, by simp [offP]⟩
  | .fld j :: q, s, T, u, ⟨v, hv, hq⟩, ht, hs => by
    simp only [tyAt, hv] at ht
    obtain ⟨h1, h2⟩ := okP_snoc hq ht hs
    exact ⟨⟨v, hv, h1⟩, by simp [offP, hv, h2, Nat.add_assoc]⟩
  | .idx i :: q, s, .arr n v, u, ⟨hi, hq⟩, ht, hs => by
    simp only [tyAt] at ht
    obtain ⟨h1, h2⟩ := okP_snoc hq ht hs
    exact ⟨⟨hi, h1⟩, by simp [offP, h2, Nat.add_assoc]⟩
  | .idx _ :: _, _, .int _, _, hp, _, _ | .idx _ :: _, _, .bool, _, hp, _, _ | .idx _ :: _, _, .str, _, hp, _, _ | .idx _ :: _, _, .unit, _, hp, _, _ | .idx _ :: _, _, .opq, _, hp, _, _
  | .idx _ :: _, _, .pair .., _, hp, _, _ | .idx _ :: _, _, .sl _, _, hp, _, _ => hp.elim

theorem row_at (hm : MemOk B F w0 lim m G w) {b ve : Nat} {lo n : Nat} {e : TypeId} {t : Ty} {xs : List t.D} {v' : Nat} {z : Bool} (hb : m b = some (.row e t xs v', z)) {i : Nat} (hi : i < xs.length) (hs : 0 < t.size) :
    ∃ g nn cap, G b = .slice (some ⟨g, 0, none⟩) nn cap := by
  obtain ⟨A, c, cells, h1, h2, h3, h4⟩ := row_cells hm hb
  rcases h4 with h4 | ⟨g, h4, _⟩
  · have := h3.length (fun x cs => RepV.length t x cs)
    rw [h4, List.length_nil] at this
    have := Nat.mul_pos (show 0 < xs.length by omega) hs
    omega
  · exact ⟨g, _, c, by rw [h1, h4]⟩

theorem indexAddr_out {cx : Cx} (hT : typesChk P cx.types = true) (hm : MemOk B F w0 lim m G w) {t : TypeId} {x i : AV} {u v : Value} (hx : repA w (Frz B F m G w) m G x .one [u]) (hi : repA w (Frz B F m G w) m G i .one [v])
    (h : ((indexAddrOp cx t x i).go m p).run = some (av, m', p')) : m' = m ∧ Out P B F w0 lim m G w (Instr.indexAt t u v) m' av := by
  unfold indexAddrOp at h
  split at h
  · rename_i ue e eb htt
    obtain ⟨hu, hsz, ⟨te, hte, hte'⟩, _⟩ := (tyFact_of hT htt).sl
    have hso := (tyFact_of hT hte).sizeOf w
    rw [hte'] at hso
    split at h
    · -- a row of one's own
      rename_i b ve
      replace h := rd_some h; obtain ⟨c, z, hc, h⟩ := h
      cases c with
      | var => exact (fail_some h).elim
      | row e1 t1 xs v1 =>
        replace h := ite_some h; rcases h with ⟨⟨hv, hu1⟩, h⟩ | ⟨_, h⟩
        · subst hv; subst hu1
          replace h := inRange_some hi h; obtain ⟨kk, j, e2, h0, h1, h2, h⟩ := h
          subst e2
          obtain ⟨q1, q2⟩ := ret_some h
          subst q1; subst q2
          obtain ⟨ho, e3, t3, xs3, v3, z3, r1, r2, r3⟩ := one_own hx
          rw [hc] at r1
          injection r1 with r1
          injection r1 with r1 r1'
          injection r1 with s1 s2 s3 s4
          subst s1; subst s2; subst s4; subst r1'
          cases s3
          have hG := r3 rfl
          subst hG
          obtain ⟨g, nn, cap, hg⟩ := row_at hm (ve := 0) (lo := 0) (n := 0) hc h1 hsz
          obtain ⟨A, c, cells, g1, g2, g3, g4⟩ := row_cells hm hc
          rw [hg] at g1
          injection g1 with g1 g5 g6
          subst g5
          refine ⟨rfl, out_pure (cv := .pointer (some ⟨g, j.toNat * ue.size, none⟩)) ?_ hm ?_⟩
          · rw [hg, run_indexAt_slice hu hso h0 h2, add_zero_off]
          · exact ⟨_, rfl, rfl, _, _, _, _, _, hc, Nat.le_refl _, trivial, fun _ => ⟨h1, g, _, cap, hg, by simp [offP]⟩⟩
        · exact (fail_some h).elim
    · rename_i b ve lo n
      replace h := rd_some h; obtain ⟨c, z, hc, h⟩ := h
      cases c with
      | var => exact (fail_some h).elim
      | row e1 t1 xs v1 =>
        replace h := ite_some h; rcases h with ⟨⟨hv, hu1⟩, h⟩ | ⟨_, h⟩
        · subst hv; subst hu1
          replace h := inRange_some hi h; obtain ⟨kk, j, e2, h0, h1, h2, h⟩ := h
          subst e2
          obtain ⟨q1, q2⟩ := ret_some h
          subst q1; subst q2
          obtain ⟨ho, e3, t3, xs3, v3, z3, r1, r2, r3⟩ := one_sub hx
          rw [hc] at r1
          injection r1 with r1
          injection r1 with r1 r1'
          injection r1 with s1 s2 s3 s4
          subst s1; subst s2; subst s4; subst r1'
          cases s3
          obtain ⟨k1, A, c, k2, k3, k4⟩ := r3 rfl
          subst k2
          obtain ⟨g, nn, cap, k5, k6⟩ := k4 (by omega)
          subst k6
          refine ⟨rfl, out_pure (cv := .pointer (some ⟨g, lo * ue.size + j.toNat * ue.size, none⟩)) ?_ hm ?_⟩
          · rw [run_indexAt_slice hu hso h0 h2, add_off]
          · exact ⟨_, rfl, rfl, _, _, _, _, _, hc, Nat.le_refl _, trivial, fun _ => ⟨by omega, g, _, cap, k5, by simp [offP, Nat.add_mul]⟩⟩
        · exact (fail_some h).elim
    · rename_i u' l
      replace h := ite_some h; rcases h with ⟨hu1, h⟩ | ⟨_, h⟩
      · subst hu1
        replace h := inRange_some hi h; obtain ⟨kk, j, e2, h0, h1, h2, h⟩ := h
        subst e2
        obtain ⟨q1, q2⟩ := ret_some h
        subst q1; subst q2
        obtain ⟨A, c, cells, e3, r1, r2, r3⟩ := one_sl (one_val hx)
        subst e3
        obtain ⟨ad, e4, hr⟩ := ref_elem (m := m) (G := G) hsz r2 r3 h1
        subst e4
        exact ⟨rfl, out_pure (run_indexAt_slice hu hso h0 h2) hm hr⟩
      · exact (fail_some h).elim
    · rename_i u' l
      replace h := ite_some h; rcases h with ⟨hu1, h⟩ | ⟨_, h⟩
      · subst hu1
        replace h := inRange_some hi h; obtain ⟨kk, j, e2, h0, h1, h2, h⟩ := h
        subst e2
        obtain ⟨q1, q2⟩ := ret_some h
        subst q1; subst q2
        obtain ⟨A, c, cells, e3, r1, r2, r3⟩ := one_sl (show RepO w (Frz B F m G w) (.sl ue) l u from (one_nn hx).1)
        subst e3
        obtain ⟨ad, e4, hr⟩ := ref_elem (m := m) (G := G) hsz r2 r3 h1
        subst e4
        exact ⟨rfl, out_pure (run_indexAt_slice hu hso h0 h2) hm hr⟩
      · exact (fail_some h).elim
    · exact (fail_some h).elim
  · rename_i n ue e eb htt
    obtain ⟨hu, hsz, te, hte, hte'⟩ := (tyFact_of hT htt).arr
    have hso := (tyFact_of hT hte).sizeOf w
    rw [hte'] at hso
    replace h := ite_some h; rcases h with ⟨_, h⟩ | ⟨_, h⟩
    · exact (fail_some h).elim
    split at h
    · rename_i b q
      replace h := rd_some h; obtain ⟨c, z, hc, h⟩ := h
      cases c with
      | row => exact (fail_some h).elim
      | var Tv cv0 =>
        replace h := ite_some h; rcases h with ⟨hq, h⟩ | ⟨_, h⟩
        · replace h := inRange_some hi h; obtain ⟨kk, j, e2, h0, h1, h2, h⟩ := h
          subst e2
          obtain ⟨q1, q2⟩ := ret_some h
          subst q1; subst q2
          obtain ⟨T', c', z', g, r1, r2, r3, r4⟩ := one_ptr hx
          rw [hc] at r1
          injection r1 with r1
          injection r1 with r1 _
          injection r1 with r1 _
          subst r1; subst r4
          obtain ⟨s1, s2⟩ := okP_snoc (s := .idx j.toNat) r2 hq (show _ ∧ True from ⟨h1, trivial⟩)
          refine ⟨rfl, out_pure (cv := .pointer (some ⟨g, offP q Tv + j.toNat * ue.size, none⟩)) ?_ hm ?_⟩
          · rw [run_indexAt_arr hu hso h0 h2, add_off]
          · exact ⟨_, rfl, _, _, _, g, hc, s1, r3, by rw [s2]; simp [offP]⟩
        · exact (fail_some h).elim
    · rename_i b ve k q
      replace h := rd_some h; obtain ⟨c, z, hc, h⟩ := h
      cases c with
      | var => exact (fail_some h).elim
      | row e1 Tv xs v1 =>
        replace h := ite_some h; rcases h with ⟨⟨hv, hq⟩, h⟩ | ⟨_, h⟩
        · replace h := inRange_some hi h; obtain ⟨kk, j, e2, h0, h1, h2, h⟩ := h
          subst e2
          obtain ⟨q1, q2⟩ := ret_some h
          subst q1; subst q2
          obtain ⟨ho, e3, t3, xs3, v3, z3, r1, r2, r3, r4⟩ := one_rptr hx
          rw [hc] at r1
          injection r1 with r1
          injection r1 with r1 r1'
          injection r1 with s1 s2 s3 s4
          subst s1; subst s2; subst s4; subst r1'
          cases s3
          obtain ⟨s1, s2⟩ := okP_snoc (s := .idx j.toNat) r3 hq (show _ ∧ True from ⟨h1, trivial⟩)
          obtain ⟨k1, g, cap, nn, k2, k3⟩ := r4 hv
          subst k3
          refine ⟨rfl, out_pure (cv := .pointer (some ⟨g, k * Tv.size + offP q Tv + j.toNat * ue.size, none⟩)) ?_ hm ?_⟩
          · rw [run_indexAt_arr hu hso h0 h2, add_off]
          · exact ⟨_, rfl, rfl, _, _, _, _, _, hc, r2, s1, fun _ => ⟨k1, g, cap, nn, k2, by rw [s2]; simp [offP, Nat.add_assoc]⟩⟩
        · exact (fail_some h).elim
    · rename_i n' u' l
      replace h := ite_some h; rcases h with ⟨⟨hn, hu1⟩, h⟩ | ⟨_, h⟩
      · subst hn; subst hu1
        replace h := inRange_some hi h; obtain ⟨kk, j, e2, h0, h1, h2, h⟩ := h
        subst e2
        obtain ⟨q1, q2⟩ := ret_some h
        subst q1; subst q2
        obtain ⟨ad, e3, r1, cs, ⟨r2, r3⟩, r4⟩ := one_ref hx
        subst e3
        refine ⟨rfl, out_pure (run_indexAt_arr hu hso h0 h2) hm ?_⟩
        have hlen := r3.length (fun x cs => RepV.length ue x cs)
        have hle : (j.toNat + 1) * ue.size ≤ n * ue.size := Nat.mul_le_mul_right _ h1
        rw [Nat.succ_mul] at hle
        refine ⟨_, rfl, _, rfl, by rw [add_block]; exact r1, _, r3.get (fun x cs => RepV.length ue x cs) j.toNat ue.zero (by omega), fun j' u hu => ?_⟩
        rw [add_add]
        refine r4 _ u ?_
        rw [List.getElem?_take] at hu
        split at hu
        · rwa [List.getElem?_drop] at hu
        · cases hu
      · exact (fail_some h).elim
    · exact (fail_some h).elim
  · exact (fail_some h).elim
end
end Go.Refl
/-
  Parts, loads, stores, new variables, cuts.
-/
set_option linter.unusedVariables false
set_option linter.unusedSimpArgs false
namespace Go.Refl
open Go Go.RowKit

section
variable {P : Program} {B : Nat} {F : Nat → Prop} {w0 : World} {lim : Nat} {m m' : Mem} {G : Nat → Value} {w : World} {p p' : FP} {av : AV} {cx : Cx}

theorem run_loadVar {T : List (TypeId × TI)} {t : TypeId} {ti : TI} (ht : TyFact P T t ti) {ad : Addr} {cs : List Value} (hl : cs.length = ti.ty.size) (hc : ∀ j u, cs[j]? = some u → w.cell? (ad.add j) = some u) :
    (loadVar t ad).run P w = .ok (ofCells ti.ty cs) w := by
  simp only [loadVar, Sem.run_bind, ht.isAgg w, Result.andThen_ok, ofCells]
  split
  · rename_i ha
    simp only [Sem.run_bind, ht.sizeOf w, Result.andThen_ok, ← hl, run_loadCells_list w ad cs hc, Sem.run_pure]
  · rename_i ha
    have h1 := not_agg_size ti.ty (by simpa using ha)
    rw [h1] at hl
    obtain ⟨v, rfl⟩ := List.length_eq_one_iff.1 hl
    have : w.cell? ad = some v := by
      have := hc 0 v rfl
      simpa [Addr.add] using this
    simp [this]

theorem run_part {T : List (TypeId × TI)} {t : TypeId} {ti : TI} (ht : TyFact P T t ti) {cs : List Value} {off : Nat} (hl : off + ti.ty.size ≤ cs.length) :
    (part t cs.toArray off).run P w = .ok (ofCells ti.ty (piece cs off ti.ty.size)) w := by
  simp only [part, Sem.run_bind, ht.isAgg w, Result.andThen_ok, ofCells]
  split
  · rename_i ha
    simp only [Sem.run_bind, ht.sizeOf w, Result.andThen_ok, Sem.run_pure]
    congr 2
    apply Array.ext'
    simp [piece, List.extract_eq_take_drop]
  · rename_i ha
    have h1 := not_agg_size ti.ty (by simpa using ha)
    rw [h1] at hl ⊢
    have hlt : off < cs.length := by omega
    have : piece cs off 1 = [cs[off]] := by
      unfold piece
      rw [List.drop_eq_getElem_cons hlt]
      rfl
    simp [this, hlt]

theorem cell_row {g : Nat} {arr : Array Value} {e : TypeId} {fr : Nat × Nat} (hg : w.heap[g]? = some (.cells arr e fr)) {o n : Nat} : ∀ j u, (piece arr.toList o n)[j]? = some u → w.cell? ((⟨g, o, none⟩ : Addr).add j) = some u := by
  intro j u hu
  rw [add_off, cell_of_row w g (o + j) arr e fr hg]
  unfold piece at hu
  rw [List.getElem?_take] at hu
  split at hu
  · rw [List.getElem?_drop] at hu
    simpa using hu
  · cases hu

/-- The value of a part that was read out of cells. -/
theorem part_rep {Fr : Nat → Prop} {u : Ty} {a : AV} {cs : List Value} (hr : repA w Fr m G a .cells cs) (hf : AV.fits u a = true ∨ ∃ x, a = .val u x) : repA w Fr m G a .one [ofCells u cs] := by
  rcases hf with hf | ⟨x, rfl⟩
  · exact repA.ofCells' hf hr
  · exact ⟨_, rfl, RepV.operand hr⟩

theorem index_out (hT : typesChk P cx.types = true) (hm : MemOk B F w0 lim m G w) {t : TypeId} {x i : AV} {u v : Value} (hx : repA w (Frz B F m G w) m G x .one [u]) (hi : repA w (Frz B F m G w) m G i .one [v])
    (h : ((indexOp cx t x i).go m p).run = some (av, m', p')) : m' = m ∧ Out P B F w0 lim m G w (Instr.index t u v) m' av := by
  unfold indexOp at h
  split at h
  · rename_i s htt
    have hu := (tyFact_of hT htt).str
    have e1 := one_str hx
    subst e1
    replace h := inRange_some hi h; obtain ⟨kk, j, e2, h0, h1, h2, h⟩ := h
    subst e2
    obtain ⟨h1', h2'⟩ := ret_some h
    subst h1'; subst h2'
    refine ⟨rfl, out_pure (cv := .int .u8 ((s.getD j.toNat 0).toNat : Int)) ?_ hm (mk_int ..)⟩
    have hb : (⟨s.toArray⟩ : ByteArray)[j.toNat]? = some (s.getD j.toNat 0) := by
      have hlt : j.toNat < (⟨s.toArray⟩ : ByteArray).size := by simpa [ByteArray.size] using h1
      have e1 : (⟨s.toArray⟩ : ByteArray)[j.toNat]? = some ((⟨s.toArray⟩ : ByteArray)[j.toNat]'hlt) := getElem?_pos (⟨s.toArray⟩ : ByteArray) j.toNat hlt
      have e2 : (⟨s.toArray⟩ : ByteArray)[j.toNat]'hlt = s[j.toNat] := rfl
      rw [e1, e2]
      simp [List.getD_eq_getElem?_getD, List.getElem?_eq_getElem h1]
    simp [Instr.index, asIntOf, run_underlying hu, h0, hb]
  · rename_i n ue e eb n' u' l htt
    replace h := ite_some h; rcases h with ⟨⟨hn, hu1⟩, h⟩ | ⟨_, h⟩
    · subst hn; subst hu1
      obtain ⟨hu, hsz, te, hte, hte'⟩ := (tyFact_of hT htt).arr
      have hft := tyFact_of hT hte
      have hso := hft.sizeOf w
      replace h := inRange_some hi h; obtain ⟨kk, j, e2, h0, h1, h2, h⟩ := h
      subst e2
      obtain ⟨h1', h2'⟩ := ret_some h
      subst h1'; subst h2'
      obtain ⟨cs, e3, r1, r2⟩ := (show ∃ cs : List Value, u = .agg cs.toArray ∧ RepV w (Frz B F m G w) (.arr n ue) l cs from one_val hx)
      subst e3
      have hlen := r2.length (fun x cs => RepV.length ue x cs)
      have hle : (j.toNat + 1) * ue.size ≤ n * ue.size := Nat.mul_le_mul_right _ h1
      rw [Nat.succ_mul] at hle
      rw [r1] at hlen
      have hpart := run_part (P := P) (w := w) hft (cs := cs) (off := j.toNat * te.ty.size) (by rw [hte']; omega)
      have hg := r2.get (fun x cs => RepV.length ue x cs) j.toNat ue.zero (by omega)
      refine ⟨rfl, out_pure (cv := ofCells te.ty (piece cs (j.toNat * te.ty.size) te.ty.size)) ?_ hm ?_⟩
      · simp [Instr.index, asIntOf, run_underlying hu, h0, h2, hso, hpart]
      · rw [hte']
        exact mk_val (RepV.operand hg)
    · exact (fail_some h).elim
  · exact (fail_some h).elim

theorem agg_cells {a b : Ty} {x : AV} {v : Value} {Fr : Nat → Prop} (hf : AV.fits (.pair a b) x.norm = true) (hx : repA w Fr m G x .one [v]) : ∃ cs : List Value, v = .agg cs.toArray ∧ repA w Fr m G x.norm .cells cs := by
  cases x with
  | val t y =>
    have ht : t.agg = true := by
      cases t <;> simp [AV.norm, explode, AV.fits] at hf <;> rfl
    have := one_val hx
    unfold RepO at this
    rw [if_pos ht] at this
    obtain ⟨cs, e, hr⟩ := this
    exact ⟨cs, e, explode_rep _ _ _ hr⟩
  | pr y z =>
    obtain ⟨c1, c2, e, h1, h2⟩ := hx
    injection e with e
    exact ⟨c1 ++ c2, e, _, _, rfl, norm_rep _ _ h1, norm_rep _ _ h2⟩
  | _ => simp [AV.norm, AV.fits] at hf

theorem field_out (hT : typesChk P cx.types = true) (hm : MemOk B F w0 lim m G w) {t : TypeId} {x : AV} {f : Nat} {u : Value} (hx : repA w (Frz B F m G w) m G x .one [u])
    (h : ((fieldOp cx t x f).go m p).run = some (av, m', p')) : m' = m ∧ Out P B F w0 lim m G w (Instr.field t u f) m' av := by
  unfold fieldOp at h
  split at h
  · rename_i ue e eb htt
    split at h
    · rename_i uf huf
      replace h := ite_some h; rcases h with ⟨hf, h⟩ | ⟨_, h⟩
      · replace h := opt_some h; obtain ⟨a, ha, h⟩ := h
        obtain ⟨h1', h2'⟩ := ret_some h
        subst h1'; subst h2'
        obtain ⟨fs, fd, q1, q2, q3, q4, te, q5, q6⟩ := (tyFact_of hT htt).field huf
        cases ue with
        | pair ta tb =>
          obtain ⟨cs, e1, hr⟩ := agg_cells hf hx
          subst e1
          obtain ⟨r1, r2⟩ := nth_rep hf huf ha hr
          have hlen := fits_length hf hr
          have hoff := tyF_off huf
          have hpart := run_part (P := P) (w := w) (tyFact_of hT q5) (cs := cs) (off := fd.offset) (by rw [q6, q3]; simp only; omega)
          refine ⟨rfl, out_pure (cv := ofCells te.ty (piece cs fd.offset te.ty.size)) ?_ hm ?_⟩
          · simp [Instr.field, run_underlying q1, q2, asAgg, hpart]
          · rw [q6, q3]
            exact repA.ofCells' r1 r2
        | _ => simp [tyF] at huf
      · exact (fail_some h).elim
    · exact (fail_some h).elim
  · exact (fail_some h).elim

theorem fieldAddr_out (hT : typesChk P cx.types = true) (hm : MemOk B F w0 lim m G w) {t : TypeId} {x : AV} {f : Nat} {u : Value} (hx : repA w (Frz B F m G w) m G x .one [u])
    (h : ((fieldAddrOp cx t x f).go m p).run = some (av, m', p')) : m' = m ∧ Out P B F w0 lim m G w (Instr.fieldAt t u f) m' av := by
  unfold fieldAddrOp at h
  split at h
  · rename_i ue e eb htt
    have key : ∀ {uf : Ty} {ad : Addr}, tyF ue f = some uf → (Instr.fieldAt t (.pointer (some ad)) f).run P w = .ok (.pointer (some (ad.add (offF ue f)))) w := by
      intro uf ad huf
      obtain ⟨fs, fd, q1, q2, q3, q4, te, q5, q6⟩ := (tyFact_of hT htt).field huf
      have hso := (tyFact_of hT q5).sizeOf w
      rw [q6] at hso
      simp [Instr.fieldAt, run_underlying q1, q2, Instr.sureAddr, fieldPlace, hso, q4, q3]
    split at h
    · rename_i uf b q huf
      replace h := rd_some h; obtain ⟨c, z, hc, h⟩ := h
      cases c with
      | row => exact (fail_some h).elim
      | var Tv cv0 =>
        replace h := ite_some h; rcases h with ⟨hq, h⟩ | ⟨_, h⟩
        · obtain ⟨h1', h2'⟩ := ret_some h
          subst h1'; subst h2'
          obtain ⟨T', c', z', g, r1, r2, r3, r4⟩ := one_ptr hx
          rw [hc] at r1
          injection r1 with r1
          injection r1 with r1 _
          injection r1 with r1 _
          subst r1; subst r4
          obtain ⟨s1, s2⟩ := okP_snoc (s := .fld f) r2 hq ⟨uf, huf, trivial⟩
          refine ⟨rfl, out_pure (key huf) hm ?_⟩
          exact ⟨_, rfl, _, _, _, g, hc, s1, r3, by rw [s2, add_off]; simp [offP, huf]⟩
        · exact (fail_some h).elim
    · rename_i uf b ve k q huf
      replace h := rd_some h; obtain ⟨c, z, hc, h⟩ := h
      cases c with
      | var => exact (fail_some h).elim
      | row e1 Tv xs v1 =>
        replace h := ite_some h; rcases h with ⟨⟨hv, hq⟩, h⟩ | ⟨_, h⟩
        · obtain ⟨h1', h2'⟩ := ret_some h
          subst h1'; subst h2'
          obtain ⟨ho, e3, t3, xs3, v3, z3, r1, r2, r3, r4⟩ := one_rptr hx
          rw [hc] at r1
          injection r1 with r1
          injection r1 with r1 r1'
          injection r1 with s1 s2 s3 s4
          subst s1; subst s2; subst s4; subst r1'
          cases s3
          obtain ⟨s1, s2⟩ := okP_snoc (s := .fld f) r3 hq ⟨uf, huf, trivial⟩
          obtain ⟨k1, g, cap, nn, k2, k3⟩ := r4 hv
          subst k3
          refine ⟨rfl, out_pure (key huf) hm ?_⟩
          exact ⟨_, rfl, rfl, _, _, _, _, _, hc, r2, s1, fun _ => ⟨k1, g, cap, nn, k2, by rw [s2, add_off]; simp [offP, huf, Nat.add_assoc]⟩⟩
        · exact (fail_some h).elim
    · rename_i uf u' y huf
      replace h := ite_some h; rcases h with ⟨hu1, h⟩ | ⟨_, h⟩
      · subst hu1
        replace h := opt_some h; obtain ⟨a, ha, h⟩ := h
        obtain ⟨h1', h2'⟩ := ret_some h
        subst h1'; subst h2'
        obtain ⟨ad, e3, r1, cs, r2, r3⟩ := one_ref hx
        subst e3
        refine ⟨rfl, out_pure (key huf) hm ?_⟩
        obtain ⟨q1, q2⟩ := getF_rep ha r2
        refine ⟨_, rfl, _, rfl, by rw [add_block]; exact r1, _, q2, fun j u hu => ?_⟩
        rw [add_add]
        refine r3 _ u ?_
        unfold piece at hu
        rw [List.getElem?_take] at hu
        split at hu
        · rwa [List.getElem?_drop] at hu
        · cases hu
      · exact (fail_some h).elim
    · exact (fail_some h).elim
  · exact (fail_some h).elim

theorem load_out (hT : typesChk P cx.types = true) (hm : MemOk B F w0 lim m G w) {t : TypeId} {x : AV} {u : Value} (hx : repA w (Frz B F m G w) m G x .one [u])
    (h : ((loadOp cx t x).go m p).run = some (av, m', p')) : m' = m ∧ Out P B F w0 lim m G w (Instr.loadAt t u) m' av := by
  unfold loadOp at h
  split at h
  · rename_i ue e eb htt
    have hft := tyFact_of hT htt
    have key : ∀ {ad : Addr}, (Instr.loadAt t (.pointer (some ad))).run P w = (loadVar t ad).run P w := by
      intro ad
      simp [Instr.loadAt, Instr.sureAddr]
    split at h
    · rename_i b q
      replace h := rd_some h; obtain ⟨c, z, hc, h⟩ := h
      cases c with
      | row => exact (fail_some h).elim
      | var Tv cv0 =>
        replace h := ite_some h; rcases h with ⟨hq, h⟩ | ⟨_, h⟩
        · replace h := opt_some h; obtain ⟨a, ha, h⟩ := h
          obtain ⟨h1', h2'⟩ := ret_some h
          subst h1'; subst h2'
          obtain ⟨T', c', z', g, r1, r2, r3, r4⟩ := one_ptr hx
          rw [hc] at r1
          injection r1 with r1
          injection r1 with r1 _
          injection r1 with r1 _
          subst r1; subst r4
          obtain ⟨g', arr, e', k1, k2, k3, k4, k5⟩ := hm.blk _ _ _ hc
          rw [r3] at k1
          injection k1 with k1
          injection k1 with k1
          injection k1 with k1
          subst k1
          obtain ⟨s1, s2⟩ := get_rep r2 k4 hq ha k5
          have hlen := fits_length k4 k5
          have hoff := okP_off r2 hq
          refine ⟨rfl, out_pure (cv := ofCells ue (piece arr.toList (offP q Tv) ue.size)) ?_ hm (part_rep s1 s2)⟩
          rw [key, run_loadVar hft (cs := piece arr.toList (offP q Tv) ue.size) (piece_length (by omega)) (cell_row k3)]
        · exact (fail_some h).elim
    · rename_i b ve k q
      replace h := rd_some h; obtain ⟨c, z, hc, h⟩ := h
      cases c with
      | var => exact (fail_some h).elim
      | row e1 Tv xs v1 =>
        replace h := ite_some h; rcases h with ⟨⟨hv, hq⟩, h⟩ | ⟨_, h⟩
        · replace h := opt_some h; obtain ⟨a, ha, h⟩ := h
          obtain ⟨h1', h2'⟩ := ret_some h
          subst h1'; subst h2'
          obtain ⟨ho, e3, t3, xs3, v3, z3, r1, r2, r3, r4⟩ := one_rptr hx
          rw [hc] at r1
          injection r1 with r1
          injection r1 with r1 r1'
          injection r1 with s1 s2 s3 s4
          subst s1; subst s2; subst s4; subst r1'
          cases s3
          obtain ⟨k1, g, cap, nn, k2, k3⟩ := r4 hv
          subst k3
          obtain ⟨cells, o1, o2, o3⟩ := hm.blk _ _ _ hc
          have hgz := o2.get (fun x cs => RepV.length Tv x cs) k Tv.zero k1
          obtain ⟨q1, q2⟩ := getP_rep r3 ha hgz
          rw [hq] at q1
          injection q1 with q1
          obtain ⟨a1, a2⟩ := a
          dsimp only at q1
          subst q1
          have hoff := okP_off r3 hq
          have hlen := o2.length (fun x cs => RepV.length Tv x cs)
          have hle : (k + 1) * Tv.size ≤ xs.length * Tv.size := Nat.mul_le_mul_right _ k1
          rw [Nat.succ_mul] at hle
          have q2' : RepV w (Frz B F m G w) ue a2 (piece (piece cells (k * Tv.size) Tv.size) (offP q Tv) ue.size) := q2
          rw [piece_piece hoff] at q2'
          have hcell : ∀ j u, (piece cells (k * Tv.size + offP q Tv) ue.size)[j]? = some u → w.cell? ((⟨g, k * Tv.size + offP q Tv, none⟩ : Addr).add j) = some u := by
            intro j u hu
            rw [add_off]
            unfold piece at hu
            rw [List.getElem?_take] at hu
            split at hu
            · rw [List.getElem?_drop] at hu
              have := o1.cells (g := g) (by rw [k2]; rfl) _ u hu
              rwa [add_zero_off] at this
            · cases hu
          refine ⟨rfl, out_pure (cv := ofCells ue (piece cells (k * Tv.size + offP q Tv) ue.size)) ?_ hm ?_⟩
          · rw [key, run_loadVar hft (cs := piece cells (k * Tv.size + offP q Tv) ue.size) (piece_length (show _ ≤ _ by omega)) hcell]
          · exact mk_val (RepV.operand q2')
        · exact (fail_some h).elim
    · rename_i u' y
      replace h := ite_some h; rcases h with ⟨hu1, h⟩ | ⟨_, h⟩
      · subst hu1
        obtain ⟨h1', h2'⟩ := ret_some h
        subst h1'; subst h2'
        obtain ⟨ad, e3, r1, cs, r2, r3⟩ := one_ref hx
        subst e3
        refine ⟨rfl, out_pure (cv := ofCells ue cs) ?_ hm (mk_val (RepV.operand r2))⟩
        rw [key, run_loadVar hft (cs := cs) (RepV.length _ _ _ r2) r3]
      · exact (fail_some h).elim
    · exact (fail_some h).elim
  · exact (fail_some h).elim

/-! ### Stores -/
theorem patch_outer {cs c : List Value} {o n : Nat} (h : c.length = n) : cs.take o ++ (c ++ cs.drop (o + n)) = patch cs o c := by
  unfold patch
  rw [h]

theorem run_storeVar {T : List (TypeId × TI)} {t : TypeId} {ti : TI} (ht : TyFact P T t ti) {g o : Nat} {cur : Array Value} {e : TypeId} (hg : w.heap[g]? = some (.cells cur e (0, 0))) {v : Value} (hl : v.cells.size = ti.ty.size)
    (hfit : o + v.cells.size ≤ cur.size) (h1 : ∀ x ∈ v.cells.toList, x.oneCell' = true) :
    (storeVar t ⟨g, o, none⟩ v).run P w = .ok () (w.setRow g (patch cur.toList o v.cells.toList).toArray) := by
  have hs := run_storeCells_at P g o e v.cells.toList 0 cur w hg (by simpa using hfit) h1
  simp only [storeVar, Sem.run_bind, ht.sizeOf w, Result.andThen_ok, hl, ne_eq, not_true_eq_false, if_false]
  simp only [Nat.add_zero] at hs
  rw [hs]
  simp [patch]

theorem below_setRow {g : Nat} {cs : Array Value} : Below g w (w.setRow g cs) := by
  refine ⟨rfl, rfl, rfl, by simp [World.setRow], fun k hk => setRow_other w g k cs (by omega)⟩

theorem cells_all_one : ∀ {a : AV} {cs : List Value} {Fr : Nat → Prop}, repA w Fr m G a .cells cs → ∀ u ∈ cs, u.oneCell' = true
  | .val t x, cs, _, h => RepV.one t x cs h
  | .pr a b, cs, _, ⟨c1, c2, e, h1, h2⟩ => by
    intro u hu
    rw [e, List.mem_append] at hu
    rcases hu with hu | hu
    · exact cells_all_one h1 u hu
    · exact cells_all_one h2 u hu
  | .un, cs, _, h => by rw [show cs = [] from h]; simp
  | .fn .., _, _, ⟨x, y, e, _⟩ => by rw [e]; simp [Value.oneCell']
  | .tp _, _, _, h => h.elim
  | .undef, _, _, ⟨v, e, h⟩ => by rw [e]; simpa using (show v.oneCell' = true from h)
  | .nn .., _, _, ⟨v, e, h⟩ => by rw [e]; simpa using repS.oneCell h
  | .nil, _, _, ⟨v, e, h⟩ => by rw [e]; simpa using repS.oneCell (a := .nil) h
  | .nptr, _, _, ⟨v, e, h⟩ => by rw [e]; simpa using repS.oneCell (a := .nptr) h
  | .ptr .., _, _, ⟨v, e, h⟩ => by rw [e]; simpa using repS.oneCell h
  | .rptr .., _, _, ⟨v, e, h⟩ => by rw [e]; simpa using repS.oneCell h
  | .ref .., _, _, ⟨v, e, h⟩ => by rw [e]; simpa using repS.oneCell h
  | .own .., _, _, ⟨v, e, h⟩ => by rw [e]; simpa using repS.oneCell h
  | .sub .., _, _, ⟨v, e, h⟩ => by rw [e]; simpa using repS.oneCell h

/-- What an action without a value comes to. -/
def OutU (P : Program) (B : Nat) (F : Nat → Prop) (w0 : World) (lim : Nat) (m : Mem) (G : Nat → Value) (w : World) (s : Sem Unit) (m' : Mem) : Prop :=
  ∃ G' w', s.run P w = .ok () w' ∧ MemOk B F w0 lim m' G' w' ∧ Tr B F m G w m' G' w'

theorem upd_self (G : Nat → Value) (b : Nat) : upd G b (G b) = G := by
  funext i
  unfold upd
  split
  · rename_i e; rw [e]
  · rfl

/-- A live block's row of cells is written. -/
theorem MemOk.write (hm : MemOk B F w0 lim m G w) {b : Nat} {c c' : Cn} (hb : m b = some (c, false)) {g : Nat} (hg : hdNo (G b) = some g) {cs : Array Value} (hc : compat c c')
    (hok : Tr B F m G w (m.set b (c', false)) G (w.setRow g cs) → CnOk B F (m.set b (c', false)) G (w.setRow g cs) b c') :
    MemOk B F w0 lim (m.set b (c', false)) G (w.setRow g cs) ∧ Tr B F m G w (m.set b (c', false)) G (w.setRow g cs) := by
  have hno := (hm.blk _ _ _ hb).no hg
  have := hm.step (b0 := b) (c0 := c') (z0 := false) (g0 := G b) (w' := w.setRow g cs) ((below_setRow (w := w) (g := g) (cs := cs)).mono hno.1)
    (fun k hk hne => setRow_other w g k cs fun e => hne c hb (by rw [hg, e])) (fun k hk => .inl ⟨⟨_, hb⟩, hk⟩)
    (fun c1 z1 h1 => by rw [hb] at h1; injection h1 with h1; injection h1 with h1 h2; subst h1; subst h2; exact ⟨hc, fun _ => rfl, id⟩) (hm.lim _ _ hb)
  rw [upd_self] at this
  exact this hok

theorem store_out (hT : typesChk P cx.types = true) (hm : MemOk B F w0 lim m G w) {t : TypeId} {x y : AV} {u v : Value} (hx : repA w (Frz B F m G w) m G x .one [u]) (hy : repA w (Frz B F m G w) m G y .one [v])
    (h : ((storeOp cx t x y).go m p).run = some (av, m', p')) : av = .undef ∧ OutU P B F w0 lim m G w (Instr.storeAt t u v) m' := by
  unfold storeOp at h
  split at h
  · rename_i ue e eb htt
    have hft := tyFact_of hT htt
    have key : ∀ {ad : Addr}, (Instr.storeAt t (.pointer (some ad)) v).run P w = (storeVar t ad v).run P w := by
      intro ad
      simp [Instr.storeAt, Instr.sureAddr]
    split at h
    · rename_i b q
      replace h := rd_some h; obtain ⟨c, z, hc, h⟩ := h
      cases c with
      | row => exact (fail_some h).elim
      | var Tv cv0 =>
        replace h := ite_some h; rcases h with ⟨⟨hq, hf, hs⟩, h⟩ | ⟨_, h⟩
        · replace h := opt_some h; obtain ⟨c', hc', h⟩ := h
          replace h := wr_some h; obtain ⟨c1, hc1, h⟩ := h
          obtain ⟨h1', h2'⟩ := ret_some h
          subst h1'; subst h2'
          rw [hc] at hc1
          injection hc1 with hc1
          injection hc1 with hc1 hz
          subst hc1; subst hz
          obtain ⟨T', c2, z', g, r1, r2, r3, r4⟩ := one_ptr hx
          rw [hc] at r1
          injection r1 with r1
          injection r1 with r1 _
          injection r1 with r1 _
          subst r1; subst r4
          obtain ⟨g', arr, e', k1, k2, k3, k4, k5⟩ := hm.blk _ _ _ hc
          rw [r3] at k1
          injection k1 with k1
          injection k1 with k1
          injection k1 with k1
          subst k1
          have hyc := norm_rep _ _ (repA.toCells hs hy)
          have hvl := fits_length hf hyc
          have hlen := fits_length k4 k5
          have hoff := okP_off r2 hq
          refine ⟨rfl, G, _, by rw [key]; exact run_storeVar hft k3 (by simpa using hvl) (by simp at hvl hlen; omega) (cells_all_one hyc), ?_⟩
          refine hm.write hc (by rw [r3]; rfl) rfl fun htr => ?_
          obtain ⟨s1, s2⟩ := set_rep r2 k4 hq hc' hf (repA.mono htr _ _ _ hyc) (repA.mono htr _ _ _ k5)
          exact ⟨g, _, e', r3, k2, setRow_heap w g arr _ e' _ k3, s1, by simpa using s2⟩
        · exact (fail_some h).elim
    · rename_i b ve k q
      obtain ⟨yv, m1, p1, h, hm1, ht1, hyv⟩ := toVal_one true h hm hy
      replace h := rd_some h; obtain ⟨c, z, hc, h⟩ := h
      cases c with
      | var => exact (fail_some h).elim
      | row e1 Tv xs v1 =>
        replace h := ite_some h; rcases h with ⟨⟨hv, hq⟩, h⟩ | ⟨_, h⟩
        · subst hv
          replace h := opt_some h; obtain ⟨x', hx', h⟩ := h
          replace h := wr_some h; obtain ⟨c1, hc1, h⟩ := h
          obtain ⟨h1', h2'⟩ := ret_some h
          subst h1'; subst h2'
          have hx1 := repA.mono ht1 _ _ _ hx
          rw [hc] at hc1
          injection hc1 with hc1
          injection hc1 with hc1 hz
          subst hc1; subst hz
          obtain ⟨ho, e3, t3, xs3, v3, z3, r1, r2, r3, r4⟩ := one_rptr hx1
          rw [hc] at r1
          injection r1 with r1
          injection r1 with r1 r1'
          injection r1 with s1 s2 s3 s4
          subst s1; subst s2; subst s4; subst r1'
          cases s3
          obtain ⟨k1, g, nn, cap, k2, k3⟩ := r4 rfl
          subst k3
          obtain ⟨cells, o1, o2, o3⟩ := hm1.blk _ _ _ hc
          rcases o1.2 with ⟨n1, _⟩ | ⟨g', cap', cur, n1, n2, n3, n4, n5, n6, n7⟩
          · rw [k2] at n1; cases n1
          have hgz := o2.get (fun x cs => RepV.length Tv x cs) k Tv.zero k1
          obtain ⟨q1, q2⟩ := setP_rep r3 hx' hgz
          have n1' := n1
          rw [k2] at n1
          injection n1 with n1
          injection n1 with n1
          injection n1 with n1
          subst n1
          have hcl := hyv.cells
          rw [show Reach true B F m1 G w = Frz B F m1 G w from rfl] at hcl
          have hvl := RepV.length _ _ _ hcl
          have hoff := okP_off r3 hq
          have hlen := o2.length (fun x cs => RepV.length Tv x cs)
          have hle : (k + 1) * Tv.size ≤ xs.length * Tv.size := Nat.mul_le_mul_right _ k1
          rw [Nat.succ_mul] at hle
          have hcap : xs.length * Tv.size ≤ cap' * Tv.size := Nat.mul_le_mul_right _ n4
          have hcl' : v.cells.toList.length = ue.size := hvl
          have hcs : v.cells.size = ue.size := by simpa using hcl'
          have hst := run_storeVar hft n3 (v := v) (o := k * Tv.size + offP q Tv) (by simpa using hvl) (by simp only [Array.length_toList] at hcl'; omega) (RepV.one _ _ _ hcl)
          have hw := hm1.write (b := b) (c' := .row e1 Tv (xs.set k x') ve) hc (g := g) (by rw [k2]; rfl) (cs := (patch cur.toList (k * Tv.size + offP q Tv) v.cells.toList).toArray) ⟨rfl, rfl, Nat.le_refl _, fun _ => by simp⟩ fun htr => ?_
          · exact ⟨rfl, G, _, by rw [key]; exact hst, hw.1, ht1.trans hw.2⟩
          · have hnew : RepV w (Frz B F m1 G w) Tv x' (patch (piece cells (k * Tv.size) Tv.size) (offP q Tv) v.cells.toList) := q2 _ hcl
            have hset := o2.set (fun x cs => RepV.length Tv x cs) k k1 hnew
            have hpp : cells.take (k * Tv.size) ++ (patch (piece cells (k * Tv.size) Tv.size) (offP q Tv) v.cells.toList ++ cells.drop (k * Tv.size + Tv.size)) = patch cells (k * Tv.size + offP q Tv) v.cells.toList := by
              rw [← patch_patch (cs := cells) (n := Tv.size) (by omega) (by rw [hcl']; exact hoff)]
              exact patch_outer (RepV.length _ _ _ hnew)
            rw [hpp] at hset
            refine ⟨patch cells (k * Tv.size + offP q Tv) v.cells.toList, ⟨?_, .inr ⟨g, cap', _, by simpa using n1', n2, setRow_heap w g cur _ e1 _ n3, by simpa using n4, n5, ?_, ?_⟩⟩, hset.mono fun x cs hx => RepV.mono htr.fr _ _ _ hx, o3⟩
            · rw [patch_length (by omega)]; simpa using hlen
            · simp only [List.size_toArray]
              rw [patch_length (by simp; omega)]
              simpa using n6
            · have : (patch cur.toList (k * Tv.size + offP q Tv) v.cells.toList).take (xs.length * Tv.size) = patch (cur.toList.take (xs.length * Tv.size)) (k * Tv.size + offP q Tv) v.cells.toList := by
                have hcur : cur.toList = cur.toList.take (xs.length * Tv.size) ++ cur.toList.drop (xs.length * Tv.size) := (List.take_append_drop _ _).symm
                have hl0 : (cur.toList.take (xs.length * Tv.size)).length = xs.length * Tv.size := by rw [List.length_take]; simp; omega
                conv => lhs; rw [hcur]
                rw [patch_append_left (by rw [hl0]; omega), List.take_left' (by rw [patch_length (by rw [hl0]; omega), hl0])]
              rw [List.length_set, this, n7]
        · exact (fail_some h).elim
    · exact (fail_some h).elim
  · exact (fail_some h).elim
end
end Go.Refl
/-
  Cuts, lengths, new rows, append, copy.
-/
set_option linter.unusedVariables false
set_option linter.unusedSimpArgs false
namespace Go.Refl
open Go Go.RowKit

section
variable {P : Program} {B : Nat} {F : Nat → Prop} {w0 : World} {lim : Nat} {m m' : Mem} {G : Nat → Value} {w : World} {p p' : FP} {av : AV} {cx : Cx}

/-! ### Cuts -/
def optRel (w : World) (Fr : Nat → Prop) (m : Mem) (G : Nat → Value) (o : Option AV) (v : Option Value) : Prop := match o, v with
  | none, none => True
  | some a, some u => repA w Fr m G a .one [u]
  | _, _ => False

theorem run_sliceBound {k : IntKind} {i : Int} {y : Nat} {code : BoundsCode} (h0 : 0 ≤ i) (h1 : i ≤ (y : Int)) : (Instr.sliceBound (.int k i) y code).run P w = .ok i.toNat w := by
  simp [Instr.sliceBound, asIntOf, h0, h1]

theorem low_some {hh : Nat} {lo : Option AV} {vlo : Option Value} {k : Nat → Eff AV} {r : AV × Mem × FP} (hlo : optRel w (Frz B F m G w) m G lo vlo) (h : ((cutLow hh lo k).go m p).run = some r) :
    ∃ l, (∀ code, (match vlo with
        | some v => Instr.sliceBound v hh code
        | none => pure 0 : Sem Nat).run P w = .ok l w) ∧ l ≤ hh ∧ (lo = none → l = 0) ∧ ((k l).go m p).run = some r := by
  unfold cutLow at h
  split at h
  · cases vlo with
    | some _ => exact hlo.elim
    | none => exact ⟨0, fun _ => rfl, Nat.zero_le _, fun _ => rfl, h⟩
  · rename_i kk i
    cases vlo with
    | none => exact hlo.elim
    | some v =>
      have := one_int (m := m) (G := G) hlo
      subst this
      replace h := tst_some h; rcases h with ⟨hc, h⟩ | ⟨_, h⟩
      · simp only [Bool.and_eq_true, decide_eq_true_eq] at hc
        exact ⟨_, fun _ => run_sliceBound hc.1 hc.2, Int.toNat_le.2 hc.2, fun e => (by cases e), h⟩
      · exact (fail_some h).elim
  · exact (fail_some h).elim

theorem high_some {mm n : Nat} {hi : Option AV} {vhi : Option Value} {o : Bool} {k : Nat → Eff AV} {r : AV × Mem × FP} (hhi : optRel w (Frz B F m G w) m G hi vhi) (h : ((cutHigh mm n hi o k).go m p).run = some r) :
    (hi = none ∧ vhi = none ∧ o = true ∧ ((k n).go m p).run = some r) ∨
    ∃ kk i, hi ≠ none ∧ vhi = some (.int kk i) ∧ 0 ≤ i ∧ i ≤ (mm : Int) ∧ ((k i.toNat).go m p).run = some r := by
  unfold cutHigh at h
  split at h
  · cases vhi with
    | some _ => exact hhi.elim
    | none =>
      split at h
      · exact .inl ⟨rfl, rfl, rfl, h⟩
      · exact (fail_some h).elim
  · rename_i kk i
    cases vhi with
    | none => exact hhi.elim
    | some v =>
      have := one_int (m := m) (G := G) hhi
      subst this
      replace h := tst_some h; rcases h with ⟨hc, h⟩ | ⟨_, h⟩
      · simp only [Bool.and_eq_true, decide_eq_true_eq] at hc
        exact .inr ⟨_, _, by simp, rfl, hc.1, hc.2, h⟩
      · exact (fail_some h).elim
  · exact (fail_some h).elim

theorem cut_some {n cap : Nat} {lo hi mx : Option AV} {vlo vhi vmx : Option Value} {k : Nat → Nat → Eff AV} {r : AV × Mem × FP} (hn : n ≤ cap) (isS : Bool) (hlo : optRel w (Frz B F m G w) m G lo vlo) (hhi : optRel w (Frz B F m G w) m G hi vhi) (hmx : optRel w (Frz B F m G w) m G mx vmx)
    (h : ((cutOp n lo hi mx k).go m p).run = some r) : ∃ l hh mm, (Instr.sliceBounds isS n cap vlo vhi vmx).run P w = .ok (l, hh, mm) w ∧ l ≤ hh ∧ hh ≤ n ∧ hh ≤ mm ∧ mm ≤ cap ∧ (lo = none → l = 0) ∧ (hi = none → hh = n) ∧ ((k l hh).go m p).run = some r := by
  unfold cutOp at h
  split at h
  · cases vmx with
    | some _ => exact hmx.elim
    | none =>
      replace h := high_some hhi h; rcases h with ⟨e1, e2, _, h⟩ | ⟨kk, i, e1, e2, h0, h1, h⟩
      · subst e1; subst e2
        obtain ⟨l, q1, q2, q3, q4⟩ := low_some (P := P) hlo h
        refine ⟨l, n, cap, ?_, q2, Nat.le_refl _, hn, Nat.le_refl _, q3, fun _ => rfl, q4⟩
        have q1 := q1 .sliceB
        cases vlo with
        | none => simp only [Instr.sliceBounds, Sem.run_bind, Sem.run_pure, Result.andThen_ok, Option.isSome_none, Bool.false_eq_true, if_false] at q1 ⊢; injection q1 with q1; rw [q1]
        | some v => simp only [Instr.sliceBounds, Sem.run_bind, Sem.run_pure, Result.andThen_ok, Option.isSome_none, Bool.false_eq_true, if_false] at q1 ⊢; rw [q1]; rfl
      · subst e2
        obtain ⟨l, q1, q2, q3, q4⟩ := low_some (P := P) hlo h
        have hle : i.toNat ≤ n := Int.toNat_le.2 h1
        refine ⟨l, i.toNat, cap, ?_, q2, hle, by omega, Nat.le_refl _, q3, fun e => (e1 e).elim, q4⟩
        have hb : ∀ code, (Instr.sliceBound (.int kk i) cap code).run P w = .ok i.toNat w := fun code => run_sliceBound h0 (Int.le_trans h1 (by omega))
        have q1 := q1 .sliceB
        cases vlo with
        | none => simp only [Instr.sliceBounds, Sem.run_bind, Sem.run_pure, Result.andThen_ok, hb, Option.isSome_none, Bool.false_eq_true, if_false] at q1 ⊢; injection q1 with q1; rw [q1]
        | some v => simp only [Instr.sliceBounds, Sem.run_bind, Sem.run_pure, Result.andThen_ok, hb, Option.isSome_none, Bool.false_eq_true, if_false] at q1 ⊢; rw [q1]; rfl
  · rename_i km im
    cases vmx with
    | none => exact hmx.elim
    | some v =>
      have := one_int (m := m) (G := G) hmx
      subst this
      replace h := tst_some h; rcases h with ⟨hc, h⟩ | ⟨_, h⟩
      · simp only [Bool.and_eq_true, decide_eq_true_eq] at hc
        have hin : im.toNat ≤ n := Int.toNat_le.2 hc.2
        have hbm : ∀ code, (Instr.sliceBound (.int km im) cap code).run P w = .ok im.toNat w := fun code => run_sliceBound hc.1 (Int.le_trans (show im ≤ (n : Int) from hc.2) (by omega))
        replace h := high_some hhi h; rcases h with ⟨_, _, e3, h⟩ | ⟨kk, i, e1, e2, h0, h1, h⟩
        · cases e3
        · subst e2
          obtain ⟨l, q1, q2, q3, q4⟩ := low_some (P := P) hlo h
          have hle : i.toNat ≤ im.toNat := Int.toNat_le.2 h1
          refine ⟨l, i.toNat, im.toNat, ?_, q2, by omega, hle, by omega, q3, fun e => (e1 e).elim, q4⟩
          have hb : ∀ code, (Instr.sliceBound (.int kk i) im.toNat code).run P w = .ok i.toNat w := fun code => run_sliceBound h0 h1
          have q1 := q1 .slice3C
          cases vlo with
          | none => simp only [Instr.sliceBounds, Sem.run_bind, Sem.run_pure, Result.andThen_ok, hb, hbm, Option.isSome_some, if_true] at q1 ⊢; injection q1 with q1; rw [q1]
          | some v => simp only [Instr.sliceBounds, Sem.run_bind, Sem.run_pure, Result.andThen_ok, hb, hbm, Option.isSome_some, if_true] at q1 ⊢; rw [q1]; rfl
      · exact (fail_some h).elim
  · exact (fail_some h).elim

theorem cutList_eq {α : Type} {lo hi : Bool} {l : List α} {a b : Nat} (hlo : lo = false → a = 0) (hhi : hi = false → b = l.length) : cutList lo hi l a b = (l.take b).drop a := by
  cases lo <;> cases hi <;> simp [cutList] at *
  · subst hlo; subst hhi; simp
  · subst hlo; simp
  · subst hhi; simp

/-- A cut of a list that lies in rows. -/
theorem rep_cut {Fr : Nat → Prop} {u : Ty} {l : List u.D} {A : Option Addr} {cells : List Value} (h1 : RepL (RepV w Fr u) l cells) (h2 : RowAt w Fr A cells) {a b mm : Nat} (hab : a ≤ b) (hb : b ≤ l.length) (hm : b ≤ mm) :
    RepO w Fr (.sl u) ((l.take b).drop a) (.slice (if mm = a then A else A.map (·.add (a * u.size))) (b - a) (mm - a)) := by
  have hl := fun x cs => RepV.length (w := w) (Fr := Fr) u x cs
  have hr := (h1.take hl b).drop hl a
  have hlen : ((l.take b).drop a).length = b - a := by rw [List.length_drop, List.length_take]; omega
  have key := mk_sl (w := w) (Fr := Fr) (t := u) (l := (l.take b).drop a) (A := if mm = a then A else A.map (·.add (a * u.size))) (c := mm - a) (cells := (cells.take (b * u.size)).drop (a * u.size)) (by rw [hlen]; omega) hr ?_
  · rwa [hlen] at key
  · rcases h2 with h2 | ⟨ad, e, hf, hc⟩
    · left; simp [h2]
    · by_cases hab' : a = b
      · left
        apply List.drop_of_length_le
        rw [List.length_take, hab']
        exact Nat.min_le_left _ _
      · right
        rw [if_neg (by omega), e]
        refine ⟨_, rfl, by rw [add_block]; exact hf, fun j x hx => ?_⟩
        rw [add_add]
        refine hc _ x ?_
        rw [List.getElem?_drop, List.getElem?_take] at hx
        split at hx
        · exact hx
        · cases hx

theorem slice_out (hT : typesChk P cx.types = true) (hm : MemOk B F w0 lim m G w) {t : TypeId} {x : AV} {lo hi mx : Option AV} {u : Value} {vlo vhi vmx : Option Value} (hx : repA w (Frz B F m G w) m G x .one [u])
    (hlo : optRel w (Frz B F m G w) m G lo vlo) (hhi : optRel w (Frz B F m G w) m G hi vhi) (hmx : optRel w (Frz B F m G w) m G mx vmx)
    (h : ((sliceOp cx t x lo hi mx).go m p).run = some (av, m', p')) : Out P B F w0 lim m G w (Instr.sliceAt t u vlo vhi vmx) m' av := by
  unfold sliceOp at h
  split at h
  · rename_i htt
    have hu := (tyFact_of hT htt).str
    split at h
    · rename_i s
      have e1 := one_str hx
      subst e1
      cases vmx with
      | some _ => exact hmx.elim
      | none =>
        obtain ⟨l, hh, mm, h1, h2, h3, h4, h5, h6, h7, h⟩ := cut_some (P := P) (Nat.le_refl _) false hlo hhi hmx h
        obtain ⟨h1', h2'⟩ := ret_some h
        subst h1'; subst h2'
        have hsz : (⟨s.toArray⟩ : ByteArray).size = s.length := by simp [ByteArray.size]
        refine out_pure (cv := .string ((⟨s.toArray⟩ : ByteArray).extract l hh)) ?_ hm ?_
        · simp only [Instr.sliceAt, Sem.run_bind, run_underlying hu, Result.andThen_ok, Instr.slice, hsz, Option.isSome_none, Bool.false_eq_true, if_false, Sem.run_pure, h1]
        · rw [cutList_eq (fun e => h6 (by simpa using e)) (fun e => h7 (by simpa using e))]
          have : (⟨s.toArray⟩ : ByteArray).extract l hh = ⟨((s.take hh).drop l).toArray⟩ := by
            apply ByteArray.ext
            apply Array.ext'
            simp [List.extract_eq_take_drop, List.drop_take]
          rw [this]
          exact mk_str _
    · exact (fail_some h).elim
  · rename_i ue e eb htt
    obtain ⟨hu, hsz, ⟨te, hte, hte'⟩, _⟩ := (tyFact_of hT htt).sl
    have hso := (tyFact_of hT hte).sizeOf w
    rw [hte'] at hso
    have key : ∀ {A : Option Addr} {n cap l hh mm : Nat}, (Instr.sliceBounds true n cap vlo vhi vmx).run P w = .ok (l, hh, mm) w →
        (Instr.sliceAt t (.slice A n cap) vlo vhi vmx).run P w = .ok (.slice (if mm = l then A else A.map (·.add (l * ue.size))) (hh - l) (mm - l)) w := by
      intro A n cap l hh mm hb
      simp only [Instr.sliceAt, Sem.run_bind, run_underlying hu, Result.andThen_ok, Instr.slice, hb, hso, Sem.run_pure]
    split at h
    · rename_i u' l
      replace h := ite_some h; rcases h with ⟨hu1, h⟩ | ⟨_, h⟩
      · subst hu1
        obtain ⟨A, c, cells, e3, r1, r2, r3⟩ := one_sl (one_val hx)
        subst e3
        obtain ⟨lo', hh, mm, h1, h2, h3, h4, h5, h6, h7, h⟩ := cut_some (P := P) r1 true hlo hhi hmx h
        obtain ⟨h1', h2'⟩ := ret_some h
        subst h1'; subst h2'
        refine out_pure (key h1) hm ?_
        rw [cutList_eq (fun e => h6 (by simpa using e)) (fun e => h7 (by simpa using e))]
        exact mk_val (rep_cut r2 r3 h2 h3 h4)
      · exact (fail_some h).elim
    · rename_i u' l
      replace h := ite_some h; rcases h with ⟨hu1, h⟩ | ⟨_, h⟩
      · subst hu1
        obtain ⟨A, c, cells, e3, r1, r2, r3⟩ := one_sl (show RepO w (Frz B F m G w) (.sl ue) l u from (one_nn hx).1)
        subst e3
        obtain ⟨lo', hh, mm, h1, h2, h3, h4, h5, h6, h7, h⟩ := cut_some (P := P) r1 true hlo hhi hmx h
        obtain ⟨h1', h2'⟩ := ret_some h
        subst h1'; subst h2'
        refine out_pure (key h1) hm ?_
        rw [cutList_eq (fun e => h6 (by simpa using e)) (fun e => h7 (by simpa using e))]
        exact mk_val (rep_cut r2 r3 h2 h3 h4)
      · exact (fail_some h).elim
    · rename_i b ve
      replace h := rd_some h; obtain ⟨c, z, hc, h⟩ := h
      cases c with
      | var => exact (fail_some h).elim
      | row e1 t1 xs v1 =>
        replace h := ite_some h; rcases h with ⟨⟨hv, hu1⟩, h⟩ | ⟨_, h⟩
        · subst hv; subst hu1
          obtain ⟨ho, e3, t3, xs3, v3, z3, r1, r2, r3⟩ := one_own hx
          rw [hc] at r1
          injection r1 with r1
          injection r1 with r1 r1'
          injection r1 with s1 s2 s3 s4
          subst s1; subst s2; subst s4; subst r1'
          cases s3
          have hG := r3 rfl
          subst hG
          obtain ⟨A, c, cells, g1, g2, g3, g4⟩ := row_cells hm hc
          obtain ⟨lo', hh, mm, h1, h2, h3, h4, h5, h6, h7, h⟩ := cut_some (P := P) g2 true hlo hhi hmx h
          obtain ⟨h1', h2'⟩ := ret_some h
          subst h1'; subst h2'
          refine out_pure (by rw [g1]; exact key h1) hm ?_
          refine ⟨_, rfl, rfl, _, _, _, _, _, hc, Nat.le_refl _, fun _ => ⟨by omega, _, _, rfl, by omega, fun hne => ?_⟩⟩
          rcases g4 with g4 | ⟨g, g5, g6, g7⟩
          · have := g3.length (fun x cs => RepV.length ue x cs)
            rw [g4, List.length_nil] at this
            have := Nat.mul_pos (show 0 < xs.length by omega) hsz
            omega
          · subst g5
            refine ⟨g, _, _, g1, ?_⟩
            rw [if_neg (by omega)]
            simp [add_zero_off]
        · exact (fail_some h).elim
    · rename_i b ve l0 n
      replace h := rd_some h; obtain ⟨c, z, hc, h⟩ := h
      cases c with
      | var => exact (fail_some h).elim
      | row e1 t1 xs v1 =>
        replace h := ite_some h; rcases h with ⟨⟨hv, hu1⟩, h⟩ | ⟨_, h⟩
        · subst hv; subst hu1
          obtain ⟨ho, e3, t3, xs3, v3, z3, r1, r2, r3⟩ := one_sub hx
          rw [hc] at r1
          injection r1 with r1
          injection r1 with r1 r1'
          injection r1 with s1 s2 s3 s4
          subst s1; subst s2; subst s4; subst r1'
          cases s3
          obtain ⟨k1, A, c, k2, k3, k4⟩ := r3 rfl
          subst k2
          obtain ⟨lo', hh, mm, h1, h2, h3, h4, h5, h6, h7, h⟩ := cut_some (P := P) k3 true hlo hhi hmx h
          obtain ⟨h1', h2'⟩ := ret_some h
          subst h1'; subst h2'
          refine out_pure (key h1) hm ?_
          refine ⟨_, rfl, rfl, _, _, _, _, _, hc, Nat.le_refl _, fun _ => ⟨by omega, _, _, rfl, by omega, fun hne => ?_⟩⟩
          obtain ⟨g, nn, cap, k5, k6⟩ := k4 (by omega)
          subst k6
          refine ⟨g, _, _, k5, ?_⟩
          rw [if_neg (by omega)]
          simp [add_off, Nat.add_mul]
        · exact (fail_some h).elim
    · exact (fail_some h).elim
  · rename_i n ue e eb htt
    obtain ⟨hu, hsz, te, hte, hte'⟩ := (tyFact_of hT htt).arr
    have hso := (tyFact_of hT hte).sizeOf w
    rw [hte'] at hso
    split at h
    · rename_i b q
      replace h := rd_some h; obtain ⟨c, z, hc, h⟩ := h
      cases c with
      | row => exact (fail_some h).elim
      | var Tv cv0 =>
        replace h := ite_some h; rcases h with ⟨hq, h⟩ | ⟨_, h⟩
        · split at h
          · rename_i n' u' l hget
            obtain ⟨T', c', z', g, r1, r2, r3, r4⟩ := one_ptr hx
            rw [hc] at r1
            injection r1 with r1
            injection r1 with r1 _
            injection r1 with r1 _
            subst r1; subst r4
            obtain ⟨g', arr, e', k1, k2, k3, k4, k5⟩ := hm.blk _ _ _ hc
            rw [r3] at k1
            injection k1 with k1
            injection k1 with k1
            injection k1 with k1
            subst k1
            obtain ⟨s1, s2⟩ := get_rep r2 k4 hq hget k5
            have hnu : n = n' ∧ ue = u' := by
              rcases s2 with s2 | ⟨x, s2⟩
              · have := fits_val s2
                injection this with h1 h2
                exact ⟨h1, h2⟩
              · injection s2 with h1 h2
                injection h1 with h1 h3
                exact ⟨h1.symm, h3.symm⟩
            obtain ⟨rfl, rfl⟩ := hnu
            obtain ⟨q1, q2⟩ := (show _ ∧ _ from s1)
            obtain ⟨lo', hh, mm, h1, h2, h3, h4, h5, h6, h7, h⟩ := cut_some (P := P) (Nat.le_refl _) false hlo hhi hmx h
            replace h := fz_some h; obtain ⟨c2, z2, hc2, h⟩ := h
            obtain ⟨h1', h2'⟩ := ret_some h
            subst h1'; subst h2'
            rw [hc] at hc2
            injection hc2 with hc2
            injection hc2 with hc2 _
            subst hc2
            obtain ⟨hm1, ht1⟩ := hm.freeze hc
            refine ⟨G, w, .slice (if mm = lo' then some ⟨g, offP q Tv, none⟩ else (some ⟨g, offP q Tv, none⟩ : Option Addr).map (·.add (lo' * ue.size))) (hh - lo') (mm - lo'), ?_, hm1, ht1, ?_⟩
            · simp only [Instr.sliceAt, Sem.run_bind, run_underlying hu, Result.andThen_ok, Instr.sureAddr, Sem.run_pure, h1, hso]
              congr 2
              split <;> rfl
            · rw [cutList_eq (fun e => h6 (by simpa using e)) (fun e => (h7 (by simpa using e)).trans q1.symm)]
              refine mk_val (rep_cut (q2.mono fun x cs hx => RepV.mono (fun k hk => ⟨(ht1.fr k hk).1, rfl⟩) _ _ _ hx) (.inr ⟨_, rfl, ?_, cell_row k3⟩) h2 (by omega) h4)
              exact hm1.frz_live (b := b) (c := .var Tv cv0) (by simp [Mem.set]) (by rw [r3]; rfl)
          · exact (fail_some h).elim
        · exact (fail_some h).elim
    · exact (fail_some h).elim
  · exact (fail_some h).elim

/-! ### Lengths -/
theorem len_out (hT : typesChk P cx.types = true) (hm : MemOk B F w0 lim m G w) {t ty : TypeId} {x : AV} {u : Value} (hx : repA w (Frz B F m G w) m G x .one [u])
    (h : ((lenOp cx t x).go m p).run = some (av, m', p')) : m' = m ∧ Out P B F w0 lim m G w (Builtin.len_ #[t] ty #[u]) m' av := by
  unfold lenOp at h
  split at h
  · rename_i htt
    have hu := (tyFact_of hT htt).str
    split at h
    · rename_i s
      have e1 := one_str hx
      subst e1
      obtain ⟨h1', h2'⟩ := ret_some h
      subst h1'; subst h2'
      refine ⟨rfl, out_pure (cv := .int .i64 (s.length : Int)) ?_ hm (mk_int ..)⟩
      have hsz : (⟨s.toArray⟩ : ByteArray).size = s.length := by simp [ByteArray.size]
      simp only [Builtin.len_, List.getElem?_toArray, List.getElem?_cons_zero, Sem.run_bind, run_underlying hu, Result.andThen_ok, Sem.run_pure, hsz]
      rfl
    · exact (fail_some h).elim
  · rename_i ue e eb htt
    have hu := (tyFact_of hT htt).sl.1
    have key : ∀ (A : Option Addr) (n c : Nat), (Builtin.len_ #[t] ty #[.slice A n c]).run P w = .ok (.int .i64 (n : Int)) w := by
      intro A n c
      simp [Builtin.len_, run_underlying hu, goInt]
    split at h
    · rename_i u' l
      obtain ⟨h1', h2'⟩ := ret_some h
      subst h1'; subst h2'
      obtain ⟨A, c, cells, e3, _⟩ := one_sl (one_val hx)
      subst e3
      exact ⟨rfl, out_pure (key ..) hm (mk_int ..)⟩
    · rename_i u' l
      obtain ⟨h1', h2'⟩ := ret_some h
      subst h1'; subst h2'
      obtain ⟨A, c, cells, e3, _⟩ := one_sl (show RepO w (Frz B F m G w) (.sl u') l u from (one_nn hx).1)
      subst e3
      exact ⟨rfl, out_pure (key ..) hm (mk_int ..)⟩
    · obtain ⟨h1', h2'⟩ := ret_some h
      subst h1'; subst h2'
      have e1 := one_nil hx
      subst e1
      exact ⟨rfl, out_pure (key none 0 0) hm (mk_int ..)⟩
    · rename_i b ve
      replace h := rd_some h; obtain ⟨c, z, hc, h⟩ := h
      cases c with
      | var => exact (fail_some h).elim
      | row e1 t1 xs v1 =>
        replace h := ite_some h; rcases h with ⟨hv, h⟩ | ⟨_, h⟩
        · subst hv
          obtain ⟨h1', h2'⟩ := ret_some h
          subst h1'; subst h2'
          obtain ⟨ho, e3, t3, xs3, v3, z3, r1, r2, r3⟩ := one_own hx
          rw [hc] at r1
          injection r1 with r1
          injection r1 with r1 r1'
          injection r1 with s1 s2 s3 s4
          subst s1; subst s2; subst s4; subst r1'
          cases s3
          have hG := r3 rfl
          subst hG
          obtain ⟨A, c, cells, g1, g2, g3, g4⟩ := row_cells hm hc
          exact ⟨rfl, out_pure (by rw [g1]; exact key ..) hm (mk_int ..)⟩
        · exact (fail_some h).elim
    · rename_i b ve l0 n
      replace h := rd_some h; obtain ⟨c, z, hc, h⟩ := h
      cases c with
      | var => exact (fail_some h).elim
      | row e1 t1 xs v1 =>
        replace h := ite_some h; rcases h with ⟨hv, h⟩ | ⟨_, h⟩
        · subst hv
          obtain ⟨h1', h2'⟩ := ret_some h
          subst h1'; subst h2'
          obtain ⟨ho, e3, t3, xs3, v3, z3, r1, r2, r3⟩ := one_sub hx
          rw [hc] at r1
          injection r1 with r1
          injection r1 with r1 r1'
          injection r1 with s1 s2 s3 s4
          subst s1; subst s2; subst s4; subst r1'
          cases s3
          obtain ⟨k1, A, c, k2, k3, k4⟩ := r3 rfl
          subst k2
          exact ⟨rfl, out_pure (key ..) hm (mk_int ..)⟩
        · exact (fail_some h).elim
    · exact (fail_some h).elim
  · exact (fail_some h).elim

/-! ### New variables -/
theorem explode_fits : ∀ (t : Ty) (x : t.D), AV.fits t (explode t x) = true
  | .pair a b, x => by simp [explode, AV.fits, explode_fits a, explode_fits b]
  | .unit, _ => rfl
  | .int _, _ | .bool, _ | .str, _ | .opq, _ | .arr .., _ | .sl _, _ => by simp [explode, AV.fits]

theorem MemOk.newVar (hm : MemOk B F w0 lim m G w) {site : Nat} (hs : m site = none) (hl : site < lim) {T : Ty} {c : AV} {cells : Array Value} {e : TypeId} (hf : AV.fits T c = true) (hr : repA w (Frz B F m G w) m G c .cells cells.toList) :
    MemOk B F w0 lim (m.set site (.var T c, false)) (upd G site (.pointer (some ⟨w.heap.size, 0, none⟩))) (w.alloc (.cells cells e)) ∧
    Tr B F m G w (m.set site (.var T c, false)) (upd G site (.pointer (some ⟨w.heap.size, 0, none⟩))) (w.alloc (.cells cells e)) := by
  refine hm.step (Below.alloc (Below.refl _ _) hm.base _) (fun k hk _ => heap_alloc_old w _ k hk) (fun k hk => .inr (by simp [hdNo] at hk; omega)) (fun c z hc => by rw [hs] at hc; cases hc) hl fun htr => ?_
  exact ⟨w.heap.size, cells, e, by simp [upd], hm.base, heap_alloc_new w _, hf, repA.mono htr _ _ _ hr⟩

theorem new_ptr {site : Nat} {T : Ty} {c : AV} {z : Bool} {g : Nat} {w' : World} {Fr : Nat → Prop} : repA w' Fr (m.set site (.var T c, z)) (upd G site (.pointer (some ⟨g, 0, none⟩))) (.ptr site []) .one [.pointer (some ⟨g, 0, none⟩)] :=
  ⟨_, rfl, T, c, z, g, by simp [Mem.set], trivial, by simp [upd], rfl⟩

theorem alloc_out (hT : typesChk P cx.types = true) (hm : MemOk B F w0 lim m G w) {site : Nat} (hl : site < lim) {t : TypeId} (h : ((allocOp cx site t).go m p).run = some (av, m', p')) :
    Out P B F w0 lim m G w (Instr.alloc t true (.tuple #[])) m' av := by
  unfold allocOp at h
  split at h
  · rename_i ue e eb htt
    obtain ⟨i, z, hi, h2, h3, h4, h5⟩ := (tyFact_of hT htt).info
    replace h := nw_some h; obtain ⟨hn, h⟩ := h
    obtain ⟨h1', h2'⟩ := ret_some h
    subst h1'; subst h2'
    obtain ⟨hm1, ht1⟩ := hm.newVar (e := t) hn hl (explode_fits ue ue.zero) (explode_rep ue _ _ (zeroChk_rep ue z.cells.toList h4))
    refine ⟨_, _, _, ?_, hm1, ht1, new_ptr⟩
    simp [Instr.alloc, zeroValue, typeInfo, hi, h3, newVar, newRow]
  · exact (fail_some h).elim

theorem box_out (hm : MemOk B F w0 lim m G w) {site : Nat} (hl : site < lim) {t : TypeId} {x : AV} {u : Value} (hx : repA w (Frz B F m G w) m G x .one [u]) (h : ((boxOp cx site t x).go m p).run = some (av, m', p')) :
    Out P B F w0 lim m G w (Instr.box t u) m' av := by
  unfold boxOp at h
  split at h
  · rename_i ue e eb htt
    replace h := ite_some h; rcases h with ⟨⟨hf, hs⟩, h⟩ | ⟨_, h⟩
    · replace h := nw_some h; obtain ⟨hn, h⟩ := h
      obtain ⟨h1', h2'⟩ := ret_some h
      subst h1'; subst h2'
      obtain ⟨hm1, ht1⟩ := hm.newVar (e := t) hn hl hf (norm_rep _ _ (repA.toCells hs hx))
      refine ⟨_, _, _, ?_, hm1, ht1, new_ptr⟩
      simp [Instr.box, newVar, newRow]
    · exact (fail_some h).elim
  · exact (fail_some h).elim
end
end Go.Refl
