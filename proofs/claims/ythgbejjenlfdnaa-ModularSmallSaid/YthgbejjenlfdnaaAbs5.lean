/-
  What single operations do: values as typed ones, numbers, places, loads and stores.
-/
import Derived.Test.YthgbejjenlfdnaaAbs4
import Derived.Calls
set_option linter.unusedVariables false
namespace Go.Refl
open Go Go.RowKit

theorem add_zero_off (g n : Nat) : (⟨g, 0, none⟩ : Addr).add n = ⟨g, n, none⟩ := by unfold Addr.add; split <;> simp_all
theorem add_off (g o n : Nat) : (⟨g, o, none⟩ : Addr).add n = ⟨g, o + n, none⟩ := by unfold Addr.add; split <;> simp_all
theorem add_add (a : Addr) (m n : Nat) : (a.add m).add n = a.add (m + n) := by
  unfold Addr.add
  by_cases h1 : m = 0 <;> by_cases h2 : n = 0 <;> simp [h1, h2, Nat.add_assoc]
theorem add_block (a : Addr) (n : Nat) : (a.add n).block = a.block := by unfold Addr.add; split <;> rfl

/-! ### What an effect comes to -/
section
variable {α : Type}
theorem go_tst (c : Bool) (y n : Eff α) (m : Mem) (p : FP) : ((Eff.tst c y n).go m p).run = if c = true then (y.go m p).run else (n.go m p).run := rfl
theorem opt_some {β γ : Type} {o : Option β} {k : β → Eff γ} {m : Mem} {p : FP} {r : γ × Mem × FP} (h : ((Eff.opt o k).go m p).run = some r) : ∃ b, o = some b ∧ ((k b).go m p).run = some r := by
  cases o with
  | none => cases h
  | some b => exact ⟨b, rfl, h⟩
theorem rd_some {k : Cn → Eff α} {b : Nat} {m : Mem} {p : FP} {r : α × Mem × FP} (h : ((Eff.rd b k).go m p).run = some r) : ∃ c z, m b = some (c, z) ∧ ((k c).go m ((b, 0) :: p)).run = some r := by
  simp only [Eff.go] at h
  split at h
  · rename_i c z hc
    exact ⟨c, z, hc, h⟩
  · cases h
theorem wr_some {k : Eff α} {b : Nat} {c : Cn} {m : Mem} {p : FP} {r : α × Mem × FP} (h : ((Eff.wr b c k).go m p).run = some r) : ∃ c0, m b = some (c0, false) ∧ (k.go (m.set b (c, false)) ((b, 2) :: p)).run = some r := by
  simp only [Eff.go] at h
  split at h
  · rename_i c0 hc
    exact ⟨c0, hc, h⟩
  · cases h
theorem fz_some {k : Eff α} {b : Nat} {m : Mem} {p : FP} {r : α × Mem × FP} (h : ((Eff.fz b k).go m p).run = some r) : ∃ c z, m b = some (c, z) ∧ (k.go (m.set b (c, true)) ((b, 1) :: p)).run = some r := by
  simp only [Eff.go] at h
  split at h
  · rename_i c z hc
    exact ⟨c, z, hc, h⟩
  · cases h
theorem nw_some {k : Eff α} {b : Nat} {c : Cn} {m : Mem} {p : FP} {r : α × Mem × FP} (h : ((Eff.nw b c k).go m p).run = some r) : m b = none ∧ (k.go (m.set b (c, false)) ((b, 2) :: p)).run = some r := by
  simp only [Eff.go] at h
  split at h
  · rename_i hc
    exact ⟨hc, h⟩
  · cases h
theorem tst_some {c : Bool} {y n : Eff α} {m : Mem} {p : FP} {r : α × Mem × FP} (h : ((Eff.tst c y n).go m p).run = some r) : (c = true ∧ (y.go m p).run = some r) ∨ (c = false ∧ (n.go m p).run = some r) := by
  rw [go_tst] at h
  cases c <;> simp at h
  · exact .inr ⟨rfl, h⟩
  · exact .inl ⟨rfl, h⟩
theorem ask_some {β : Type} {x : Option β} {k : β → Eff α} {m : Mem} {p : FP} {r : α × Mem × FP} (h : ((Eff.ask x k).go m p).run = some r) : ∃ b, x = some b ∧ ((k b).go m p).run = some r := by
  cases x with
  | none => cases h
  | some b => exact ⟨b, rfl, h⟩
theorem ret_some {x : α} {m m' : Mem} {p p' : FP} {y : α} (h : ((Eff.ret x).go m p).run = some (y, m', p')) : x = y ∧ m = m' := by
  simp only [Eff.go, Pr.run] at h
  injection h with h
  injection h with h1 h2
  injection h2 with h2 _
  exact ⟨h1, h2⟩
theorem fail_some {m : Mem} {p : FP} {r : α × Mem × FP} (h : ((Eff.fail : Eff α).go m p).run = some r) : False := by cases h
theorem ite_some {c : Prop} [Decidable c] {y n : Eff α} {m : Mem} {p : FP} {r : α × Mem × FP} (h : ((if c then y else n).go m p).run = some r) : (c ∧ (y.go m p).run = some r) ∨ (¬ c ∧ (n.go m p).run = some r) := by
  split at h
  · rename_i hc; exact .inl ⟨hc, h⟩
  · rename_i hc; exact .inr ⟨hc, h⟩
end

/-! ### Single values -/
section
variable {w : World} {Fr : Nat → Prop} {m : Mem} {G : Nat → Value}
theorem one_int {k : IntKind} {n : Int} {v : Value} (h : repA w Fr m G (.val (.int k) n) .one [v]) : v = .int k n := by
  obtain ⟨v', e, hr⟩ := h
  injection e with e
  subst e
  injection (show [v] = [_] from hr)
theorem one_bool {b : Bool} {v : Value} (h : repA w Fr m G (.val .bool b) .one [v]) : v = .bool b := by
  obtain ⟨v', e, hr⟩ := h
  injection e with e
  subst e
  injection (show [v] = [_] from hr)
theorem one_str {s : List UInt8} {v : Value} (h : repA w Fr m G (.val .str s) .one [v]) : v = .string ⟨s.toArray⟩ := by
  obtain ⟨v', e, hr⟩ := h
  injection e with e
  subst e
  injection (show [v] = [_] from hr)
theorem mk_int (k : IntKind) (n : Int) : repA w Fr m G (.val (.int k) n) .one [.int k n] := ⟨_, rfl, rfl⟩
theorem mk_bool (b : Bool) : repA w Fr m G (.val .bool b) .one [.bool b] := ⟨_, rfl, rfl⟩
theorem mk_str (s : List UInt8) : repA w Fr m G (.val .str s) .one [.string ⟨s.toArray⟩] := ⟨_, rfl, rfl⟩
theorem one_val {t : Ty} {x : t.D} {v : Value} (h : repA w Fr m G (.val t x) .one [v]) : RepO w Fr t x v := by
  obtain ⟨v', e, hr⟩ := h
  injection e with e
  subst e
  exact hr
theorem mk_val {t : Ty} {x : t.D} {v : Value} (h : RepO w Fr t x v) : repA w Fr m G (.val t x) .one [v] := ⟨_, rfl, h⟩
theorem one_sl {t : Ty} {l : List t.D} {v : Value} (h : RepO w Fr (.sl t) l v) : ∃ A c cells, v = .slice A l.length c ∧ l.length ≤ c ∧ RepL (RepV w Fr t) l cells ∧ RowAt w Fr A cells := by
  obtain ⟨A, c, cells, e, h⟩ := (show RepV w Fr (.sl t) l [v] from h)
  injection e with e
  exact ⟨A, c, cells, e, h⟩
theorem mk_sl {t : Ty} {l : List t.D} {A : Option Addr} {c : Nat} {cells : List Value} (h1 : l.length ≤ c) (h2 : RepL (RepV w Fr t) l cells) (h3 : RowAt w Fr A cells) : RepO w Fr (.sl t) l (.slice A l.length c) :=
  ⟨A, c, cells, rfl, h1, h2, h3⟩
theorem one_s {a : AV} {v : Value} (ha : ∀ t x, a ≠ .val t x) (hu : a ≠ .undef) (h : repA w Fr m G a .one [v]) (hs : ∀ v', repA w Fr m G a .one [v'] → (∃ u, [v'] = [u] ∧ repS w Fr m G a u)) : repS w Fr m G a v := by
  obtain ⟨u, e, hr⟩ := hs v h
  injection e with e
  subst e
  exact hr
theorem one_own {b ve : Nat} {v : Value} (h : repA w Fr m G (.own b ve) .one [v]) : repS w Fr m G (.own b ve) v := by
  obtain ⟨u, e, hr⟩ := h
  injection e with e
  exact e ▸ hr
theorem one_sub {b ve lo n : Nat} {v : Value} (h : repA w Fr m G (.sub b ve lo n) .one [v]) : repS w Fr m G (.sub b ve lo n) v := by
  obtain ⟨u, e, hr⟩ := h
  injection e with e
  exact e ▸ hr
theorem one_ptr {b : Nat} {p : List Step} {v : Value} (h : repA w Fr m G (.ptr b p) .one [v]) : repS w Fr m G (.ptr b p) v := by
  obtain ⟨u, e, hr⟩ := h
  injection e with e
  exact e ▸ hr
theorem one_rptr {b ve i : Nat} {p : List Step} {v : Value} (h : repA w Fr m G (.rptr b ve i p) .one [v]) : repS w Fr m G (.rptr b ve i p) v := by
  obtain ⟨u, e, hr⟩ := h
  injection e with e
  exact e ▸ hr
theorem one_ref {t : Ty} {x : t.D} {v : Value} (h : repA w Fr m G (.ref t x) .one [v]) : repS w Fr m G (.ref t x) v := by
  obtain ⟨u, e, hr⟩ := h
  injection e with e
  exact e ▸ hr
theorem one_nn {t : Ty} {x : List t.D} {v : Value} (h : repA w Fr m G (.nn t x) .one [v]) : repS w Fr m G (.nn t x) v := by
  obtain ⟨u, e, hr⟩ := h
  injection e with e
  exact e ▸ hr
theorem one_nil {v : Value} (h : repA w Fr m G .nil .one [v]) : v = .slice none 0 0 := by
  obtain ⟨u, e, hr⟩ := h
  injection e with e
  exact e ▸ hr
theorem one_fn {f : FuncId} {a b : AV} {v : Value} (h : repA w Fr m G (.fn f a b) .one [v]) : ∃ x y, v = .func (.func f) x.toArray y.toArray ∧ repA w Fr m G a .chain x ∧ repA w Fr m G b .chain y := by
  obtain ⟨x, y, e, hr⟩ := h
  injection e with e
  exact ⟨x, y, e, hr⟩
theorem one_tp {l : AV} {v : Value} (h : repA w Fr m G (.tp l) .one [v]) : ∃ ws, v = .tuple ws.toArray ∧ repA w Fr m G l .chain ws := by
  obtain ⟨ws, e, hr⟩ := h
  injection e with e
  exact ⟨ws, e, hr⟩
end

/-! ### Typed values out of abstract ones -/
section
variable {B : Nat} {F : Nat → Prop} {w0 : World} {lim : Nat} {m : Mem} {G : Nat → Value} {w : World}

/-- The blocks that a typed value may lead to: where its rows have been frozen those that stay; else all. -/
def Reach (z : Bool) (B : Nat) (F : Nat → Prop) (m : Mem) (G : Nat → Value) (w : World) : Nat → Prop := fun k => if z = true then Frz B F m G w k else k < w.heap.size

theorem Frz.lt (hB : B ≤ w.heap.size) {k : Nat} (h : Frz B F m G w k) : k < w.heap.size := by
  rcases h with ⟨h1, _⟩ | ⟨_, h2, _⟩
  · omega
  · exact h2

theorem Reach.of_frz (z : Bool) (hB : B ≤ w.heap.size) {k : Nat} (h : Frz B F m G w k) : Reach z B F m G w k := by
  unfold Reach
  split
  · exact h
  · exact h.lt hB

theorem Reach.mono {m' : Mem} (z : Bool) (ht : Tr B F m G w m' G w) {k : Nat} (h : Reach z B F m G w k) : Reach z B F m' G w k := by
  unfold Reach at *
  split at h
  · rename_i hz; rw [if_pos hz]; exact (ht.fr k h).1
  · rename_i hz; rw [if_neg hz]; exact h

/-- The cells of a live row. -/
theorem row_cells (h : MemOk B F w0 lim m G w) {b : Nat} {e : TypeId} {t : Ty} {xs : List t.D} {v : Nat} {z : Bool} (hm : m b = some (.row e t xs v, z)) :
    ∃ A c cells, G b = .slice A xs.length c ∧ xs.length ≤ c ∧ RepL (RepV w (Frz B F m G w) t) xs cells ∧ (cells = [] ∨ ∃ g, A = some ⟨g, 0, none⟩ ∧ hdNo (G b) = some g ∧ ∀ j u, cells[j]? = some u → w.cell? ⟨g, j, none⟩ = some u) := by
  obtain ⟨cells, h1, h2, h3⟩ := h.blk _ _ _ hm
  rcases h1.2 with ⟨h4, h5⟩ | ⟨g, cap, cur, h4, h5, h6, h7, h8, h9, h10⟩
  · have hx : cells = [] := List.eq_nil_of_length_eq_zero (by rw [h1.1, h5]; simp)
    exact ⟨none, 0, cells, by rw [h4, h5], by omega, h2, .inl hx⟩
  · refine ⟨some ⟨g, 0, none⟩, cap, cells, h4, h7, h2, .inr ⟨g, rfl, by rw [h4]; rfl, fun j u hu => ?_⟩⟩
    have := h1.cells (g := g) (by rw [h4]; rfl) j u hu
    rwa [add_zero_off] at this

theorem toVal_cells (z : Bool) {β : Type} : ∀ {t : Ty} {a : AV} {k : t.D → Eff β} {m : Mem} {p : FP} {r : β × Mem × FP} {cs : List Value}, ((toVal z t a k).go m p).run = some r → MemOk B F w0 lim m G w →
    repA w (Frz B F m G w) m G a .cells cs → ∃ x m1 p1, ((k x).go m1 p1).run = some r ∧ MemOk B F w0 lim m1 G w ∧ Tr B F m G w m1 G w ∧ RepV w (Reach z B F m1 G w) t x cs
  | t, .val u y, k, m, p, r, cs, h, hm, hr => by
    have h' : ((Eff.opt (Ty.cast (t := u) (u := t) y) k).go m p).run = some r := by cases t <;> exact h
    obtain ⟨x, hx, hk⟩ := opt_some h'
    obtain ⟨e, hxy⟩ := cast_rep hx
    subst e
    cases hxy
    exact ⟨_, m, p, hk, hm, Tr.refl .., RepV.mono (fun k hk => ⟨Reach.of_frz z hm.base hk, rfl⟩) _ _ _ hr⟩
  | .sl t, .nn u xs, k, m, p, r, cs, h, hm, hr => by
    obtain ⟨x, hx, hk⟩ := opt_some (show ((Eff.opt (Ty.cast (t := .sl u) (u := .sl t) xs) k).go m p).run = some r from h)
    obtain ⟨e, hxy⟩ := cast_rep hx
    injection e with e
    subst e
    cases hxy
    obtain ⟨v, e, h1, h2⟩ := hr
    subst e
    exact ⟨_, m, p, hk, hm, Tr.refl .., RepV.mono (fun k hk => ⟨Reach.of_frz z hm.base hk, rfl⟩) _ _ _ h1⟩
  | .sl t, .nil, k, m, p, r, cs, h, hm, hr => by
    obtain ⟨v, e, h1⟩ := hr
    subst e
    refine ⟨[], m, p, h, hm, Tr.refl .., none, 0, [], ?_, Nat.le_refl _, rfl, .inl rfl⟩
    rw [show v = Value.slice none 0 0 from h1]
    rfl
  | .sl t, .own b v, k, m, p, r, cs, h, hm, hr => by
    obtain ⟨c, z0, hc, h⟩ := rd_some h
    cases c with
    | var => exact (fail_some h).elim
    | row e u xs v' =>
      obtain ⟨cv, ecs, h1, e1, t1, xs1, v1, z1, h2, h3, h4⟩ := hr
      subst ecs
      rw [hc] at h2
      injection h2 with h2
      injection h2 with h2 h2'
      injection h2 with q1 q2 q3 q4
      subst q1; subst q2; subst q4; subst h2'
      cases q3
      rcases ite_some h with ⟨hv, h⟩ | ⟨_, h⟩
      · obtain ⟨ys, hy, h⟩ := opt_some h
        obtain ⟨e, hxy⟩ := cast_rep hy
        injection e with e
        subst e
        cases hxy
        have hcv := h4 hv
        subst hcv
        obtain ⟨A, c, cells, g1, g2, g3, g4⟩ := row_cells hm hc
        cases z with
        | true =>
          obtain ⟨c', z', hc', h⟩ := fz_some h
          rw [hc] at hc'
          injection hc' with hc'
          injection hc' with hc' _
          subst hc'
          obtain ⟨hm1, ht1⟩ := hm.freeze hc
          refine ⟨_, _, _, h, hm1, ht1, A, c, cells, by rw [g1], g2, g3.mono fun x cs hx => RepV.mono (fun k hk => ⟨(ht1.fr k hk).1, rfl⟩) _ _ _ hx, ?_⟩
          rcases g4 with g4 | ⟨g, g5, g6, g7⟩
          · exact .inl g4
          · exact .inr ⟨_, g5, hm1.frz_live (b := b) (c := .row e u xs v') (by simp [Mem.set]) g6, fun j u hu => by rw [add_zero_off]; exact g7 j u hu⟩
        | false =>
          refine ⟨_, _, _, h, hm, Tr.refl .., A, c, cells, by rw [g1], g2, g3.mono fun x cs hx => RepV.mono (fun k hk => ⟨Frz.lt hm.base hk, rfl⟩) _ _ _ hx, ?_⟩
          rcases g4 with g4 | ⟨g, g5, g6, g7⟩
          · exact .inl g4
          · exact .inr ⟨_, g5, ((hm.blk _ _ _ hc).no g6).2, fun j u hu => by rw [add_zero_off]; exact g7 j u hu⟩
      · exact (fail_some h).elim
  | .sl t, .sub b v lo n, k, m, p, r, cs, h, hm, hr => by
    obtain ⟨c, z0, hc, h⟩ := rd_some h
    cases c with
    | var => exact (fail_some h).elim
    | row e u xs v' =>
      obtain ⟨cv, ecs, h1, e1, t1, xs1, v1, z1, h2, h3, h4⟩ := hr
      subst ecs
      rw [hc] at h2
      injection h2 with h2
      injection h2 with h2 h2'
      injection h2 with q1 q2 q3 q4
      subst q1; subst q2; subst q4; subst h2'
      cases q3
      rcases ite_some h with ⟨hv, h⟩ | ⟨_, h⟩
      · obtain ⟨ys, hy, h⟩ := opt_some h
        obtain ⟨e, hxy⟩ := cast_rep hy
        injection e with e
        subst e
        cases hxy
        obtain ⟨q1, A', c', q2, q3, q4⟩ := h4 hv
        subst q2
        obtain ⟨A, c, cells, g1, g2, g3, g4⟩ := row_cells hm hc
        have hlen : ((xs.drop lo).take n).length = n := by rw [List.length_take, List.length_drop]; omega
        have hl := fun x cs => RepV.length (w := w) (Fr := Frz B F m G w) u x cs
        have hcl := (g3.drop hl lo).take hl n
        have at_ : (List.take (n * u.size) (List.drop (lo * u.size) cells)) = [] ∨ ∃ g, A' = some ⟨g, lo * u.size, none⟩ ∧ hdNo (G b) = some g ∧ ∀ j x, (List.take (n * u.size) (List.drop (lo * u.size) cells))[j]? = some x → w.cell? ((⟨g, lo * u.size, none⟩ : Addr).add j) = some x := by
          by_cases h0 : n = 0
          · left; simp [h0]
          · obtain ⟨g, nn, cap, s1, s2⟩ := q4 h0
            rcases g4 with g4 | ⟨g', g5, g6, g7⟩
            · left; simp [g4]
            · right
              rw [s1] at g6
              simp [hdNo] at g6
              subst g6
              refine ⟨g, s2, by rw [s1]; rfl, fun j x hx => ?_⟩
              rw [add_off]
              refine g7 _ x ?_
              rw [List.getElem?_take] at hx
              split at hx
              · rwa [List.getElem?_drop] at hx
              · cases hx
        cases z with
        | true =>
          obtain ⟨c'', z', hc', h⟩ := fz_some h
          rw [hc] at hc'
          injection hc' with hc'
          injection hc' with hc' _
          subst hc'
          obtain ⟨hm1, ht1⟩ := hm.freeze hc
          refine ⟨_, _, _, h, hm1, ht1, A', c', _, by rw [hlen], by rw [hlen]; exact q3, hcl.mono fun x cs hx => RepV.mono (fun k hk => ⟨(ht1.fr k hk).1, rfl⟩) _ _ _ hx, ?_⟩
          rcases at_ with g4 | ⟨g, g5, g6, g7⟩
          · exact .inl g4
          · exact .inr ⟨_, g5, hm1.frz_live (b := b) (c := .row e u xs v') (by simp [Mem.set]) g6, g7⟩
        | false =>
          refine ⟨_, _, _, h, hm, Tr.refl .., A', c', _, by rw [hlen], by rw [hlen]; exact q3, hcl.mono fun x cs hx => RepV.mono (fun k hk => ⟨Frz.lt hm.base hk, rfl⟩) _ _ _ hx, ?_⟩
          rcases at_ with g4 | ⟨g, g5, g6, g7⟩
          · exact .inl g4
          · exact .inr ⟨_, g5, ((hm.blk _ _ _ hc).no g6).2, g7⟩
      · exact (fail_some h).elim
  | .pair a b, .pr x y, k, m, p, r, cs, h, hm, hr => by
    obtain ⟨c1, c2, e, h1, h2⟩ := hr
    obtain ⟨u, m1, p1, hk, hm1, ht1, hu⟩ := toVal_cells z (t := a) h hm h1
    obtain ⟨v, m2, p2, hk, hm2, ht2, hv⟩ := toVal_cells z (t := b) hk hm1 (repA.mono ht1 _ _ _ h2)
    exact ⟨(u, v), m2, p2, hk, hm2, ht1.trans ht2, c1, c2, e, RepV.mono (fun k hk => ⟨Reach.mono z ht2 hk, rfl⟩) _ _ _ hu, hv⟩
  | .unit, .un, k, m, p, r, cs, h, hm, hr => ⟨(), m, p, h, hm, Tr.refl .., hr⟩
  | .int _, .nn .., _, _, _, _, _, h, _, _ | .int _, .nil, _, _, _, _, _, h, _, _ | .int _, .nptr, _, _, _, _, _, h, _, _ | .int _, .ptr .., _, _, _, _, _, h, _, _ | .int _, .rptr .., _, _, _, _, _, h, _, _
  | .int _, .ref .., _, _, _, _, _, h, _, _ | .int _, .own .., _, _, _, _, _, h, _, _ | .int _, .sub .., _, _, _, _, _, h, _, _ | .int _, .pr .., _, _, _, _, _, h, _, _ | .int _, .un, _, _, _, _, _, h, _, _
  | .int _, .tp _, _, _, _, _, _, h, _, _ | .int _, .fn .., _, _, _, _, _, h, _, _ | .int _, .undef, _, _, _, _, _, h, _, _ => (fail_some h).elim
  | .bool, .nn .., _, _, _, _, _, h, _, _ | .bool, .nil, _, _, _, _, _, h, _, _ | .bool, .nptr, _, _, _, _, _, h, _, _ | .bool, .ptr .., _, _, _, _, _, h, _, _ | .bool, .rptr .., _, _, _, _, _, h, _, _
  | .bool, .ref .., _, _, _, _, _, h, _, _ | .bool, .own .., _, _, _, _, _, h, _, _ | .bool, .sub .., _, _, _, _, _, h, _, _ | .bool, .pr .., _, _, _, _, _, h, _, _ | .bool, .un, _, _, _, _, _, h, _, _
  | .bool, .tp _, _, _, _, _, _, h, _, _ | .bool, .fn .., _, _, _, _, _, h, _, _ | .bool, .undef, _, _, _, _, _, h, _, _ => (fail_some h).elim
  | .str, .nn .., _, _, _, _, _, h, _, _ | .str, .nil, _, _, _, _, _, h, _, _ | .str, .nptr, _, _, _, _, _, h, _, _ | .str, .ptr .., _, _, _, _, _, h, _, _ | .str, .rptr .., _, _, _, _, _, h, _, _
  | .str, .ref .., _, _, _, _, _, h, _, _ | .str, .own .., _, _, _, _, _, h, _, _ | .str, .sub .., _, _, _, _, _, h, _, _ | .str, .pr .., _, _, _, _, _, h, _, _ | .str, .un, _, _, _, _, _, h, _, _
  | .str, .tp _, _, _, _, _, _, h, _, _ | .str, .fn .., _, _, _, _, _, h, _, _ | .str, .undef, _, _, _, _, _, h, _, _ => (fail_some h).elim
  | .opq, .nn .., _, _, _, _, _, h, _, _ | .opq, .nil, _, _, _, _, _, h, _, _ | .opq, .nptr, _, _, _, _, _, h, _, _ | .opq, .ptr .., _, _, _, _, _, h, _, _ | .opq, .rptr .., _, _, _, _, _, h, _, _
  | .opq, .ref .., _, _, _, _, _, h, _, _ | .opq, .own .., _, _, _, _, _, h, _, _ | .opq, .sub .., _, _, _, _, _, h, _, _ | .opq, .pr .., _, _, _, _, _, h, _, _ | .opq, .un, _, _, _, _, _, h, _, _
  | .opq, .tp _, _, _, _, _, _, h, _, _ | .opq, .fn .., _, _, _, _, _, h, _, _ | .opq, .undef, _, _, _, _, _, h, _, _ => (fail_some h).elim
  | .arr .., .nn .., _, _, _, _, _, h, _, _ | .arr .., .nil, _, _, _, _, _, h, _, _ | .arr .., .nptr, _, _, _, _, _, h, _, _ | .arr .., .ptr .., _, _, _, _, _, h, _, _ | .arr .., .rptr .., _, _, _, _, _, h, _, _
  | .arr .., .ref .., _, _, _, _, _, h, _, _ | .arr .., .own .., _, _, _, _, _, h, _, _ | .arr .., .sub .., _, _, _, _, _, h, _, _ | .arr .., .pr .., _, _, _, _, _, h, _, _ | .arr .., .un, _, _, _, _, _, h, _, _
  | .arr .., .tp _, _, _, _, _, _, h, _, _ | .arr .., .fn .., _, _, _, _, _, h, _, _ | .arr .., .undef, _, _, _, _, _, h, _, _ => (fail_some h).elim
  | .unit, .nn .., _, _, _, _, _, h, _, _ | .unit, .nil, _, _, _, _, _, h, _, _ | .unit, .nptr, _, _, _, _, _, h, _, _ | .unit, .ptr .., _, _, _, _, _, h, _, _ | .unit, .rptr .., _, _, _, _, _, h, _, _
  | .unit, .ref .., _, _, _, _, _, h, _, _ | .unit, .own .., _, _, _, _, _, h, _, _ | .unit, .sub .., _, _, _, _, _, h, _, _ | .unit, .pr .., _, _, _, _, _, h, _, _
  | .unit, .tp _, _, _, _, _, _, h, _, _ | .unit, .fn .., _, _, _, _, _, h, _, _ | .unit, .undef, _, _, _, _, _, h, _, _ => (fail_some h).elim
  | .pair .., .nn .., _, _, _, _, _, h, _, _ | .pair .., .nil, _, _, _, _, _, h, _, _ | .pair .., .nptr, _, _, _, _, _, h, _, _ | .pair .., .ptr .., _, _, _, _, _, h, _, _ | .pair .., .rptr .., _, _, _, _, _, h, _, _
  | .pair .., .ref .., _, _, _, _, _, h, _, _ | .pair .., .own .., _, _, _, _, _, h, _, _ | .pair .., .sub .., _, _, _, _, _, h, _, _ | .pair .., .un, _, _, _, _, _, h, _, _
  | .pair .., .tp _, _, _, _, _, _, h, _, _ | .pair .., .fn .., _, _, _, _, _, h, _, _ | .pair .., .undef, _, _, _, _, _, h, _, _ => (fail_some h).elim
  | .sl _, .nptr, _, _, _, _, _, h, _, _ | .sl _, .ptr .., _, _, _, _, _, h, _, _ | .sl _, .rptr .., _, _, _, _, _, h, _, _ | .sl _, .ref .., _, _, _, _, _, h, _, _ | .sl _, .pr .., _, _, _, _, _, h, _, _
  | .sl _, .un, _, _, _, _, _, h, _, _ | .sl _, .tp _, _, _, _, _, _, h, _, _ | .sl _, .fn .., _, _, _, _, _, h, _, _ | .sl _, .undef, _, _, _, _, _, h, _, _ => (fail_some h).elim

theorem toVal_solid (z : Bool) {β : Type} : ∀ {t : Ty} {a : AV} {k : t.D → Eff β} {m : Mem} {p : FP} {r : β × Mem × FP}, ((toVal z t a k).go m p).run = some r → (∃ u x, a = .val u x ∧ t = u) ∨ (t.agg = true ∧ ((∃ x y, a = .pr x y) ∨ a = .un)) ∨
    (t.agg = false ∧ ((∃ u xs, a = .nn u xs) ∨ a = .nil ∨ (∃ b v, a = .own b v) ∨ (∃ b v lo n, a = .sub b v lo n))) := by
  intro t a k m p r h
  cases a with
  | val u y =>
    have h' : ((Eff.opt (Ty.cast (t := u) (u := t) y) k).go m p).run = some r := by cases t <;> exact h
    obtain ⟨x, hx, _⟩ := opt_some h'
    exact .inl ⟨u, y, rfl, (cast_rep hx).1.symm⟩
  | _ => cases t <;> first | exact (fail_some h).elim | (refine .inr (.inl ⟨rfl, ?_⟩); simp; done) | (refine .inr (.inr ⟨rfl, ?_⟩); simp; done)

theorem toVal_one (z : Bool) {β : Type} {t : Ty} {a : AV} {k : t.D → Eff β} {p : FP} {r : β × Mem × FP} {v : Value} (h : ((toVal z t a k).go m p).run = some r) (hm : MemOk B F w0 lim m G w)
    (hr : repA w (Frz B F m G w) m G a .one [v]) : ∃ x m1 p1, ((k x).go m1 p1).run = some r ∧ MemOk B F w0 lim m1 G w ∧ Tr B F m G w m1 G w ∧ RepO w (Reach z B F m1 G w) t x v := by
  have hs := toVal_solid z h
  rcases hs with ⟨u, x, rfl, rfl⟩ | ⟨ha, hs⟩ | ⟨ha, hs⟩
  · have h' : ((Eff.opt (Ty.cast (t := t) (u := t) x) k).go m p).run = some r := by cases t <;> exact h
    obtain ⟨y, hy, hk⟩ := opt_some h'
    obtain ⟨_, hxy⟩ := cast_rep hy
    cases hxy
    exact ⟨_, m, p, hk, hm, Tr.refl .., (one_val hr).mono fun k hk => ⟨Reach.of_frz z hm.base hk, rfl⟩⟩
  · have hc : ∃ cs : List Value, v = .agg cs.toArray ∧ repA w (Frz B F m G w) m G a .cells cs := by
      rcases hs with ⟨x, y, rfl⟩ | rfl
      · obtain ⟨c1, c2, e, h1, h2⟩ := hr
        injection e with e
        exact ⟨_, e, c1, c2, rfl, h1, h2⟩
      · injection (show [v] = [_] from hr) with e
        exact ⟨[], e, rfl⟩
    obtain ⟨cs, e, hc⟩ := hc
    obtain ⟨x, m1, p1, h1, h2, h3, h4⟩ := toVal_cells z h hm hc
    refine ⟨x, m1, p1, h1, h2, h3, ?_⟩
    unfold RepO
    rw [if_pos ha]
    exact ⟨cs, e, h4⟩
  · have hc : repA w (Frz B F m G w) m G a .cells [v] := by
      rcases hs with ⟨u, xs, rfl⟩ | rfl | ⟨b, v, rfl⟩ | ⟨b, v, lo, n, rfl⟩ <;> exact hr
    obtain ⟨x, m1, p1, h1, h2, h3, h4⟩ := toVal_cells z h hm hc
    refine ⟨x, m1, p1, h1, h2, h3, ?_⟩
    unfold RepO
    rw [if_neg (by simp [ha])]
    exact h4
end
end Go.Refl
