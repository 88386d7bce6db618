/-
  What is carried to the head of a loop: frozen rows as what they hold, versions counted anew, the rest forgotten.
-/
import Derived.Test.YthgbejjenlfdnaaAbs13
set_option linter.unusedVariables false
set_option linter.unusedSimpArgs false
namespace Go.Refl
open Go Go.RowKit

section
variable {B : Nat} {F : Nat → Prop} {w0 : World} {lim fb : Nat} {m M : Mem} {G : Nat → Value} {w : World}

/-! ### Settled memory -/
theorem gather_look : ∀ {ids : List Nat} {b : Nat} {x : Cn × Bool}, look (gather m fb ids) b = some x → ∃ c z, m b = some (c, z) ∧ x = (c.settle m fb b, z)
  | [], _, _, h => by cases h
  | i :: ids, b, x, h => by
    simp only [gather] at h
    split at h
    · rename_i c z hc
      simp only [look] at h
      split at h
      · rename_i e
        subst e
        injection h with h
        exact ⟨c, z, hc, h.symm⟩
      · exact gather_look h
    · exact gather_look h

/-- The settled memory: each block is a settled one of before. -/
def Settled (fb : Nat) (m M : Mem) : Prop := ∀ b x, M b = some x → ∃ c z, m b = some (c, z) ∧ x = (c.settle m fb b, z)

theorem gather_settled {ids : List Nat} : Settled fb m (ofL (gather m fb ids)) := fun b x hx => gather_look hx

theorem Settled.fr (h : Settled fb m M) {k : Nat} (hk : Frz B F m G w k) : Frz B F M G w k := by
  rcases hk with hk | ⟨h1, h2, h3⟩
  · exact .inl hk
  · refine .inr ⟨h1, h2, fun b c hb => ?_⟩
    obtain ⟨c0, z, q1, q2⟩ := h b _ hb
    injection q2 with _ q2
    subst q2
    exact h3 b c0 q1

theorem row_rep (h : MemOk B F w0 lim m G w) {b : Nat} {e : TypeId} {t : Ty} {xs : List t.D} {v : Nat} (hm : m b = some (.row e t xs v, true)) : RepV w (Frz B F m G w) (.sl t) xs [G b] := by
  obtain ⟨A, c, cells, g1, g2, g3, g4⟩ := row_cells h hm
  refine ⟨A, c, cells, by rw [g1], g2, g3, ?_⟩
  rcases g4 with g4 | ⟨g, g5, g6, g7⟩
  · exact .inl g4
  · exact .inr ⟨_, g5, h.frz_live hm g6, fun j u hu => by rw [add_zero_off]; exact g7 j u hu⟩

theorem sub_rep (h : MemOk B F w0 lim m G w) {b lo n : Nat} {e : TypeId} {t : Ty} {xs : List t.D} {v : Nat} {A' : Option Addr} {c' : Nat} (hm : m b = some (.row e t xs v, true)) (q1 : lo + n ≤ xs.length) (q3 : n ≤ c')
    (q4 : n ≠ 0 → ∃ g nn cap, G b = .slice (some ⟨g, 0, none⟩) nn cap ∧ A' = some ⟨g, lo * t.size, none⟩) : RepV w (Frz B F m G w) (.sl t) ((xs.drop lo).take n) [.slice A' n c'] := by
  obtain ⟨A, c, cells, g1, g2, g3, g4⟩ := row_cells h hm
  have hlen : ((xs.drop lo).take n).length = n := by rw [List.length_take, List.length_drop]; omega
  have hl := fun x cs => RepV.length (w := w) (Fr := Frz B F m G w) t x cs
  have hcl := (g3.drop hl lo).take hl n
  refine ⟨A', c', _, by rw [hlen], by rw [hlen]; exact q3, hcl, ?_⟩
  by_cases h0 : n = 0
  · left; simp [h0]
  · obtain ⟨g, nn, cap, s1, s2⟩ := q4 h0
    rcases g4 with g4 | ⟨g', g5, g6, g7⟩
    · left; simp [g4]
    · right
      rw [s1] at g6
      simp [hdNo] at g6
      subst g6
      refine ⟨_, s2, h.frz_live hm (by rw [s1]; rfl), fun j x hx => ?_⟩
      rw [add_off]
      refine g7 _ x ?_
      rw [List.getElem?_take] at hx
      split at hx
      · rwa [List.getElem?_drop] at hx
      · cases hx

/-- A cell's value that is settled. -/
def OneOrCells (md : Md) : Prop := md = .one ∨ md = .cells

theorem undef_md {Fr : Nat → Prop} {md : Md} (hmd : OneOrCells md) {v : Value} (h : v.oneCell' = true) : repA w Fr m G .undef md [v] := by
  rcases hmd with rfl | rfl
  · exact ⟨v, rfl⟩
  · exact ⟨v, rfl, h⟩

theorem sl_md {Fr : Nat → Prop} {md : Md} (hmd : OneOrCells md) {t : Ty} {xs : List t.D} {v : Value} (h : RepV w Fr (.sl t) xs [v]) : repA w Fr m G (.val (.sl t) xs) md [v] := by
  rcases hmd with rfl | rfl
  · exact ⟨v, rfl, h⟩
  · exact h

theorem settle_ptr (hM : Settled fb m M) {b : Nat} {p : List Step} {v : Value} (h : repS w (Frz B F m G w) m G (.ptr b p) v) (hr : ∃ x, M b = some x) : repS w (Frz B F M G w) M G (.ptr b p) v := by
  obtain ⟨T, c, z, g, h1, h2, h3, h4⟩ := h
  obtain ⟨x, hx⟩ := hr
  obtain ⟨c0, z0, q1, q2⟩ := hM b x hx
  rw [h1] at q1
  injection q1 with q1
  injection q1 with q1 q1'
  subst q1; subst q2
  exact ⟨T, _, _, g, hx, h2, h3, h4⟩

theorem settle_own (hm : MemOk B F w0 lim m G w) (hM : Settled fb m M) {b ve : Nat} {v : Value} {md : Md} (hmd : OneOrCells md) (h : repS w (Frz B F m G w) m G (.own b ve) v) (hr : ∀ b' ∈ ((AV.own b ve).settle m fb).refs, ∃ x, M b' = some x) :
    repA w (Frz B F M G w) M G ((AV.own b ve).settle m fb) md [v] := by
  obtain ⟨h0, e, t, xs, v', z, h1, h2, h3⟩ := h
  by_cases hb : b < fb
  · have hs : (AV.own b ve).settle m fb = .own b ve := by simp [AV.settle, hb]
    rw [hs] at hr ⊢
    obtain ⟨x, hx⟩ := hr b (by simp [AV.refs])
    obtain ⟨c0, z0, q1, q2⟩ := hM b x hx
    rw [h1] at q1
    injection q1 with q1
    injection q1 with q1 q1'
    subst q1; subst q2; subst q1'
    have : repS w (Frz B F M G w) M G (.own b ve) v := ⟨h0, e, t, xs, v', z, by rw [hx, Cn.settle, if_pos hb], h2, h3⟩
    rcases hmd with rfl | rfl <;> exact ⟨v, rfl, this⟩
  · by_cases hv : ve = v'
    · subst hv
      cases z with
      | true =>
        have hs : (AV.own b ve).settle m fb = .val (.sl t) xs := by simp [AV.settle, hb, h1]
        rw [hs]
        rw [h3 rfl]
        exact sl_md hmd (RepV.mono (fun k hk => ⟨hM.fr hk, rfl⟩) _ _ _ (row_rep hm h1))
      | false =>
        have hs : (AV.own b ve).settle m fb = .own b 0 := by simp [AV.settle, hb, h1]
        rw [hs] at hr ⊢
        obtain ⟨x, hx⟩ := hr b (by simp [AV.refs])
        obtain ⟨c0, z0, q1, q2⟩ := hM b x hx
        rw [h1] at q1
        injection q1 with q1
        injection q1 with q1 q1'
        subst q1; subst q2; subst q1'
        have : repS w (Frz B F M G w) M G (.own b 0) v := ⟨h0, e, t, xs, 0, false, by rw [hx, Cn.settle, if_neg hb], Nat.le_refl _, fun _ => h3 rfl⟩
        rcases hmd with rfl | rfl <;> exact ⟨v, rfl, this⟩
    · have hs : (AV.own b ve).settle m fb = .undef := by simp [AV.settle, hb, h1, hv]
      rw [hs]
      exact undef_md hmd h0

theorem settle_sub (hm : MemOk B F w0 lim m G w) (hM : Settled fb m M) {b ve lo n : Nat} {v : Value} {md : Md} (hmd : OneOrCells md) (h : repS w (Frz B F m G w) m G (.sub b ve lo n) v) (hr : ∀ b' ∈ ((AV.sub b ve lo n).settle m fb).refs, ∃ x, M b' = some x) :
    repA w (Frz B F M G w) M G ((AV.sub b ve lo n).settle m fb) md [v] := by
  obtain ⟨h0, e, t, xs, v', z, h1, h2, h3⟩ := h
  by_cases hb : b < fb
  · have hs : (AV.sub b ve lo n).settle m fb = .sub b ve lo n := by simp [AV.settle, hb]
    rw [hs] at hr ⊢
    obtain ⟨x, hx⟩ := hr b (by simp [AV.refs])
    obtain ⟨c0, z0, q1, q2⟩ := hM b x hx
    rw [h1] at q1
    injection q1 with q1
    injection q1 with q1 q1'
    subst q1; subst q2; subst q1'
    have : repS w (Frz B F M G w) M G (.sub b ve lo n) v := ⟨h0, e, t, xs, v', z, by rw [hx, Cn.settle, if_pos hb], h2, h3⟩
    rcases hmd with rfl | rfl <;> exact ⟨v, rfl, this⟩
  · by_cases hv : ve = v'
    · subst hv
      cases z with
      | true =>
        have hs : (AV.sub b ve lo n).settle m fb = .val (.sl t) ((xs.drop lo).take n) := by simp [AV.settle, hb, h1]
        rw [hs]
        obtain ⟨q1, A, c, q2, q3, q4⟩ := h3 rfl
        rw [q2]
        exact sl_md hmd (RepV.mono (fun k hk => ⟨hM.fr hk, rfl⟩) _ _ _ (sub_rep hm h1 q1 q3 q4))
      | false =>
        have hs : (AV.sub b ve lo n).settle m fb = .sub b 0 lo n := by simp [AV.settle, hb, h1]
        rw [hs] at hr ⊢
        obtain ⟨x, hx⟩ := hr b (by simp [AV.refs])
        obtain ⟨c0, z0, q1, q2⟩ := hM b x hx
        rw [h1] at q1
        injection q1 with q1
        injection q1 with q1 q1'
        subst q1; subst q2; subst q1'
        have : repS w (Frz B F M G w) M G (.sub b 0 lo n) v := ⟨h0, e, t, xs, 0, false, by rw [hx, Cn.settle, if_neg hb], Nat.le_refl _, fun _ => h3 rfl⟩
        rcases hmd with rfl | rfl <;> exact ⟨v, rfl, this⟩
    · have hs : (AV.sub b ve lo n).settle m fb = .undef := by simp [AV.settle, hb, h1, hv]
      rw [hs]
      exact undef_md hmd h0

theorem settle_rptr (hM : Settled fb m M) {b ve i : Nat} {p : List Step} {v : Value} {md : Md} (hmd : OneOrCells md) (h : repS w (Frz B F m G w) m G (.rptr b ve i p) v) (hr : ∀ b' ∈ ((AV.rptr b ve i p).settle m fb).refs, ∃ x, M b' = some x) :
    repA w (Frz B F M G w) M G ((AV.rptr b ve i p).settle m fb) md [v] := by
  obtain ⟨h0, e, t, xs, v', z, h1, h2, h3, h4⟩ := h
  by_cases hb : b < fb
  · have hs : (AV.rptr b ve i p).settle m fb = .rptr b ve i p := by simp [AV.settle, hb]
    rw [hs] at hr ⊢
    obtain ⟨x, hx⟩ := hr b (by simp [AV.refs])
    obtain ⟨c0, z0, q1, q2⟩ := hM b x hx
    rw [h1] at q1
    injection q1 with q1
    injection q1 with q1 q1'
    subst q1; subst q2; subst q1'
    have : repS w (Frz B F M G w) M G (.rptr b ve i p) v := ⟨h0, e, t, xs, v', z, by rw [hx, Cn.settle, if_pos hb], h2, h3, h4⟩
    rcases hmd with rfl | rfl <;> exact ⟨v, rfl, this⟩
  · have hs : (AV.rptr b ve i p).settle m fb = .undef := by simp [AV.settle, hb]
    rw [hs]
    exact undef_md hmd h0

/-- What a value is, it is when settled. -/
theorem settle_rep (hm : MemOk B F w0 lim m G w) (hM : Settled fb m M) : ∀ (a : AV) (md : Md) (vs : List Value), repA w (Frz B F m G w) m G a md vs → (∀ b ∈ (a.settle m fb).refs, ∃ x, M b = some x) → repA w (Frz B F M G w) M G (a.settle m fb) md vs
  | .val t x, .one, vs, ⟨v, e, h⟩, _ => ⟨v, e, h.mono fun k hk => ⟨hM.fr hk, rfl⟩⟩
  | .val t x, .cells, vs, h, _ => RepV.mono (fun k hk => ⟨hM.fr hk, rfl⟩) _ _ _ h
  | .pr a b, .one, vs, ⟨c1, c2, e, h1, h2⟩, hr => ⟨c1, c2, e, settle_rep hm hM a _ _ h1 (fun x hx => hr x (List.mem_append_left _ hx)), settle_rep hm hM b _ _ h2 (fun x hx => hr x (List.mem_append_right _ hx))⟩
  | .pr a b, .cells, vs, ⟨c1, c2, e, h1, h2⟩, hr => ⟨c1, c2, e, settle_rep hm hM a _ _ h1 (fun x hx => hr x (List.mem_append_left _ hx)), settle_rep hm hM b _ _ h2 (fun x hx => hr x (List.mem_append_right _ hx))⟩
  | .pr a b, .chain, vs, ⟨c1, c2, e, h1, h2⟩, hr => ⟨c1, c2, e, settle_rep hm hM a _ _ h1 (fun x hx => hr x (List.mem_append_left _ hx)), settle_rep hm hM b _ _ h2 (fun x hx => hr x (List.mem_append_right _ hx))⟩
  | .un, .one, _, h, _ => h
  | .un, .cells, _, h, _ => h
  | .un, .chain, _, h, _ => h
  | .tp l, .one, _, ⟨ws, e, h⟩, hr => ⟨ws, e, settle_rep hm hM l _ _ h hr⟩
  | .fn f a b, .one, vs, ⟨x, y, e, h1, h2⟩, hr => ⟨x, y, e, settle_rep hm hM a _ _ h1 (fun x hx => hr x (List.mem_append_left _ hx)), settle_rep hm hM b _ _ h2 (fun x hx => hr x (List.mem_append_right _ hx))⟩
  | .fn f a b, .cells, vs, ⟨x, y, e, h1, h2⟩, hr => ⟨x, y, e, settle_rep hm hM a _ _ h1 (fun x hx => hr x (List.mem_append_left _ hx)), settle_rep hm hM b _ _ h2 (fun x hx => hr x (List.mem_append_right _ hx))⟩
  | .undef, .one, _, h, _ => h
  | .undef, .cells, _, h, _ => h
  | .nn t xs, .one, _, ⟨v, e, h1, h2⟩, _ => ⟨v, e, RepV.mono (fun k hk => ⟨hM.fr hk, rfl⟩) _ _ _ h1, h2⟩
  | .nn t xs, .cells, _, ⟨v, e, h1, h2⟩, _ => ⟨v, e, RepV.mono (fun k hk => ⟨hM.fr hk, rfl⟩) _ _ _ h1, h2⟩
  | .nil, .one, _, h, _ => h
  | .nil, .cells, _, h, _ => h
  | .nptr, .one, _, h, _ => h
  | .nptr, .cells, _, h, _ => h
  | .ref t x, .one, _, ⟨v, e, ad, h1, h2, cs, h3, h4⟩, _ => ⟨v, e, ad, h1, hM.fr h2, cs, RepV.mono (fun k hk => ⟨hM.fr hk, rfl⟩) _ _ _ h3, h4⟩
  | .ref t x, .cells, _, ⟨v, e, ad, h1, h2, cs, h3, h4⟩, _ => ⟨v, e, ad, h1, hM.fr h2, cs, RepV.mono (fun k hk => ⟨hM.fr hk, rfl⟩) _ _ _ h3, h4⟩
  | .ptr b p, .one, _, ⟨v, e, h⟩, hr => ⟨v, e, settle_ptr hM h (hr b (by simp [AV.settle, AV.refs]))⟩
  | .ptr b p, .cells, _, ⟨v, e, h⟩, hr => ⟨v, e, settle_ptr hM h (hr b (by simp [AV.settle, AV.refs]))⟩
  | .rptr .., .one, _, ⟨v, e, h⟩, hr => by subst e; exact settle_rptr hM (.inl rfl) h hr
  | .rptr .., .cells, _, ⟨v, e, h⟩, hr => by subst e; exact settle_rptr hM (.inr rfl) h hr
  | .own .., .one, _, ⟨v, e, h⟩, hr => by subst e; exact settle_own hm hM (.inl rfl) h hr
  | .own .., .cells, _, ⟨v, e, h⟩, hr => by subst e; exact settle_own hm hM (.inr rfl) h hr
  | .sub .., .one, _, ⟨v, e, h⟩, hr => by subst e; exact settle_sub hm hM (.inl rfl) h hr
  | .sub .., .cells, _, ⟨v, e, h⟩, hr => by subst e; exact settle_sub hm hM (.inr rfl) h hr

theorem closed_var {env : List AV} : ∀ {l : List (Nat × (Cn × Bool))}, closed M env l = true → ∀ b T c z, look l b = some (.var T c, z) → AV.fits T c = true ∧ ∀ x ∈ c.refs, ∃ y, M x = some y
  | [], _, _, _, _, _, h => by cases h
  | (i, .var T' c', z') :: l, h, b, T, c, z, hl => by
    simp only [closed, Bool.and_eq_true] at h
    simp only [look] at hl
    split at hl
    · injection hl with hl
      injection hl with hl _
      injection hl with h1 h2
      subst h1; subst h2
      exact ⟨h.1.1, fun x hx => Option.isSome_iff_exists.1 (List.all_eq_true.1 h.1.2 x hx)⟩
    · exact closed_var h.2 b T c z hl
  | (i, .row .., z') :: l, h, b, T, c, z, hl => by
    simp only [look] at hl
    split at hl
    · injection hl with hl
      injection hl with hl _
      cases hl
    · exact closed_var (l := l) h b T c z hl

/-- The memory that is gathered, if it is closed, stands as the old one did. -/
theorem gather_ok {lim' : Nat} (hm : MemOk B F w0 lim m G w) {ids : List Nat} {env : List AV} (hc : closed (ofL (gather m fb ids)) env (gather m fb ids) = true) (hl : ∀ b x, look (gather m fb ids) b = some x → b < lim') :
    MemOk B F w0 lim' (ofL (gather m fb ids)) G w ∧ TrF fb B F m G w (ofL (gather m fb ids)) G w := by
  have hM : Settled fb m (ofL (gather m fb ids)) := fun b x hx => gather_look hx
  refine ⟨⟨hm.below, hm.base, fun b c z hb => ?_, fun b b' x y hne hx hy => ?_, hl⟩, ⟨fun k hk => ⟨hM.fr hk, rfl⟩, fun b c z hlt hb => ?_, fun b _ hn => ?_⟩⟩
  · obtain ⟨c0, z0, q1, q2⟩ := hM b _ hb
    injection q2 with q2 q3
    subst q2; subst q3
    have hok := hm.blk b c0 z q1
    cases c0 with
    | var T a =>
      obtain ⟨g, arr, e, h1, h2, h3, h4, h5⟩ := hok
      obtain ⟨k1, k2⟩ := closed_var hc b _ _ _ hb
      exact ⟨g, arr, e, h1, h2, h3, k1, settle_rep hm hM _ _ _ h5 k2⟩
    | row e t xs v =>
      obtain ⟨cells, h1, h2, h3⟩ := hok
      exact ⟨cells, h1, h2.mono fun x cs hx => RepV.mono (fun k hk => ⟨hM.fr hk, rfl⟩) _ _ _ hx, h3⟩
  · obtain ⟨_, _, q1, _⟩ := hM b _ hx
    obtain ⟨_, _, q2, _⟩ := hM b' _ hy
    exact hm.dist b b' _ _ hne q1 q2
  · cases hx : ofL (gather m fb ids) b with
    | none => exact .inl rfl
    | some x =>
      right
      obtain ⟨c0, z0, q1, q2⟩ := hM b _ hx
      rw [hb] at q1
      injection q1 with q1
      injection q1 with q1 q3
      subst q1; subst q2
      refine ⟨_, _, rfl, ?_, fun _ => rfl⟩
      cases c with
      | var T a => exact rfl
      | row e t xs v => exact ⟨rfl, rfl, by simp [hlt], fun _ => rfl⟩
  · cases hx : ofL (gather m fb ids) b with
    | none => rfl
    | some x =>
      obtain ⟨c0, z0, q1, q2⟩ := hM b _ hx
      rw [hn] at q1
      cases q1

/-! ### Freezing, forgetting -/
theorem freezeAll_ok {env : List AV} : ∀ {ts : List Nat} {m m' : Mem}, freezeAll m env ts = some m' → MemOk B F w0 lim m G w → MemOk B F w0 lim m' G w ∧ Tr B F m G w m' G w ∧ ∀ b, m b = none → m' b = none
  | [], m, m', h, hm => by
    injection h with h
    subst h
    exact ⟨hm, Tr.refl .., fun _ h => h⟩
  | t :: ts, m, m', h, hm => by
    have key : ∀ {b : Nat}, (match m b with | some (c, _) => freezeAll (m.set b (c, true)) env ts | none => none) = some m' → MemOk B F w0 lim m' G w ∧ Tr B F m G w m' G w ∧ ∀ b, m b = none → m' b = none := by
      intro b h
      split at h
      · rename_i c z hc
        obtain ⟨h1, h2⟩ := hm.freeze hc
        obtain ⟨k1, k2, k3⟩ := freezeAll_ok h h1
        refine ⟨k1, h2.trans k2, fun b' hb' => k3 b' ?_⟩
        have : b' ≠ b := fun e => by subst e; rw [hc] at hb'; cases hb'
        simp [Mem.set, this, hb']
      · cases h
    simp only [freezeAll] at h
    split at h
    · exact key h
    · exact key h
    · exact freezeAll_ok h hm

theorem maskEnv_length {keep : Nat} : ∀ {l : List AV} {k : Nat}, (maskEnv keep l k).length = l.length
  | [], _ => rfl
  | a :: l, k => by simp [maskEnv, maskEnv_length (l := l)]

theorem maskEnv_get {keep : Nat} : ∀ {l : List AV} {k i : Nat}, (maskEnv keep l k).getD i .undef = l.getD i .undef ∨ (maskEnv keep l k).getD i .undef = .undef
  | [], _, _ => .inr rfl
  | a :: l, k, 0 => by
    simp only [maskEnv]
    by_cases h : keep.testBit k <;> simp [h]
  | a :: l, k, i + 1 => by
    have := maskEnv_get (keep := keep) (l := l) (k := k + 1) (i := i)
    simpa [maskEnv] using this

end

section
variable {P : Program} {B : Nat} {F : Nat → Prop} {w0 : World} {fb : Nat} {m m' : Mem} {G : Nat → Value} {w : World} {cx : Cx}

theorem nilAll_ok (hT : typesChk P cx.types = true) {tmps : Array Value} : ∀ {l : List (Nat × Nat × TypeId)} {env env' : List AV} {m m' : Mem} {G : Nat → Value}, nilAll cx fb l (env, m) = some (env', m') → MemOk B F w0 (fb + 1000000) m G w →
    (∀ i, i < env.length → repA w (Frz B F m G w) m G (env.getD i .undef) .one [tmps.getD i undef]) →
    ∃ G', env'.length = env.length ∧ MemOk B F w0 (fb + 1000000) m' G' w ∧ Tr B F m G w m' G' w ∧ (∀ b, b < fb → m b = none → m' b = none) ∧ ∀ i, i < env.length → repA w (Frz B F m' G' w) m' G' (env'.getD i .undef) .one [tmps.getD i undef]
  | [], env, env', m, m', G, h, hm, he => by
    injection h with h
    injection h with h1 h2
    subst h1; subst h2
    exact ⟨G, rfl, hm, Tr.refl .., fun _ _ h => h, he⟩
  | (t, b, ty) :: l, env, env', m, m', G, h, hm, he => by
    simp only [nilAll] at h
    split at h
    · rename_i hnil
      split at h
      · rename_i u e by' hmb hty
        split at h
        · rename_i hb
          have ht : t < env.length := by
            rcases Nat.lt_or_ge t env.length with ht | ht
            · exact ht
            · rw [List.getD_eq_getElem?_getD, List.getElem?_eq_none ht] at hnil
              cases hnil
          have hv := he t ht
          rw [hnil] at hv
          have hv := one_nil hv
          obtain ⟨_, hu, _⟩ := (tyFact_of hT hty).sl
          obtain ⟨h1, h2⟩ := hm.step (b0 := b) (c0 := .row e u [] 0) (z0 := false) (g0 := .slice none 0 0) (w' := w) (Below.refl _ _) (fun _ _ _ => rfl) (fun k hk => by simp [hdNo] at hk) (fun c z hc => by rw [hmb] at hc; cases hc) hb.2
            (fun _ => ⟨[], ⟨by simp, .inl ⟨by simp [upd], rfl⟩⟩, rfl, hu⟩)
          obtain ⟨G', k1, k2, k3, k4, k5⟩ := nilAll_ok hT h h1 fun i hi => by
            rw [set_getD ht]
            split
            · rename_i e'
              subst e'
              rw [hv]
              exact ⟨_, rfl, rfl, e, u, [], 0, false, by simp [Mem.set], Nat.le_refl _, fun _ => by simp [upd]⟩
            · exact repA.mono h2 _ _ _ (he i (by simpa using hi))
          refine ⟨G', by simpa using k1, k2, h2.trans k3, fun b' hb' hn => k4 b' hb' ?_, fun i hi => k5 i (by simpa using hi)⟩
          have : b' ≠ b := by omega
          simp [Mem.set, this, hn]
        · cases h
      · cases h
    · exact nilAll_ok hT h hm he

/-- What is carried to the head of a loop. -/
theorem canon_ok (hT : typesChk P cx.types = true) {an : Ann} {s s' : St} {a : Act} (h : canon cx fb an s = some s') (hr : RelG B F w0 fb G s.env s.mem a w) : ∃ G', RelG B F w0 fb G' s'.env s'.mem a w ∧ TrF fb B F s.mem G w s'.mem G' w := by
  unfold canon at h
  split at h
  · cases h
  · rename_i m1 hf
    obtain ⟨h1, h2, h3⟩ := freezeAll_ok hf hr.mem
    split at h
    · cases h
    · rename_i s1 hn
      obtain ⟨env1, m2⟩ := s1
      obtain ⟨G', k1, k2, k3, k4, k5⟩ := nilAll_ok (tmps := a.tmps) hT hn h1 fun i hi => by
        rw [maskEnv_length] at hi
        have := repA.mono h2 _ _ _ (hr.env i hi)
        rcases maskEnv_get (keep := an.keep) (l := s.env) (k := 0) (i := i) with e | e
        · rw [e]; exact this
        · rw [e]; exact ⟨_, rfl⟩
      simp only at h
      have key : ∃ ids, closed (ofL (gather m2 fb ids)) (env1.map (AV.settle m2 fb)) (gather m2 fb ids) = true ∧ s' = ⟨env1.map (AV.settle m2 fb), ofL (gather m2 fb ids), ids, []⟩ := by
        split at h
        · rename_i hcl
          exact ⟨_, hcl, (Option.some.inj h).symm⟩
        · cases h
      clear h
      obtain ⟨ids, hcl, rfl⟩ := key
      rw [maskEnv_length] at k1 k5
      obtain ⟨q1, q2⟩ := gather_ok (lim' := fb + 1000000) k2 hcl fun b x hx => by
        obtain ⟨c, z, hb, _⟩ := gather_look hx
        exact k2.lim b _ hb
      refine ⟨G', ⟨?_, hr.defs, q1, fun i hi => ?_⟩, ?_⟩
      · simp only [List.length_map]
        rw [k1, hr.size]
      · simp only [List.length_map] at hi
        have hi' := k5 i (by rw [← k1]; exact hi)
        have hget : (env1.map (AV.settle m2 fb)).getD i .undef = (env1.getD i .undef).settle m2 fb := by
          simp [List.getD_eq_getElem?_getD, List.getElem?_map, List.getElem?_eq_getElem hi]
        show repA w (Frz B F (ofL (gather m2 fb ids)) G' w) (ofL (gather m2 fb ids)) G' ((env1.map (AV.settle m2 fb)).getD i .undef) .one [a.tmps.getD i undef]
        rw [hget]
        have hin : (env1.getD i .undef).settle m2 fb ∈ env1.map (AV.settle m2 fb) := by
          refine List.mem_map.2 ⟨_, ?_, rfl⟩
          rw [List.getD_eq_getElem?_getD, List.getElem?_eq_getElem hi]
          simp
        exact settle_rep k2 gather_settled _ _ _ hi' (closed_env hcl _ hin)
      · have t1 := (h2.trans k3).toF (fb := fb) fun b hb hn => k4 b hb (h3 b hn)
        exact t1.trans q2

theorem canonO_ok (hT : typesChk P cx.types = true) {anns : List (Nat × Ann)} {id : Nat} {s s' : St} {a : Act} (h : canonO cx anns fb id s = some s') (hr : RelG B F w0 fb G s.env s.mem a w) : ∃ G', RelG B F w0 fb G' s'.env s'.mem a w ∧ TrF fb B F s.mem G w s'.mem G' w := by
  unfold canonO at h
  split at h
  · injection h with h
    subst h
    exact ⟨G, hr, TrF.refl⟩
  · exact canon_ok hT h hr
end
end Go.Refl
