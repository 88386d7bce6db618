/-
  Contracts in lists; a copy of a slice; lowest words.
-/
import Derived.Test.YthgbejjenlfdnaaQ0b
import Derived.WalkKit
import Derived.WalkSpells
import Derived.WalkLawsBesides
set_option linter.unusedVariables false
set_option linter.unusedSimpArgs false
set_option maxRecDepth 100000
namespace Go.Refl.S3
open Go Go.Refl Go.Proofs

theorem lookAll_nil {α : Type _} {Q : Nat → α → Prop} : ∀ f sg, look ([] : List (Nat × α)) f = some sg → Q f sg := fun f sg h => (by cases h)
theorem lookAll_cons {α : Type _} {Q : Nat → α → Prop} {k : Nat} {s : α} {l : List (Nat × α)} (h : Q k s) (hl : ∀ f sg, look l f = some sg → Q f sg) : ∀ f sg, look ((k, s) :: l) f = some sg → Q f sg := by
  intro f sg hf
  unfold look at hf
  split at hf
  · rename_i e
    injection hf with hf
    subst e; subst hf
    exact h
  · exact hl f sg hf

theorem _root_.Go.Refl.SigMOk.weaken {P : Program} {f : FuncId} {u : Ty} {e : TypeId} {ats rts : List Ty} {g h : List u.D → Nat → Nat → DL ats → Option (DL rts × List u.D)} (hs : SigMOk P f ⟨u, e, ats, rts, g⟩) (hw : ∀ xs lo n x r, h xs lo n x = some r → g xs lo n x = some r) : SigMOk P f ⟨u, e, ats, rts, h⟩ :=
  ⟨hs.1, hs.2.1, hs.2.2.1, hs.2.2.2.1, fun Fr xs ys lo n x r hv sv vs cells w hr => hs.2.2.2.2 Fr xs ys lo n x r hv sv vs cells w (hw xs lo n x (r, ys) hr)⟩

theorem _root_.Go.Refl.SigNOk.weaken {P : Program} {f : FuncId} {u : Ty} {e : TypeId} {ats : List Ty} {g h : DL ats → Option (List u.D)} (hs : SigNOk P f ⟨u, e, ats, g⟩) (hw : ∀ x r, h x = some r → g x = some r) : SigNOk P f ⟨u, e, ats, h⟩ :=
  ⟨hs.1, hs.2.1, hs.2.2.1, fun Fr xs ys vs w hr => hs.2.2.2 Fr xs ys vs w (hw xs ys hr)⟩

/-! ### A copy of a slice -/
noncomputable def h89 : DL [.sl (.int .u32)] → Option (DL [.sl (.int .u32)]) := fun (x : List Int × Unit) => when (x.1.length < 17592186044416) (x.1, ())

set_option maxHeartbeats 400000 in
theorem clone_nil (n c : Nat) (w : World) :
    Calls Try.prog 89 #[.slice none n c] w fun e w' => e = .returned (.slice none 0 0) ∧ w' = w := by
  have hr : ∀ w, (binOp .eql 83 (.slice none n c) (.slice none 0 0)).run Try.prog w = .ok (.bool true) w := by
    intro w
    simp only [binOp]
    simp [run_equal_slice_nil w 83 22 none n c Try.underlying83]
  go_enter Try.func89, Try.ntmps89
  go_wp2
  go_ret
  exact ⟨rfl, rfl⟩

noncomputable def g89n (l : List Int) : Option (DL [.sl (.int .u32)]) := FnAt cx0 [] Try.f89 [.sl (.int .u32)] [.nn (.int .u32) l]
theorem g89n_eq (l : List Int) : g89n l = if decide ((0 + l.length) * 4 ≤ 140737488355328) = true then some (l, ()) else none := (FnAt_eq rfl).trans (by kernel_rfl)

theorem s89 : SigOk Try.prog 89 ⟨[.sl (.int .u32)], [.sl (.int .u32)], h89⟩ := by
  refine ⟨⟨Try.f89, Try.func89, rfl, rfl⟩, fun Fr (x : List Int × Unit) r vs w h hFr ha => ?_⟩
  obtain ⟨hl, rfl⟩ := when_some h
  obtain ⟨l, u⟩ := x
  replace hl : l.length < 17592186044416 := hl
  obtain ⟨v, vs', rfl, hv, rfl⟩ := ha
  obtain ⟨A, c, cells, hvv, hc, hcs, hrow⟩ := (show RepV w Fr (.sl (.int .u32)) l [v] from hv)
  cases A with
  | none =>
    have hnil : cells = [] := by
      rcases hrow with hrow | ⟨ad, e, _⟩
      · exact hrow
      · cases e
    subst hnil
    have hl0 : l = [] := by
      cases l with
      | nil => rfl
      | cons a l =>
        obtain ⟨c1, c2, e, h1, h2⟩ := hcs
        rw [show c1 = [.int .u32 a] from h1] at e
        cases e
    subst hl0
    injection hvv with hvv
    subst hvv
    refine (clone_nil _ c w).mono fun e w' ⟨he, hw⟩ => ?_
    subst he; subst hw
    exact ⟨RowKit.Below.refl _ _, show RepV _ _ (.sl (.int .u32)) [] [_] from ⟨none, 0, [], rfl, Nat.le_refl _, rfl, .inl rfl⟩⟩
  | some ad =>
    have hrun : (bodyAt cx0 [] Try.f89 [.sl (.int .u32)] [.nn (.int .u32) l]).run = some (l, ()) := by
      show g89n l = _
      rw [g89n_eq, if_pos (decide_eq_true (by omega))]
    refine bodyAt_ok (cx := cx0) (anns := []) mixed T_ok sigs0 inl0 Try.func89 hrun fun G => ?_
    injection hvv with hvv
    subst hvv
    refine ⟨_, _, rfl, ⟨_, rfl, ⟨some ad, c, cells, rfl, hc, hcs, ?_⟩, _, _, _, rfl⟩, rfl⟩
    rcases hrow with hrow | ⟨ad', e, hf, hcell⟩
    · exact .inl hrow
    · exact .inr ⟨ad', e, .inl ⟨hFr _ hf, hf⟩, hcell⟩

/-! ### Lowest words -/
/-- The n lowest words of a number. -/
def Dn : Nat → Int → List Int
  | 0, _ => []
  | n + 1, z => z % 4294967296 :: Dn n (z / 4294967296)
theorem Dn_length (n : Nat) : ∀ z, (Dn n z).length = n := by
  induction n with
  | zero => intro z; rfl
  | succ n ih => intro z; simp [Dn, ih]
theorem Dn_W (n : Nat) : ∀ z, W (Dn n z) := by
  induction n with
  | zero => intro z; exact W.nil
  | succ n ih => intro z; exact W.cons (by omega) (by omega) (ih _)
theorem V_Dn (n : Nat) : ∀ z, V (Dn n z) = z % P n := by
  induction n with
  | zero => intro z; simp [Dn, V, P, Int.emod_one]
  | succ n ih =>
    intro z
    have hp := P_pos n
    simp only [Dn, V, ih, P_succ]
    have h1 := Int.emod_add_mul_ediv z 4294967296
    have h2 := Int.emod_add_mul_ediv (z / 4294967296) (P n)
    have h3 := Int.emod_nonneg (z / 4294967296) (show P n ≠ 0 by omega)
    have h4 := Int.emod_lt_of_pos (z / 4294967296) hp
    have e : z = (z % 4294967296 + 4294967296 * (z / 4294967296 % P n)) + (4294967296 * P n) * (z / 4294967296 / P n) := by
      rw [Int.mul_assoc]; omega
    have key : ((z % 4294967296 + 4294967296 * (z / 4294967296 % P n)) + (4294967296 * P n) * (z / 4294967296 / P n)) % (4294967296 * P n) = z % 4294967296 + 4294967296 * (z / 4294967296 % P n) := by
      rw [Int.add_mul_emod_self_left, Int.emod_eq_of_lt (by omega) (by omega)]
    rw [← e] at key
    exact key.symm
theorem Dn_V {l : List Int} (h : W l) : Dn l.length (V l) = l := by
  induction l with
  | nil => rfl
  | cons w l ih =>
    have hh := h.head
    simp only [List.length_cons, Dn, V]
    rw [show (w + 4294967296 * V l) % 4294967296 = w by omega, show (w + 4294967296 * V l) / 4294967296 = V l by omega, ih h.tail]
/-- A row of words is known by its length and its value. -/
theorem W_ext {a b : List Int} (ha : W a) (hb : W b) (hl : a.length = b.length) (hv : V a = V b) : a = b := by
  rw [← Dn_V ha, ← Dn_V hb, hl, hv]
theorem D_append_zeros {l : List Int} (hw : W l) : ∃ k, l = D (V l) ++ List.replicate k 0 := by
  refine ⟨l.length - (D (V l)).length, ?_⟩
  have h1 := V_lt hw
  have h2 := D_length h1
  refine W_ext hw ((D_W _).append (W.replicate _)) (by simp; omega) ?_
  rw [V_append, V_replicate, V_D (V_nonneg hw)]
  omega
theorem D_getD {l : List Int} (hw : W l) (i : Nat) : (D (V l)).getD i 0 = l.getD i 0 := by
  obtain ⟨k, hk⟩ := D_append_zeros hw
  conv => rhs; rw [hk]
  by_cases h : i < (D (V l)).length
  · rw [List.getD_eq_getElem?_getD, List.getD_eq_getElem?_getD, List.getElem?_append_left h]
  · rw [getD_out (by omega), List.getD_eq_getElem?_getD, List.getElem?_append_right (by omega)]
    by_cases h2 : i - (D (V l)).length < k
    · rw [List.getElem?_replicate, if_pos h2]; rfl
    · rw [List.getElem?_replicate, if_neg h2]; rfl
end Go.Refl.S3
