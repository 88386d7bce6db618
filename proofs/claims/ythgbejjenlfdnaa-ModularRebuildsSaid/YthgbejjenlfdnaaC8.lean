/-
  ModularRebuilds: for every input the function answers true, and nothing that was there has turned.
-/
import Derived.Test.YthgbejjenlfdnaaRows
import Derived.WalkKit
import Derived.ProofKit
import Derived.OpenShut
import Derived.Below
import Derived.Lib.SmallJoins
import Derived.Test.YthgbejjenlfdnaaN8
namespace Go.Proofs.Ythgbejjenlfdnaa.modularRebuilds
open Go.ChangeShapes Go.WideShapes Go.ChangeAt Go.RowKit Go.Joins
set_option linter.unusedVariables false

theorem own : ownKnob Try.prog.godebug = none := by kernel_rfl
theorem cells26 : Try.prog.cellsOf 26 = 3 := by kernel_rfl

/-! ### The function answers true. -/
theorem walk (n0 : Int) (d0 : Int) (k0 : Int) (a1 : Int) (a2 : Int) (wn0 : (Lit.int .i8 n0).wf = true) (wd0 : (Lit.int .i8 d0).wf = true) (wk0 : (Lit.int .u8 k0).wf = true) (w1 : (Lit.int .u32 a1).wf = true) (w2 : (Lit.int .u8 a2).wf = true) (w : World) :
    Calls Try.prog 8 #[.agg #[.int .i8 n0, .int .i8 d0, .int .u8 k0], .int .u32 a1, .int .u8 a2] w fun e w' => e = .returned (.bool true) ∧ Below w.heap.size w w' := by
  have bn0 := bounds_i8 wn0
  have bd0 := bounds_i8 wd0
  have bk0 := bounds_u8 wk0
  have b1 := bounds_u32 w1
  have b2 := bounds_u8 w2
  have hw : Go.Refl.S3.h8 ((n0, d0, k0, ()), a1, a2, ()) = some (true, ()) := Go.Refl.S3.when_pos (by simp only [Go.Refl.S3.OkRaw]; omega)
  refine (Go.Refl.S3.s8.2 (fun _ => False) ((n0, d0, k0, ()), a1, a2, ()) (true, ()) [.agg #[.int .i8 n0, .int .i8 d0, .int .u8 k0], .int .u32 a1, .int .u8 a2] w hw (fun k h => h.elim) ⟨_, _, rfl, ⟨[.int .i8 n0, .int .i8 d0, .int .u8 k0], rfl, [.int .i8 n0], [.int .i8 d0, .int .u8 k0], rfl, rfl, [.int .i8 d0], [.int .u8 k0], rfl, rfl, [.int .u8 k0], [], rfl, rfl, rfl⟩, ⟨_, _, rfl, rfl, ⟨_, _, rfl, rfl, rfl⟩⟩⟩).mono fun e w' h => ?_
  cases e with
  | returned v =>
    obtain ⟨h1, h2⟩ := h
    have h3 : [v] = [.bool true] := h2
    injection h3 with h3
    subst h3
    exact ⟨rfl, h1⟩
  | panicked c => exact h.elim
  | outgrown => exact h.elim

set_option maxRecDepth 100000 in
theorem lifted (os : Os) (started : os.Started) (H : Type) (enc : TypeId × Value → H) :
    ReturnsInHanded {} Try.checked os 8 .any (Rows.modularRebuildsSpec.pre6 enc Try.prog Try.f8 Rows.modularRebuildsRow.domain false) (Rows.modularRebuildsSpec.post enc Try.prog Try.f8 false true false false) := by
  refine returnsInHanded_of_change (C := Try.checked) own started (by kernel_rfl) Try.func8
    (ChangeSpec.witness6 (enc := enc) (C := Try.checked) false ⟨#[], #[.agg #[.int .i8 0, .int .i8 0, .int .u8 0], .int .u32 0, .int .u8 0], []⟩ 8 (by kernel_rfl) (by kernel_rfl) (by kernel_rfl) (by kernel_rfl)) ?_
  intro W base args ds gs before hval0 hW hcnd _
  have hval : ∀ (j : Nat) t v, Try.f8.params[j]? = some t → args[j]? = some v → Value.okWide Try.prog W .any base t v := hval0
  have hW' := hW
  obtain ⟨p, q, hA0, hV, rfl, hfz, hnd⟩ := hW
  have hA : DataW.TrodAll enc Try.prog W 0 (fun _ => true) true Try.f8.params.toList args.toList ds p := hA0
  rw [Try.params8] at hA hval
  obtain ⟨v0, vs0, e0d, ds0, p0, q0, hargs, rfl, rfl, h0, r0⟩ := trodAll_cons hA
  obtain ⟨v1, vs1, e1d, ds1, p1, q1, rfl, rfl, rfl, h1, r1⟩ := trodAll_cons r0
  obtain ⟨v2, vs2, e2d, ds2, p2, q2, rfl, rfl, rfl, h2, r2⟩ := trodAll_cons r1
  obtain ⟨rfl, rfl, rfl⟩ := trodAll_nil r2
  obtain rfl : args = #[v0, v1, v2] := by cases args; simp_all
  obtain ⟨rfl, rfl⟩ := trodVars_none hV
  obtain ⟨c0, c1, c2, y0, y1, y2, m, rfl, rfl, rfl, hy0, hy1, hy2⟩ := open_agg3 Try.underlying26 (by kernel_rfl) cells26 (hval 0 26 v0 rfl rfl) h0
  obtain ⟨n0, e0, rfl, wn0⟩ := DataW.trod_int Try.underlying24 hy0
  obtain ⟨d0, e1, rfl, wd0⟩ := DataW.trod_int Try.underlying24 hy1
  obtain ⟨k0, e2, rfl, wk0⟩ := DataW.trod_int Try.underlying5 hy2
  simp only [List.cons.injEq, and_true] at e0 e1 e2
  subst e0 e1 e2
  obtain ⟨a1, rfl, rfl, rfl, w1⟩ := open_int Try.underlying22 (hval 1 22 v1 rfl rfl) h1
  obtain ⟨a2, rfl, rfl, rfl, w2⟩ := open_int Try.underlying5 (hval 2 5 v2 rfl rfl) h2
  clear hA0 hval0
  simp only [List.append_nil] at hW'
  refine (walk n0 d0 k0 a1 a2 wn0 wd0 wk0 w1 w2 W).mono fun e W' ⟨he, bel⟩ => ?_
  subst he
  exact ⟨_, rfl, _, _, _, [], [], [], hW', (trodAll_cons_mk (shut_bool Try.underlying4 _) trodAll_mk0), (trodAll_cons_mk (shut_agg3 (y0 := (.lit (.int .i8 n0), [])) (y1 := (.lit (.int .i8 d0), [])) (y2 := (.lit (.int .u8 k0), [])) Try.underlying26 (by kernel_rfl) cells26 ⟨1, by simp [DataW.trod, Try.underlying24, wn0]⟩ ⟨1, by simp [DataW.trod, Try.underlying24, wd0]⟩ ⟨1, by simp [DataW.trod, Try.underlying5, wk0]⟩) (trodAll_cons_mk (shut_int Try.underlying22 w1) (trodAll_cons_mk (shut_int Try.underlying5 w2) trodAll_mk0))), rfl, bel.frame _, fun h => by cases h⟩

theorem over : Rows.modularRebuildsRow.holds Try.pinned (OpenSpec.ofChange Rows.modularRebuildsSpec) :=
  OpenClaim.holds_of_wide 8 Try.f8 rfl rfl rfl rfl rfl rfl rfl ⟨rfl, rfl, rfl, rfl, rfl⟩ rfl rfl rfl rfl rfl (by kernel_rfl) Try.func8 (by kernel_rfl)
    (of_decide_eq_true (by kernel_rfl)) (by unfold Func.isWrapper; first | (rw [if_pos (by decide +kernel)]; kernel_rfl) | (rw [if_neg (by decide +kernel)]; exact ⟨rfl, rfl⟩))
    (fun os started H enc _ => lifted os started H enc)

/-- THE STATEMENT. -/
theorem proved : Rows.ModularRebuildsSaid :=
  over
#print axioms proved
end Go.Proofs.Ythgbejjenlfdnaa.modularRebuilds
