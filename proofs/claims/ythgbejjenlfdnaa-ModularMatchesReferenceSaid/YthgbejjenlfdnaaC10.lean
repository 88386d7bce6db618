/-
  ModularMatchesReference: for every input the function answers true, and nothing that was there has turned.
-/
import Derived.Test.YthgbejjenlfdnaaRows
import Derived.WalkKit
import Derived.ProofKit
import Derived.OpenShut
import Derived.Below
import Derived.Lib.SmallJoins
import Derived.Test.YthgbejjenlfdnaaN10
namespace Go.Proofs.Ythgbejjenlfdnaa.modularMatchesReference
open Go.ChangeShapes Go.WideShapes Go.ChangeAt Go.RowKit Go.Joins
set_option linter.unusedVariables false

theorem own : ownKnob Try.prog.godebug = none := by kernel_rfl
theorem cells26 : Try.prog.cellsOf 26 = 3 := by kernel_rfl

/-! ### The function answers true. -/
theorem walk (a0 : Int) (a1 : Int) (n2 : Int) (d2 : Int) (k2 : Int) (w0 : (Lit.int .u32 a0).wf = true) (w1 : (Lit.int .u64 a1).wf = true) (wn2 : (Lit.int .i8 n2).wf = true) (wd2 : (Lit.int .i8 d2).wf = true) (wk2 : (Lit.int .u8 k2).wf = true) (w : World) :
    Calls Try.prog 3 #[.int .u32 a0, .int .u64 a1, .agg #[.int .i8 n2, .int .i8 d2, .int .u8 k2]] w fun e w' => e = .returned (.bool true) ∧ Below w.heap.size w w' := by
  have b0 := bounds_u32 w0
  have b1 := bounds_u64 w1
  have bn2 := bounds_i8 wn2
  have bd2 := bounds_i8 wd2
  have bk2 := bounds_u8 wk2
  have hw : Go.Refl.S3.h3 (a0, a1, (n2, d2, k2, ()), ()) = some (true, ()) := Go.Refl.S3.when_pos (by simp only [Go.Refl.S3.OkRaw]; omega)
  refine (Go.Refl.S3.s3.2 (fun _ => False) (a0, a1, (n2, d2, k2, ()), ()) (true, ()) [.int .u32 a0, .int .u64 a1, .agg #[.int .i8 n2, .int .i8 d2, .int .u8 k2]] w hw (fun k h => h.elim) ⟨_, _, rfl, rfl, ⟨_, _, rfl, rfl, ⟨_, _, rfl, ⟨[.int .i8 n2, .int .i8 d2, .int .u8 k2], rfl, [.int .i8 n2], [.int .i8 d2, .int .u8 k2], rfl, rfl, [.int .i8 d2], [.int .u8 k2], rfl, rfl, [.int .u8 k2], [], rfl, rfl, rfl⟩, rfl⟩⟩⟩).mono fun e w' h => ?_
  cases e with
  | returned v =>
    obtain ⟨h1, h2⟩ := h
    have h3 : [v] = [.bool true] := h2
    injection h3 with h3
    subst h3
    exact ⟨rfl, h1⟩
  | panicked c => exact h.elim
  | outgrown => exact h.elim

set_option maxRecDepth 100000 in
theorem lifted (os : Os) (started : os.Started) (H : Type) (enc : TypeId × Value → H) :
    ReturnsInHanded {} Try.checked os 3 .any (Rows.modularMatchesReferenceSpec.pre6 enc Try.prog Try.f3 Rows.modularMatchesReferenceRow.domain false) (Rows.modularMatchesReferenceSpec.post enc Try.prog Try.f3 false true false false) := by
  refine returnsInHanded_of_change (C := Try.checked) own started (by kernel_rfl) Try.func3
    (ChangeSpec.witness6 (enc := enc) (C := Try.checked) false ⟨#[], #[.int .u32 0, .int .u64 0, .agg #[.int .i8 0, .int .i8 0, .int .u8 0]], []⟩ 8 (by kernel_rfl) (by kernel_rfl) (by kernel_rfl) (by kernel_rfl)) ?_
  intro W base args ds gs before hval0 hW hcnd _
  have hval : ∀ (j : Nat) t v, Try.f3.params[j]? = some t → args[j]? = some v → Value.okWide Try.prog W .any base t v := hval0
  have hW' := hW
  obtain ⟨p, q, hA0, hV, rfl, hfz, hnd⟩ := hW
  have hA : DataW.TrodAll enc Try.prog W 0 (fun _ => true) true Try.f3.params.toList args.toList ds p := hA0
  rw [Try.params3] at hA hval
  obtain ⟨v0, vs0, e0d, ds0, p0, q0, hargs, rfl, rfl, h0, r0⟩ := trodAll_cons hA
  obtain ⟨v1, vs1, e1d, ds1, p1, q1, rfl, rfl, rfl, h1, r1⟩ := trodAll_cons r0
  obtain ⟨v2, vs2, e2d, ds2, p2, q2, rfl, rfl, rfl, h2, r2⟩ := trodAll_cons r1
  obtain ⟨rfl, rfl, rfl⟩ := trodAll_nil r2
  obtain rfl : args = #[v0, v1, v2] := by cases args; simp_all
  obtain ⟨rfl, rfl⟩ := trodVars_none hV
  obtain ⟨a0, rfl, rfl, rfl, w0⟩ := open_int Try.underlying22 (hval 0 22 v0 rfl rfl) h0
  obtain ⟨a1, rfl, rfl, rfl, w1⟩ := open_int Try.underlying23 (hval 1 23 v1 rfl rfl) h1
  obtain ⟨c0, c1, c2, y0, y1, y2, m, rfl, rfl, rfl, hy0, hy1, hy2⟩ := open_agg3 Try.underlying26 (by kernel_rfl) cells26 (hval 2 26 v2 rfl rfl) h2
  obtain ⟨n2, e0, rfl, wn2⟩ := DataW.trod_int Try.underlying24 hy0
  obtain ⟨d2, e1, rfl, wd2⟩ := DataW.trod_int Try.underlying24 hy1
  obtain ⟨k2, e2, rfl, wk2⟩ := DataW.trod_int Try.underlying5 hy2
  simp only [List.cons.injEq, and_true] at e0 e1 e2
  subst e0 e1 e2
  clear hA0 hval0
  simp only [List.append_nil] at hW'
  refine (walk a0 a1 n2 d2 k2 w0 w1 wn2 wd2 wk2 W).mono fun e W' ⟨he, bel⟩ => ?_
  subst he
  exact ⟨_, rfl, _, _, _, [], [], [], hW', (trodAll_cons_mk (shut_bool Try.underlying4 _) trodAll_mk0), (trodAll_cons_mk (shut_int Try.underlying22 w0) (trodAll_cons_mk (shut_int Try.underlying23 w1) (trodAll_cons_mk (shut_agg3 (y0 := (.lit (.int .i8 n2), [])) (y1 := (.lit (.int .i8 d2), [])) (y2 := (.lit (.int .u8 k2), [])) Try.underlying26 (by kernel_rfl) cells26 ⟨1, by simp [DataW.trod, Try.underlying24, wn2]⟩ ⟨1, by simp [DataW.trod, Try.underlying24, wd2]⟩ ⟨1, by simp [DataW.trod, Try.underlying5, wk2]⟩) trodAll_mk0))), rfl, bel.frame _, fun h => by cases h⟩

theorem over : Rows.modularMatchesReferenceRow.holds Try.pinned (OpenSpec.ofChange Rows.modularMatchesReferenceSpec) :=
  OpenClaim.holds_of_wide 3 Try.f3 rfl rfl rfl rfl rfl rfl rfl ⟨rfl, rfl, rfl, rfl, rfl⟩ rfl rfl rfl rfl rfl (by kernel_rfl) Try.func3 (by kernel_rfl)
    (of_decide_eq_true (by kernel_rfl)) (by unfold Func.isWrapper; first | (rw [if_pos (by decide +kernel)]; kernel_rfl) | (rw [if_neg (by decide +kernel)]; exact ⟨rfl, rfl⟩))
    (fun os started H enc _ => lifted os started H enc)

/-- THE STATEMENT. -/
theorem proved : Rows.ModularMatchesReferenceSaid :=
  over
#print axioms proved
end Go.Proofs.Ythgbejjenlfdnaa.modularMatchesReference
