/-
  ModularJoins: for every input the function answers true, and nothing that was there has turned.
-/
import Derived.Test.YthgbejjenlfdnaaRows
import Derived.WalkKit
import Derived.ProofKit
import Derived.OpenShut
import Derived.Below
import Derived.Lib.SmallJoins
import Derived.Laws.IdiomArrays
import Derived.Test.YthgbejjenlfdnaaN7
namespace Go.Proofs.Ythgbejjenlfdnaa.modularJoins
open Go.ChangeShapes Go.WideShapes Go.ChangeAt Go.RowKit Go.Joins
set_option linter.unusedVariables false

theorem own : ownKnob Try.prog.godebug = none := by kernel_rfl
theorem cells23 : Try.prog.cellsOf 23 = 1 := by kernel_rfl
theorem cells47 : Try.prog.cellsOf 47 = 4 := by kernel_rfl
theorem shut_arr {H : Type} {enc : TypeId × Value → H} {w : World} {base : Nat} {spare : Nat → Bool} {held : Bool} {x0 x1 x2 x3 : Int} (w0 : (Lit.int .u64 x0).wf = true) (w1 : (Lit.int .u64 x1).wf = true) (w2 : (Lit.int .u64 x2).wf = true) (w3 : (Lit.int .u64 x3).wf = true) :
    DataW.Trod enc Try.prog w base spare held 47 (.agg #[.int .u64 x0, .int .u64 x1, .int .u64 x2, .int .u64 x3]) (.agg [.lit (.int .u64 x0), .lit (.int .u64 x1), .lit (.int .u64 x2), .lit (.int .u64 x3)]) [] :=
  ⟨2, by simp [DataW.trod, Value.cells, Try.underlying47, Try.underlying23, cells47, cells23, w0, w1, w2, w3, show List.range 4 = [0, 1, 2, 3] from rfl]⟩

/-! ### The function answers true. -/
theorem walk (x0 : Int) (x1 : Int) (x2 : Int) (x3 : Int) (a1 : Int) (a2 : Int) (wx0 : (Lit.int .u64 x0).wf = true) (wx1 : (Lit.int .u64 x1).wf = true) (wx2 : (Lit.int .u64 x2).wf = true) (wx3 : (Lit.int .u64 x3).wf = true) (w1 : (Lit.int .u32 a1).wf = true) (w2 : (Lit.int .u8 a2).wf = true) (w : World) :
    Calls Try.prog 7 #[.agg #[.int .u64 x0, .int .u64 x1, .int .u64 x2, .int .u64 x3], .int .u32 a1, .int .u8 a2] w fun e w' => e = .returned (.bool true) ∧ Below w.heap.size w w' := by
  have bx0 := bounds_u64 wx0
  have bx1 := bounds_u64 wx1
  have bx2 := bounds_u64 wx2
  have bx3 := bounds_u64 wx3
  have b1 := bounds_u32 w1
  have b2 := bounds_u8 w2
  have hw : Go.Refl.S3.h7 ([x0, x1, x2, x3], a1, a2, ()) = some (true, ()) := Go.Refl.S3.when_pos ⟨⟨rfl, Go.Refl.S3.WU.cons (by omega) (Go.Refl.S3.WU.cons (by omega) (Go.Refl.S3.WU.cons (by omega) (Go.Refl.S3.WU.cons (by omega) Go.Refl.S3.WU.nil)))⟩, (by simp only; omega), (by simp only; omega), (by simp only; omega)⟩
  refine (Go.Refl.S3.s7.2 (fun _ => False) ([x0, x1, x2, x3], a1, a2, ()) (true, ()) [.agg #[.int .u64 x0, .int .u64 x1, .int .u64 x2, .int .u64 x3], .int .u32 a1, .int .u8 a2] w hw (fun k h => h.elim) ⟨_, _, rfl, ⟨[.int .u64 x0, .int .u64 x1, .int .u64 x2, .int .u64 x3], rfl, rfl, ⟨[.int .u64 x0], [.int .u64 x1, .int .u64 x2, .int .u64 x3], rfl, rfl, ⟨[.int .u64 x1], [.int .u64 x2, .int .u64 x3], rfl, rfl, ⟨[.int .u64 x2], [.int .u64 x3], rfl, rfl, ⟨[.int .u64 x3], [], rfl, rfl, rfl⟩⟩⟩⟩⟩, ⟨_, _, rfl, rfl, ⟨_, _, rfl, rfl, rfl⟩⟩⟩).mono fun e w' h => ?_
  cases e with
  | returned v =>
    obtain ⟨h1, h2⟩ := h
    have h3 : [v] = [.bool true] := h2
    injection h3 with h3
    subst h3
    exact ⟨rfl, h1⟩
  | panicked c => exact h.elim
  | outgrown => exact h.elim

set_option maxRecDepth 100000 in
theorem lifted (os : Os) (started : os.Started) (H : Type) (enc : TypeId × Value → H) :
    ReturnsInHanded {} Try.checked os 7 .any (Rows.modularJoinsSpec.pre6 enc Try.prog Try.f7 Rows.modularJoinsRow.domain false) (Rows.modularJoinsSpec.post enc Try.prog Try.f7 false true false false) := by
  refine returnsInHanded_of_change (C := Try.checked) own started (by kernel_rfl) Try.func7
    (ChangeSpec.witness6 (enc := enc) (C := Try.checked) false ⟨#[], #[.agg #[.int .u64 0, .int .u64 0, .int .u64 0, .int .u64 0], .int .u32 0, .int .u8 0], []⟩ 8 (by kernel_rfl) (by kernel_rfl) (by kernel_rfl) (by kernel_rfl)) ?_
  intro W base args ds gs before hval0 hW hcnd _
  have hval : ∀ (j : Nat) t v, Try.f7.params[j]? = some t → args[j]? = some v → Value.okWide Try.prog W .any base t v := hval0
  have hW' := hW
  obtain ⟨p, q, hA0, hV, rfl, hfz, hnd⟩ := hW
  have hA : DataW.TrodAll enc Try.prog W 0 (fun _ => true) true Try.f7.params.toList args.toList ds p := hA0
  rw [Try.params7] at hA hval
  obtain ⟨v0, vs0, e0d, ds0, p0, q0, hargs, rfl, rfl, h0, r0⟩ := trodAll_cons hA
  obtain ⟨v1, vs1, e1d, ds1, p1, q1, rfl, rfl, rfl, h1, r1⟩ := trodAll_cons r0
  obtain ⟨v2, vs2, e2d, ds2, p2, q2, rfl, rfl, rfl, h2, r2⟩ := trodAll_cons r1
  obtain ⟨rfl, rfl, rfl⟩ := trodAll_nil r2
  obtain rfl : args = #[v0, v1, v2] := by cases args; simp_all
  obtain ⟨rfl, rfl⟩ := trodVars_none hV
  obtain ⟨cs, rfl, hsz, _⟩ : ∃ cs, v0 = .agg cs ∧ cs.size = Try.prog.cellsOf 47 ∧ Row.okWide Try.prog W .any base 47 cs := by
    have := hval 0 47 v0 rfl rfl
    simpa [Value.okWide, Try.underlying47] using this
  rw [cells47] at hsz
  obtain ⟨c0, c1, c2, c3, rfl⟩ := array4 hsz
  obtain ⟨fuel, hf⟩ := h0
  obtain ⟨y0, y1, y2, y3, m, hx, hy0, hy1, hy2, hy3⟩ := trod_array4 Try.underlying47 cells23 hf
  obtain ⟨x0, e0, rfl, wx0⟩ := DataW.trod_int Try.underlying23 hy0
  obtain ⟨x1, e1, rfl, wx1⟩ := DataW.trod_int Try.underlying23 hy1
  obtain ⟨x2, e2, rfl, wx2⟩ := DataW.trod_int Try.underlying23 hy2
  obtain ⟨x3, e3, rfl, wx3⟩ := DataW.trod_int Try.underlying23 hy3
  simp at e0 e1 e2 e3
  subst e0 e1 e2 e3
  simp only [Prod.mk.injEq] at hx
  obtain ⟨rfl, rfl⟩ := hx
  obtain ⟨a1, rfl, rfl, rfl, w1⟩ := open_int Try.underlying22 (hval 1 22 v1 rfl rfl) h1
  obtain ⟨a2, rfl, rfl, rfl, w2⟩ := open_int Try.underlying5 (hval 2 5 v2 rfl rfl) h2
  clear hA0 hval0
  simp only [List.append_nil] at hW'
  refine (walk x0 x1 x2 x3 a1 a2 wx0 wx1 wx2 wx3 w1 w2 W).mono fun e W' ⟨he, bel⟩ => ?_
  subst he
  exact ⟨_, rfl, _, _, _, [], [], [], hW', (trodAll_cons_mk (shut_bool Try.underlying4 _) trodAll_mk0), (trodAll_cons_mk (shut_arr wx0 wx1 wx2 wx3) (trodAll_cons_mk (shut_int Try.underlying22 w1) (trodAll_cons_mk (shut_int Try.underlying5 w2) trodAll_mk0))), rfl, bel.frame _, fun h => by cases h⟩

theorem over : Rows.modularJoinsRow.holds Try.pinned (OpenSpec.ofChange Rows.modularJoinsSpec) :=
  OpenClaim.holds_of_wide 7 Try.f7 rfl rfl rfl rfl rfl rfl rfl ⟨rfl, rfl, rfl, rfl, rfl⟩ rfl rfl rfl rfl rfl (by kernel_rfl) Try.func7 (by kernel_rfl)
    (of_decide_eq_true (by kernel_rfl)) (by unfold Func.isWrapper; first | (rw [if_pos (by decide +kernel)]; kernel_rfl) | (rw [if_neg (by decide +kernel)]; exact ⟨rfl, rfl⟩))
    (fun os started H enc _ => lifted os started H enc)

/-- THE STATEMENT. -/
theorem proved : Rows.ModularJoinsSaid :=
  over
#print axioms proved
end Go.Proofs.Ythgbejjenlfdnaa.modularJoins
