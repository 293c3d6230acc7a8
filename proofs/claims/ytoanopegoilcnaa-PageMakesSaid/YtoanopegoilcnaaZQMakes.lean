/- Page: there is a framer of just the layouts that may be; its pages have as many bytes as the document says: the law PageMakes, for every layout. -/
import Derived.Test.YtoanopegoilcnaaZKy
import Derived.Test.YtoanopegoilcnaaJn
import Derived.Test.YtoanopegoilcnaaJa
import Derived.Test.YtoanopegoilcnaaRows
import Derived.WalkKit
import Derived.ProofKit
import Derived.OpenShut
import Derived.ShutString
import Derived.ChangeOld
import Derived.Below
set_option linter.unusedVariables false
namespace Go.Proofs.Ytoanopegoilcnaa.pageMakes
open Go.ChangeShapes Go.WideShapes Go.ChangeAt Go.RowKit
open Go.Mem Go.Pg
set_option linter.unusedVariables false

theorem own : ownKnob Try.prog.godebug = none := by kernel_rfl
theorem laidOut : laidOutB Try.prog = true := by kernel_rfl

/-- The walk. -/
theorem walk (a0 b0 c0 : Int) (w : World) (x0 : (Lit.int .i64 a0).wf = true) (y0 : (Lit.int .i64 b0).wf = true) (z0 : (Lit.int .i64 c0).wf = true) :
    Calls Try.prog 8 #[.agg #[.int .i64 a0, .int .i64 b0, .int .i64 c0]] w fun e w' => e = .returned (.bool true) ∧ Below w.heap.size w w' := by
  exact pageMakes_walk a0 b0 c0 w x0 y0 z0

/-! The row: as the kit has it. -/
set_option maxRecDepth 100000 in
theorem lifted (os : Os) (started : os.Started) (H : Type) (enc : TypeId × Value → H) :
    ReturnsInHanded {} Try.checked os 8 .any (Rows.pageMakesSpec.pre6 enc Try.prog Try.f8 Rows.pageMakesRow.domain false) (Rows.pageMakesSpec.post enc Try.prog Try.f8 false true false false) := by
  refine returnsInHanded_of_change (C := Try.checked) own started (by kernel_rfl) Try.func8
    (ChangeSpec.witness6 (enc := enc) (C := Try.checked) false ⟨#[], #[.agg #[.int .i64 0, .int .i64 0, .int .i64 0]], []⟩ 8 (by kernel_rfl) (by kernel_rfl) (by kernel_rfl) (by kernel_rfl)) ?_
  intro W base args ds gs before hval0 hW hcnd _
  have hval : ∀ (j : Nat) t v, Try.f8.params[j]? = some t → args[j]? = some v → Value.okWide Try.prog W .any base t v := hval0
  have hW' := hW
  obtain ⟨p, q, hA0, hV, rfl, hfz, hnd⟩ := hW
  have hA : DataW.TrodAll enc Try.prog W 0 (fun _ => true) true Try.f8.params.toList args.toList ds p := hA0
  rw [Try.params8] at hA hval
  obtain ⟨v0, vs0, d0, ds0, p0, q0, hargs, rfl, rfl, h0, r0⟩ := trodAll_cons hA
  obtain ⟨rfl, rfl, rfl⟩ := trodAll_nil r0
  obtain rfl : args = #[v0] := by cases args; simp_all
  obtain ⟨rfl, rfl⟩ := trodVars_none hV
  have k0 := h0
  have lt0 : ∀ x ∈ p0, x.block < W.heap.size := by obtain ⟨m, hm⟩ := k0; exact DataW.trod_lt m _ _ _ hm
  obtain ⟨a0, b0, c0, rfl, x0, y0, z0⟩ := open_layout Try.underlying23 (by kernel_rfl) (by kernel_rfl) Try.underlying3 Try.underlying3 Try.underlying3 (hval 0 23 v0 rfl rfl) h0
  clear hA0 hval0
  refine (walk a0 b0 c0 W x0 y0 z0).mono fun e W' ⟨he, bel⟩ => ?_
  subst he
  exact ⟨_, rfl, _, _, _, [], _, [], hW', trodAll_mk1 (shut_bool Try.underlying4 _), (trodAll_cons_mk (Below.trod laidOut (by kernel_rfl) (of_decide_eq_true (by kernel_rfl)) k0 bel lt0) trodAll_mk0), rfl, bel.frame _, fun h => by cases h⟩

theorem over : Rows.pageMakesRow.holds Try.pinned (OpenSpec.ofChange Rows.pageMakesSpec) :=
  OpenClaim.holds_of_wide 8 Try.f8 rfl rfl rfl rfl rfl rfl rfl ⟨rfl, rfl, rfl, rfl, rfl⟩ rfl rfl rfl rfl rfl (by kernel_rfl) Try.func8 (by kernel_rfl)
    (of_decide_eq_true (by kernel_rfl)) (by unfold Func.isWrapper; first | (rw [if_pos (by decide +kernel)]; kernel_rfl) | (rw [if_neg (by decide +kernel)]; exact ⟨rfl, rfl⟩))
    (fun os started H enc _ => lifted os started H enc)

/-- The statement. -/
theorem proved : Rows.PageMakesSaid := over
#print axioms proved
end Go.Proofs.Ytoanopegoilcnaa.pageMakes
