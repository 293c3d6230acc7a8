/- Page: two heads, or sectors, that are unlike have unlike bytes: the law PageApart, for every input. -/
import Derived.Test.YtoanopegoilcnaaZKu
import Derived.Test.YtoanopegoilcnaaJn
import Derived.Test.YtoanopegoilcnaaJa
import Derived.Test.YtoanopegoilcnaaRows
import Derived.WalkKit
import Derived.ProofKit
import Derived.OpenShut
import Derived.ShutString
import Derived.ChangeOld
import Derived.Below
set_option linter.unusedVariables false
namespace Go.Proofs.Ytoanopegoilcnaa.pageApart
open Go.ChangeShapes Go.WideShapes Go.ChangeAt Go.RowKit
open Go.Mem Go.Pg
set_option linter.unusedVariables false

theorem own : ownKnob Try.prog.godebug = none := by kernel_rfl
theorem laidOut : laidOutB Try.prog = true := by kernel_rfl

/-- The walk. -/
theorem walk (a0 b0 c0 : Int) (v1 : Value) (hd1 : Head) (v2 : Value) (hd2 : Head) (v3 : Value) (rows3 : List (List Nat)) (v4 : Value) (rows4 : List (List Nat)) (w : World) (x0 : (Lit.int .i64 a0).wf = true) (y0 : (Lit.int .i64 b0).wf = true) (z0 : (Lit.int .i64 c0).wf = true) (x1 : HdV w v1 hd1) (y1 : hd1.Wf) (x2 : HdV w v2 hd2) (y2 : hd2.Wf) (x3 : RB w v3 rows3) (y3 : ∀ r ∈ rows3, ∀ y ∈ r, y < 256) (x4 : RB w v4 rows4) (y4 : ∀ r ∈ rows4, ∀ y ∈ r, y < 256) :
    Calls Try.prog 6 #[.agg #[.int .i64 a0, .int .i64 b0, .int .i64 c0], v1, v2, v3, v4] w fun e w' => e = .returned (.bool true) ∧ Below w.heap.size w w' := by
  exact pageApart_walk a0 b0 c0 v1 hd1 v2 hd2 v3 rows3 v4 rows4 w x0 y0 z0 x1 y1 x2 y2 x3 y3 x4 y4

/-! The row: as the kit has it. -/
set_option maxRecDepth 100000 in
theorem lifted (os : Os) (started : os.Started) (H : Type) (enc : TypeId × Value → H) :
    ReturnsInHanded {} Try.checked os 6 .any (Rows.pageApartSpec.pre6 enc Try.prog Try.f6 Rows.pageApartRow.domain false) (Rows.pageApartSpec.post enc Try.prog Try.f6 false true false false) := by
  refine returnsInHanded_of_change (C := Try.checked) own started (by kernel_rfl) Try.func6
    (ChangeSpec.witness6 (enc := enc) (C := Try.checked) false ⟨#[], #[.agg #[.int .i64 0, .int .i64 0, .int .i64 0], .agg #[.int .i64 0, .int .u32 0, .int .i64 0, .int .i64 0, .int .i64 0, .slice none 0 0], .agg #[.int .i64 0, .int .u32 0, .int .i64 0, .int .i64 0, .int .i64 0, .slice none 0 0], .slice none 0 0, .slice none 0 0], []⟩ 8 (by kernel_rfl) (by kernel_rfl) (by kernel_rfl) (by kernel_rfl)) ?_
  intro W base args ds gs before hval0 hW hcnd _
  have hval : ∀ (j : Nat) t v, Try.f6.params[j]? = some t → args[j]? = some v → Value.okWide Try.prog W .any base t v := hval0
  have hW' := hW
  obtain ⟨p, q, hA0, hV, rfl, hfz, hnd⟩ := hW
  have hA : DataW.TrodAll enc Try.prog W 0 (fun _ => true) true Try.f6.params.toList args.toList ds p := hA0
  rw [Try.params6] at hA hval
  obtain ⟨v0, vs0, d0, ds0, p0, q0, hargs, rfl, rfl, h0, r0⟩ := trodAll_cons hA
  obtain ⟨v1, vs1, d1, ds1, p1, q1, rfl, rfl, rfl, h1, r1⟩ := trodAll_cons r0
  obtain ⟨v2, vs2, d2, ds2, p2, q2, rfl, rfl, rfl, h2, r2⟩ := trodAll_cons r1
  obtain ⟨v3, vs3, d3, ds3, p3, q3, rfl, rfl, rfl, h3, r3⟩ := trodAll_cons r2
  obtain ⟨v4, vs4, d4, ds4, p4, q4, rfl, rfl, rfl, h4, r4⟩ := trodAll_cons r3
  obtain ⟨rfl, rfl, rfl⟩ := trodAll_nil r4
  obtain rfl : args = #[v0, v1, v2, v3, v4] := by cases args; simp_all
  obtain ⟨rfl, rfl⟩ := trodVars_none hV
  have k0 := h0
  have lt0 : ∀ x ∈ p0, x.block < W.heap.size := by obtain ⟨m, hm⟩ := k0; exact DataW.trod_lt m _ _ _ hm
  obtain ⟨a0, b0, c0, rfl, x0, y0, z0⟩ := open_layout Try.underlying23 (by kernel_rfl) (by kernel_rfl) Try.underlying3 Try.underlying3 Try.underlying3 (hval 0 23 v0 rfl rfl) h0
  have k1 := h1
  have lt1 : ∀ x ∈ p1, x.block < W.heap.size := by obtain ⟨m, hm⟩ := k1; exact DataW.trod_lt m _ _ _ hm
  obtain ⟨hd1, x1, y1⟩ := open_head Try.underlying39 (by kernel_rfl) (by kernel_rfl) Try.underlying3 Try.underlying36 Try.underlying3 Try.underlying3 Try.underlying3 Try.underlying37 Try.underlying59 (by kernel_rfl) (by kernel_rfl) Try.underlying36 Try.underlying3 Try.underlying57 (hval 1 39 v1 rfl rfl) h1
  have k2 := h2
  have lt2 : ∀ x ∈ p2, x.block < W.heap.size := by obtain ⟨m, hm⟩ := k2; exact DataW.trod_lt m _ _ _ hm
  obtain ⟨hd2, x2, y2⟩ := open_head Try.underlying39 (by kernel_rfl) (by kernel_rfl) Try.underlying3 Try.underlying36 Try.underlying3 Try.underlying3 Try.underlying3 Try.underlying37 Try.underlying59 (by kernel_rfl) (by kernel_rfl) Try.underlying36 Try.underlying3 Try.underlying57 (hval 2 39 v2 rfl rfl) h2
  have k3 := h3
  have lt3 : ∀ x ∈ p3, x.block < W.heap.size := by obtain ⟨m, hm⟩ := k3; exact DataW.trod_lt m _ _ _ hm
  obtain ⟨rows3, x3, y3⟩ : ∃ rows, RB W v3 rows ∧ ∀ r ∈ rows, ∀ y ∈ r, y < 256 := by
    obtain ⟨a, len, cap, rfl⟩ := okWide_slice Try.underlying40 (hval 3 40 v3 rfl rfl)
    obtain ⟨fuel, hf⟩ := h3
    obtain ⟨u, rows, e, h1, h2⟩ := open_bytes_rows Try.underlying40 Try.underlying31 Try.underlying5 (by kernel_rfl) (by kernel_rfl) hf
    simp [Value.cells] at e
    subst e
    exact ⟨rows, h1, h2⟩
  have k4 := h4
  have lt4 : ∀ x ∈ p4, x.block < W.heap.size := by obtain ⟨m, hm⟩ := k4; exact DataW.trod_lt m _ _ _ hm
  obtain ⟨rows4, x4, y4⟩ : ∃ rows, RB W v4 rows ∧ ∀ r ∈ rows, ∀ y ∈ r, y < 256 := by
    obtain ⟨a, len, cap, rfl⟩ := okWide_slice Try.underlying40 (hval 4 40 v4 rfl rfl)
    obtain ⟨fuel, hf⟩ := h4
    obtain ⟨u, rows, e, h1, h2⟩ := open_bytes_rows Try.underlying40 Try.underlying31 Try.underlying5 (by kernel_rfl) (by kernel_rfl) hf
    simp [Value.cells] at e
    subst e
    exact ⟨rows, h1, h2⟩
  clear hA0 hval0
  refine (walk a0 b0 c0 v1 hd1 v2 hd2 v3 rows3 v4 rows4 W x0 y0 z0 x1 y1 x2 y2 x3 y3 x4 y4).mono fun e W' ⟨he, bel⟩ => ?_
  subst he
  exact ⟨_, rfl, _, _, _, [], _, [], hW', trodAll_mk1 (shut_bool Try.underlying4 _), (trodAll_cons_mk (Below.trod laidOut (by kernel_rfl) (of_decide_eq_true (by kernel_rfl)) k0 bel lt0) (trodAll_cons_mk (Below.trod laidOut (by kernel_rfl) (of_decide_eq_true (by kernel_rfl)) k1 bel lt1) (trodAll_cons_mk (Below.trod laidOut (by kernel_rfl) (of_decide_eq_true (by kernel_rfl)) k2 bel lt2) (trodAll_cons_mk (Below.trod laidOut (by kernel_rfl) (of_decide_eq_true (by kernel_rfl)) k3 bel lt3) (trodAll_cons_mk (Below.trod laidOut (by kernel_rfl) (of_decide_eq_true (by kernel_rfl)) k4 bel lt4) trodAll_mk0))))), rfl, bel.frame _, fun h => by cases h⟩

theorem over : Rows.pageApartRow.holds Try.pinned (OpenSpec.ofChange Rows.pageApartSpec) :=
  OpenClaim.holds_of_wide 6 Try.f6 rfl rfl rfl rfl rfl rfl rfl ⟨rfl, rfl, rfl, rfl, rfl⟩ rfl rfl rfl rfl rfl (by kernel_rfl) Try.func6 (by kernel_rfl)
    (of_decide_eq_true (by kernel_rfl)) (by unfold Func.isWrapper; first | (rw [if_pos (by decide +kernel)]; kernel_rfl) | (rw [if_neg (by decide +kernel)]; exact ⟨rfl, rfl⟩))
    (fun os started H enc _ => lifted os started H enc)

/-- The statement. -/
theorem proved : Rows.PageApartSaid := over
#print axioms proved
end Go.Proofs.Ytoanopegoilcnaa.pageApart
