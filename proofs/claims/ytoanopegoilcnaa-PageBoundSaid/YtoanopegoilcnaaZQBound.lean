/- Page: a sector belongs to its slot: the law PageBound, for every layout, head, sectors, key and number. -/
import Derived.Test.YtoanopegoilcnaaZKx
import Derived.Test.YtoanopegoilcnaaJn
import Derived.Test.YtoanopegoilcnaaJa
import Derived.Test.YtoanopegoilcnaaRows
import Derived.WalkKit
import Derived.ProofKit
import Derived.OpenShut
import Derived.ShutString
import Derived.ChangeOld
import Derived.Below
set_option linter.unusedVariables false
namespace Go.Proofs.Ytoanopegoilcnaa.pageBound
open Go.ChangeShapes Go.WideShapes Go.ChangeAt Go.RowKit
open Go.Mem Go.Pg
set_option linter.unusedVariables false

theorem own : ownKnob Try.prog.godebug = none := by kernel_rfl
theorem laidOut : laidOutB Try.prog = true := by kernel_rfl

/-- The walk. -/
theorem walk (a0 b0 c0 : Int) (v1 : Value) (hd1 : Head) (v2 : Value) (rows2 : List (List Nat)) (n3 : Nat) (n4 : Nat) (w : World) (x0 : (Lit.int .i64 a0).wf = true) (y0 : (Lit.int .i64 b0).wf = true) (z0 : (Lit.int .i64 c0).wf = true) (x1 : HdV w v1 hd1) (y1 : hd1.Wf) (x2 : RB w v2 rows2) (y2 : ∀ r ∈ rows2, ∀ y ∈ r, y < 256) (x3 : n3 < 4294967296) (x4 : n4 < 18446744073709551616) :
    Calls Try.prog 5 #[.agg #[.int .i64 a0, .int .i64 b0, .int .i64 c0], v1, v2, .int .u32 (n3 : Nat), .int .u64 (n4 : Nat)] w fun e w' => e = .returned (.bool true) ∧ Below w.heap.size w w' := by
  exact pageBound_walk a0 b0 c0 v1 hd1 v2 rows2 n3 n4 w x0 y0 z0 x1 y1 x2 y2 x3 x4

/-! The row: as the kit has it. -/
set_option maxRecDepth 100000 in
theorem lifted (os : Os) (started : os.Started) (H : Type) (enc : TypeId × Value → H) :
    ReturnsInHanded {} Try.checked os 5 .any (Rows.pageBoundSpec.pre6 enc Try.prog Try.f5 Rows.pageBoundRow.domain false) (Rows.pageBoundSpec.post enc Try.prog Try.f5 false true false false) := by
  refine returnsInHanded_of_change (C := Try.checked) own started (by kernel_rfl) Try.func5
    (ChangeSpec.witness6 (enc := enc) (C := Try.checked) false ⟨#[], #[.agg #[.int .i64 0, .int .i64 0, .int .i64 0], .agg #[.int .i64 0, .int .u32 0, .int .i64 0, .int .i64 0, .int .i64 0, .slice none 0 0], .slice none 0 0, .int .u32 0, .int .u64 0], []⟩ 8 (by kernel_rfl) (by kernel_rfl) (by kernel_rfl) (by kernel_rfl)) ?_
  intro W base args ds gs before hval0 hW hcnd _
  have hval : ∀ (j : Nat) t v, Try.f5.params[j]? = some t → args[j]? = some v → Value.okWide Try.prog W .any base t v := hval0
  have hW' := hW
  obtain ⟨p, q, hA0, hV, rfl, hfz, hnd⟩ := hW
  have hA : DataW.TrodAll enc Try.prog W 0 (fun _ => true) true Try.f5.params.toList args.toList ds p := hA0
  rw [Try.params5] at hA hval
  obtain ⟨v0, vs0, d0, ds0, p0, q0, hargs, rfl, rfl, h0, r0⟩ := trodAll_cons hA
  obtain ⟨v1, vs1, d1, ds1, p1, q1, rfl, rfl, rfl, h1, r1⟩ := trodAll_cons r0
  obtain ⟨v2, vs2, d2, ds2, p2, q2, rfl, rfl, rfl, h2, r2⟩ := trodAll_cons r1
  obtain ⟨v3, vs3, d3, ds3, p3, q3, rfl, rfl, rfl, h3, r3⟩ := trodAll_cons r2
  obtain ⟨v4, vs4, d4, ds4, p4, q4, rfl, rfl, rfl, h4, r4⟩ := trodAll_cons r3
  obtain ⟨rfl, rfl, rfl⟩ := trodAll_nil r4
  obtain rfl : args = #[v0, v1, v2, v3, v4] := by cases args; simp_all
  obtain ⟨rfl, rfl⟩ := trodVars_none hV
  have k0 := h0
  have lt0 : ∀ x ∈ p0, x.block < W.heap.size := by obtain ⟨m, hm⟩ := k0; exact DataW.trod_lt m _ _ _ hm
  obtain ⟨a0, b0, c0, rfl, x0, y0, z0⟩ := open_layout Try.underlying23 (by kernel_rfl) (by kernel_rfl) Try.underlying3 Try.underlying3 Try.underlying3 (hval 0 23 v0 rfl rfl) h0
  have k1 := h1
  have lt1 : ∀ x ∈ p1, x.block < W.heap.size := by obtain ⟨m, hm⟩ := k1; exact DataW.trod_lt m _ _ _ hm
  obtain ⟨hd1, x1, y1⟩ := open_head Try.underlying39 (by kernel_rfl) (by kernel_rfl) Try.underlying3 Try.underlying36 Try.underlying3 Try.underlying3 Try.underlying3 Try.underlying37 Try.underlying59 (by kernel_rfl) (by kernel_rfl) Try.underlying36 Try.underlying3 Try.underlying57 (hval 1 39 v1 rfl rfl) h1
  have k2 := h2
  have lt2 : ∀ x ∈ p2, x.block < W.heap.size := by obtain ⟨m, hm⟩ := k2; exact DataW.trod_lt m _ _ _ hm
  obtain ⟨rows2, x2, y2⟩ : ∃ rows, RB W v2 rows ∧ ∀ r ∈ rows, ∀ y ∈ r, y < 256 := by
    obtain ⟨a, len, cap, rfl⟩ := okWide_slice Try.underlying40 (hval 2 40 v2 rfl rfl)
    obtain ⟨fuel, hf⟩ := h2
    obtain ⟨u, rows, e, h1, h2⟩ := open_bytes_rows Try.underlying40 Try.underlying31 Try.underlying5 (by kernel_rfl) (by kernel_rfl) hf
    simp [Value.cells] at e
    subst e
    exact ⟨rows, h1, h2⟩
  obtain ⟨m3, rfl, rfl, rfl, u3⟩ := open_int Try.underlying36 (hval 3 36 v3 rfl rfl) h3
  obtain ⟨n3, rfl⟩ := Int.eq_ofNat_of_zero_le (bounds_u32 u3).1
  have x3 : n3 < 4294967296 := by have := (bounds_u32 u3).2; omega
  obtain ⟨m4, rfl, rfl, rfl, u4⟩ := open_int Try.underlying57 (hval 4 57 v4 rfl rfl) h4
  obtain ⟨n4, rfl⟩ := Int.eq_ofNat_of_zero_le (bounds_u64 u4).1
  have x4 : n4 < 18446744073709551616 := by have := (bounds_u64 u4).2; omega
  clear hA0 hval0
  refine (walk a0 b0 c0 v1 hd1 v2 rows2 n3 n4 W x0 y0 z0 x1 y1 x2 y2 x3 x4).mono fun e W' ⟨he, bel⟩ => ?_
  subst he
  exact ⟨_, rfl, _, _, _, [], _, [], hW', trodAll_mk1 (shut_bool Try.underlying4 _), (trodAll_cons_mk (Below.trod laidOut (by kernel_rfl) (of_decide_eq_true (by kernel_rfl)) k0 bel lt0) (trodAll_cons_mk (Below.trod laidOut (by kernel_rfl) (of_decide_eq_true (by kernel_rfl)) k1 bel lt1) (trodAll_cons_mk (Below.trod laidOut (by kernel_rfl) (of_decide_eq_true (by kernel_rfl)) k2 bel lt2) (trodAll_cons_mk (shut_int Try.underlying36 u3) (trodAll_cons_mk (shut_int Try.underlying57 u4) trodAll_mk0))))), rfl, bel.frame _, fun h => by cases h⟩

theorem over : Rows.pageBoundRow.holds Try.pinned (OpenSpec.ofChange Rows.pageBoundSpec) :=
  OpenClaim.holds_of_wide 5 Try.f5 rfl rfl rfl rfl rfl rfl rfl ⟨rfl, rfl, rfl, rfl, rfl⟩ rfl rfl rfl rfl rfl (by kernel_rfl) Try.func5 (by kernel_rfl)
    (of_decide_eq_true (by kernel_rfl)) (by unfold Func.isWrapper; first | (rw [if_pos (by decide +kernel)]; kernel_rfl) | (rw [if_neg (by decide +kernel)]; exact ⟨rfl, rfl⟩))
    (fun os started H enc _ => lifted os started H enc)

/-- The statement. -/
theorem proved : Rows.PageBoundSaid := over
#print axioms proved
end Go.Proofs.Ytoanopegoilcnaa.pageBound
