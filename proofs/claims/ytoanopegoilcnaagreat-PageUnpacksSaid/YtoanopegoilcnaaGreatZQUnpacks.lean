/- Page: whatever bytes say, the document says: the law PageUnpacks, for every layout, head, sectors, turned bits and raw bytes. -/
import Derived.Test.YtoanopegoilcnaaGreatZZz
import Derived.Test.YtoanopegoilcnaaGreatJn
import Derived.Test.YtoanopegoilcnaaGreatJa
import Derived.Test.YtoanopegoilcnaaGreatRows
import Derived.WalkKit
import Derived.ProofKit
import Derived.OpenShut
import Derived.ShutString
import Derived.ChangeOld
import Derived.Below
set_option linter.unusedVariables false
namespace Go.Proofs.YtoanopegoilcnaaGreat.pageUnpacks
open Go.ChangeShapes Go.WideShapes Go.ChangeAt Go.RowKit
open Go.Mem Go.Pg
set_option linter.unusedVariables false

theorem own : ownKnob Tryz.prog.godebug = none := by kernel_rfl
theorem laidOut : laidOutB Tryz.prog = true := by kernel_rfl

/-- The walk. -/
theorem walk (a0 b0 c0 : Int) (v1 : Value) (hd1 : Head) (v2 : Value) (rows2 : List (List Nat)) (a3 : Option Addr) (len3 cap3 : Nat) (z3 : List Int) (a4 : Option Addr) (len4 cap4 : Nat) (z4 : List Int) (w : World) (x0 : (Lit.int .i64 a0).wf = true) (y0 : (Lit.int .i64 b0).wf = true) (z0 : (Lit.int .i64 c0).wf = true) (x1 : HdV w v1 hd1) (y1 : hd1.Wf) (x2 : RB w v2 rows2) (y2 : ∀ r ∈ rows2, ∀ y ∈ r, y < 256) (x3 : IsRow .i64 w a3 len3 cap3 z3) (x4 : IsRow .u8 w a4 len4 cap4 z4) :
    Calls Tryz.prog 4 #[.agg #[.int .i64 a0, .int .i64 b0, .int .i64 c0], v1, v2, .slice a3 len3 cap3, .slice a4 len4 cap4] w fun e w' => e = .returned (.bool true) ∧ Below w.heap.size w w' := by
  obtain ⟨zs3, hz3, hzl3, hzw3⟩ := x3.nums
  obtain ⟨xs4, hv4, hl4, hx4⟩ := x4.bytes
  exact pageUnpacks_walk a0 b0 c0 v1 hd1 v2 rows2 a3 len3 cap3 zs3 a4 len4 cap4 xs4 w x0 y0 z0 x1 y1 x2 y2 hz3 hzl3 hzw3 hv4 hl4 hx4

/-! The row: as the kit has it. -/
set_option maxRecDepth 100000 in
theorem lifted (os : Os) (started : os.Started) (H : Type) (enc : TypeId × Value → H) :
    ReturnsInHanded {} Tryz.checked os 4 .any (Rows.pageUnpacksSpec.pre6 enc Tryz.prog Tryz.f4 Rows.pageUnpacksRow.domain false) (Rows.pageUnpacksSpec.post enc Tryz.prog Tryz.f4 false true false false) := by
  refine returnsInHanded_of_change (C := Tryz.checked) own started (by kernel_rfl) Tryz.func4
    (ChangeSpec.witness6 (enc := enc) (C := Tryz.checked) false ⟨#[], #[.agg #[.int .i64 0, .int .i64 0, .int .i64 0], .agg #[.int .i64 0, .int .u32 0, .int .i64 0, .int .i64 0, .int .i64 0, .slice none 0 0], .slice none 0 0, .slice none 0 0, .slice none 0 0], []⟩ 8 (by kernel_rfl) (by kernel_rfl) (by kernel_rfl) (by kernel_rfl)) ?_
  intro W base args ds gs before hval0 hW hcnd _
  have hval : ∀ (j : Nat) t v, Tryz.f4.params[j]? = some t → args[j]? = some v → Value.okWide Tryz.prog W .any base t v := hval0
  have hW' := hW
  obtain ⟨p, q, hA0, hV, rfl, hfz, hnd⟩ := hW
  have hA : DataW.TrodAll enc Tryz.prog W 0 (fun _ => true) true Tryz.f4.params.toList args.toList ds p := hA0
  rw [Tryz.params4] at hA hval
  obtain ⟨v0, vs0, d0, ds0, p0, q0, hargs, rfl, rfl, h0, r0⟩ := trodAll_cons hA
  obtain ⟨v1, vs1, d1, ds1, p1, q1, rfl, rfl, rfl, h1, r1⟩ := trodAll_cons r0
  obtain ⟨v2, vs2, d2, ds2, p2, q2, rfl, rfl, rfl, h2, r2⟩ := trodAll_cons r1
  obtain ⟨v3, vs3, d3, ds3, p3, q3, rfl, rfl, rfl, h3, r3⟩ := trodAll_cons r2
  obtain ⟨v4, vs4, d4, ds4, p4, q4, rfl, rfl, rfl, h4, r4⟩ := trodAll_cons r3
  obtain ⟨rfl, rfl, rfl⟩ := trodAll_nil r4
  obtain rfl : args = #[v0, v1, v2, v3, v4] := by cases args; simp_all
  obtain ⟨rfl, rfl⟩ := trodVars_none hV
  have k0 := h0
  have lt0 : ∀ x ∈ p0, x.block < W.heap.size := by obtain ⟨m, hm⟩ := k0; exact DataW.trod_lt m _ _ _ hm
  obtain ⟨a0, b0, c0, rfl, x0, y0, z0⟩ := open_layout Tryz.underlying23 (by kernel_rfl) (by kernel_rfl) Tryz.underlying3 Tryz.underlying3 Tryz.underlying3 (hval 0 23 v0 rfl rfl) h0
  have k1 := h1
  have lt1 : ∀ x ∈ p1, x.block < W.heap.size := by obtain ⟨m, hm⟩ := k1; exact DataW.trod_lt m _ _ _ hm
  obtain ⟨hd1, x1, y1⟩ := open_head Tryz.underlying27 (by kernel_rfl) (by kernel_rfl) Tryz.underlying3 Tryz.underlying24 Tryz.underlying3 Tryz.underlying3 Tryz.underlying3 Tryz.underlying25 Tryz.underlying61 (by kernel_rfl) (by kernel_rfl) Tryz.underlying24 Tryz.underlying3 Tryz.underlying59 (hval 1 27 v1 rfl rfl) h1
  have k2 := h2
  have lt2 : ∀ x ∈ p2, x.block < W.heap.size := by obtain ⟨m, hm⟩ := k2; exact DataW.trod_lt m _ _ _ hm
  obtain ⟨rows2, x2, y2⟩ : ∃ rows, RB W v2 rows ∧ ∀ r ∈ rows, ∀ y ∈ r, y < 256 := by
    obtain ⟨a, len, cap, rfl⟩ := okWide_slice Tryz.underlying28 (hval 2 28 v2 rfl rfl)
    obtain ⟨fuel, hf⟩ := h2
    obtain ⟨u, rows, e, h1, h2⟩ := open_bytes_rows Tryz.underlying28 Tryz.underlying39 Tryz.underlying5 (by kernel_rfl) (by kernel_rfl) hf
    simp [Value.cells] at e
    subst e
    exact ⟨rows, h1, h2⟩
  have k3 := h3
  have lt3 : ∀ x ∈ p3, x.block < W.heap.size := by obtain ⟨m, hm⟩ := k3; exact DataW.trod_lt m _ _ _ hm
  obtain ⟨a3, len3, cap3, rfl⟩ := okWide_slice Tryz.underlying31 (hval 3 31 v3 rfl rfl)
  obtain ⟨z3, x3⟩ : ∃ zs, IsRow .i64 W a3 len3 cap3 zs := by
    obtain ⟨fuel, hf⟩ := h3
    rcases open_ints Tryz.underlying31 Tryz.underlying3 (by kernel_rfl) hf with ⟨hcs, _⟩ | ⟨x, l, c, zs, hcs, _, hl, hm, hz, _, hcell, hwz⟩
    · simp [Value.cells] at hcs
      obtain ⟨rfl, rfl, rfl⟩ := hcs
      exact ⟨[], .inl ⟨rfl, rfl, rfl, rfl⟩⟩
    · simp [Value.cells] at hcs
      obtain ⟨rfl, rfl, rfl⟩ := hcs
      exact ⟨zs, .inr ⟨_, rfl, hl, hm, by simpa using hz, hcell, hwz⟩⟩
  have k4 := h4
  have lt4 : ∀ x ∈ p4, x.block < W.heap.size := by obtain ⟨m, hm⟩ := k4; exact DataW.trod_lt m _ _ _ hm
  obtain ⟨a4, len4, cap4, rfl⟩ := okWide_slice Tryz.underlying39 (hval 4 39 v4 rfl rfl)
  obtain ⟨z4, x4⟩ : ∃ zs, IsRow .u8 W a4 len4 cap4 zs := by
    obtain ⟨fuel, hf⟩ := h4
    rcases open_ints Tryz.underlying39 Tryz.underlying5 (by kernel_rfl) hf with ⟨hcs, _⟩ | ⟨x, l, c, zs, hcs, _, hl, hm, hz, _, hcell, hwz⟩
    · simp [Value.cells] at hcs
      obtain ⟨rfl, rfl, rfl⟩ := hcs
      exact ⟨[], .inl ⟨rfl, rfl, rfl, rfl⟩⟩
    · simp [Value.cells] at hcs
      obtain ⟨rfl, rfl, rfl⟩ := hcs
      exact ⟨zs, .inr ⟨_, rfl, hl, hm, by simpa using hz, hcell, hwz⟩⟩
  clear hA0 hval0
  refine (walk a0 b0 c0 v1 hd1 v2 rows2 a3 len3 cap3 z3 a4 len4 cap4 z4 W x0 y0 z0 x1 y1 x2 y2 x3 x4).mono fun e W' ⟨he, bel⟩ => ?_
  subst he
  exact ⟨_, rfl, _, _, _, [], _, [], hW', trodAll_mk1 (shut_bool Tryz.underlying4 _), (trodAll_cons_mk (Below.trod laidOut (by kernel_rfl) (of_decide_eq_true (by kernel_rfl)) k0 bel lt0) (trodAll_cons_mk (Below.trod laidOut (by kernel_rfl) (of_decide_eq_true (by kernel_rfl)) k1 bel lt1) (trodAll_cons_mk (Below.trod laidOut (by kernel_rfl) (of_decide_eq_true (by kernel_rfl)) k2 bel lt2) (trodAll_cons_mk (Below.trod laidOut (by kernel_rfl) (of_decide_eq_true (by kernel_rfl)) k3 bel lt3) (trodAll_cons_mk (Below.trod laidOut (by kernel_rfl) (of_decide_eq_true (by kernel_rfl)) k4 bel lt4) trodAll_mk0))))), rfl, bel.frame _, fun h => by cases h⟩

theorem over : Rows.pageUnpacksRow.holds Tryz.pinned (OpenSpec.ofChange Rows.pageUnpacksSpec) :=
  OpenClaim.holds_of_wide 4 Tryz.f4 rfl rfl rfl rfl rfl rfl rfl ⟨rfl, rfl, rfl, rfl, rfl⟩ rfl rfl rfl rfl rfl (by kernel_rfl) Tryz.func4 (by kernel_rfl)
    (of_decide_eq_true (by kernel_rfl)) (by unfold Func.isWrapper; first | (rw [if_pos (by decide +kernel)]; kernel_rfl) | (rw [if_neg (by decide +kernel)]; exact ⟨rfl, rfl⟩))
    (fun os started H enc _ => lifted os started H enc)

/-- The statement. -/
theorem proved : Rows.PageUnpacksSaid := over
#print axioms proved
end Go.Proofs.YtoanopegoilcnaaGreat.pageUnpacks
