/- Walks over firkinlaw05: abs, small. -/
import Derived.Test.YtoanopegoilcnaaGreatJn
import Derived.Test.YtoanopegoilcnaaGreatJp
import Derived.Lib.QuietBelow
import Derived.Outline
set_option linter.unusedVariables false
namespace Go.Proofs.YtoanopegoilcnaaGreat
open Go.RowKit Go.Mem Go.Pg Go.Sort

/-- A whole number, never negative. -/
def absN (n : Int) : Nat := if n < 0 then (-(n + 1)).toNat else n.toNat
theorem absN_neg {n : Int} (h : n < 0) : (absN n : Int) = -(n + 1) := by unfold absN; rw [if_pos h]; omega
theorem absN_pos {n : Int} (h : ¬ n < 0) : (absN n : Int) = n := by unfold absN; rw [if_neg h]; omega
theorem absN_le {n : Int} (h : (Lit.int .i64 n).wf = true) : (absN n : Int) ≤ 9223372036854775807 := by
  have := bounds_i64 h
  by_cases hn : n < 0
  · rw [absN_neg hn]; omega
  · rw [absN_pos hn]; omega
set_option maxHeartbeats 400000 in
theorem abs_any (n : Int) (w : World) (h : (Lit.int .i64 n).wf = true) : Calls Tryz.prog 11 #[.int .i64 n] w fun e w' => e = .returned (.int .i64 (absN n : Nat)) ∧ w = w' := by
  have hb := bounds_i64 h
  have h1 := hb.1
  have h2 := hb.2
  clear hb h
  by_cases hn : n < 0
  · have e := hid (absN_neg hn)
    go_enter Tryz.func11, Tryz.ntmps11
    go_wp2
    go_ret
    exact ⟨congrArg (fun v => Ending.returned (Value.int .i64 v)) e.out.symm, rfl⟩
  · have e := hid (absN_pos hn)
    have hn0 : 0 ≤ n := by omega
    go_enter Tryz.func11, Tryz.ntmps11
    go_wp2
    go_ret
    exact ⟨congrArg (fun v => Ending.returned (Value.int .i64 v)) e.out.symm, rfl⟩
/-- A layout, small. -/
def smA (a k : Nat) : Nat := 1 + a % k
set_option maxRecDepth 100000 in
set_option maxHeartbeats 800000 in
theorem small_any (a b c : Int) (w : World) (ha : (Lit.int .i64 a).wf = true) (hb : (Lit.int .i64 b).wf = true) (hc : (Lit.int .i64 c).wf = true) :
    Calls Tryz.prog 7 #[.agg #[.int .i64 a, .int .i64 b, .int .i64 c]] w fun e w' => e = .returned (.agg #[.int .i64 (smA (absN a) 12 : Nat), .int .i64 (smA (absN b) 3 : Nat), .int .i64 (smA (absN c) 3 : Nat)]) ∧ Below w.heap.size w w' := by
  have HA := hid (fun w => abs_any a w ha)
  have HB := hid (fun w => abs_any b w hb)
  have HC := hid (fun w => abs_any c w hc)
  have la := absN_le ha
  have lb := absN_le hb
  have lc := absN_le hc
  clear ha hb hc
  generalize absN a = x at *
  generalize absN b = y at *
  generalize absN c = z at *
  obtain ⟨W, hW⟩ : ∃ W, (w.alloc (.cells #[.int .i64 a, .int .i64 b, .int .i64 c] 23)).alloc (.cells #[.int .i64 0, .int .i64 0, .int .i64 0] 23) = W := ⟨_, rfl⟩
  have hx : W.heap[w.heap.size]? = some (.cells #[.int .i64 a, .int .i64 b, .int .i64 c] 23 (0, 0)) := by rw [← hW]; exact (alloc_old (by simp)).trans (alloc_new w _)
  have hy : W.heap[w.heap.size + 1]? = some (.cells #[.int .i64 0, .int .i64 0, .int .i64 0] 23 (0, 0)) := by rw [← hW]; exact alloc_at (by simp)
  have hbW : Below w.heap.size w W := by rw [← hW]; exact ((Below.refl _ _).alloc (Nat.le_refl _) _).alloc (by simp) _
  have HW := hid hW
  have HBW := hid hbW
  clear hW hbW
  go_enter Tryz.func7, Tryz.ntmps7
  go_wp2_with fail
  rw [HW.out]
  obtain ⟨bx, hbx⟩ : ∃ b, w.heap.size = b := ⟨_, rfl⟩
  obtain ⟨by', hby⟩ : ∃ b, w.heap.size + 1 = b := ⟨_, rfl⟩
  rw [hby] at hy ⊢
  rw [hbx] at hx ⊢
  have HBX := hid hbx
  have HBY := hid hby
  have HY := hid hy
  have q0 := cell_at hx 0
  have q1 := cell_at hx 1
  have q2 := cell_at hx 2
  have p0 := cell_at hy 0
  have p1 := cell_at hy 1
  have p2 := cell_at hy 2
  have f0 := free_at hy 0
  have f1 := free_at hy 1
  have f2 := free_at hy 2
  clear hx hy hbx hby
  refine wp_region_quiet_tail 16 (by kernel_rfl) (by kernel_rfl) ?_
  simp only [List.take_succ_cons, List.take_zero, List.drop_succ_cons, List.drop_zero]
  repeat (go_big_quiet_step ((go_at_call 11; first | with_reducible exact quiet_eq (HA.out _) | with_reducible exact quiet_eq (HB.out _) | with_reducible exact quiet_eq (HC.out _))))
  refine wpQuiet_nil ?_
  intro _ hw'
  obtain ⟨nq, hw''⟩ := hw'
  subst hw''
  go_wp2_with fail
  have hy : (W.drewN nq).heap[by']? = some (.cells #[.int .i64 0, .int .i64 0, .int .i64 0] 23 (0, 0)) := HY.out
  have s0 := set_at hy 0 (.int .i64 (1 + (x : Int) % 12))
  have s1 := set_at s0 1 (.int .i64 (1 + (y : Int) % 3))
  have s2 := set_at s1 2 (.int .i64 (1 + (z : Int) % 3))
  have hge : w.heap.size ≤ by' := by have := HBY.out; omega
  have hb2 := bl_set (bl_set (bl_set (HBW.out.drewN nq) (p := ⟨by', 0, none⟩) hge (.int .i64 (1 + (x : Int) % 12))) (p := ⟨by', 1, none⟩) hge (.int .i64 (1 + (y : Int) % 3))) (p := ⟨by', 2, none⟩) hge (.int .i64 (1 + (z : Int) % 3))
  obtain ⟨V, hV⟩ : ∃ V, (((W.drewN nq).setCell ⟨by', 0, none⟩ (.int .i64 (1 + (x : Int) % 12))).setCell ⟨by', 1, none⟩ (.int .i64 (1 + (y : Int) % 3))).setCell ⟨by', 2, none⟩ (.int .i64 (1 + (z : Int) % 3)) = V := ⟨_, rfl⟩
  rw [hV] at s2 hb2 ⊢
  have p0 : V.cell? ⟨by', 0, none⟩ = some (.int .i64 (1 + (x : Int) % 12)) := cell_at s2 0
  have p1 : V.cell? ⟨by', 1, none⟩ = some (.int .i64 (1 + (y : Int) % 3)) := cell_at s2 1
  have p2 : V.cell? ⟨by', 2, none⟩ = some (.int .i64 (1 + (z : Int) % 3)) := cell_at s2 2
  refine bodyPost_ret (v := .agg #[.int .i64 (1 + (x : Int) % 12), .int .i64 (1 + (y : Int) % 3), .int .i64 (1 + (z : Int) % 3)]) (by simp [results, Tryz.results7, go_sem, p0, p1, p2]) rfl ⟨?_, hb2⟩
  unfold smA
  push_cast
  rfl
end Go.Proofs.YtoanopegoilcnaaGreat
