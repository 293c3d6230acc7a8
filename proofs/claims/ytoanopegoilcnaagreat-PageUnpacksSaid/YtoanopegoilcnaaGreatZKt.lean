/- Walks over firkinref05: SameHead. -/
import Derived.Test.YtoanopegoilcnaaGreatZKo
import Derived.Test.YtoanopegoilcnaaGreatJq
import Derived.Test.YtoanopegoilcnaaGreatJk
import Derived.Laws.StructEq
set_option linter.unusedVariables false
namespace Go.Proofs.YtoanopegoilcnaaGreat
open Go.RowKit Go.Mem Go.Pg Go.Sort

/-- Are the numbers of two heads the same? -/
def sameA (a b : Head) : Prop := a.kind = b.kind ∧ a.id = b.id ∧ a.row = b.row ∧ a.place = b.place ∧ a.width = b.width ∧ a.slots.length = b.slots.length
instance (a b : Head) : Decidable (sameA a b) := by unfold sameA; infer_instance
theorem head_ext {a b : Head} (h : sameA a b) (hs : ∀ j, j < a.slots.length → a.slots.getD j Slot.zero = b.slots.getD j Slot.zero) : a = b := by
  obtain ⟨h1, h2, h3, h4, h5, h6⟩ := h
  obtain ⟨a1, a2, a3, a4, a5, a6⟩ := a
  obtain ⟨b1, b2, b3, b4, b5, b6⟩ := b
  simp only at h1 h2 h3 h4 h5 h6 hs
  subst h1 h2 h3 h4 h5
  congr 1
  apply List.ext_getElem h6
  intro i h7 h8
  have := hs i h7
  simpa [List.getD, h7, h8] using this
theorem und_slot : Tryz.prog.underlying 61 = some (.struct (Tryz.prog.fieldsOf 61)) := by kernel_rfl
theorem held_slot : Tryz.prog.stoodInHeld 61 = false := by kernel_rfl
theorem guard_slot : Tryz.prog.eqGuardType Tryz.prog.depth 61 = false := by kernel_rfl
def slotA (s : Slot) : Value := .agg #[.int .u32 (s.key : Nat), .int .i64 s.st, .int .u64 (s.seq : Nat)]
theorem slot_ext {s t : Slot} (h1 : (s.key : Int) = t.key) (h2 : s.st = t.st) (h3 : (s.seq : Int) = t.seq) : s = t := by
  obtain ⟨a, b, c⟩ := s
  obtain ⟨x, y, z⟩ := t
  simp only at h1 h2 h3
  obtain rfl : a = x := by omega
  obtain rfl : c = z := by omega
  subst h2; rfl
theorem run_neq_slot (w : World) (s t : Slot) (r : Bool) (hr : r = true ↔ s ≠ t) : (binOp .neq 61 (.agg #[.int .u32 (s.key : Nat), .int .i64 s.st, .int .u64 (s.seq : Nat)]) (.agg #[.int .u32 (t.key : Nat), .int .i64 t.st, .int .u64 (t.seq : Nat)])).run Tryz.prog w = .ok (.bool r) w := by
  rw [run_neq_struct, run_equalIn_agg w 9999 61 _ _ und_slot held_slot]
  simp only [Program.fieldsOf, Tryz.underlying61]
  simp [go_sem, Op.eqFields]
  by_cases h1 : (s.key : Int) = (t.key : Int)
  · rw [if_pos h1]
    by_cases h2 : s.st = t.st
    · rw [if_pos h2]
      by_cases h3 : (s.seq : Int) = (t.seq : Int)
      · rw [if_pos h3]
        have : s = t := slot_ext h1 h2 h3
        have hf : r = false := by cases r with | false => rfl | true => exact absurd this (hr.1 rfl)
        rw [hf]
      · rw [if_neg h3, hr.2 (fun e => h3 (by rw [e]))]
    · rw [if_neg h2, hr.2 (fun e => h2 (by rw [e]))]
  · rw [if_neg h1, hr.2 (fun e => h1 (by rw [e]))]
set_option maxRecDepth 100000 in
set_option maxHeartbeats 3200000 in
theorem sameHead_any (v1 v2 : Value) (h1 h2 : Head) (w : World) (hv1 : HdV w v1 h1) (hv2 : HdV w v2 h2) (hw1 : h1.Wf) (hw2 : h2.Wf) :
    Calls Tryz.prog 44 #[v1, v2] w fun e w' => ∃ r : Bool, e = .returned (.bool r) ∧ (r = true ↔ h1 = h2) ∧ Below w.heap.size w w' := by
  obtain ⟨z1, rfl, hs1⟩ := hv1
  obtain ⟨z2, rfl, hs2⟩ := hv2
  obtain ⟨a1, c1, rfl, x1, x2, x3⟩ := hs1
  obtain ⟨a2, c2, rfl, y1, y2, y3⟩ := hs2
  have X3 := hid x3
  have Y3 := hid y3
  have hx1 : (h1.slots.length : Int) ≤ (c1 : Int) := by omega
  have hx2 : (c1 : Int) ≤ 9223372036854775807 := by unfold maxLen at x2; omega
  have hy1 : (h2.slots.length : Int) ≤ (c2 : Int) := by omega
  have hy2 : (c2 : Int) ≤ 9223372036854775807 := by unfold maxLen at y2; omega
  clear x3 y3 x2 y2
  go_enter Tryz.func44, Tryz.ntmps44
  go_upto_region 1 with (fail)
  obtain ⟨W, hW⟩ : ∃ W, (w.alloc (.cells #[.int .i64 h1.kind, .int .u32 (h1.id : Nat), .int .i64 h1.row, .int .i64 h1.place, .int .i64 h1.width, .slice a1 h1.slots.length c1] 27)).alloc (.cells #[.int .i64 h2.kind, .int .u32 (h2.id : Nat), .int .i64 h2.row, .int .i64 h2.place, .int .i64 h2.width, .slice a2 h2.slots.length c2] 27) = W := ⟨_, rfl⟩
  have e1 : W.heap[w.heap.size]? = some (.cells #[.int .i64 h1.kind, .int .u32 (h1.id : Nat), .int .i64 h1.row, .int .i64 h1.place, .int .i64 h1.width, .slice a1 h1.slots.length c1] 27 (0, 0)) := by rw [← hW]; exact (alloc_old (by simp)).trans (alloc_new w _)
  have e2 : W.heap[w.heap.size + 1]? = some (.cells #[.int .i64 h2.kind, .int .u32 (h2.id : Nat), .int .i64 h2.row, .int .i64 h2.place, .int .i64 h2.width, .slice a2 h2.slots.length c2] 27 (0, 0)) := by rw [← hW]; exact alloc_at (by simp)
  have hbW : Below w.heap.size w W := by rw [← hW]; exact bl_alloc (bl_alloc (Below.refl _ _) _) _
  rw [hW]
  obtain ⟨b1, hb1⟩ : ∃ b, w.heap.size = b := ⟨_, rfl⟩
  obtain ⟨b2, hb2⟩ : ∃ b, w.heap.size + 1 = b := ⟨_, rfl⟩
  rw [hb2] at e2 ⊢
  rw [hb1] at e1 ⊢
  have HB := hid hbW
  have HB1 := hid hb1
  clear hW hbW hb1 hb2
  have p0 := cell_at e1 0
  have p1 := cell_at e1 1
  have p2 := cell_at e1 2
  have p3 := cell_at e1 3
  have p4 := cell_at e1 4
  have p5 := cell_at e1 5
  have q0 := cell_at e2 0
  have q1 := cell_at e2 1
  have q2 := cell_at e2 2
  have q3 := cell_at e2 3
  have q4 := cell_at e2 4
  have q5 := cell_at e2 5
  clear e1 e2
  go_cut [47] (fun r wx => r = .bool (!decide (sameA h1 h2)) ∧ wx = W)
  case first =>
    have yes : ∀ v : Value, sameA h1 h2 → v = .bool false → v = .bool (!decide (sameA h1 h2)) ∧ W = W := fun v hs e => ⟨by rw [decide_eq_true hs]; exact e, rfl⟩
    have no : ∀ v : Value, ¬ sameA h1 h2 → v = .bool true → v = .bool (!decide (sameA h1 h2)) ∧ W = W := fun v hs e => ⟨by rw [decide_eq_false hs]; exact e, rfl⟩
    have YES := hid yes
    have NO := hid no
    clear yes no
    by_cases d1 : h1.kind = h2.kind
    · have f1 : (h1.kind != h2.kind) = false := by rw [d1]; exact bne_self_eq_false _
      by_cases d2 : h1.id = h2.id
      · have f2 : ((h1.id : Int) != (h2.id : Int)) = false := by rw [d2]; exact bne_self_eq_false _
        by_cases d3 : h1.row = h2.row
        · have f3 : (h1.row != h2.row) = false := by rw [d3]; exact bne_self_eq_false _
          by_cases d4 : h1.place = h2.place
          · have f4 : (h1.place != h2.place) = false := by rw [d4]; exact bne_self_eq_false _
            by_cases d5 : h1.width = h2.width
            · have f5 : (h1.width != h2.width) = false := by rw [d5]; exact bne_self_eq_false _
              by_cases d6 : h1.slots.length = h2.slots.length
              · have f6 : ((h1.slots.length : Int) != (h2.slots.length : Int)) = false := by rw [d6]; exact bne_self_eq_false _
                have D := hid (show sameA h1 h2 from ⟨d1, d2, d3, d4, d5, d6⟩)
                clear d1 d2 d3 d4 d5 d6
                go_wp2_with fail
                go_meet
                exact ⟨(YES.out _ D.out rfl).1, rfl⟩
              · have f6 : ((h1.slots.length : Int) != (h2.slots.length : Int)) = true := bne_iff_ne.2 (fun e => d6 (by omega))
                have D := hid (show ¬ sameA h1 h2 from fun e => d6 e.2.2.2.2.2)
                clear d1 d2 d3 d4 d5 d6
                go_wp2_with fail
                go_meet
                exact ⟨(NO.out _ D.out rfl).1, rfl⟩
            · have f5 : (h1.width != h2.width) = true := bne_iff_ne.2 d5
              have D := hid (show ¬ sameA h1 h2 from fun e => d5 e.2.2.2.2.1)
              clear d1 d2 d3 d4 d5
              go_wp2_with fail
              go_meet
              exact ⟨(NO.out _ D.out rfl).1, rfl⟩
          · have f4 : (h1.place != h2.place) = true := bne_iff_ne.2 d4
            have D := hid (show ¬ sameA h1 h2 from fun e => d4 e.2.2.2.1)
            clear d1 d2 d3 d4
            go_wp2_with fail
            go_meet
            exact ⟨(NO.out _ D.out rfl).1, rfl⟩
        · have f3 : (h1.row != h2.row) = true := bne_iff_ne.2 d3
          have D := hid (show ¬ sameA h1 h2 from fun e => d3 e.2.2.1)
          clear d1 d2 d3
          go_wp2_with fail
          go_meet
          exact ⟨(NO.out _ D.out rfl).1, rfl⟩
      · have f2 : ((h1.id : Int) != (h2.id : Int)) = true := bne_iff_ne.2 (fun e => d2 (by omega))
        have D := hid (show ¬ sameA h1 h2 from fun e => d2 e.2.1)
        clear d1 d2
        go_wp2_with fail
        go_meet
        exact ⟨(NO.out _ D.out rfl).1, rfl⟩
    · have f1 : (h1.kind != h2.kind) = true := bne_iff_ne.2 d1
      have D := hid (show ¬ sameA h1 h2 from fun e => d1 e.1)
      clear d1
      go_wp2_with fail
      go_meet
      exact ⟨(NO.out _ D.out rfl).1, rfl⟩
  case rest =>
    obtain ⟨rfl, rfl⟩ := hcut
    by_cases hsm : sameA h1 h2
    · have hlen := hsm.2.2.2.2.2
      have SM := hid hsm
      rw [decide_eq_true hsm]
      clear hsm p0 p1 p2 p3 p4 q0 q1 q2 q3 q4
      have HLEN := hid hlen
      have hlen1 : (h1.slots.length : Int) ≤ (h2.slots.length : Int) := by omega
      clear hlen
      go_wp2_with fail
      go_loopg [5] h1.slots.length (fun gk v wr => ∃ I : Nat, I + gk = h1.slots.length ∧ v = .int .i64 I ∧ (∀ j, j < I → h1.slots.getD j Slot.zero = h2.slots.getD j Slot.zero) ∧ ∃ n, wr = wc.drewN n)
      case atStart => exact ⟨0, by omega, rfl, fun j hj => by omega, 0, rfl⟩
      case round =>
        obtain ⟨I, hI, rfl, heq, nd, rfl⟩ := hrel
        have HEQ := hid heq
        clear heq
        by_cases hlt : I < h1.slots.length
        · have hlt2 : I < h2.slots.length := by have := HLEN.out; omega
          obtain ⟨g1, o1, rfl, u0, u1, u2⟩ := X3.out I hlt
          obtain ⟨g2, o2, rfl, t0, t1, t2⟩ := Y3.out I hlt2
          have u0' := (HB.out.cell (World.block_lt_of_cell? _ _ u0)).trans u0
          have u1' := (HB.out.cell (World.block_lt_of_cell? _ _ u1)).trans u1
          have u2' := (HB.out.cell (World.block_lt_of_cell? _ _ u2)).trans u2
          have t0' := (HB.out.cell (World.block_lt_of_cell? _ _ t0)).trans t0
          have t1' := (HB.out.cell (World.block_lt_of_cell? _ _ t1)).trans t1
          have t2' := (HB.out.cell (World.block_lt_of_cell? _ _ t2)).trans t2
          obtain ⟨s1, hs1⟩ : ∃ s, h1.slots.getD I Slot.zero = s := ⟨_, rfl⟩
          obtain ⟨s2, hs2⟩ : ∃ s, h2.slots.getD I Slot.zero = s := ⟨_, rfl⟩
          rw [hs1] at u0' u1' u2'
          rw [hs2] at t0' t1' t2'
          have S1 := hid hs1
          have S2 := hid hs2
          have i1 : (I : Int) < (h1.slots.length : Int) := by omega
          have i2 : (I : Int) < (h2.slots.length : Int) := by omega
          clear u0 u1 u2 t0 t1 t2 hs1 hs2
          go_upto_region 6 with (fail)
          have hgd := guard_slot
          by_cases hss : s1 = s2
          · have hq : ∀ w, (binOp .neq 61 (.agg #[.int .u32 (s1.key : Nat), .int .i64 s1.st, .int .u64 (s1.seq : Nat)]) (.agg #[.int .u32 (s2.key : Nat), .int .i64 s2.st, .int .u64 (s2.seq : Nat)])).run Tryz.prog w = .ok (.bool false) w := fun w => run_neq_slot w s1 s2 false ⟨(fun e => by cases e), fun e => absurd hss e⟩
            have HSS := hid hss
            clear hss
            go_quiet (fail)
            go_wp2_with fail
            go_roundg (gk - 1)
            case measure => omega
            case rel =>
              refine ⟨I + 1, by omega, by go_num, fun j hj => ?_, nd + nq, by simp⟩
              by_cases hjI : j = I
              · rw [hjI, S1.out, S2.out]; exact HSS.out
              · exact HEQ.out j (by omega)
          · have hq : ∀ w, (binOp .neq 61 (.agg #[.int .u32 (s1.key : Nat), .int .i64 s1.st, .int .u64 (s1.seq : Nat)]) (.agg #[.int .u32 (s2.key : Nat), .int .i64 s2.st, .int .u64 (s2.seq : Nat)])).run Tryz.prog w = .ok (.bool true) w := fun w => run_neq_slot w s1 s2 true ⟨fun _ => hss, fun _ => rfl⟩
            have HSS := hid hss
            clear hss
            go_quiet (fail)
            go_wp2_with fail
            go_ret
            refine ⟨false, rfl, ⟨(fun e => by cases e), fun e => (HSS.out ?_).elim⟩, (HB.out.drewN nd).drewN nq⟩
            rw [← S1.out, ← S2.out, e]
        · obtain rfl : I = h1.slots.length := by omega
          go_wp2_with fail
          go_ret
          exact ⟨true, rfl, ⟨fun _ => head_ext SM.out HEQ.out, fun _ => rfl⟩, HB.out.drewN nd⟩
    · rw [decide_eq_false hsm]
      have NS := hid hsm
      clear hsm
      go_wp2_with fail
      go_ret
      exact ⟨false, rfl, ⟨(fun e => by cases e), fun e => (NS.out (by rw [e]; exact ⟨rfl, rfl, rfl, rfl, rfl, rfl⟩)).elim⟩, HB.out⟩
end Go.Proofs.YtoanopegoilcnaaGreat
