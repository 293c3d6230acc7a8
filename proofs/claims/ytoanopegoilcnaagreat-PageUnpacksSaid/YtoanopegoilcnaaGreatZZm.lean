/- Walks over firkinref05: may a head be? -/
import Derived.Test.YtoanopegoilcnaaGreatZZb
set_option linter.unusedVariables false
namespace Go.Proofs.YtoanopegoilcnaaGreat
open Go.RowKit Go.Mem Go.Pg

set_option maxRecDepth 100000 in
set_option maxHeartbeats 3200000 in
theorem r5may_any (S N T mw mh : Nat) (v5 v : Value) (h : Head) (w : World) (h5 : F5 w v5 S N T mw mh) (hv : HdV w v h) (hw : h.Wf) (hN : N ≤ 8) :
    Calls Tryz.prog 25 #[v5, v] w fun e w' => e = .returned (.bool (decide (h.May N))) ∧ Below w.heap.size w w' := by
  obtain ⟨ga, gl, gc, ha, hl, hc, rfl, _, _⟩ := h5.parts
  obtain ⟨zv, rfl, hsl⟩ := hv
  obtain ⟨za, zcap, rfl, z1, z2, z3⟩ := hsl
  have Z3 := hid z3
  have HW := hid hw
  obtain ⟨n, hn⟩ : ∃ n, h.slots.length = n := ⟨_, rfl⟩
  rw [hn] at z1 ⊢
  have HN := hid hn
  have hz1 : (n : Int) ≤ (zcap : Int) := by omega
  have hz2 : (zcap : Int) ≤ 9223372036854775807 := by unfold maxLen at z2; omega
  clear h5 z1 z2 z3 hw hn
  go_enter Tryz.func25, Tryz.ntmps25
  go_upto_region 1 with (fail)
  obtain ⟨W, hW⟩ : ∃ W, (w.alloc (.cells #[.int .i64 S, .int .i64 N, .int .i64 T, .int .i64 mw, .int .i64 ((S : Int) + 4), .int .i64 T, .slice ga gl gc, .int .i64 mh, .int .i64 (13 + 11 * (N : Int)), .int .i64 T, .slice ha hl hc] 35)).alloc (.cells #[.int .i64 h.kind, .int .u32 (h.id : Nat), .int .i64 h.row, .int .i64 h.place, .int .i64 h.width, .slice za n zcap] 27) = W := ⟨_, rfl⟩
  have hfx : W.heap[w.heap.size]? = some (.cells #[.int .i64 S, .int .i64 N, .int .i64 T, .int .i64 mw, .int .i64 ((S : Int) + 4), .int .i64 T, .slice ga gl gc, .int .i64 mh, .int .i64 (13 + 11 * (N : Int)), .int .i64 T, .slice ha hl hc] 35 (0, 0)) := by rw [← hW]; exact (alloc_old (by simp)).trans (alloc_new w _)
  have hbx : W.heap[w.heap.size + 1]? = some (.cells #[.int .i64 h.kind, .int .u32 (h.id : Nat), .int .i64 h.row, .int .i64 h.place, .int .i64 h.width, .slice za n zcap] 27 (0, 0)) := by rw [← hW]; exact alloc_at (by simp)
  have hbW : Below w.heap.size w W := by rw [← hW]; exact bl_alloc (bl_alloc (Below.refl _ _) _) _
  rw [hW]
  obtain ⟨b, hbE⟩ : ∃ b, w.heap.size + 1 = b := ⟨_, rfl⟩
  rw [hbE] at hbx ⊢
  obtain ⟨fb, hfE⟩ : ∃ b, w.heap.size = b := ⟨_, rfl⟩
  rw [hfE] at hfx ⊢
  have q0 := cell_at hbx 0
  have q2 := cell_at hbx 2
  have q3 := cell_at hbx 3
  have q4 := cell_at hbx 4
  have q5 := cell_at hbx 5
  have c1 := cell_at hfx 1
  have HBX := hid hbx
  have HBW := hid hbW
  clear hW hfx hbx hbW hbE hfE
  have hno : ∀ {P : Prop} [Decidable P] {b : Bool}, ¬ P → b = false → Ending.returned (Value.bool b) = Ending.returned (Value.bool (decide P)) := fun hp hb => by rw [hb, decide_eq_false hp]
  have HNO := hid (show ∀ b : Bool, ¬ h.May N → b = false → Ending.returned (Value.bool b) = Ending.returned (Value.bool (decide (h.May N))) from fun b hp hb => hno hp hb)
  clear hno
  by_cases t1 : h.kind < 1
  · have M := hid (show ¬ h.May N from fun hm => by have := hm.1.1; omega)
    go_wp2_with fail
    go_ret
    exact ⟨HNO.out _ M.out rfl, HBW.out⟩
  by_cases t2 : 3 < h.kind
  · have M := hid (show ¬ h.May N from fun hm => by have := hm.1.2.1; omega)
    go_wp2_with fail
    go_ret
    exact ⟨HNO.out _ M.out rfl, HBW.out⟩
  by_cases t3 : h.row < 0
  · have M := hid (show ¬ h.May N from fun hm => by have := hm.1.2.2.1; omega)
    go_wp2_with fail
    go_ret
    exact ⟨HNO.out _ M.out rfl, HBW.out⟩
  by_cases t4 : 65535 < h.row
  · have M := hid (show ¬ h.May N from fun hm => by have := hm.1.2.2.2.1; omega)
    go_wp2_with fail
    go_ret
    exact ⟨HNO.out _ M.out rfl, HBW.out⟩
  by_cases t5 : h.place < 0
  · have M := hid (show ¬ h.May N from fun hm => by have := hm.1.2.2.2.2.1; omega)
    go_wp2_with fail
    go_ret
    exact ⟨HNO.out _ M.out rfl, HBW.out⟩
  by_cases t6 : 255 < h.place
  · have M := hid (show ¬ h.May N from fun hm => by have := hm.1.2.2.2.2.2.1; omega)
    go_wp2_with fail
    go_ret
    exact ⟨HNO.out _ M.out rfl, HBW.out⟩
  by_cases t7 : h.width < 0
  · have M := hid (show ¬ h.May N from fun hm => by have := hm.1.2.2.2.2.2.2.1; omega)
    go_wp2_with fail
    go_ret
    exact ⟨HNO.out _ M.out rfl, HBW.out⟩
  by_cases t8 : 255 < h.width
  · have M := hid (show ¬ h.May N from fun hm => by have := hm.1.2.2.2.2.2.2.2.1; omega)
    go_wp2_with fail
    go_ret
    exact ⟨HNO.out _ M.out rfl, HBW.out⟩
  have t1' : 1 ≤ h.kind := by omega
  have t2' : h.kind ≤ 3 := by omega
  have t3' : 0 ≤ h.row := by omega
  have t4' : h.row ≤ 65535 := by omega
  have t5' : 0 ≤ h.place := by omega
  have t6' : h.place ≤ 255 := by omega
  have t7' : 0 ≤ h.width := by omega
  have t8' : h.width ≤ 255 := by omega
  by_cases t9 : n = N
  · have e9 : ((n : Int) != (N : Int)) = false := by rw [t9]; exact bne_self_eq_false _
    have HA : Hid (∀ (_ : ∀ s ∈ h.slots, s.Ok), h.May N) := hid fun hs => ⟨⟨t1', t2', t3', by omega, t5', by omega, t7', by omega, HN.out.trans t9⟩, hs⟩
    clear t9
    go_wp2_with fail
    go_loopg [5] n (fun gk i wr => ∃ I : Nat, I + gk = n ∧ i = .int .i64 I ∧ (∀ j, j < I → (h.slots.getD j Slot.zero).Ok) ∧ Below W.heap.size W wr)
    case atStart => exact ⟨0, by omega, rfl, fun j hj => by omega, Below.refl _ _⟩
    case round =>
      obtain ⟨I, hI, rfl, hok, hb⟩ := hrel
      have HOK := hid hok
      have HB := hid hb
      have q5 := cell_at ((hb.block b (lt_at HBX.out)).trans HBX.out) 5
      clear hok hb
      by_cases hlt : I < n
      · obtain ⟨sg, so, rfl, su0, su1, su2⟩ := Z3.out I (by rw [HN.out]; exact hlt)
        obtain ⟨s, hs⟩ : ∃ s, h.slots.getD I Slot.zero = s := ⟨_, rfl⟩
        have hsm : s ∈ h.slots := by rw [← hs]; exact getD_slot (by rw [HN.out]; exact hlt)
        rw [hs] at su0 su1 su2
        have hBt := HBW.out.comp HB.out
        have c0 := (hBt.cell (World.block_lt_of_cell? _ _ su0)).trans su0
        have c1 := (hBt.cell (World.block_lt_of_cell? _ _ su1)).trans su1
        have c2 := (hBt.cell (World.block_lt_of_cell? _ _ su2)).trans su2
        have hIn : (I : Int) < (n : Int) := by omega
        have HS := hid hs
        have HSM := hid hsm
        have HBT := hid hBt
        clear su0 su1 su2 hs hBt hsm t1 t2 t3 t4 t5 t6 t7 t8 t1' t2' t3' t4' t5' t6' t7' t8' e9
        go_upto_region 7 with (fail)
        obtain ⟨wb, hwb⟩ : ∃ V, wr.alloc (.cells #[.int .u32 (s.key : Nat), .int .i64 s.st, .int .u64 (s.seq : Nat)] 61) = V := ⟨_, rfl⟩
        have hsb : wb.heap[wr.heap.size]? = some (.cells #[.int .u32 (s.key : Nat), .int .i64 s.st, .int .u64 (s.seq : Nat)] 61 (0, 0)) := by rw [← hwb]; exact alloc_new wr _
        have hbb : Below wr.heap.size wr wb := by rw [← hwb]; exact (Below.refl _ _).alloc (Nat.le_refl _) _
        rw [hwb]
        have p1 := cell_at hsb 1
        have p2 := cell_at hsb 2
        have HBB := hid (HB.out.comp hbb)
        clear hwb hsb hbb c0 c1 c2 q5
        by_cases u1 : s.st < 0
        · have M := hid (show ¬ h.May N from fun hm => by have := (hm.2 s HSM.out).1; omega)
          go_wp2_with fail
          go_ret
          exact ⟨HNO.out _ M.out rfl, HBW.out.comp HBB.out⟩
        by_cases u2 : 3 < s.st
        · have M := hid (show ¬ h.May N from fun hm => by have := (hm.2 s HSM.out).2.1; omega)
          go_wp2_with fail
          go_ret
          exact ⟨HNO.out _ M.out rfl, HBW.out.comp HBB.out⟩
        have u1' : 0 ≤ s.st := by omega
        have u2' : s.st ≤ 3 := by omega
        by_cases u3 : s.seq < 281474976710656
        · have e3 : ((s.seq : Int) / 281474976710656 != 0) = false := by rw [bne_eq_false_iff_eq]; omega
          have SO := hid (show s.Ok from ⟨u1', u2', u3⟩)
          clear u3
          go_wp2_with fail
          go_roundg (gk - 1)
          case measure => omega
          case rel =>
            refine ⟨I + 1, by omega, by go_num, fun j hj => ?_, HBB.out⟩
            by_cases hj2 : j < I
            · exact HOK.out j hj2
            · obtain rfl : j = I := by omega
              rw [HS.out]; exact SO.out
        · have e3 : ((s.seq : Int) / 281474976710656 != 0) = true := bne_iff_ne.2 (by omega)
          have M := hid (show ¬ h.May N from fun hm => u3 (hm.2 s HSM.out).2.2)
          clear u3
          go_wp2_with fail
          go_ret
          exact ⟨HNO.out _ M.out rfl, HBW.out.comp HBB.out⟩
      · obtain rfl : I = n := by omega
        have M := hid (HA.out fun s hs => by
          obtain ⟨j, hj, rfl⟩ := List.getElem_of_mem hs
          have := HOK.out j (by rw [← HN.out]; exact hj)
          rwa [List.getD_eq_getElem?_getD, List.getElem?_eq_getElem hj] at this)
        go_wp2_with fail
        go_ret
        refine ⟨?_, HBW.out.comp HB.out⟩
        rw [decide_eq_true M.out]; rfl
  · have e9 : ((n : Int) != (N : Int)) = true := bne_iff_ne.2 (by omega)
    have M := hid (show ¬ h.May N from fun hm => t9 (HN.out.symm.trans hm.1.2.2.2.2.2.2.2.2))
    clear t9
    go_wp2_with fail
    go_ret
    exact ⟨HNO.out _ M.out rfl, HBW.out⟩
end Go.Proofs.YtoanopegoilcnaaGreat
