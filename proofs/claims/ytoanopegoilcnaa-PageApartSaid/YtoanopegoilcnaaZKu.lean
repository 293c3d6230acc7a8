/- Walks over firkinlaw05: PageApart. -/
import Derived.Test.YtoanopegoilcnaaZPrt
import Derived.Test.YtoanopegoilcnaaZKt
set_option linter.unusedVariables false
namespace Go.Proofs.Ytoanopegoilcnaa
open Go.RowKit Go.Mem Go.Pg Go.Sort

set_option maxRecDepth 100000 in
set_option maxHeartbeats 12800000 in
theorem pageApart_walk (a b c : Int) (v1 : Value) (hd1 : Head) (v2 : Value) (hd2 : Head) (u1 : Value) (rows1 : List (List Nat)) (u2 : Value) (rows2 : List (List Nat)) (w : World) (ha : (Lit.int .i64 a).wf = true) (hb : (Lit.int .i64 b).wf = true) (hc : (Lit.int .i64 c).wf = true)
    (hv1 : HdV w v1 hd1) (hw1 : hd1.Wf) (hv2 : HdV w v2 hd2) (hw2 : hd2.Wf) (hr1 : RB w u1 rows1) (hrx1 : ∀ r ∈ rows1, ∀ y ∈ r, y < 256) (hr2 : RB w u2 rows2) (hrx2 : ∀ r ∈ rows2, ∀ y ∈ r, y < 256) :
    Calls Try.prog 6 #[.agg #[.int .i64 a, .int .i64 b, .int .i64 c], v1, v2, u1, u2] w fun e w' => e = .returned (.bool true) ∧ Below w.heap.size w w' := by
  have HRB1 := hid hr1
  have HRX1 := hid hrx1
  have HRB2 := hid hr2
  have HRX2 := hid hrx2
  clear hr1 hrx1 hr2 hrx2
  obtain ⟨mw, mh, hL⟩ := small_lay (absN a) (absN b) (absN c)
  have hS12 : smA (absN a) 12 ≤ 12 := by unfold smA; omega
  have HSM := hid (fun w => small_any a b c w ha hb hc)
  generalize smA (absN a) 12 = S at *
  generalize smA (absN b) 3 = N at *
  generalize smA (absN c) 3 = T at *
  have HNEW := hid (new_any S N T mw mh · hL.pw hL.ph hL.s1 hL.s2 hL.n1 hL.n2)
  have hT8 := hL.t2
  have hT1 := hL.t1
  have hN1 := hL.n1
  have hN8 := hL.n2
  have hpg := pageB_le hL
  have hby : byB S N T mw mh ≤ 4096 := by rw [byB_page]; omega
  have hpg1 : 1 ≤ pageB S N T mw mh := by unfold pageB; omega
  have HL := hid hL
  obtain ⟨zv1, rfl, hsl1⟩ := hv1
  have HSL1 := hid hsl1
  have HWF1 := hid hw1
  clear hsl1 hw1
  obtain ⟨zv2, rfl, hsl2⟩ := hv2
  have HSL2 := hid hsl2
  have HWF2 := hid hw2
  clear hsl2 hw2
  clear hL ha hb hc
  go_enter Try.func6, Try.ntmps6
  go_wp2_with fail
  obtain ⟨W, hW⟩ : ∃ W, ((w.alloc (.cells #[.int .i64 a, .int .i64 b, .int .i64 c] 23)).alloc (.cells #[.int .i64 hd1.kind, .int .u32 (hd1.id : Nat), .int .i64 hd1.row, .int .i64 hd1.place, .int .i64 hd1.width, zv1] 39)).alloc (.cells #[.int .i64 hd2.kind, .int .u32 (hd2.id : Nat), .int .i64 hd2.row, .int .i64 hd2.place, .int .i64 hd2.width, zv2] 39) = W := ⟨_, rfl⟩
  have hlb : W.heap[w.heap.size]? = some (.cells #[.int .i64 a, .int .i64 b, .int .i64 c] 23 (0, 0)) := by rw [← hW]; exact (alloc_old (by simp; try omega)).trans ((alloc_old (by simp; try omega)).trans (alloc_new w _))
  have hhb1 : W.heap[w.heap.size + 1]? = some (.cells #[.int .i64 hd1.kind, .int .u32 (hd1.id : Nat), .int .i64 hd1.row, .int .i64 hd1.place, .int .i64 hd1.width, zv1] 39 (0, 0)) := by rw [← hW]; exact (alloc_old (by simp; try omega)).trans (alloc_at (by simp))
  have hhb2 : W.heap[w.heap.size + 1 + 1]? = some (.cells #[.int .i64 hd2.kind, .int .u32 (hd2.id : Nat), .int .i64 hd2.row, .int .i64 hd2.place, .int .i64 hd2.width, zv2] 39 (0, 0)) := by rw [← hW]; exact alloc_at (by simp)
  have hbW : Below w.heap.size w W := by rw [← hW]; exact bl_alloc (bl_alloc (bl_alloc (Below.refl _ _) _) _) _
  rw [hW]
  refine (awake_any _).mono ?_
  rintro e w1 ⟨rfl, hb1⟩
  obtain ⟨kb1, hhE1⟩ : ∃ b, w.heap.size + 1 = b := ⟨_, rfl⟩
  obtain ⟨kb2, hhE2⟩ : ∃ b, w.heap.size + 1 + 1 = b := ⟨_, rfl⟩
  obtain ⟨lb, hlE⟩ : ∃ b, w.heap.size = b := ⟨_, rfl⟩
  rw [hhE2] at hhb2 ⊢
  rw [hhE1] at hhb1 ⊢
  rw [hlE] at hlb ⊢
  have hlb1 := (hb1.block lb (lt_at hlb)).trans hlb
  have HHB11 := hid ((hb1.block kb1 (lt_at hhb1)).trans hhb1)
  have HHE1 := hid hhE1
  have hne1 : lb ≠ kb1 := by omega
  have HHB12 := hid ((hb1.block kb2 (lt_at hhb2)).trans hhb2)
  have HHE2 := hid hhE2
  have hne2 : lb ≠ kb2 := by omega
  have HB1 := hid (hbW.comp hb1)
  have HLE := hid hlE
  have q0 := cell_at hlb1 0
  have q1 := cell_at hlb1 1
  have q2 := cell_at hlb1 2
  have HLB1 := hid hlb1
  clear hW hbW hlb hb1 hlb1 hlE hhb1 hhE1 hhb2 hhE2
  go_wp2_with fail
  refine (HSM.out _).mono ?_
  rintro e w2 ⟨rfl, hb2⟩
  have hlb2 := (hb2.block lb (lt_at HLB1.out)).trans HLB1.out
  have HHB21 := hid ((hb2.block kb1 (lt_at HHB11.out)).trans HHB11.out)
  have HHB22 := hid ((hb2.block kb2 (lt_at HHB12.out)).trans HHB12.out)
  have p0 := cell_at hlb2 0
  have p1 := cell_at hlb2 1
  have p2 := cell_at hlb2 2
  have f0 := free_at hlb2 0
  have f1 := free_at hlb2 1
  have f2 := free_at hlb2 2
  have HLB2 := hid hlb2
  have HB2 := hid (HB1.out.comp hb2)
  clear hb2 hlb2 q0 q1 q2
  go_upto_region 5 with (fail)
  have hge : w.heap.size ≤ lb := Nat.le_of_eq HLE.out
  have s2 := set_at (set_at (set_at HLB2.out 0 (.int .i64 (S : Nat))) 1 (.int .i64 (N : Nat))) 2 (.int .i64 (T : Nat))
  have hb3 := bl_set (bl_set (bl_set HB2.out (p := ⟨lb, 0, none⟩) hge (.int .i64 (S : Nat))) (p := ⟨lb, 1, none⟩) hge (.int .i64 (N : Nat))) (p := ⟨lb, 2, none⟩) hge (.int .i64 (T : Nat))
  have hhb31 := (set_other (w := (w2.setCell ⟨lb, 0, none⟩ (.int .i64 (S : Nat))).setCell ⟨lb, 1, none⟩ (.int .i64 (N : Nat))) (a := ⟨lb, 2, none⟩) (v := .int .i64 (T : Nat)) hne1.symm).trans ((set_other (w := w2.setCell ⟨lb, 0, none⟩ (.int .i64 (S : Nat))) (a := ⟨lb, 1, none⟩) (v := .int .i64 (N : Nat)) hne1.symm).trans ((set_other (w := w2) (a := ⟨lb, 0, none⟩) (v := .int .i64 (S : Nat)) hne1.symm).trans HHB21.out))
  have hhb32 := (set_other (w := (w2.setCell ⟨lb, 0, none⟩ (.int .i64 (S : Nat))).setCell ⟨lb, 1, none⟩ (.int .i64 (N : Nat))) (a := ⟨lb, 2, none⟩) (v := .int .i64 (T : Nat)) hne2.symm).trans ((set_other (w := w2.setCell ⟨lb, 0, none⟩ (.int .i64 (S : Nat))) (a := ⟨lb, 1, none⟩) (v := .int .i64 (N : Nat)) hne2.symm).trans ((set_other (w := w2) (a := ⟨lb, 0, none⟩) (v := .int .i64 (S : Nat)) hne2.symm).trans HHB22.out))
  obtain ⟨W3, hW3⟩ : ∃ W3, ((w2.setCell ⟨lb, 0, none⟩ (.int .i64 (S : Nat))).setCell ⟨lb, 1, none⟩ (.int .i64 (N : Nat))).setCell ⟨lb, 2, none⟩ (.int .i64 (T : Nat)) = W3 := ⟨_, rfl⟩
  rw [hW3] at s2 hb3 ⊢
  rw [hW3] at hhb31
  have HHB31 := hid hhb31
  clear hhb31
  rw [hW3] at hhb32
  have HHB32 := hid hhb32
  clear hhb32
  have hlb3 : W3.heap[lb]? = some (.cells #[.int .i64 (S : Nat), .int .i64 (N : Nat), .int .i64 (T : Nat)] 23 (0, 0)) := s2
  have HLB3 := hid hlb3
  have HB3 := hid hb3
  have q0 := cell_at hlb3 0
  have q1 := cell_at hlb3 1
  have q2 := cell_at hlb3 2
  clear hW3 s2 hb3 hlb3 p0 p1 p2 f0 f1 f2
  go_wp2_with fail
  refine (HNEW.out _).mono ?_
  rintro e w4 ⟨hr, hb4⟩
  rw [if_pos hby] at hr
  obtain ⟨f, hf0, rfl, hf⟩ := hr
  have HF := hid hf
  have HLB4 := hid ((hb4.block lb (lt_at HLB3.out)).trans HLB3.out)
  have HHB41 := hid ((hb4.block kb1 (lt_at HHB31.out)).trans HHB31.out)
  have HHB42 := hid ((hb4.block kb2 (lt_at HHB32.out)).trans HHB32.out)
  have HB4 := hid (HB3.out.comp hb4)
  clear hf hb4 q0 q1 q2
  have hl4 := HLB4.out
  have hh4 := HHB41.out
  have q0 := cell_at hl4 0
  have q1 := cell_at hl4 1
  have q2 := cell_at hl4 2
  have g0 := cell_at hh4 0
  have g1 := cell_at hh4 1
  have g2 := cell_at hh4 2
  have g3 := cell_at hh4 3
  have g4 := cell_at hh4 4
  have g5 := cell_at hh4 5
  clear hl4 hh4
  go_wp2_with fail
  refine (right_any S N T hd1 _ _ rows1 _ HL.out.s2 hN8 ⟨_, rfl, HSL1.out.below HB4.out⟩ HWF1.out (HRB1.out.below HB4.out) HRX1.out).mono ?_
  rintro e wr1 ⟨⟨yv1, rv1, rfl, hsl, hrb⟩, hbr⟩
  obtain ⟨ya1, yn1, yc1, hyv⟩ : ∃ a n c, yv1 = .slice a n c := by obtain ⟨a, c, e, _⟩ := hsl; exact ⟨_, _, _, e⟩
  subst hyv
  obtain ⟨X1, hX1⟩ : ∃ X, rtH N hd1 = X := ⟨_, rfl⟩
  obtain ⟨R1, hR1⟩ : ∃ R, rtS S N rows1 = R := ⟨_, rfl⟩
  rw [hX1] at hsl ⊢
  rw [hR1] at hrb
  have XW1 : Hid X1.Wf := hid (by rw [← hX1]; exact rtH_wf HWF1.out hN8)
  have XF1 : Hid X1.Fit := hid (by rw [← hX1]; exact rtH_fit HWF1.out hN8)
  have XC1 : Hid (CanB S N X1 R1) := hid (by rw [← hX1, ← hR1]; exact rtS_can S N hd1 rows1)
  have XL1 : Hid (∀ x ∈ R1, ∀ y ∈ x, y < 256) := hid (by rw [← hR1]; exact rtS_lt HRX1.out)
  have XSL := hid hsl
  have XRB := hid hrb
  have BR := hid hbr
  have HXE1 := hid hX1
  have HRE1 := hid hR1
  clear hsl hrb hbr hX1 hR1 q0 q1 q2 g0 g1 g2 g3 g4 g5
  go_upto_region 9 with (fail)
  obtain ⟨bx1, hbxE⟩ : ∃ b, wr1.heap.size = b := ⟨_, rfl⟩
  obtain ⟨W5, hWx⟩ : ∃ V, wr1.alloc (.cells #[.int .i64 X1.kind, .int .u32 (X1.id : Nat), .int .i64 X1.row, .int .i64 X1.place, .int .i64 X1.width, .slice ya1 yn1 yc1] 39) = V := ⟨_, rfl⟩
  have hbx : Below wr1.heap.size wr1 W5 := by rw [← hWx]; exact (Below.refl _ _).alloc (Nat.le_refl _) _
  have hxb : W5.heap[bx1]? = some (.cells #[.int .i64 X1.kind, .int .u32 (X1.id : Nat), .int .i64 X1.row, .int .i64 X1.place, .int .i64 X1.width, .slice ya1 yn1 yc1] 39 (0, 0)) := by rw [← hWx]; exact alloc_at hbxE.symm
  rw [hWx, hbxE]
  have hbx4 := BR.out.comp hbx
  have HXB51 := hid hxb
  have HYS51 := hid (XSL.out.below hbx)
  have HYR51 := hid (XRB.out.below hbx)
  have HB5 := hid (HB4.out.comp hbx4)
  have HLB5 := hid ((hbx4.block lb (lt_at HLB4.out)).trans HLB4.out)
  have HHB52 := hid ((hbx4.block kb2 (lt_at HHB42.out)).trans HHB42.out)
  have BX5 := hid hbx4
  clear hbx4 hbx hxb hWx hbxE XSL XRB BR
  have HF5 := hid (HF.out.below BX5.out)
  have hl4 := HLB5.out
  have hh4 := HHB52.out
  have q0 := cell_at hl4 0
  have q1 := cell_at hl4 1
  have q2 := cell_at hl4 2
  have g0 := cell_at hh4 0
  have g1 := cell_at hh4 1
  have g2 := cell_at hh4 2
  have g3 := cell_at hh4 3
  have g4 := cell_at hh4 4
  have g5 := cell_at hh4 5
  clear hl4 hh4
  go_wp2_with fail
  refine (right_any S N T hd2 _ _ rows2 _ HL.out.s2 hN8 ⟨_, rfl, HSL2.out.below HB5.out⟩ HWF2.out (HRB2.out.below HB5.out) HRX2.out).mono ?_
  rintro e wr2 ⟨⟨yv2, rv2, rfl, hsl, hrb⟩, hbr⟩
  obtain ⟨ya2, yn2, yc2, hyv⟩ : ∃ a n c, yv2 = .slice a n c := by obtain ⟨a, c, e, _⟩ := hsl; exact ⟨_, _, _, e⟩
  subst hyv
  obtain ⟨X2, hX2⟩ : ∃ X, rtH N hd2 = X := ⟨_, rfl⟩
  obtain ⟨R2, hR2⟩ : ∃ R, rtS S N rows2 = R := ⟨_, rfl⟩
  rw [hX2] at hsl ⊢
  rw [hR2] at hrb
  have XW2 : Hid X2.Wf := hid (by rw [← hX2]; exact rtH_wf HWF2.out hN8)
  have XF2 : Hid X2.Fit := hid (by rw [← hX2]; exact rtH_fit HWF2.out hN8)
  have XC2 : Hid (CanB S N X2 R2) := hid (by rw [← hX2, ← hR2]; exact rtS_can S N hd2 rows2)
  have XL2 : Hid (∀ x ∈ R2, ∀ y ∈ x, y < 256) := hid (by rw [← hR2]; exact rtS_lt HRX2.out)
  have XSL := hid hsl
  have XRB := hid hrb
  have BR := hid hbr
  have HXE2 := hid hX2
  have HRE2 := hid hR2
  clear hsl hrb hbr hX2 hR2 q0 q1 q2 g0 g1 g2 g3 g4 g5
  go_upto_region 10 with (fail)
  obtain ⟨bx2, hbxE⟩ : ∃ b, wr2.heap.size = b := ⟨_, rfl⟩
  obtain ⟨W6, hWx⟩ : ∃ V, wr2.alloc (.cells #[.int .i64 X2.kind, .int .u32 (X2.id : Nat), .int .i64 X2.row, .int .i64 X2.place, .int .i64 X2.width, .slice ya2 yn2 yc2] 39) = V := ⟨_, rfl⟩
  have hbx : Below wr2.heap.size wr2 W6 := by rw [← hWx]; exact (Below.refl _ _).alloc (Nat.le_refl _) _
  have hxb : W6.heap[bx2]? = some (.cells #[.int .i64 X2.kind, .int .u32 (X2.id : Nat), .int .i64 X2.row, .int .i64 X2.place, .int .i64 X2.width, .slice ya2 yn2 yc2] 39 (0, 0)) := by rw [← hWx]; exact alloc_at hbxE.symm
  rw [hWx, hbxE]
  have hbx4 := BR.out.comp hbx
  have HXB62 := hid hxb
  have HYS62 := hid (XSL.out.below hbx)
  have HYR62 := hid (XRB.out.below hbx)
  have HB6 := hid (HB5.out.comp hbx4)
  have HLB6 := hid ((hbx4.block lb (lt_at HLB5.out)).trans HLB5.out)
  have HXB61 := hid ((hbx4.block bx1 (lt_at HXB51.out)).trans HXB51.out)
  have BX6 := hid hbx4
  clear hbx4 hbx hxb hWx hbxE XSL XRB BR
  have HYS61 := hid (HYS51.out.below BX6.out)
  have HYR61 := hid (HYR51.out.below BX6.out)
  have HF6 := hid (HF5.out.below BX6.out)
  have x0 := cell_at HXB61.out 0
  have x1 := cell_at HXB61.out 1
  have x2 := cell_at HXB61.out 2
  have x3 := cell_at HXB61.out 3
  have x4 := cell_at HXB61.out 4
  have x5 := cell_at HXB61.out 5
  go_wp2_with fail
  refine (pack_any f S N T mw mh _ _ X1 R1 W6 HL.out HF6.out ⟨_, rfl, HYS61.out⟩ XW1.out HYR61.out XL1.out XC1.out).mono ?_
  rintro e W7 ⟨⟨pv1, rfl, hown⟩, hbp⟩
  have HRP71 := hid hown.rd
  have HXB71 := hid ((hbp.block bx1 (lt_at HXB61.out)).trans HXB61.out)
  have HYS71 := hid (HYS61.out.below hbp)
  have HYR71 := hid (HYR61.out.below hbp)
  have HXB72 := hid ((hbp.block bx2 (lt_at HXB62.out)).trans HXB62.out)
  have HYS72 := hid (HYS62.out.below hbp)
  have HYR72 := hid (HYR62.out.below hbp)
  have HLB7 := hid ((hbp.block lb (lt_at HLB6.out)).trans HLB6.out)
  have HF7 := hid (HF6.out.below hbp)
  have HB7 := hid (HB6.out.comp hbp)
  clear hown hbp x0 x1 x2 x3 x4 x5
  have x0 := cell_at HXB72.out 0
  have x1 := cell_at HXB72.out 1
  have x2 := cell_at HXB72.out 2
  have x3 := cell_at HXB72.out 3
  have x4 := cell_at HXB72.out 4
  have x5 := cell_at HXB72.out 5
  go_wp2_with fail
  refine (pack_any f S N T mw mh _ _ X2 R2 W7 HL.out HF7.out ⟨_, rfl, HYS72.out⟩ XW2.out HYR72.out XL2.out XC2.out).mono ?_
  rintro e W8 ⟨⟨pv2, rfl, hown⟩, hbp⟩
  have HRP82 := hid hown.rd
  have HXB81 := hid ((hbp.block bx1 (lt_at HXB71.out)).trans HXB71.out)
  have HYS81 := hid (HYS71.out.below hbp)
  have HYR81 := hid (HYR71.out.below hbp)
  have HXB82 := hid ((hbp.block bx2 (lt_at HXB72.out)).trans HXB72.out)
  have HYS82 := hid (HYS72.out.below hbp)
  have HYR82 := hid (HYR72.out.below hbp)
  have HLB8 := hid ((hbp.block lb (lt_at HLB7.out)).trans HLB7.out)
  have HF8 := hid (HF7.out.below hbp)
  have HB8 := hid (HB7.out.comp hbp)
  have HRP81 := hid (HRP71.out.below hbp)
  clear hown hbp x0 x1 x2 x3 x4 x5
  have y0 := cell_at HXB81.out 0
  have y1 := cell_at HXB81.out 1
  have y2 := cell_at HXB81.out 2
  have y3 := cell_at HXB81.out 3
  have y4 := cell_at HXB81.out 4
  have y5 := cell_at HXB81.out 5
  have z0 := cell_at HXB82.out 0
  have z1 := cell_at HXB82.out 1
  have z2 := cell_at HXB82.out 2
  have z3 := cell_at HXB82.out 3
  have z4 := cell_at HXB82.out 4
  have z5 := cell_at HXB82.out 5
  go_wp2_with fail
  refine (sameHead_any _ _ X1 X2 W8 ⟨_, rfl, HYS81.out⟩ ⟨_, rfl, HYS82.out⟩ XW1.out XW2.out).mono ?_
  rintro e W9 ⟨sm, rfl, hsm, hb9⟩
  have HSM9 := hid hsm
  have HRP91 := hid (HRP81.out.below hb9)
  have HRP92 := hid (HRP82.out.below hb9)
  have HYR91 := hid (HYR81.out.below hb9)
  have HYR92 := hid (HYR82.out.below hb9)
  have HLB9 := hid ((hb9.block lb (lt_at HLB8.out)).trans HLB8.out)
  have HB9 := hid (HB8.out.comp hb9)
  clear hsm hb9 y0 y1 y2 y3 y4 y5 z0 z1 z2 z3 z4 z5
  go_wp2_with fail
  have HRL1 : Hid (R1.length = N ∧ ∀ x ∈ R1, x.length = S) := hid ⟨XC1.out.2.1, by rw [← HRE1.out]; intro x hx; obtain ⟨i, _, rfl⟩ := List.mem_map.1 hx; simp [rtRow]⟩
  have HRL2 : Hid (R2.length = N ∧ ∀ x ∈ R2, x.length = S) := hid ⟨XC2.out.2.1, by rw [← HRE2.out]; intro x hx; obtain ⟨i, _, rfl⟩ := List.mem_map.1 hx; simp [rtRow]⟩
  have hg : ∀ (R : List (List Nat)), R.length = N → (∀ x ∈ R, ∀ y ∈ x, y < 256) → ∀ i, i < N → ∀ y ∈ R.getD i [], y < 256 := fun R hl h i hi => by
    have hm : R.getD i [] ∈ R := by rw [List.getD_eq_getElem?_getD, List.getElem?_eq_getElem (by omega)]; exact List.getElem_mem _
    exact h _ hm
  have HG1 := hid (hg R1 HRL1.out.1 XL1.out)
  have HG2 := hid (hg R2 HRL2.out.1 XL2.out)
  clear hg
  go_loopg [22, 23] N (fun gk sv' v wr => ∃ I : Nat, I + gk = N ∧ v = .int .i64 I ∧ sv' = .bool (sameI sm R1 R2 I) ∧ Below W9.heap.size W9 wr)
  case atStart => exact ⟨0, by omega, rfl, by rw [sameI_zero], Below.refl _ _⟩
  case round =>
    obtain ⟨I, hI, rfl, rfl, hbr⟩ := hrel
    have HBR := hid hbr
    have hlbr := (hbr.block lb (lt_at HLB9.out)).trans HLB9.out
    have q1 := cell_at hlbr 1
    clear hbr hlbr
    by_cases hlt : I < N
    · have i1 : (I : Int) < (N : Int) := by omega
      cases hsI : sameI sm R1 R2 I with
      | false =>
        have HSI := hid (sameI_stay hsI)
        clear hsI
        go_wp2_with fail
        go_quiet (fail)
        go_wp2_with fail
        go_roundg (gk - 1)
        case measure => omega
        case rel => exact ⟨I + 1, by omega, by go_num, by rw [HSI.out], HBR.out.drewN nq⟩
      | true =>
        obtain ⟨ra1, rc1, hrv1, t1, t2, t3⟩ := HYR91.out.below HBR.out
        obtain ⟨ra2, rc2, hrv2, t4, t5, t6⟩ := HYR92.out.below HBR.out
        obtain ⟨g1, o1, p1, rfl, c1, r1⟩ := t3 I (by rw [HRL1.out.1]; exact hlt)
        obtain ⟨g2, o2, p2, rfl, c2, r2⟩ := t6 I (by rw [HRL2.out.1]; exact hlt)
        rw [HRL1.out.1] at t1 hrv1
        rw [HRL2.out.1] at t4 hrv2
        subst hrv1 hrv2
        have t1' : (N : Int) ≤ (rc1 : Int) := by omega
        have t2' : (rc1 : Int) ≤ 9223372036854775807 := by unfold maxLen at t2; omega
        have t4' : (N : Int) ≤ (rc2 : Int) := by omega
        have t5' : (rc2 : Int) ≤ 9223372036854775807 := by unfold maxLen at t5; omega
        have k1 : ∀ n, (convert 31 9 p1).run Try.prog (wr.drewN n) = .ok (.string (sv (R1.getD I []))) (wr.drewN n) := fun n => conv_rd (r1.drewN n)
        have k2 : ∀ n, (convert 31 9 p2).run Try.prog (wr.drewN n) = .ok (.string (sv (R2.getD I []))) (wr.drewN n) := fun n => conv_rd (r2.drewN n)
        obtain ⟨pa1, pc1, e1, _⟩ := r1
        obtain ⟨pa2, pc2, e2, _⟩ := r2
        subst e1 e2
        obtain ⟨n1, hn1⟩ : ∃ n, (R1.getD I []).length = n := ⟨_, rfl⟩
        obtain ⟨n2, hn2⟩ : ∃ n, (R2.getD I []).length = n := ⟨_, rfl⟩
        rw [hn1] at k1 c1
        rw [hn2] at k2 c2
        clear hn1 hn2
        by_cases heq : R1.getD I [] = R2.getD I []
        · have HSI := hid (sameI_yes hsI heq)
          rw [heq] at k1
          generalize sv (R2.getD I []) = str at *
          clear hsI t1 t2 t3 t4 t5 t6 heq
          go_wp2_with fail
          go_quiet (fail)
          go_wp2_with fail
          go_roundg (gk - 1)
          case measure => omega
          case rel => exact ⟨I + 1, by omega, by go_num, by rw [HSI.out], HBR.out.drewN nq⟩
        · have HSI := hid (sameI_no (sm := sm) heq)
          obtain ⟨s1, s2⟩ := sv_ne (HG1.out I hlt) (HG2.out I hlt) heq
          generalize sv (R1.getD I []) = st1 at *
          generalize sv (R2.getD I []) = st2 at *
          clear hsI t1 t2 t3 t4 t5 t6 heq
          go_wp2_with fail
          go_quiet (fail)
          go_wp2_with fail
          go_roundg (gk - 1)
          case measure => omega
          case rel => exact ⟨I + 1, by omega, by go_num, by rw [HSI.out], HBR.out.drewN nq⟩
    · obtain rfl : I = N := by omega
      have hps := pack_same (mw := mw) (mh := mh) (T := T) HL.out.s1 XC1.out XC2.out XF1.out XF2.out XL1.out XL2.out HRL1.out.2 HRL2.out.2 sm HSM9.out
      have k1 := conv_rd (HRP91.out.below HBR.out)
      have k2 := conv_rd (HRP92.out.below HBR.out)
      have hp1 := packB_lt (T := T) (mw := mw) (mh := mh) XC1.out XL1.out
      have hp2 := packB_lt (T := T) (mw := mw) (mh := mh) XC2.out XL2.out
      cases hsI : sameI sm R1 R2 I with
      | true =>
        have he := hps.1 hsI
        rw [he] at k1
        generalize sv (packB S I T mw mh X2 R2) = str at *
        have HBF := hid (HB9.out.comp HBR.out)
        clear hps he hp1 hp2 hsI
        go_wp2_with fail
        go_ret
        exact ⟨by simp, HBF.out⟩
      | false =>
        have he : packB S I T mw mh X1 R1 ≠ packB S I T mw mh X2 R2 := fun e => by rw [hps.2 e] at hsI; cases hsI
        obtain ⟨s1, s2⟩ := sv_ne hp1 hp2 he
        generalize sv (packB S I T mw mh X1 R1) = st1 at *
        generalize sv (packB S I T mw mh X2 R2) = st2 at *
        have HBF := hid (HB9.out.comp HBR.out)
        clear hps he hp1 hp2 hsI
        go_wp2_with fail
        go_ret
        exact ⟨by simp, HBF.out⟩
end Go.Proofs.Ytoanopegoilcnaa
