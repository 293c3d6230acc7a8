/- Walks over firkinlaw05: PageMends. -/
import Derived.Test.YtoanopegoilcnaaZPme
import Derived.Test.YtoanopegoilcnaaZKt
import Derived.Test.YtoanopegoilcnaaJi
import Derived.Lib.QuietBelow
set_option linter.unusedVariables false
namespace Go.Proofs.Ytoanopegoilcnaa
open Go.RowKit Go.Mem Go.Pg Go.Sort

set_option maxRecDepth 100000 in
set_option maxHeartbeats 12800000 in
theorem pageMends_walk (a b c : Int) (v1 : Value) (hd1 : Head) (v2 : Value) (rows1 : List (List Nat)) (za : Option Addr) (zn zc : Nat) (zs : List Int) (w : World) (ha : (Lit.int .i64 a).wf = true) (hb : (Lit.int .i64 b).wf = true) (hc : (Lit.int .i64 c).wf = true)
    (hv1 : HdV w v1 hd1) (hw1 : hd1.Wf) (hr1 : RB w v2 rows1) (hrx1 : ∀ r ∈ rows1, ∀ y ∈ r, y < 256)
    (hz : RdI .i64 w (.slice za zn zc) zs) (hzl : zs.length = zn) (hzw : ∀ y ∈ zs, (Lit.int .i64 y).wf = true) :
    Calls Try.prog 4 #[.agg #[.int .i64 a, .int .i64 b, .int .i64 c], v1, v2, .slice za zn zc] w fun e w' => e = .returned (.bool true) ∧ Below w.heap.size w w' := by
  have HZ := hid hz
  have HZW := hid hzw
  have hcz : zn ≤ zc ∧ zc ≤ maxLen := by obtain ⟨a', c', he, h1, h2, _⟩ := hz; cases he; exact ⟨by omega, h2⟩
  have hcz1 : (zn : Int) ≤ (zc : Int) := by omega
  have hcz2 : (zc : Int) ≤ 9223372036854775807 := by have := hcz.2; unfold maxLen at this; omega
  have HZL := hid hzl
  have HRB1 := hid hr1
  have HRX1 := hid hrx1
  clear hz hzw hcz hzl hr1 hrx1
  obtain ⟨mw, mh, hL⟩ := small_lay (absN a) (absN b) (absN c)
  have hS12 : smA (absN a) 12 ≤ 12 := by unfold smA; omega
  have hN3 : smA (absN b) 3 ≤ 3 := by unfold smA; omega
  have hT3 : smA (absN c) 3 ≤ 3 := by unfold smA; omega
  have HSM := hid (fun w => small_any a b c w ha hb hc)
  generalize smA (absN a) 12 = S at *
  generalize smA (absN b) 3 = N at *
  generalize smA (absN c) 3 = T at *
  have HNEW := hid (new_any S N T mw mh · hL.pw hL.ph hL.s1 hL.s2 hL.n1 hL.n2)
  have hT8 := hL.t2
  have hT1 := hL.t1
  have hN1 := hL.n1
  have hN8 := hL.n2
  have hpg := pageB_le hL
  have hby : byB S N T mw mh ≤ 4096 := by rw [byB_page]; omega
  have hpg1 : 1 ≤ pageB S N T mw mh := by unfold pageB; omega
  have HL := hid hL
  obtain ⟨zv1, rfl, hsl1⟩ := hv1
  have HSL1 := hid hsl1
  have HWF1 := hid hw1
  clear hsl1 hw1
  clear hL ha hb hc
  go_enter Try.func4, Try.ntmps4
  go_wp2_with fail
  obtain ⟨W, hW⟩ : ∃ W, (w.alloc (.cells #[.int .i64 a, .int .i64 b, .int .i64 c] 23)).alloc (.cells #[.int .i64 hd1.kind, .int .u32 (hd1.id : Nat), .int .i64 hd1.row, .int .i64 hd1.place, .int .i64 hd1.width, zv1] 39) = W := ⟨_, rfl⟩
  have hlb : W.heap[w.heap.size]? = some (.cells #[.int .i64 a, .int .i64 b, .int .i64 c] 23 (0, 0)) := by rw [← hW]; exact (alloc_old (by simp; try omega)).trans (alloc_new w _)
  have hhb1 : W.heap[w.heap.size + 1]? = some (.cells #[.int .i64 hd1.kind, .int .u32 (hd1.id : Nat), .int .i64 hd1.row, .int .i64 hd1.place, .int .i64 hd1.width, zv1] 39 (0, 0)) := by rw [← hW]; exact alloc_at (by simp)
  have hbW : Below w.heap.size w W := by rw [← hW]; exact bl_alloc (bl_alloc (Below.refl _ _) _) _
  rw [hW]
  refine (awake_any _).mono ?_
  rintro e w1 ⟨rfl, hb1⟩
  obtain ⟨kb1, hhE1⟩ : ∃ b, w.heap.size + 1 = b := ⟨_, rfl⟩
  obtain ⟨lb, hlE⟩ : ∃ b, w.heap.size = b := ⟨_, rfl⟩
  rw [hhE1] at hhb1 ⊢
  rw [hlE] at hlb ⊢
  have hlb1 := (hb1.block lb (lt_at hlb)).trans hlb
  have HHB11 := hid ((hb1.block kb1 (lt_at hhb1)).trans hhb1)
  have HHE1 := hid hhE1
  have hne1 : lb ≠ kb1 := by omega
  have HB1 := hid (hbW.comp hb1)
  have HLE := hid hlE
  have q0 := cell_at hlb1 0
  have q1 := cell_at hlb1 1
  have q2 := cell_at hlb1 2
  have HLB1 := hid hlb1
  clear hW hbW hlb hb1 hlb1 hlE hhb1 hhE1
  go_wp2_with fail
  refine (HSM.out _).mono ?_
  rintro e w2 ⟨rfl, hb2⟩
  have hlb2 := (hb2.block lb (lt_at HLB1.out)).trans HLB1.out
  have HHB21 := hid ((hb2.block kb1 (lt_at HHB11.out)).trans HHB11.out)
  have p0 := cell_at hlb2 0
  have p1 := cell_at hlb2 1
  have p2 := cell_at hlb2 2
  have f0 := free_at hlb2 0
  have f1 := free_at hlb2 1
  have f2 := free_at hlb2 2
  have HLB2 := hid hlb2
  have HB2 := hid (HB1.out.comp hb2)
  clear hb2 hlb2 q0 q1 q2
  go_upto_region 5 with (fail)
  have hge : w.heap.size ≤ lb := Nat.le_of_eq HLE.out
  have s2 := set_at (set_at (set_at HLB2.out 0 (.int .i64 (S : Nat))) 1 (.int .i64 (N : Nat))) 2 (.int .i64 (T : Nat))
  have hb3 := bl_set (bl_set (bl_set HB2.out (p := ⟨lb, 0, none⟩) hge (.int .i64 (S : Nat))) (p := ⟨lb, 1, none⟩) hge (.int .i64 (N : Nat))) (p := ⟨lb, 2, none⟩) hge (.int .i64 (T : Nat))
  have hhb31 := (set_other (w := (w2.setCell ⟨lb, 0, none⟩ (.int .i64 (S : Nat))).setCell ⟨lb, 1, none⟩ (.int .i64 (N : Nat))) (a := ⟨lb, 2, none⟩) (v := .int .i64 (T : Nat)) hne1.symm).trans ((set_other (w := w2.setCell ⟨lb, 0, none⟩ (.int .i64 (S : Nat))) (a := ⟨lb, 1, none⟩) (v := .int .i64 (N : Nat)) hne1.symm).trans ((set_other (w := w2) (a := ⟨lb, 0, none⟩) (v := .int .i64 (S : Nat)) hne1.symm).trans HHB21.out))
  obtain ⟨W3, hW3⟩ : ∃ W3, ((w2.setCell ⟨lb, 0, none⟩ (.int .i64 (S : Nat))).setCell ⟨lb, 1, none⟩ (.int .i64 (N : Nat))).setCell ⟨lb, 2, none⟩ (.int .i64 (T : Nat)) = W3 := ⟨_, rfl⟩
  rw [hW3] at s2 hb3 ⊢
  rw [hW3] at hhb31
  have HHB31 := hid hhb31
  clear hhb31
  have hlb3 : W3.heap[lb]? = some (.cells #[.int .i64 (S : Nat), .int .i64 (N : Nat), .int .i64 (T : Nat)] 23 (0, 0)) := s2
  have HLB3 := hid hlb3
  have HB3 := hid hb3
  have q0 := cell_at hlb3 0
  have q1 := cell_at hlb3 1
  have q2 := cell_at hlb3 2
  clear hW3 s2 hb3 hlb3 p0 p1 p2 f0 f1 f2
  go_wp2_with fail
  refine (HNEW.out _).mono ?_
  rintro e w4 ⟨hr, hb4⟩
  rw [if_pos hby] at hr
  obtain ⟨f, hf0, rfl, hf⟩ := hr
  have HF := hid hf
  have HLB4 := hid ((hb4.block lb (lt_at HLB3.out)).trans HLB3.out)
  have HHB41 := hid ((hb4.block kb1 (lt_at HHB31.out)).trans HHB31.out)
  have HB4 := hid (HB3.out.comp hb4)
  clear hf hb4 q0 q1 q2
  have hl4 := HLB4.out
  have hh4 := HHB41.out
  have q0 := cell_at hl4 0
  have q1 := cell_at hl4 1
  have q2 := cell_at hl4 2
  have g0 := cell_at hh4 0
  have g1 := cell_at hh4 1
  have g2 := cell_at hh4 2
  have g3 := cell_at hh4 3
  have g4 := cell_at hh4 4
  have g5 := cell_at hh4 5
  clear hl4 hh4
  go_wp2_with fail
  refine (right_any S N T hd1 _ _ rows1 _ HL.out.s2 hN8 ⟨_, rfl, HSL1.out.below HB4.out⟩ HWF1.out (HRB1.out.below HB4.out) HRX1.out).mono ?_
  rintro e wr1 ⟨⟨yv1, rv1, rfl, hsl, hrb⟩, hbr⟩
  obtain ⟨ya1, yn1, yc1, hyv⟩ : ∃ a n c, yv1 = .slice a n c := by obtain ⟨a, c, e, _⟩ := hsl; exact ⟨_, _, _, e⟩
  subst hyv
  obtain ⟨X1, hX1⟩ : ∃ X, rtH N hd1 = X := ⟨_, rfl⟩
  obtain ⟨R1, hR1⟩ : ∃ R, rtS S N rows1 = R := ⟨_, rfl⟩
  rw [hX1] at hsl ⊢
  rw [hR1] at hrb
  have XW1 : Hid X1.Wf := hid (by rw [← hX1]; exact rtH_wf HWF1.out hN8)
  have XF1 : Hid X1.Fit := hid (by rw [← hX1]; exact rtH_fit HWF1.out hN8)
  have XC1 : Hid (CanB S N X1 R1) := hid (by rw [← hX1, ← hR1]; exact rtS_can S N hd1 rows1)
  have XL1 : Hid (∀ x ∈ R1, ∀ y ∈ x, y < 256) := hid (by rw [← hR1]; exact rtS_lt HRX1.out)
  have XSL := hid hsl
  have XRB := hid hrb
  have BR := hid hbr
  have HXE1 := hid hX1
  have HRE1 := hid hR1
  clear hsl hrb hbr hX1 hR1 q0 q1 q2 g0 g1 g2 g3 g4 g5
  go_upto_region 9 with (fail)
  obtain ⟨bx1, hbxE⟩ : ∃ b, wr1.heap.size = b := ⟨_, rfl⟩
  obtain ⟨W5, hWx⟩ : ∃ V, wr1.alloc (.cells #[.int .i64 X1.kind, .int .u32 (X1.id : Nat), .int .i64 X1.row, .int .i64 X1.place, .int .i64 X1.width, .slice ya1 yn1 yc1] 39) = V := ⟨_, rfl⟩
  have hbx : Below wr1.heap.size wr1 W5 := by rw [← hWx]; exact (Below.refl _ _).alloc (Nat.le_refl _) _
  have hxb : W5.heap[bx1]? = some (.cells #[.int .i64 X1.kind, .int .u32 (X1.id : Nat), .int .i64 X1.row, .int .i64 X1.place, .int .i64 X1.width, .slice ya1 yn1 yc1] 39 (0, 0)) := by rw [← hWx]; exact alloc_at hbxE.symm
  rw [hWx, hbxE]
  have hbx4 := BR.out.comp hbx
  have HXB51 := hid hxb
  have HYS51 := hid (XSL.out.below hbx)
  have HYR51 := hid (XRB.out.below hbx)
  have HB5 := hid (HB4.out.comp hbx4)
  have HLB5 := hid ((hbx4.block lb (lt_at HLB4.out)).trans HLB4.out)
  have BX5 := hid hbx4
  clear hbx4 hbx hxb hWx hbxE XSL XRB BR
  have HF5 := hid (HF.out.below BX5.out)
  have x0 := cell_at HXB51.out 0
  have x1 := cell_at HXB51.out 1
  have x2 := cell_at HXB51.out 2
  have x3 := cell_at HXB51.out 3
  have x4 := cell_at HXB51.out 4
  have x5 := cell_at HXB51.out 5
  go_wp2_with fail
  refine (pack_any f S N T mw mh _ _ X1 R1 W5 HL.out HF5.out ⟨_, rfl, HYS51.out⟩ XW1.out HYR51.out XL1.out XC1.out).mono ?_
  rintro e w6 ⟨⟨pv, rfl, hown⟩, hb6⟩
  have hplen : (packB S N T mw mh X1 R1).length = pageB S N T mw mh := packB_len XC1.out
  obtain ⟨n, hn⟩ : ∃ n, pageB S N T mw mh = n := ⟨_, rfl⟩
  obtain ⟨pg, pc, rfl, hpg1', hpo⟩ := hown.ow (by rw [hplen]; omega)
  rw [hplen, hn] at hpo ⊢
  rw [hn] at hpg hpg1
  have hpc : n ≤ pc := by obtain ⟨_, _, _, h, _⟩ := hpo; exact h
  have hpc2 : (pc : Int) ≤ 9223372036854775807 := by obtain ⟨_, _, _, _, h, _⟩ := hpo; unfold maxLen at h; omega
  have hpc1 : (n : Int) ≤ (pc : Int) := by omega
  have HPO := hid hpo
  have HPG := hid hpg1'
  have HN := hid hn
  have HW56 := hid hb6
  have HB6 := hid (HB5.out.comp hb6)
  have HLB6 := hid ((hb6.block lb (lt_at HLB5.out)).trans HLB5.out)
  have HF6 := hid (HF5.out.below hb6)
  have HXB61 := hid ((hb6.block bx1 (lt_at HXB51.out)).trans HXB51.out)
  have HYS61 := hid (HYS51.out.below hb6)
  have HYR61 := hid (HYR51.out.below hb6)
  clear hown hb6 hplen hpo hpg1' hn x0 x1 x2 x3 x4 x5 hby
  have l6 := HLB6.out
  have q0 := cell_at l6 0
  have q1 := cell_at l6 1
  have q2 := cell_at l6 2
  clear l6
  have hi4 : ((S : Int) + 4) = ((S + 4 : Nat) : Int) := by omega
  have HI4 := hid hi4
  clear hi4
  go_wp2_with fail
  rw [HI4.out]
  refine (rnew_any (S + 4) T mw _ HL.out.pw).mono ?_
  rintro e w7 ⟨⟨rcv, rfl, hrc⟩, hb7⟩
  obtain ⟨gv, rfl, hgr⟩ := hrc
  have HGR := hid hgr
  obtain ⟨ga, gc, rfl, _⟩ := hgr
  generalize hgl : (Gf.gen mw T).reverse.length = gl at *
  have HGL := hid hgl
  have HB67 := hid hb7
  clear hgl hb7 q0 q1 q2
  go_upto_region 11 with (fail)
  obtain ⟨kb, hkb⟩ : ∃ b, w7.heap.size = b := ⟨_, rfl⟩
  obtain ⟨W8, hW8⟩ : ∃ V, w7.alloc (.cells #[.int .i64 (mw : Nat), .int .i64 ((S : Int) + 4), .int .i64 (T : Nat), .slice ga gl gc] 51) = V := ⟨_, rfl⟩
  rw [hW8, hkb]
  have hb78 : Below w7.heap.size w7 W8 := by rw [← hW8]; exact (Below.refl _ _).alloc (Nat.le_refl _) _
  have hkc : W8.heap[kb]? = some (.cells #[.int .i64 (mw : Nat), .int .i64 ((S : Int) + 4), .int .i64 (T : Nat), .slice ga gl gc] 51 (0, 0)) := by rw [← hW8]; exact alloc_at hkb.symm
  have hb68 := HB67.out.comp hb78
  have KC8 := hid hkc
  have RC8 : Hid (RC W8 (.agg #[.int .i64 (mw : Nat), .int .i64 ((S : Int) + 4), .int .i64 (T : Nat), .slice ga gl gc]) (S + 4) T mw) := hid ⟨_, rfl, HGR.out.below hb78⟩
  have HPO8 := hid (HPO.out.same (hb68.block pg HPO.out.lt))
  have HLB8 := hid ((hb68.block lb (lt_at HLB6.out)).trans HLB6.out)
  have HXB81 := hid ((hb68.block bx1 (lt_at HXB61.out)).trans HXB61.out)
  have HF8 := hid (HF6.out.below hb68)
  have HB8 := hid (HB6.out.comp hb68)
  have HW58 := hid (HW56.out.comp hb68)
  clear hW8 hb78 hkc hb68 hkb
  go_wp2_with fail
  refine (bytes_any f S N T mw mh W8 HF8.out HL.out.pw HL.out.ph HL.out.s2 hN8).mono ?_
  rintro e w9 ⟨rfl, nb, rfl⟩
  rw [byB_page, HN.out]
  obtain ⟨W9, hW9⟩ : ∃ V, W8.drewN nb = V := ⟨_, rfl⟩
  have hb9 : Below W8.heap.size W8 W9 := by rw [← hW9]; exact (Below.refl _ _).drewN nb
  rw [hW9]
  have KC9 := hid ((hb9.block kb (lt_at KC8.out)).trans KC8.out)
  have RC9 := hid (RC8.out.below hb9)
  have HPO9 := hid (HPO8.out.same (hb9.block pg HPO8.out.lt))
  have HLB9 := hid ((hb9.block lb (lt_at HLB8.out)).trans HLB8.out)
  have HB9 := hid (HB8.out.comp hb9)
  have HW59 := hid (HW58.out.comp hb9)
  clear hW9 hb9
  go_upto_region 13 with (fail)
  obtain ⟨pw, hpw⟩ : ∃ p, (rr mw T + 7) / 8 = p := ⟨_, rfl⟩
  have hpw14 : pw ≤ 14 := by have := HL.out.pw.r.2.2.2.1; omega
  have HPARW : Hid (∀ V, Below W9.heap.size W9 V → Calls Try.prog 18 #[.agg #[.int .i64 (mw : Nat), .int .i64 ((S : Int) + 4), .int .i64 (T : Nat), .slice ga gl gc]] V fun e w' => e = .returned (.int .i64 (pw : Nat)) ∧ Below V.heap.size V w') := hid fun V hV => by
    rw [← hpw]; exact rParity_any _ (S + 4) T mw V HL.out.pw (RC9.out.below hV)
  have c0 : ∀ d os, (grow (redrawn W9 d) os).cell? ⟨lb, 0, none⟩ = some (.int .i64 (S : Nat)) := fun d os => cell_regrown (cell_at HLB9.out 0) d os
  have k0 : ∀ d os, (grow (redrawn W9 d) os).cell? ⟨kb, 0, none⟩ = some (.int .i64 (mw : Nat)) := fun d os => cell_regrown (cell_at KC9.out 0) d os
  have k1 : ∀ d os, (grow (redrawn W9 d) os).cell? ⟨kb, 1, none⟩ = some (.int .i64 ((S : Int) + 4)) := fun d os => cell_regrown (cell_at KC9.out 1) d os
  have k2 : ∀ d os, (grow (redrawn W9 d) os).cell? ⟨kb, 2, none⟩ = some (.int .i64 (T : Nat)) := fun d os => cell_regrown (cell_at KC9.out 2) d os
  have k3 : ∀ d os, (grow (redrawn W9 d) os).cell? ⟨kb, 3, none⟩ = some (.slice ga gl gc) := fun d os => cell_regrown (cell_at KC9.out 3) d os
  have hx1 : IntKind.i64.wrap ((S : Int) + 4) = (S : Int) + 4 := IntWalk.i64_in _ (by omega)
  have hx2 : IntKind.i64.wrap ((S : Int) + 4 + (pw : Int)) = ((S + 4 + pw : Nat) : Int) := by rw [show (S : Int) + 4 + (pw : Int) = ((S + 4 + pw : Nat) : Int) by omega]; exact IntWalk.i64_in _ (by omega)
  have HPWE := hid hpw
  clear hpw
  refine wp_region_quiet_below (by kernel_rfl) (by kernel_rfl) ?_
  repeat (go_big_quiet_step ((go_at_call 18; exact Calls.regrown_of (HPARW.out _ (below_regrown _ _ _)))))
  refine wpQuiet_nil ?_
  intro _ hw'
  obtain ⟨⟨dq, osq⟩, hw''⟩ := hw'
  subst hw''
  have hb10 := below_regrown W9 dq osq
  generalize grow (redrawn W9 dq) osq = WA at *
  have HLBA := hid ((hb10.block lb (lt_at HLB9.out)).trans HLB9.out)
  have HPOA := hid (HPO9.out.same (hb10.block pg HPO9.out.lt))
  have HBA := hid (HB9.out.comp hb10)
  have HW5A := hid (HW59.out.comp hb10)
  clear hb10 c0 k0 k1 k2 k3 hx1 hx2
  obtain ⟨wd, hwd⟩ : ∃ wd, S + 4 + pw = wd := ⟨_, rfl⟩
  have hwd1 : wdB S T mw = wd := by rw [← hwd, ← HPWE.out]; rfl
  have hwdi : (S : Int) + 4 + (pw : Int) = ((wd : Nat) : Int) := by omega
  have hwd100 : wd ≤ 100 := by omega
  have HWD := hid hwd1
  have hpb : ∀ j, (packB S N T mw mh X1 R1).getD j 0 < 256 := fun j => Gf.getD_lt (m := 8) (packB_lt XC1.out XL1.out) j
  have hst : ∀ q, q ≤ N → mu S N T mw mh X1 R1 ((List.range n).map ((packB S N T mw mh X1 R1).getD · 0)) q ≤ if q < 0 then T else if q = 0 then 0 else 0 := fun q _ => by
    have e : (List.range n).map ((packB S N T mw mh X1 R1).getD · 0) = packB S N T mw mh X1 R1 := by
      have hpl : (packB S N T mw mh X1 R1).length = n := (packB_len XC1.out).trans HN.out
      rw [← hpl]; exact rg_self _
    rw [e, mu_start XC1.out]; exact Nat.zero_le _
  have HPB := hid hpb
  have HST := hid hst
  rw [hwdi]
  clear hwd hwd1 hwdi hpb hst
  go_wp2_with fail
  go_loopg [19, 20] (N + 1) (fun gk atv v wr => ∃ (r A : Nat) (F : Nat → Nat), r + gk = N + 1 ∧ v = .int .i64 r ∧ atv = .int .i64 A ∧ (r ≤ N → A = r * wd) ∧ A ≤ n ∧ Ow .u8 5 wr pg n pc F ∧ (∀ j, F j < 256) ∧ (∀ q, q ≤ N → mu S N T mw mh X1 R1 ((List.range n).map F) q ≤ if q < r then T else if q = r then 0 else 0) ∧ Below W5.heap.size W5 wr)
  case atStart => exact ⟨0, 0, _, by omega, rfl, rfl, fun _ => by omega, by omega, HPOA.out, HPB.out, HST.out, HW5A.out⟩
  case round =>
    clear HPOA HPB HST HW5A HPO9 HPO8
    obtain ⟨r, A, F, hr, rfl, rfl, hA, hAn, hpo, hF, hmu, hbel⟩ := hrel
    have HPK := hid hpo
    have HFF := hid hF
    have HMU := hid hmu
    have HBK := hid hbel
    have hlbk := (hbel.block lb (lt_at HLB5.out)).trans HLB5.out
    have q1 := cell_at hlbk 1
    have HLK := hid hlbk
    clear hpo hF hmu hbel hlbk
    by_cases hlt : r ≤ N
    · have hAe := hA hlt
      have i1 : (r : Int) ≤ (N : Int) := by omega
      obtain ⟨g1, g2, g3⟩ := nB_le (S := S) (T := T) (mw := mw) (mh := mh) hlt (by rw [HN.out]; omega)
      rw [HWD.out, HN.out, ← hAe] at g1
      obtain ⟨nn, hnn⟩ : ∃ nn, nB S N T mw mh r = nn := ⟨_, rfl⟩
      have hnN : r = N → n - A = nn := fun e => by rw [← hnn]; unfold nB; rw [if_neg (by omega), HN.out, HWD.out, hAe, e]
      have hnL : r < N → wd = nn := fun e => by rw [← hnn, g3 e, HWD.out]
      rw [hnn] at g1 g2
      have HNN := hid hnn
      have HAE := hid hAe
      have HNN1 := hid hnN
      have HNN2 := hid hnL
      clear g3 hnn hA hAe hnN hnL
      go_upto_if 90 with (fail)
      go_cut [21] (fun v wx => v = .int .i64 (nn : Nat) ∧ wx = wr)
      case first =>
        by_cases hrN : r = N
        · have d1 : ((r : Int) == (N : Int)) = true := by rw [hrN]; exact beq_self_eq_true _
          have h1 := HNN1.out hrN
          have h2 : (n : Int) - (A : Int) = ((nn : Nat) : Int) := by omega
          clear hrN h1
          go_wp2_with fail
          go_meet
          exact ⟨rfl, rfl⟩
        · have d1 : ((r : Int) == (N : Int)) = false := by rw [beq_eq_false_iff_ne]; omega
          have h1 := HNN2.out (by omega)
          subst h1
          clear hrN
          go_wp2_with fail
          go_meet
          exact ⟨rfl, rfl⟩
      case rest =>
        obtain ⟨rfl, rfl⟩ := hcut
        go_upto_block 2 with (fail)
        go_cut [] (fun wx => ∃ (k : Nat) (F : Nat → Nat), k ≤ T ∧ Ow .u8 5 wx pg n pc F ∧ (∀ j, F j < 256) ∧ (∀ q, q ≤ N → mu S N T mw mh X1 R1 ((List.range n).map F) q ≤ if q < r then T else if q = r then k else 0) ∧ Below W5.heap.size W5 wx)
        case first =>
          obtain ⟨rT, hrT⟩ : ∃ rT, r * T = rT := ⟨_, rfl⟩
          have hrT9 : rT ≤ 9 := by rw [← hrT]; exact Nat.mul_le_mul (show r ≤ 3 by omega) hT3
          have hrTi : (r : Int) * (T : Int) = ((rT : Nat) : Int) := by rw [← hrT]; push_cast; rfl
          clear hrT
          go_wp2_with fail
          go_loopg [22] T (fun gk v wr => ∃ (k : Nat) (F : Nat → Nat), k + gk = T ∧ v = .int .i64 k ∧ Ow .u8 5 wr pg n pc F ∧ (∀ j, F j < 256) ∧ (∀ q, q ≤ N → mu S N T mw mh X1 R1 ((List.range n).map F) q ≤ if q < r then T else if q = r then k else 0) ∧ Below W5.heap.size W5 wr)
          case atStart => exact ⟨0, F, by omega, rfl, HPK.out, HFF.out, HMU.out, HBK.out⟩
          case round =>
            clear HPK HFF HMU HBK HLK q1
            obtain ⟨k, F, hk, rfl, hpo, hF, hmu, hbel⟩ := hrel
            have HPK := hid hpo
            have HFF := hid hF
            have HMU := hid hmu
            have HBK := hid hbel
            have hlbk := (hbel.block lb (lt_at HLB5.out)).trans HLB5.out
            have q2 := cell_at hlbk 2
            clear hpo hF hmu hbel hlbk
            by_cases hkT : k < T
            · have j1 : (k : Int) < (T : Int) := by omega
              by_cases hIz : rT + k < zn
              · have j2 : (rT : Int) + (k : Int) < (zn : Int) := by omega
                have hIz2 : rT + k < zs.length := by rw [HZL.out]; omega
                have hzI : (Lit.int .i64 (zs.getD (rT + k) 0)).wf = true := HZW.out _ (by rw [List.getD_eq_getElem?_getD, List.getElem?_eq_getElem hIz2]; exact List.getElem_mem hIz2)
                have hzr := HZ.out.below (HB5.out.comp HBK.out)
                obtain ⟨a', c', he, h1, h2, hc⟩ := hzr
                cases he
                obtain ⟨zg, zo, rfl, hcz⟩ := hc (rT + k) hIz2
                have HAB := hid (fun w => abs_any (zs.getD (rT + k) 0) w hzI)
                have hab := absN_le hzI
                obtain ⟨zv, hzv⟩ : ∃ zv, zs.getD (rT + k) 0 = zv := ⟨_, rfl⟩
                rw [hzv] at hcz HAB hab
                obtain ⟨av, hav⟩ : ∃ av, absN zv = av := ⟨_, rfl⟩
                rw [hav] at HAB hab
                obtain ⟨jm, hjm⟩ : ∃ jm, av % (8 * nn) = jm := ⟨_, rfl⟩
                have hjm1 : jm < 8 * nn := by rw [← hjm]; exact Nat.mod_lt _ (by omega)
                have hmod : ((av : Nat) : Int) % (8 * (nn : Int)) = ((jm : Nat) : Int) := by rw [← hjm]; push_cast; rfl
                clear hc hzI hzv hav h1 h2 hjm
                go_upto_region 25 with (go_at_call 13; refine (HAB.out _).mono ?_; rintro e w' ⟨rfl, rfl⟩)
                obtain ⟨kk, hkk⟩ : ∃ kk, 8 * A + jm = kk := ⟨_, rfl⟩
                have hk8 : kk < 8 * n := by omega
                have hkki : 8 * (A : Int) + (jm : Int) = ((kk : Nat) : Int) := by omega
                rw [hkki]
                have hd8 : (kk : Int) / 8 < (n : Int) := by omega
                have c1 := HPK.out.cell (show kk / 8 < n by omega)
                have z1 := HPK.out.free (kk / 8)
                have hxl := xor_lob (F (kk / 8)) kk (HFF.out _)
                have hkA : 8 * A ≤ kk ∧ kk < 8 * (A + nn) := by omega
                have HXL := hid hxl
                have HK8 := hid hk8
                have HKA := hid hkA
                clear hmod hkk hxl hk8 q2 hkki hjm1 hkA
                go_wp2_with fail
                go_roundg (gk - 1)
                case measure => omega
                case rel =>
                  refine ⟨k + 1, upd F (kk / 8) (F (kk / 8) ^^^ 2 ^ (kk % 8)), by omega, by go_num, ?_, ?_, ?_, bl_set HBK.out HPG.out _⟩
                  · rw [HXL.out]; exact HPK.out.set _ _
                  · intro j
                    unfold upd
                    split
                    · exact Nat.xor_lt_two_pow (n := 8) (HFF.out _) (Nat.lt_of_le_of_lt (Nat.pow_le_pow_right (by decide) (show kk % 8 ≤ 7 by omega)) (by decide))
                    · exact HFF.out j
                  · rw [tg_map n F kk HK8.out]
                    exact mu_step (l := (List.range n).map F) (fun y hy => by obtain ⟨j, _, rfl⟩ := List.mem_map.1 hy; exact HFF.out j) (by rw [List.length_map, List.length_range, HN.out]) hlt (by rw [HWD.out, ← HAE.out]; exact HKA.out.1) (by rw [HWD.out, ← HAE.out, HNN.out]; exact HKA.out.2) HMU.out
              · have j2 : ¬ (rT : Int) + (k : Int) < (zn : Int) := by omega
                go_wp2_with fail
                go_meet
                exact ⟨k, F, by omega, HPK.out, HFF.out, HMU.out, HBK.out⟩
            · have j1 : ¬ (k : Int) < (T : Int) := by omega
              go_wp2_with fail
              go_meet
              exact ⟨k, F, by omega, HPK.out, HFF.out, HMU.out, HBK.out⟩
        case rest =>
          clear HPK HFF HMU HBK HLK q1
          obtain ⟨k, F2, hkT, hpo, hF, hmu, hbel⟩ := hcut
          have HPK := hid hpo
          have HFF := hid hF
          have HMU := hid (mu_next hkT hmu)
          have HBK := hid hbel
          clear hpo hF hmu hbel hkT
          go_wp2_with fail
          go_roundg (gk - 1)
          case measure => omega
          case rel =>
            refine ⟨r + 1, A + nn, F2, by omega, by go_num, by go_num, fun h => ?_, by omega, HPK.out, HFF.out, HMU.out, HBK.out⟩
            have h1 := HNN2.out (by omega)
            have h2 := HAE.out
            rw [h2, ← h1, Nat.succ_mul]
    · have hrN : r = N + 1 := by omega
      have HMT : Hid (∀ q, q ≤ N → mu S N T mw mh X1 R1 ((List.range n).map F) q ≤ T) := hid fun q hq => by
        have := HMU.out q hq
        rwa [if_pos (by omega)] at this
      have HRL1 : Hid (R1.length = N ∧ ∀ x ∈ R1, x.length = S) := hid ⟨XC1.out.2.1, by rw [← HRE1.out]; intro x hx; obtain ⟨i, _, rfl⟩ := List.mem_map.1 hx; simp [rtRow]⟩
      have hlen : ((List.range n).map F).length = pageB S N T mw mh := by rw [List.length_map, List.length_range, HN.out]
      obtain ⟨ko, Wd, fl, hop, hwl, hwdv⟩ := opn_mends HL.out XC1.out XF1.out XL1.out HRL1.out.2 hlen HMT.out
      have hrd := HPK.out.rd
      have hl8 : ∀ y ∈ (List.range n).map F, y < 256 := fun y hy => by obtain ⟨j, _, rfl⟩ := List.mem_map.1 hy; exact HFF.out j
      have HUN := hid (unpack_any f S N T mw mh _ _ wr HL.out (HF5.out.below HBK.out) hrd hlen hl8)
      rw [hop] at HUN
      have HBW := hid (HB5.out.comp HBK.out)
      have hxb := (HBK.out.block bx1 (lt_at HXB51.out)).trans HXB51.out
      have hys := HYS51.out.below HBK.out
      have hyr := HYR51.out.below HBK.out
      have HWDV := hid hwdv
      have HWL := hid hwl
      have XB := hid hxb
      have YS := hid hys
      have YR := hid hyr
      clear hop hlen hrd hl8 HMU HMT hwdv hwl hxb hys hyr hrN hA
      go_wp2_with fail
      refine HUN.out.mono ?_
      rintro e wu ⟨⟨ov, rfl, hov⟩, hbu⟩
      obtain ⟨sa, sc, wa, wcc, ra, rcc, rfl, o1, o2, o3⟩ := opv_mends HRL1.out.1 HWL.out hov
      obtain ⟨vk, hvk, hvk2⟩ := vd_ne ko
      rw [hvk]
      have d3 : ((vk : Int) == 3) = false := by rw [beq_eq_false_iff_ne]; omega
      have O1 := hid o1
      have O2 := hid o2
      have O3 := hid o3
      have XBU := hid ((hbu.block bx1 (lt_at XB.out)).trans XB.out)
      have YSU := hid (YS.out.below hbu)
      have YRU := hid (YR.out.below hbu)
      have LKU := hid ((hbu.block lb (lt_at HLK.out)).trans HLK.out)
      have HBU := hid (HBW.out.comp hbu)
      clear hov o1 o2 o3 hbu hvk HUN
      go_upto_region 28 with (fail)
      obtain ⟨ob, hobE⟩ : ∃ b, wu.heap.size = b := ⟨_, rfl⟩
      obtain ⟨V, hV⟩ : ∃ V, wu.alloc (.cells #[.bool false, .int .i64 (vk : Nat), .int .i64 X1.kind, .int .u32 (X1.id : Nat), .int .i64 X1.row, .int .i64 X1.place, .int .i64 X1.width, .slice sa X1.slots.length sc, .slice wa N wcc, .slice ra N rcc, .int .i64 (fl : Nat)] 42) = V := ⟨_, rfl⟩
      have hbV : Below wu.heap.size wu V := by rw [← hV]; exact (Below.refl _ _).alloc (Nat.le_refl _) _
      have hob : V.heap[ob]? = some (.cells #[.bool false, .int .i64 (vk : Nat), .int .i64 X1.kind, .int .u32 (X1.id : Nat), .int .i64 X1.row, .int .i64 X1.place, .int .i64 X1.width, .slice sa X1.slots.length sc, .slice wa N wcc, .slice ra N rcc, .int .i64 (fl : Nat)] 42 (0, 0)) := by rw [← hV]; exact alloc_at hobE.symm
      rw [hV, hobE]
      have OB := hid hob
      obtain ⟨p0, p1, p2, p3, p4, p5, p6, p7, p8, p9, p10⟩ := op_cells hob
      have XBV := hid ((hbV.block bx1 (lt_at XBU.out)).trans XBU.out)
      have x0 := cell_at XBV.out 0
      have x1 := cell_at XBV.out 1
      have x2 := cell_at XBV.out 2
      have x3 := cell_at XBV.out 3
      have x4 := cell_at XBV.out 4
      have x5 := cell_at XBV.out 5
      have LKV := hid ((hbV.block lb (lt_at LKU.out)).trans LKU.out)
      have q1 := cell_at LKV.out 1
      have HSH := hid (sameHead_any _ _ X1 X1 V ⟨_, rfl, O1.out.below hbV⟩ ⟨_, rfl, YSU.out.below hbV⟩ XW1.out XW1.out)
      have O2V := hid (O2.out.below hbV)
      have O3V := hid (O3.out.below hbV)
      have YRV := hid (YRU.out.below hbV)
      have HBV := hid (HBU.out.comp hbV)
      clear hV hbV hob hobE
      go_wp2_with fail
      refine HSH.out.mono ?_
      rintro e V2 ⟨rs, rfl, hrs, hb2⟩
      obtain rfl : rs = true := by first | exact hrs.2 rfl | exact hrs.2 trivial
      have OB2 := hid ((hb2.block ob (lt_at OB.out)).trans OB.out)
      have LK2 := hid ((hb2.block lb (lt_at LKV.out)).trans LKV.out)
      have O22 := hid (O2V.out.below hb2)
      have O32 := hid (O3V.out.below hb2)
      have YR2 := hid (YRV.out.below hb2)
      have HBV2 := hid (HBV.out.comp hb2)
      clear hrs hb2 p0 p1 p2 p3 p4 p5 p6 p7 p8 p9 p10 x0 x1 x2 x3 x4 x5 q1
      go_wp2_with fail
      go_loopg [25] N (fun gk v wr => ∃ I : Nat, I + gk = N ∧ v = .int .i64 I ∧ Below V2.heap.size V2 wr)
      case atStart => exact ⟨0, by omega, rfl, Below.refl _ _⟩
      case round =>
        obtain ⟨I, hI, rfl, hbr⟩ := hrel
        have HBR := hid hbr
        obtain ⟨p0, p1, p2, p3, p4, p5, p6, p7, p8, p9, p10⟩ := op_cells ((hbr.block ob (lt_at OB2.out)).trans OB2.out)
        have q1 := cell_at ((hbr.block lb (lt_at LK2.out)).trans LK2.out) 1
        clear hbr p0 p1 p2 p3 p4 p5 p6 p7 p10
        by_cases hltI : I < N
        · have i1' : (I : Int) < (N : Int) := by omega
          obtain ⟨wa', wc', hwv, t1, t2, t3⟩ := O22.out.below HBR.out
          obtain ⟨ra1, rc1, hrv1, s1, s2, s3⟩ := O32.out.below HBR.out
          obtain ⟨ra2, rc2, hrv2, s4, s5, s6⟩ := YR2.out.below HBR.out
          rw [HWL.out] at hwv t1
          rw [HRL1.out.1] at hrv1 s1 hrv2 s4
          cases hwv
          cases hrv1
          obtain ⟨wg, wo, rfl, w1c⟩ := t3 I (by rw [HWL.out]; exact hltI)
          obtain ⟨g1, o1, u1, rfl, c1, r1⟩ := s3 I (by rw [HRL1.out.1]; exact hltI)
          obtain ⟨g2, o2, u2, rfl, c2, r2⟩ := s6 I (by rw [HRL1.out.1]; exact hltI)
          subst hrv2
          have hwd := HWDV.out I hltI
          obtain ⟨wv, hwv⟩ : ∃ wv, Wd.getD I 0 = wv := ⟨_, rfl⟩
          rw [hwv] at w1c hwd
          have dw : ((wv : Int) == 3) = false := by rw [beq_eq_false_iff_ne]; omega
          have k1 : ∀ n, (convert 31 9 u1).run Try.prog (wr.drewN n) = .ok (.string (sv (R1.getD I []))) (wr.drewN n) := fun n => conv_rd (r1.drewN n)
          have k2 : ∀ n, (convert 31 9 u2).run Try.prog (wr.drewN n) = .ok (.string (sv (R1.getD I []))) (wr.drewN n) := fun n => conv_rd (r2.drewN n)
          obtain ⟨pa1, pc1, e1, _⟩ := r1
          obtain ⟨pa2, pc2, e2, _⟩ := r2
          subst e1 e2
          obtain ⟨n1, hn1⟩ : ∃ n, (R1.getD I []).length = n := ⟨_, rfl⟩
          rw [hn1] at k1 c1 k2 c2
          generalize sv (R1.getD I []) = str at *
          have t1' : (N : Int) ≤ (wcc : Int) := by omega
          have t2' : (wcc : Int) ≤ 9223372036854775807 := by unfold maxLen at t2; omega
          have s1' : (N : Int) ≤ (rcc : Int) := by omega
          have s2' : (rcc : Int) ≤ 9223372036854775807 := by unfold maxLen at s2; omega
          have s4' : (N : Int) ≤ (rc2 : Int) := by omega
          have s5' : (rc2 : Int) ≤ 9223372036854775807 := by unfold maxLen at s5; omega
          clear hn1 hwv hwd t1 t2 t3 s1 s2 s3 s4 s5 s6
          go_wp2_with fail
          go_quiet (fail)
          go_wp2_with fail
          go_roundg (gk - 1)
          case measure => omega
          case rel => exact ⟨I + 1, by omega, by go_num, HBR.out.drewN nq⟩
        · obtain rfl : I = N := by omega
          go_wp2_with fail
          go_ret
          exact ⟨rfl, HBV2.out.comp HBR.out⟩
end Go.Proofs.Ytoanopegoilcnaa
