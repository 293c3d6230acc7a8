/- Walks over firkinlaw05: PageBound. -/
import Derived.Test.YtoanopegoilcnaaZPbo
import Derived.Test.YtoanopegoilcnaaZPgb
import Derived.Test.YtoanopegoilcnaaZKt
import Derived.Test.YtoanopegoilcnaaJi
import Derived.Lib.QuietBelow
set_option linter.unusedVariables false
namespace Go.Proofs.Ytoanopegoilcnaa
open Go.RowKit Go.Mem Go.Pg Go.Sort

set_option maxRecDepth 100000 in
set_option maxHeartbeats 12800000 in
theorem pageBound_walk (a b c : Int) (v1 : Value) (hd1 : Head) (v2 : Value) (rows1 : List (List Nat)) (ky sq : Nat) (w : World) (ha : (Lit.int .i64 a).wf = true) (hb : (Lit.int .i64 b).wf = true) (hc : (Lit.int .i64 c).wf = true)
    (hv1 : HdV w v1 hd1) (hw1 : hd1.Wf) (hr1 : RB w v2 rows1) (hrx1 : ∀ r ∈ rows1, ∀ y ∈ r, y < 256) (hky : ky < 4294967296) (hsq : sq < 18446744073709551616) :
    Calls Try.prog 5 #[.agg #[.int .i64 a, .int .i64 b, .int .i64 c], v1, v2, .int .u32 (ky : Nat), .int .u64 (sq : Nat)] w fun e w' => e = .returned (.bool true) ∧ Below w.heap.size w w' := by
  have HRB1 := hid hr1
  have HRX1 := hid hrx1
  clear hr1 hrx1
  obtain ⟨mw, mh, hL⟩ := small_lay (absN a) (absN b) (absN c)
  have hS12 : smA (absN a) 12 ≤ 12 := by unfold smA; omega
  have hN3 : smA (absN b) 3 ≤ 3 := by unfold smA; omega
  have hT3 : smA (absN c) 3 ≤ 3 := by unfold smA; omega
  have HSM := hid (fun w => small_any a b c w ha hb hc)
  generalize smA (absN a) 12 = S at *
  generalize smA (absN b) 3 = N at *
  generalize smA (absN c) 3 = T at *
  have HNEW := hid (new_any S N T mw mh · hL.pw hL.ph hL.s1 hL.s2 hL.n1 hL.n2)
  have hT8 := hL.t2
  have hT1 := hL.t1
  have hN1 := hL.n1
  have hN8 := hL.n2
  have hpg := pageB_le hL
  have hby : byB S N T mw mh ≤ 4096 := by rw [byB_page]; omega
  have hpg1 : 1 ≤ pageB S N T mw mh := by unfold pageB; omega
  have HL := hid hL
  obtain ⟨zv1, rfl, hsl1⟩ := hv1
  have HSL1 := hid hsl1
  have HWF1 := hid hw1
  clear hsl1 hw1
  clear hL ha hb hc
  go_enter Try.func5, Try.ntmps5
  go_wp2_with fail
  obtain ⟨W, hW⟩ : ∃ W, (w.alloc (.cells #[.int .i64 a, .int .i64 b, .int .i64 c] 23)).alloc (.cells #[.int .i64 hd1.kind, .int .u32 (hd1.id : Nat), .int .i64 hd1.row, .int .i64 hd1.place, .int .i64 hd1.width, zv1] 39) = W := ⟨_, rfl⟩
  have hlb : W.heap[w.heap.size]? = some (.cells #[.int .i64 a, .int .i64 b, .int .i64 c] 23 (0, 0)) := by rw [← hW]; exact (alloc_old (by simp; try omega)).trans (alloc_new w _)
  have hhb1 : W.heap[w.heap.size + 1]? = some (.cells #[.int .i64 hd1.kind, .int .u32 (hd1.id : Nat), .int .i64 hd1.row, .int .i64 hd1.place, .int .i64 hd1.width, zv1] 39 (0, 0)) := by rw [← hW]; exact alloc_at (by simp)
  have hbW : Below w.heap.size w W := by rw [← hW]; exact bl_alloc (bl_alloc (Below.refl _ _) _) _
  rw [hW]
  refine (awake_any _).mono ?_
  rintro e w1 ⟨rfl, hb1⟩
  obtain ⟨kb1, hhE1⟩ : ∃ b, w.heap.size + 1 = b := ⟨_, rfl⟩
  obtain ⟨lb, hlE⟩ : ∃ b, w.heap.size = b := ⟨_, rfl⟩
  rw [hhE1] at hhb1 ⊢
  rw [hlE] at hlb ⊢
  have hlb1 := (hb1.block lb (lt_at hlb)).trans hlb
  have HHB11 := hid ((hb1.block kb1 (lt_at hhb1)).trans hhb1)
  have HHE1 := hid hhE1
  have hne1 : lb ≠ kb1 := by omega
  have HB1 := hid (hbW.comp hb1)
  have HLE := hid hlE
  have q0 := cell_at hlb1 0
  have q1 := cell_at hlb1 1
  have q2 := cell_at hlb1 2
  have HLB1 := hid hlb1
  clear hW hbW hlb hb1 hlb1 hlE hhb1 hhE1
  go_wp2_with fail
  refine (HSM.out _).mono ?_
  rintro e w2 ⟨rfl, hb2⟩
  have hlb2 := (hb2.block lb (lt_at HLB1.out)).trans HLB1.out
  have HHB21 := hid ((hb2.block kb1 (lt_at HHB11.out)).trans HHB11.out)
  have p0 := cell_at hlb2 0
  have p1 := cell_at hlb2 1
  have p2 := cell_at hlb2 2
  have f0 := free_at hlb2 0
  have f1 := free_at hlb2 1
  have f2 := free_at hlb2 2
  have HLB2 := hid hlb2
  have HB2 := hid (HB1.out.comp hb2)
  clear hb2 hlb2 q0 q1 q2
  go_upto_region 5 with (fail)
  have hge : w.heap.size ≤ lb := Nat.le_of_eq HLE.out
  have s2 := set_at (set_at (set_at HLB2.out 0 (.int .i64 (S : Nat))) 1 (.int .i64 (N : Nat))) 2 (.int .i64 (T : Nat))
  have hb3 := bl_set (bl_set (bl_set HB2.out (p := ⟨lb, 0, none⟩) hge (.int .i64 (S : Nat))) (p := ⟨lb, 1, none⟩) hge (.int .i64 (N : Nat))) (p := ⟨lb, 2, none⟩) hge (.int .i64 (T : Nat))
  have hhb31 := (set_other (w := (w2.setCell ⟨lb, 0, none⟩ (.int .i64 (S : Nat))).setCell ⟨lb, 1, none⟩ (.int .i64 (N : Nat))) (a := ⟨lb, 2, none⟩) (v := .int .i64 (T : Nat)) hne1.symm).trans ((set_other (w := w2.setCell ⟨lb, 0, none⟩ (.int .i64 (S : Nat))) (a := ⟨lb, 1, none⟩) (v := .int .i64 (N : Nat)) hne1.symm).trans ((set_other (w := w2) (a := ⟨lb, 0, none⟩) (v := .int .i64 (S : Nat)) hne1.symm).trans HHB21.out))
  obtain ⟨W3, hW3⟩ : ∃ W3, ((w2.setCell ⟨lb, 0, none⟩ (.int .i64 (S : Nat))).setCell ⟨lb, 1, none⟩ (.int .i64 (N : Nat))).setCell ⟨lb, 2, none⟩ (.int .i64 (T : Nat)) = W3 := ⟨_, rfl⟩
  rw [hW3] at s2 hb3 ⊢
  rw [hW3] at hhb31
  have HHB31 := hid hhb31
  clear hhb31
  have hlb3 : W3.heap[lb]? = some (.cells #[.int .i64 (S : Nat), .int .i64 (N : Nat), .int .i64 (T : Nat)] 23 (0, 0)) := s2
  have HLB3 := hid hlb3
  have HB3 := hid hb3
  have q0 := cell_at hlb3 0
  have q1 := cell_at hlb3 1
  have q2 := cell_at hlb3 2
  clear hW3 s2 hb3 hlb3 p0 p1 p2 f0 f1 f2
  go_wp2_with fail
  refine (HNEW.out _).mono ?_
  rintro e w4 ⟨hr, hb4⟩
  rw [if_pos hby] at hr
  obtain ⟨f, hf0, rfl, hf⟩ := hr
  have HF := hid hf
  have HLB4 := hid ((hb4.block lb (lt_at HLB3.out)).trans HLB3.out)
  have HHB41 := hid ((hb4.block kb1 (lt_at HHB31.out)).trans HHB31.out)
  have HB4 := hid (HB3.out.comp hb4)
  clear hf hb4 q0 q1 q2
  have hl4 := HLB4.out
  have hh4 := HHB41.out
  have q0 := cell_at hl4 0
  have q1 := cell_at hl4 1
  have q2 := cell_at hl4 2
  have g0 := cell_at hh4 0
  have g1 := cell_at hh4 1
  have g2 := cell_at hh4 2
  have g3 := cell_at hh4 3
  have g4 := cell_at hh4 4
  have g5 := cell_at hh4 5
  clear hl4 hh4
  go_wp2_with fail
  refine (right_any S N T hd1 _ _ rows1 _ HL.out.s2 hN8 ⟨_, rfl, HSL1.out.below HB4.out⟩ HWF1.out (HRB1.out.below HB4.out) HRX1.out).mono ?_
  rintro e wr1 ⟨⟨yv1, rv1, rfl, hsl, hrb⟩, hbr⟩
  obtain ⟨ya1, yn1, yc1, hyv⟩ : ∃ a n c, yv1 = .slice a n c := by obtain ⟨a, c, e, _⟩ := hsl; exact ⟨_, _, _, e⟩
  subst hyv
  obtain ⟨X1, hX1⟩ : ∃ X, rtH N hd1 = X := ⟨_, rfl⟩
  obtain ⟨R1, hR1⟩ : ∃ R, rtS S N rows1 = R := ⟨_, rfl⟩
  rw [hX1] at hsl ⊢
  rw [hR1] at hrb
  have XW1 : Hid X1.Wf := hid (by rw [← hX1]; exact rtH_wf HWF1.out hN8)
  have XF1 : Hid X1.Fit := hid (by rw [← hX1]; exact rtH_fit HWF1.out hN8)
  have XC1 : Hid (CanB S N X1 R1) := hid (by rw [← hX1, ← hR1]; exact rtS_can S N hd1 rows1)
  have XL1 : Hid (∀ x ∈ R1, ∀ y ∈ x, y < 256) := hid (by rw [← hR1]; exact rtS_lt HRX1.out)
  have XSL := hid hsl
  have XRB := hid hrb
  have BR := hid hbr
  have HXE1 := hid hX1
  have HRE1 := hid hR1
  clear hsl hrb hbr hX1 hR1 q0 q1 q2 g0 g1 g2 g3 g4 g5
  go_upto_region 9 with (fail)
  obtain ⟨bx1, hbxE⟩ : ∃ b, wr1.heap.size = b := ⟨_, rfl⟩
  obtain ⟨W5, hWx⟩ : ∃ V, wr1.alloc (.cells #[.int .i64 X1.kind, .int .u32 (X1.id : Nat), .int .i64 X1.row, .int .i64 X1.place, .int .i64 X1.width, .slice ya1 yn1 yc1] 39) = V := ⟨_, rfl⟩
  have hbx : Below wr1.heap.size wr1 W5 := by rw [← hWx]; exact (Below.refl _ _).alloc (Nat.le_refl _) _
  have hxb : W5.heap[bx1]? = some (.cells #[.int .i64 X1.kind, .int .u32 (X1.id : Nat), .int .i64 X1.row, .int .i64 X1.place, .int .i64 X1.width, .slice ya1 yn1 yc1] 39 (0, 0)) := by rw [← hWx]; exact alloc_at hbxE.symm
  rw [hWx, hbxE]
  have hbx4 := BR.out.comp hbx
  have HXB51 := hid hxb
  have HYS51 := hid (XSL.out.below hbx)
  have HYR51 := hid (XRB.out.below hbx)
  have HB5 := hid (HB4.out.comp hbx4)
  have HLB5 := hid ((hbx4.block lb (lt_at HLB4.out)).trans HLB4.out)
  have BX5 := hid hbx4
  clear hbx4 hbx hxb hWx hbxE XSL XRB BR
  have HF5 := hid (HF.out.below BX5.out)
  have HXB5 := HXB51
  have HYS5 := HYS51
  have HYR5 := HYR51
  clear HXB51 HYS51 HYR51
  have x0 := cell_at HXB5.out 0
  have x1 := cell_at HXB5.out 1
  have x2 := cell_at HXB5.out 2
  have x3 := cell_at HXB5.out 3
  have x4 := cell_at HXB5.out 4
  have x5 := cell_at HXB5.out 5
  go_wp2_with fail
  refine (pack_any f S N T mw mh _ _ X1 R1 W5 HL.out HF5.out ⟨_, rfl, HYS5.out⟩ XW1.out HYR5.out XL1.out XC1.out).mono ?_
  rintro e W6 ⟨⟨pv, rfl, hown⟩, hb6⟩
  have hplen : (packB S N T mw mh X1 R1).length = pageB S N T mw mh := packB_len XC1.out
  obtain ⟨n, hn⟩ : ∃ n, pageB S N T mw mh = n := ⟨_, rfl⟩
  obtain ⟨pg, pc, rfl, _, _⟩ := hown.ow (by rw [hplen]; omega)
  rw [hplen, hn] at hown ⊢
  rw [hn] at hpg hpg1
  have HRP6 := hid hown.rd
  have HN := hid hn
  have HXB6 := hid ((hb6.block bx1 (lt_at HXB5.out)).trans HXB5.out)
  have HYS6 := hid (HYS5.out.below hb6)
  have HYR6 := hid (HYR5.out.below hb6)
  have HLB6 := hid ((hb6.block lb (lt_at HLB5.out)).trans HLB5.out)
  have HF6 := hid (HF5.out.below hb6)
  have HB6 := hid (HB5.out.comp hb6)
  have hpcc := hown.caps
  have hpc1 : (n : Int) ≤ (pc : Int) := by have := hpcc.1; have := hpcc.2.1; omega
  have hpc2 : (pc : Int) ≤ 9223372036854775807 := by have := hpcc.2.2; unfold maxLen at this; omega
  clear hown hb6 hplen hn x0 x1 x2 x3 x4 x5 hby hpcc
  have x0 := cell_at HXB6.out 0
  have x1 := cell_at HXB6.out 1
  have x2 := cell_at HXB6.out 2
  have x3 := cell_at HXB6.out 3
  have x4 := cell_at HXB6.out 4
  have x5 := cell_at HXB6.out 5
  go_upto_region 11 with (fail)
  obtain ⟨by1, hyE⟩ : ∃ b, W6.heap.size = b := ⟨_, rfl⟩
  obtain ⟨W7, hW7⟩ : ∃ V, W6.alloc (.cells #[.int .i64 X1.kind, .int .u32 (X1.id : Nat), .int .i64 X1.row, .int .i64 X1.place, .int .i64 X1.width, .slice ya1 yn1 yc1] 39) = V := ⟨_, rfl⟩
  have hyb : W7.heap[by1]? = some (.cells #[.int .i64 X1.kind, .int .u32 (X1.id : Nat), .int .i64 X1.row, .int .i64 X1.place, .int .i64 X1.width, .slice ya1 yn1 yc1] 39 (0, 0)) := by rw [← hW7]; exact alloc_at hyE.symm
  have hb67 : Below W6.heap.size W6 W7 := by rw [← hW7]; exact (Below.refl _ _).alloc (Nat.le_refl _) _
  rw [hW7, hyE]
  have f5 := free_at hyb 5
  have y5 := cell_at hyb 5
  clear hW7 x0 x1 x2 x3 x4 x5
  go_upto_region 12 with (fail)
  obtain ⟨W8, hW8⟩ : ∃ V, W7.setCell ⟨by1, 5, none⟩ (.slice none 0 0) = V := ⟨_, rfl⟩
  have hyb8 : W8.heap[by1]? = some (.cells #[.int .i64 X1.kind, .int .u32 (X1.id : Nat), .int .i64 X1.row, .int .i64 X1.place, .int .i64 X1.width, .slice none 0 0] 39 (0, 0)) := by rw [← hW8]; exact set_at hyb 5 _
  have hb68 : Below W6.heap.size W6 W8 := by rw [← hW8]; exact bl_set hb67 (p := ⟨by1, 5, none⟩) (Nat.le_of_eq hyE) _
  rw [hW8]
  have HYB8 := hid hyb8
  have HXB8 := hid ((hb68.block bx1 (lt_at HXB6.out)).trans HXB6.out)
  have HYS8 := hid (HYS6.out.below hb68)
  have HYR8 := hid (HYR6.out.below hb68)
  have HLB8 := hid ((hb68.block lb (lt_at HLB6.out)).trans HLB6.out)
  have HF8 := hid (HF6.out.below hb68)
  have HB8 := hid (HB6.out.comp hb68)
  have HRP8 := hid (HRP6.out.below hb68)
  have HB68 := hid hb68
  have HYE := hid hyE
  have y5 := cell_at hyb8 5
  have f5 := free_at hyb8 5
  have x5 := cell_at HXB8.out 5
  have hxl := XC1.out.1.1.2.2.2.2.2.2.2.2
  have HXL := hid hxl
  clear hW8 hyb hb67 hyb8 hb68 hyE hxl
  go_upto_region 13 with (at_builtin; refine app_slots el_sl rfl _ _ rfl W8.heap.size (.slice none 0 0) [] (by rfl) (OwS.nil _ _ _) X1.slots (by exact HYS8.out) (by rw [HXL.out]; omega) (by rw [HXL.out]; simp; omega) (Nat.le_refl _) ?_; intro gs caps w9 hos hgs has; simp only [List.length_nil, Nat.zero_add, List.nil_append] at hos ⊢; rw [HXL.out] at hos ⊢; have hyb9 := (hgs.block by1 (lt_at HYB8.out) (by simp [Value.ownBlock])).trans HYB8.out; have y5' := cell_at hyb9 5; have f5' := free_at hyb9 5; have hgse : gs = W8.heap.size := has.elim (fun h => by simp [Value.ownBlock] at h) id; have HOS9 := hid hos; have HB89 := hid (show Below W8.heap.size W8 w9 from ⟨hgs.os, hgs.tape, hgs.output, hgs.size, fun k hk => hgs.block k hk (by simp [Value.ownBlock])⟩); have HYB9 := hid hyb9; have HGE := hid hgse; clear hos hgs has hyb9 hgse)
  obtain ⟨WA, hWA⟩ : ∃ V, w9.setCell ⟨by1, 5, none⟩ (.slice (some ⟨gs, 0, none⟩) N caps) = V := ⟨_, rfl⟩
  have hybA : WA.heap[by1]? = some (.cells #[.int .i64 X1.kind, .int .u32 (X1.id : Nat), .int .i64 X1.row, .int .i64 X1.place, .int .i64 X1.width, .slice (some ⟨gs, 0, none⟩) N caps] 39 (0, 0)) := by rw [← hWA]; exact set_at HYB9.out 5 _
  have hbA : Below W6.heap.size W6 WA := by rw [← hWA]; exact bl_set (HB68.out.comp HB89.out) (p := ⟨by1, 5, none⟩) (Nat.le_of_eq HYE.out) _
  have hgy : gs ≠ by1 := by have := lt_at HYB8.out; have := HGE.out; omega
  have hosA : OwS 59 W8.heap.size WA (.slice (some ⟨gs, 0, none⟩) N caps) X1.slots := by rw [← hWA]; exact HOS9.out.kept (grown_set w9 by1 5 _) (.inr (by simp [Value.ownBlock]; exact hgy))
  rw [hWA]
  obtain ⟨s, hs⟩ : ∃ s, X1.slots.getD 0 Slot.zero = s := ⟨_, rfl⟩
  obtain ⟨k0, _, f0, _, hgB, hgL, hgc1, hgc2⟩ := hosA.first HXL.out.symm (by rw [HXL.out]; exact hN1)
  have hsm : s ∈ X1.slots := by rw [← hs]; exact slot_at XC1.out.1 hN1
  have hskey := XF1.out.2 s hsm
  have hsok := XC1.out.1.2 s hsm
  have hsseq : s.seq < 281474976710656 := hsok.2.2
  rw [hs] at k0
  have hosA' := OwS.setKey (hosA.drewN 0) HXL.out.symm (by rw [HXL.out]; exact hN1)
  have HSE := hid hs
  have HOSA := hid hosA
  have HYBA := hid hybA
  have HBA6 := hid hbA
  have hc1 : (N : Int) ≤ (caps : Int) := by omega
  have hc2 : (caps : Int) ≤ 9223372036854775807 := by unfold maxLen at hgc2; omega
  have y5 := cell_at hybA 5
  have hx1 : bits .xor .u32 (s.key : Int) (ky : Int) = ((s.key ^^^ ky : Nat) : Int) := xor_u32 _ _ hskey hky
  have HGY := hid hgy
  have hn0 : (0 : Int) < (N : Int) := by omega
  clear hWA hybA hbA hosA hosA' hs hgy f5 y5' f5' x5
  refine wp_region_quiet_tail 11 (by kernel_rfl) (by kernel_rfl) ?_
  simp only [List.take_succ_cons, List.take_zero, List.drop_succ_cons, List.drop_zero]
  repeat (go_big_quiet_step (fail))
  refine wpQuiet_nil ?_
  intro _ hw'
  obtain ⟨nq, hw''⟩ := hw'
  subst hw''
  go_upto_region 14 with (fail)
  obtain ⟨WB, hWB⟩ : ∃ V, (WA.drewN nq).setCell ⟨gs, 0, none⟩ (.int .u32 ((s.key ^^^ ky : Nat) : Int)) = V := ⟨_, rfl⟩
  have hosB := OwS.setKey (HOSA.out.drewN nq) HXL.out.symm (by rw [HXL.out]; exact hN1) (s.key ^^^ ky)
  rw [HSE.out, hWB] at hosB
  rw [hWB]
  obtain ⟨l1, hl1⟩ : ∃ l, X1.slots.set 0 ⟨s.key ^^^ ky, s.st, s.seq⟩ = l := ⟨_, rfl⟩
  rw [hl1] at hosB
  have hl1n : l1.length = N := by rw [← hl1, List.length_set, HXL.out]
  have hl1g : l1.getD 0 Slot.zero = ⟨s.key ^^^ ky, s.st, s.seq⟩ := by rw [← hl1]; exact set0_get (by rw [HXL.out]; exact hN1) _
  obtain ⟨_, k2, _, f2, _, _, _, _⟩ := hosB.first hl1n.symm (by omega)
  rw [hl1g] at k2
  have k2 : WB.cell? ⟨gs, 2, none⟩ = some (.int .u64 (s.seq : Nat)) := k2
  have hybB : WB.heap[by1]? = some (.cells #[.int .i64 X1.kind, .int .u32 (X1.id : Nat), .int .i64 X1.row, .int .i64 X1.place, .int .i64 X1.width, .slice (some ⟨gs, 0, none⟩) N caps] 39 (0, 0)) := by rw [← hWB]; exact (set_other (w := WA.drewN nq) (a := ⟨gs, 0, none⟩) HGY.out.symm).trans HYBA.out
  have hge : W6.heap.size ≤ gs := Nat.le_trans HB68.out.size hgB
  have hbB6 : Below W6.heap.size W6 WB := by rw [← hWB]; exact bl_set (HBA6.out.drewN nq) (p := ⟨gs, 0, none⟩) hge _
  have hx2 : bits .xor .u64 (s.seq : Int) (sq : Int) = ((s.seq ^^^ sq : Nat) : Int) := xor_u64 _ _ (by omega) hsq
  have HOSB := hid hosB
  have HYBB := hid hybB
  have HBB6 := hid hbB6
  have HL1 := hid hl1
  have HL1N := hid hl1n
  have HL1G := hid hl1g
  have y5 := cell_at hybB 5
  clear hWB hosB hybB hbB6 hl1 hl1n hl1g k0 f0 hx1
  refine wp_region_quiet_tail 12 (by kernel_rfl) (by kernel_rfl) ?_
  simp only [List.take_succ_cons, List.take_zero, List.drop_succ_cons, List.drop_zero]
  repeat (go_big_quiet_step (fail))
  refine wpQuiet_nil ?_
  intro _ hw'
  obtain ⟨nq2, hw''⟩ := hw'
  subst hw''
  go_upto_region 15 with (fail)
  obtain ⟨WC, hWC⟩ : ∃ V, (WB.drewN nq2).setCell ⟨gs, 2, none⟩ (.int .u64 (((s.seq ^^^ sq) % 281474976710656 : Nat) : Int)) = V := ⟨_, rfl⟩
  have hosC := OwS.setSeq (HOSB.out.drewN nq2) HL1N.out.symm (by rw [HL1N.out]; exact hN1) ((s.seq ^^^ sq) % 281474976710656)
  rw [HL1G.out, ← HL1.out, hWC, List.set_set] at hosC
  rw [md48, hWC]
  have hgc := hosC
  obtain ⟨Y, hY⟩ : ∃ Y, bndH ky sq X1 = Y := ⟨_, rfl⟩
  have hysl : OwS 59 W8.heap.size WC (.slice (some ⟨gs, 0, none⟩) N caps) Y.slots := by rw [← hY]; unfold bndH bndS; rw [HSE.out]; exact hosC
  have hybC : WC.heap[by1]? = some (.cells #[.int .i64 X1.kind, .int .u32 (X1.id : Nat), .int .i64 X1.row, .int .i64 X1.place, .int .i64 X1.width, .slice (some ⟨gs, 0, none⟩) N caps] 39 (0, 0)) := by rw [← hWC]; exact (set_other (w := WB.drewN nq2) (a := ⟨gs, 2, none⟩) HGY.out.symm).trans HYBB.out
  have hbC6 : Below W6.heap.size W6 WC := by rw [← hWC]; exact bl_set (HBB6.out.drewN nq2) (p := ⟨gs, 2, none⟩) hge _
  have YW : Hid Y.Wf := hid (by rw [← hY]; exact bndH_wf hN1 XC1.out.1 hky XW1.out)
  have YF : Hid Y.Fit := hid (by rw [← hY]; exact bndH_fit hN1 XC1.out.1 hky XF1.out)
  have YC : Hid (CanB S N Y R1) := hid (by rw [← hY]; exact bndH_can hN1 XC1.out)
  have YH : Hid (∀ V, SlR V (.slice (some ⟨gs, 0, none⟩) N caps) Y.slots → HdV V (.agg #[.int .i64 X1.kind, .int .u32 (X1.id : Nat), .int .i64 X1.row, .int .i64 X1.place, .int .i64 X1.width, .slice (some ⟨gs, 0, none⟩) N caps]) Y) := hid fun V h => ⟨.slice (some ⟨gs, 0, none⟩) N caps, by rw [← hY]; rfl, h⟩
  have HZSC := hid hysl.slr
  have HYBC := hid hybC
  have HYE2 := hid hY
  have HXBC := hid ((hbC6.block bx1 (lt_at HXB6.out)).trans HXB6.out)
  have HYSC := hid (HYS6.out.below hbC6)
  have HYRC := hid (HYR6.out.below hbC6)
  have HLBC := hid ((hbC6.block lb (lt_at HLB6.out)).trans HLB6.out)
  have HFC := hid (HF6.out.below hbC6)
  have HBC := hid (HB6.out.comp hbC6)
  have HRPC := hid (HRP6.out.below hbC6)
  have x0 := cell_at HYBC.out 0
  have x1 := cell_at HYBC.out 1
  have x2 := cell_at HYBC.out 2
  have x3 := cell_at HYBC.out 3
  have x4 := cell_at HYBC.out 4
  have x5 := cell_at HYBC.out 5
  clear hWC hosC hgc hysl hybC hbC6 hY hx2 y5 k2 f2 hge hgB hgL hgc1 hgc2
  go_wp2_with fail
  refine (pack_any f S N T mw mh _ _ Y R1 WC HL.out HFC.out (YH.out WC HZSC.out) YW.out HYRC.out XL1.out YC.out).mono ?_
  rintro e WD ⟨⟨qv, rfl, hown⟩, hbD⟩
  have hqlen : (packB S N T mw mh Y R1).length = n := (packB_len YC.out).trans HN.out
  obtain ⟨qg, qc, rfl, _, _⟩ := hown.ow (by rw [hqlen]; omega)
  rw [hqlen] at hown ⊢
  have HRQD := hid hown.rd
  have hqcc := hown.caps
  have hqc1 : (n : Int) ≤ (qc : Int) := by have := hqcc.1; have := hqcc.2.1; omega
  have hqc2 : (qc : Int) ≤ 9223372036854775807 := by have := hqcc.2.2; unfold maxLen at this; omega
  have HXBD := hid ((hbD.block bx1 (lt_at HXBC.out)).trans HXBC.out)
  have HYSD := hid (HYSC.out.below hbD)
  have HYRD := hid (HYRC.out.below hbD)
  have HLBD := hid ((hbD.block lb (lt_at HLBC.out)).trans HLBC.out)
  have HFD := hid (HFC.out.below hbD)
  have HBD := hid (HBC.out.comp hbD)
  have HRPD := hid (HRPC.out.below hbD)
  have HYBD := hid ((hbD.block by1 (lt_at HYBC.out)).trans HYBC.out)
  have HZSD := hid (HZSC.out.below hbD)
  clear hown hbD hqlen hqcc x0 x1 x2 x3 x4 x5
  have l6 := HLBD.out
  have q0 := cell_at l6 0
  have q2 := cell_at l6 2
  have hi4 : ((S : Int) + 4) = ((S + 4 : Nat) : Int) := by omega
  have HI4 := hid hi4
  clear hi4 l6
  go_wp2_with fail
  rw [HI4.out]
  refine (rnew_any (S + 4) T mw _ HL.out.pw).mono ?_
  rintro e w7 ⟨⟨rcv, rfl, hrc⟩, hb7⟩
  obtain ⟨gv, rfl, hgr⟩ := hrc
  have HGR := hid hgr
  obtain ⟨ga, gc, rfl, _⟩ := hgr
  generalize hgl : (Gf.gen mw T).reverse.length = gl at *
  have HGL := hid hgl
  have HB67 := hid hb7
  clear hgl hb7 q0 q2
  go_upto_region 17 with (fail)
  obtain ⟨kb, hkb⟩ : ∃ b, w7.heap.size = b := ⟨_, rfl⟩
  obtain ⟨WE, hWE⟩ : ∃ V, w7.alloc (.cells #[.int .i64 (mw : Nat), .int .i64 ((S : Int) + 4), .int .i64 (T : Nat), .slice ga gl gc] 51) = V := ⟨_, rfl⟩
  rw [hWE, hkb]
  have hb78 : Below w7.heap.size w7 WE := by rw [← hWE]; exact (Below.refl _ _).alloc (Nat.le_refl _) _
  have hkc : WE.heap[kb]? = some (.cells #[.int .i64 (mw : Nat), .int .i64 ((S : Int) + 4), .int .i64 (T : Nat), .slice ga gl gc] 51 (0, 0)) := by rw [← hWE]; exact alloc_at hkb.symm
  have hbE := HB67.out.comp hb78
  have KCE := hid hkc
  have RCE : Hid (RC WE (.agg #[.int .i64 (mw : Nat), .int .i64 ((S : Int) + 4), .int .i64 (T : Nat), .slice ga gl gc]) (S + 4) T mw) := hid ⟨_, rfl, HGR.out.below hb78⟩
  have HXBE := hid ((hbE.block bx1 (lt_at HXBD.out)).trans HXBD.out)
  have HYSE := hid (HYSD.out.below hbE)
  have HYRE := hid (HYRD.out.below hbE)
  have HLBE := hid ((hbE.block lb (lt_at HLBD.out)).trans HLBD.out)
  have HFE := hid (HFD.out.below hbE)
  have HBE := hid (HBD.out.comp hbE)
  have HRPE := hid (HRPD.out.below hbE)
  have HYBE := hid ((hbE.block by1 (lt_at HYBD.out)).trans HYBD.out)
  have HZSE := hid (HZSD.out.below hbE)
  have HRQE := hid (HRQD.out.below hbE)
  clear hWE hb78 hkc hbE hkb
  obtain ⟨pw, hpw⟩ : ∃ p, (rr mw T + 7) / 8 = p := ⟨_, rfl⟩
  have hpw14 : pw ≤ 14 := by have := HL.out.pw.r.2.2.2.1; omega
  obtain ⟨wd, hwd⟩ : ∃ wd, S + 4 + pw = wd := ⟨_, rfl⟩
  have hwd1 : wdB S T mw = wd := by rw [← hwd, ← hpw]; rfl
  have hwd100 : wd ≤ 100 := by omega
  obtain ⟨sz, hsz⟩ : ∃ sz, N * wd = sz := ⟨_, rfl⟩
  have hsz300 : sz ≤ 300 := by rw [← hsz]; exact Nat.mul_le_mul hN3 hwd100
  have hszi : (N : Int) * ((S : Int) + 4 + (pw : Int)) = ((sz : Nat) : Int) := by rw [← hsz, ← hwd]; push_cast; rfl
  have hszn : sz + (9 + 11 * N + 4) ≤ n := by rw [← HN.out, ← hsz, ← hwd1]; unfold pageB lastB; omega
  have hsz1 : 1 ≤ sz := by rw [← hsz]; exact Nat.mul_pos hN1 (by omega)
  have HPARW : Hid (∀ V, Below WE.heap.size WE V → Calls Try.prog 18 #[.agg #[.int .i64 (mw : Nat), .int .i64 ((S : Int) + 4), .int .i64 (T : Nat), .slice ga gl gc]] V fun e w' => e = .returned (.int .i64 (pw : Nat)) ∧ Below V.heap.size V w') := hid fun V hV => by
    rw [← hpw]; exact rParity_any _ (S + 4) T mw V HL.out.pw (RCE.out.below hV)
  have c0 : ∀ d os, (grow (redrawn WE d) os).cell? ⟨lb, 0, none⟩ = some (.int .i64 (S : Nat)) := fun d os => cell_regrown (cell_at HLBE.out 0) d os
  have c1 : ∀ d os, (grow (redrawn WE d) os).cell? ⟨lb, 1, none⟩ = some (.int .i64 (N : Nat)) := fun d os => cell_regrown (cell_at HLBE.out 1) d os
  have k0 : ∀ d os, (grow (redrawn WE d) os).cell? ⟨kb, 0, none⟩ = some (.int .i64 (mw : Nat)) := fun d os => cell_regrown (cell_at KCE.out 0) d os
  have k1 : ∀ d os, (grow (redrawn WE d) os).cell? ⟨kb, 1, none⟩ = some (.int .i64 ((S : Int) + 4)) := fun d os => cell_regrown (cell_at KCE.out 1) d os
  have k2 : ∀ d os, (grow (redrawn WE d) os).cell? ⟨kb, 2, none⟩ = some (.int .i64 (T : Nat)) := fun d os => cell_regrown (cell_at KCE.out 2) d os
  have k3 : ∀ d os, (grow (redrawn WE d) os).cell? ⟨kb, 3, none⟩ = some (.slice ga gl gc) := fun d os => cell_regrown (cell_at KCE.out 3) d os
  have hx1 : IntKind.i64.wrap ((S : Int) + 4) = (S : Int) + 4 := IntWalk.i64_in _ (by omega)
  have hx2 : IntKind.i64.wrap ((S : Int) + 4 + (pw : Int)) = (S : Int) + 4 + (pw : Int) := IntWalk.i64_in _ (by omega)
  have hx3 : IntKind.i64.wrap ((N : Int) * ((S : Int) + 4 + (pw : Int))) = ((sz : Nat) : Int) := by rw [hszi]; exact IntWalk.i64_in _ (by omega)
  have HWD := hid hwd1
  have HSZ := hid (show sz = N * wdB S T mw by rw [hwd1, hsz])
  clear hpw hwd hsz hszi hwd1
  refine wp_region_quiet_below (by kernel_rfl) (by kernel_rfl) ?_
  repeat (go_big_quiet_step ((go_at_call 18; exact Calls.regrown_of (HPARW.out _ (below_regrown _ _ _)))))
  refine wpQuiet_nil ?_
  intro _ hw'
  obtain ⟨⟨dq, osq⟩, hw''⟩ := hw'
  subst hw''
  have hbG := below_regrown WE dq osq
  generalize grow (redrawn WE dq) osq = WG at *
  have HXBG := hid ((hbG.block bx1 (lt_at HXBE.out)).trans HXBE.out)
  have HYSG := hid (HYSE.out.below hbG)
  have HYRG := hid (HYRE.out.below hbG)
  have HLBG := hid ((hbG.block lb (lt_at HLBE.out)).trans HLBE.out)
  have HFG := hid (HFE.out.below hbG)
  have HBG := hid (HBE.out.comp hbG)
  have HRPG := hid (HRPE.out.below hbG)
  have HYBG := hid ((hbG.block by1 (lt_at HYBE.out)).trans HYBE.out)
  have HZSG := hid (HZSE.out.below hbG)
  have HRQG := hid (HRQE.out.below hbG)
  clear hbG c0 c1 k0 k1 k2 k3 hx1 hx2 hx3
  go_wp2_with fail
  refine (bytes_any f S N T mw mh WG HFG.out HL.out.pw HL.out.ph HL.out.s2 hN8).mono ?_
  rintro e w9 ⟨rfl, nbI, rfl⟩
  rw [byB_page, HN.out]
  obtain ⟨WI, hWI⟩ : ∃ V, WG.drewN nbI = V := ⟨_, rfl⟩
  have hbI : Below WG.heap.size WG WI := by rw [← hWI]; exact (Below.refl _ _).drewN _
  rw [hWI]
  have HXBI := hid ((hbI.block bx1 (lt_at HXBG.out)).trans HXBG.out)
  have HYSI := hid (HYSG.out.below hbI)
  have HYRI := hid (HYRG.out.below hbI)
  have HLBI := hid ((hbI.block lb (lt_at HLBG.out)).trans HLBG.out)
  have HFI := hid (HFG.out.below hbI)
  have HBI := hid (HBG.out.comp hbI)
  have HRPI := hid (HRPG.out.below hbI)
  have HYBI := hid ((hbI.block by1 (lt_at HYBG.out)).trans HYBG.out)
  have HZSI := hid (HZSG.out.below hbI)
  have HRQI := hid (HRQG.out.below hbI)
  clear hWI hbI
  go_wp2_with fail
  refine (bytes_any f S N T mw mh WI HFI.out HL.out.pw HL.out.ph HL.out.s2 hN8).mono ?_
  rintro e w9 ⟨rfl, nbJ, rfl⟩
  rw [byB_page, HN.out]
  obtain ⟨WJ, hWI⟩ : ∃ V, WI.drewN nbJ = V := ⟨_, rfl⟩
  have hbI : Below WI.heap.size WI WJ := by rw [← hWI]; exact (Below.refl _ _).drewN _
  rw [hWI]
  have HXBJ := hid ((hbI.block bx1 (lt_at HXBI.out)).trans HXBI.out)
  have HYSJ := hid (HYSI.out.below hbI)
  have HYRJ := hid (HYRI.out.below hbI)
  have HLBJ := hid ((hbI.block lb (lt_at HLBI.out)).trans HLBI.out)
  have HFJ := hid (HFI.out.below hbI)
  have HBJ := hid (HBI.out.comp hbI)
  have HRPJ := hid (HRPI.out.below hbI)
  have HYBJ := hid ((hbI.block by1 (lt_at HYBI.out)).trans HYBI.out)
  have HZSJ := hid (HZSI.out.below hbI)
  have HRQJ := hid (HRQI.out.below hbI)
  clear hWI hbI
  have y0 := cell_at HXBJ.out 0
  have y1 := cell_at HXBJ.out 1
  have y2 := cell_at HXBJ.out 2
  have y3 := cell_at HXBJ.out 3
  have y4 := cell_at HXBJ.out 4
  have y5 := cell_at HXBJ.out 5
  have z0 := cell_at HYBJ.out 0
  have z1 := cell_at HYBJ.out 1
  have z2 := cell_at HYBJ.out 2
  have z3 := cell_at HYBJ.out 3
  have z4 := cell_at HYBJ.out 4
  have z5 := cell_at HYBJ.out 5
  go_wp2_with fail
  refine (sameHead_any _ _ X1 Y WJ ⟨_, rfl, HYSJ.out⟩ (YH.out WJ HZSJ.out) XW1.out YW.out).mono ?_
  rintro e WL ⟨sm, rfl, hsm, hbL⟩
  have HSM9 := hid hsm
  have HXBL := hid ((hbL.block bx1 (lt_at HXBJ.out)).trans HXBJ.out)
  have HYSL := hid (HYSJ.out.below hbL)
  have HYRL := hid (HYRJ.out.below hbL)
  have HLBL := hid ((hbL.block lb (lt_at HLBJ.out)).trans HLBJ.out)
  have HFL := hid (HFJ.out.below hbL)
  have HBL := hid (HBJ.out.comp hbL)
  have HRPL := hid (HRPJ.out.below hbL)
  have HYBL := hid ((hbL.block by1 (lt_at HYBJ.out)).trans HYBJ.out)
  have HZSL := hid (HZSJ.out.below hbL)
  have HRQL := hid (HRQJ.out.below hbL)
  clear hsm hbL y0 y1 y2 y3 y4 y5 z0 z1 z2 z3 z4 z5
  cases sm with
  | true =>
    have hXY := HSM9.out.1 rfl
    have k1 := conv_rd HRPL.out
    have k2 := conv_rd HRQL.out
    rw [← hXY] at k2
    generalize sv (packB S N T mw mh X1 R1) = str at *
    have HBF := hid HBL.out
    clear hXY HSM9
    go_wp2_with fail
    go_ret
    exact ⟨by simp, HBF.out⟩
  | false =>
    have hXY : X1 ≠ Y := fun e => by have := HSM9.out.2 e; cases this
    have hlenP : (packB S N T mw mh X1 R1).length = n := (packB_len XC1.out).trans HN.out
    have hlenQ : (packB S N T mw mh Y R1).length = n := (packB_len YC.out).trans HN.out
    have rdA := rd_cut HRPL.out hlenP 0 sz pc (by omega) (by omega) (by unfold maxLen; omega)
    rw [cut_zero, Nat.add_zero] at rdA
    have RDA := hid rdA
    have hlA : ((packB S N T mw mh X1 R1).take sz).length = sz := by rw [List.length_take]; omega
    have HLA := hid hlA
    have hlB : ((packB S N T mw mh Y R1).drop sz).length = n - sz := by rw [List.length_drop]; omega
    have HLB9 := hid hlB
    obtain ⟨hm1, hm2, W0, R0, fl, hop, hwl, hbad⟩ := opn_mixed HL.out XC1.out YC.out YF.out XL1.out (l := (packB S N T mw mh X1 R1).take sz ++ (packB S N T mw mh Y R1).drop sz) (by rw [HSZ.out])
    have HM1 := hid hm1
    have HM2 := hid hm2
    have HOP := hid hop
    have HWL := hid hwl
    have HBAD := hid hbad
    have HXY := hid hXY
    have HLP := hid hlenP
    have HLQ := hid hlenQ
    clear hXY hlenP hlenQ rdA hlA hlB hm1 hm2 hop hwl hbad HSM9
    have hs1 : (0 : Int) ≤ (sz : Int) := by omega
    have hs2 : (sz : Int) ≤ (pc : Int) := by omega
    have hs3 : (sz : Int) ≤ (n : Int) := by omega
    go_upto_region 25 with (at_builtin; refine app_row el_byte rfl _ _ rfl WL.heap.size (.slice none 0 0) [] (by rfl) (Own.nil _ _ _ _) ((packB S N T mw mh X1 R1).take sz) (by exact RDA.out) (by rw [HLA.out]; omega) (by rw [HLA.out]; simp; omega) (Nat.le_refl _) ?_; intro g1 cap1 wm hown hgm hatm; simp only [List.length_nil, Nat.zero_add, List.nil_append] at hown ⊢; rw [HLA.out] at hown ⊢; have HOW1 := hid hown; have hbM : Below WL.heap.size WL wm := ⟨hgm.os, hgm.tape, hgm.output, hgm.size, fun k hk => hgm.block k hk (by simp [Value.ownBlock])⟩; have HBLM := hid hbM; clear hown hgm hatm hbM)
    have HXBM := hid ((HBLM.out.block bx1 (lt_at HXBL.out)).trans HXBL.out)
    have HYSM := hid (HYSL.out.below HBLM.out)
    have HYRM := hid (HYRL.out.below HBLM.out)
    have HLBM := hid ((HBLM.out.block lb (lt_at HLBL.out)).trans HLBL.out)
    have HFM := hid (HFL.out.below HBLM.out)
    have HBM := hid (HBL.out.comp HBLM.out)
    have HRPM := hid (HRPL.out.below HBLM.out)
    have HYBM := hid ((HBLM.out.block by1 (lt_at HYBL.out)).trans HYBL.out)
    have HZSM := hid (HZSL.out.below HBLM.out)
    have HRQM := hid (HRQL.out.below HBLM.out)
    have rdB := rd_cut HRQM.out HLQ.out sz (n - sz) (qc - sz) (by omega) (by omega) (by unfold maxLen; omega)
    rw [cut_rest (by rw [HLQ.out]; omega), Nat.zero_add] at rdB
    have RDB := hid rdB
    have hs4 : (sz : Int) ≤ (qc : Int) := by omega
    clear rdB
    go_upto_region 26 with (at_builtin; refine app_row el_byte rfl _ _ rfl WL.heap.size (.slice (some ⟨g1, 0, none⟩) sz cap1) ((packB S N T mw mh X1 R1).take sz) (by rfl) HOW1.out ((packB S N T mw mh Y R1).drop sz) (by exact RDB.out) (by rw [HLB9.out]; omega) (by rw [HLA.out, HLB9.out]; omega) HBLM.out.size ?_; rw [HLA.out, HLB9.out, show sz + (n - sz) = n by omega]; intro g2 cap2 wn hown hgn hatn; have hbN : Below WL.heap.size WL wn := grow_below HBLM.out HBLM.out.size hgn (fun g hg => (HOW1.out.blk g hg).1); have HOW2 := hid hown; have HBLN := hid hbN; clear hown hgn hatn hbN)
    have HXBN := hid ((HBLN.out.block bx1 (lt_at HXBL.out)).trans HXBL.out)
    have HYSN := hid (HYSL.out.below HBLN.out)
    have HYRN := hid (HYRL.out.below HBLN.out)
    have HLBN := hid ((HBLN.out.block lb (lt_at HLBL.out)).trans HLBL.out)
    have HFN := hid (HFL.out.below HBLN.out)
    have HBN := hid (HBL.out.comp HBLN.out)
    have HRPN := hid (HRPL.out.below HBLN.out)
    have HYBN := hid ((HBLN.out.block by1 (lt_at HYBL.out)).trans HYBL.out)
    have HZSN := hid (HZSL.out.below HBLN.out)
    have HRQN := hid (HRQL.out.below HBLN.out)
    have HUN := hid (unpack_any f S N T mw mh _ _ wn HL.out HFN.out HOW2.out.rd HM1.out HM2.out)
    rw [HOP.out] at HUN
    go_wp2_with fail
    refine HUN.out.mono ?_
    rintro e wu ⟨⟨ov, rfl, hov⟩, hbu⟩
    obtain ⟨sa, sc, wa, wc, ra, rl, rc, rfl, hwr⟩ := opv_mixed HWL.out hov
    have HWR := hid hwr
    have HLBU := hid ((hbu.block lb (lt_at HLBN.out)).trans HLBN.out)
    have HBU := hid (HBLN.out.comp hbu)
    clear hov hwr hbu HUN
    go_upto_region 27 with (fail)
    obtain ⟨ob, hobE⟩ : ∃ b, wu.heap.size = b := ⟨_, rfl⟩
    obtain ⟨V, hV⟩ : ∃ V, wu.alloc (.cells #[.bool false, .int .i64 1, .int .i64 Y.kind, .int .u32 (Y.id : Nat), .int .i64 Y.row, .int .i64 Y.place, .int .i64 Y.width, .slice sa Y.slots.length sc, .slice wa N wc, .slice ra rl rc, .int .i64 (fl : Nat)] 42) = V := ⟨_, rfl⟩
    have hbV : Below wu.heap.size wu V := by rw [← hV]; exact (Below.refl _ _).alloc (Nat.le_refl _) _
    have hob : V.heap[ob]? = some (.cells #[.bool false, .int .i64 1, .int .i64 Y.kind, .int .u32 (Y.id : Nat), .int .i64 Y.row, .int .i64 Y.place, .int .i64 Y.width, .slice sa Y.slots.length sc, .slice wa N wc, .slice ra rl rc, .int .i64 (fl : Nat)] 42 (0, 0)) := by rw [← hV]; exact alloc_at hobE.symm
    rw [hV, hobE]
    have p1 := cell_at hob 1
    have p8 := cell_at hob 8
    have q1 := cell_at ((hbV.block lb (lt_at HLBU.out)).trans HLBU.out) 1
    obtain ⟨wa', wc', hwv, t1, t2, t3⟩ := HWR.out.below hbV
    rw [HWL.out] at hwv t1
    cases hwv
    obtain ⟨wg, wo, rfl, w1c⟩ := t3 0 (by rw [HWL.out]; exact hN1)
    rw [Nat.add_zero] at w1c
    obtain ⟨wv, hwv⟩ : ∃ wv, W0.getD 0 0 = wv := ⟨_, rfl⟩
    rw [hwv] at w1c
    have HWV := hid hwv
    have t1' : (N : Int) ≤ (wc : Int) := by omega
    have t2' : (wc : Int) ≤ 9223372036854775807 := by unfold maxLen at t2; omega
    have hn0 : (0 : Int) < (N : Int) := by omega
    have HBF := hid ((HBL.out.comp HBU.out).comp hbV)
    clear hV hbV hob hobE t1 t2 t3 hwv
    by_cases h3 : wv = 3
    · subst h3
      go_wp2_with fail
      go_ret
      exact ⟨by simp, HBF.out⟩
    · have d3 : ((wv : Int) == 3) = false := by rw [beq_eq_false_iff_ne]; omega
      have hsum : sumB (X1.slots.getD 0 Slot.zero) (secB S (R1.getD 0 [])) = sumB (Y.slots.getD 0 Slot.zero) (secB S (R1.getD 0 [])) := Classical.byContradiction fun h => h3 (HWV.out.symm.trans (HBAD.out h))
      rw [← HYE2.out] at hsum
      have hbp := bound_plain hN1 XC1.out.1 XF1.out hky (secB_lt (S := S) XL1.out 0) (by rw [HYE2.out]; exact HXY.out) hsum
      clear hsum h3
      by_cases hA : ky ≠ 0 ∧ sq % 281474976710656 ≠ 0
      · have e1 : ((ky : Int) != 0) = true := bne_iff_ne.2 (by omega)
        have e2 : ((sq : Int) % 281474976710656 != 0) = true := bne_iff_ne.2 (by omega)
        clear hbp hA
        go_wp2_with fail
        go_ret
        exact ⟨by simp, HBF.out⟩
      · have hB := hbp.resolve_left hA
        have hk0 : ky = 0 := by omega
        subst hk0
        have e2 : ((sq : Int) / 4294967296 % 65536 != 0) = true := bne_iff_ne.2 (by omega)
        have e3 : ((sq : Int) % 4294967296 != 0) = true := bne_iff_ne.2 (by omega)
        clear hbp hA hB
        go_wp2_with fail
        go_ret
        exact ⟨by simp, HBF.out⟩
end Go.Proofs.Ytoanopegoilcnaa
