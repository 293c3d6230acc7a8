/- Walks over firkinlaw05: PageTorn. -/
import Derived.Test.YtoanopegoilcnaaZPrt
set_option linter.unusedVariables false
namespace Go.Proofs.Ytoanopegoilcnaa
open Go.RowKit Go.Mem Go.Pg Go.Sort

set_option maxRecDepth 100000 in
set_option maxHeartbeats 12800000 in
theorem pageTorn_walk (a b c : Int) (v1 : Value) (hd1 : Head) (v2 : Value) (rows1 : List (List Nat)) (at0 : Int) (za : Option Addr) (zn zc : Nat) (zs : List Int) (w : World) (ha : (Lit.int .i64 a).wf = true) (hb : (Lit.int .i64 b).wf = true) (hc : (Lit.int .i64 c).wf = true)
    (hv1 : HdV w v1 hd1) (hw1 : hd1.Wf) (hr1 : RB w v2 rows1) (hrx1 : ∀ r ∈ rows1, ∀ y ∈ r, y < 256) (hat : (Lit.int .i64 at0).wf = true)
    (hz : RdI .i64 w (.slice za zn zc) zs) (hzl : zs.length = zn) (hzw : ∀ y ∈ zs, (Lit.int .i64 y).wf = true) :
    Calls Try.prog 7 #[.agg #[.int .i64 a, .int .i64 b, .int .i64 c], v1, v2, .int .i64 at0, .slice za zn zc] w fun e w' => e = .returned (.bool true) ∧ Below w.heap.size w w' := by
  have HZ := hid hz
  have HZW := hid hzw
  have hcz : zn ≤ zc ∧ zc ≤ maxLen := by obtain ⟨a', c', he, h1, h2, _⟩ := hz; cases he; exact ⟨by omega, h2⟩
  have hcz1 : (zn : Int) ≤ (zc : Int) := by omega
  have hcz2 : (zc : Int) ≤ 9223372036854775807 := by have := hcz.2; unfold maxLen at this; omega
  have HZL := hid hzl
  have HAT := hid (fun w => abs_any at0 w hat)
  have hatl := absN_le hat
  have HRB1 := hid hr1
  have HRX1 := hid hrx1
  obtain ⟨atn, hatn⟩ : ∃ n, absN at0 = n := ⟨_, rfl⟩
  rw [hatn] at HAT hatl
  clear hz hzw hcz hzl hat hr1 hrx1 hatn
  obtain ⟨mw, mh, hL⟩ := small_lay (absN a) (absN b) (absN c)
  have hS12 : smA (absN a) 12 ≤ 12 := by unfold smA; omega
  have HSM := hid (fun w => small_any a b c w ha hb hc)
  generalize smA (absN a) 12 = S at *
  generalize smA (absN b) 3 = N at *
  generalize smA (absN c) 3 = T at *
  have HNEW := hid (new_any S N T mw mh · hL.pw hL.ph hL.s1 hL.s2 hL.n1 hL.n2)
  have hT8 := hL.t2
  have hT1 := hL.t1
  have hN1 := hL.n1
  have hN8 := hL.n2
  have hpg := pageB_le hL
  have hby : byB S N T mw mh ≤ 4096 := by rw [byB_page]; omega
  have hpg1 : 1 ≤ pageB S N T mw mh := by unfold pageB; omega
  have HL := hid hL
  obtain ⟨zv1, rfl, hsl1⟩ := hv1
  have HSL1 := hid hsl1
  have HWF1 := hid hw1
  clear hsl1 hw1
  clear hL ha hb hc
  go_enter Try.func7, Try.ntmps7
  go_wp2_with fail
  obtain ⟨W, hW⟩ : ∃ W, (w.alloc (.cells #[.int .i64 a, .int .i64 b, .int .i64 c] 23)).alloc (.cells #[.int .i64 hd1.kind, .int .u32 (hd1.id : Nat), .int .i64 hd1.row, .int .i64 hd1.place, .int .i64 hd1.width, zv1] 39) = W := ⟨_, rfl⟩
  have hlb : W.heap[w.heap.size]? = some (.cells #[.int .i64 a, .int .i64 b, .int .i64 c] 23 (0, 0)) := by rw [← hW]; exact (alloc_old (by simp; try omega)).trans (alloc_new w _)
  have hhb1 : W.heap[w.heap.size + 1]? = some (.cells #[.int .i64 hd1.kind, .int .u32 (hd1.id : Nat), .int .i64 hd1.row, .int .i64 hd1.place, .int .i64 hd1.width, zv1] 39 (0, 0)) := by rw [← hW]; exact alloc_at (by simp)
  have hbW : Below w.heap.size w W := by rw [← hW]; exact bl_alloc (bl_alloc (Below.refl _ _) _) _
  rw [hW]
  refine (awake_any _).mono ?_
  rintro e w1 ⟨rfl, hb1⟩
  obtain ⟨kb1, hhE1⟩ : ∃ b, w.heap.size + 1 = b := ⟨_, rfl⟩
  obtain ⟨lb, hlE⟩ : ∃ b, w.heap.size = b := ⟨_, rfl⟩
  rw [hhE1] at hhb1 ⊢
  rw [hlE] at hlb ⊢
  have hlb1 := (hb1.block lb (lt_at hlb)).trans hlb
  have HHB11 := hid ((hb1.block kb1 (lt_at hhb1)).trans hhb1)
  have HHE1 := hid hhE1
  have hne1 : lb ≠ kb1 := by omega
  have HB1 := hid (hbW.comp hb1)
  have HLE := hid hlE
  have q0 := cell_at hlb1 0
  have q1 := cell_at hlb1 1
  have q2 := cell_at hlb1 2
  have HLB1 := hid hlb1
  clear hW hbW hlb hb1 hlb1 hlE hhb1 hhE1
  go_wp2_with fail
  refine (HSM.out _).mono ?_
  rintro e w2 ⟨rfl, hb2⟩
  have hlb2 := (hb2.block lb (lt_at HLB1.out)).trans HLB1.out
  have HHB21 := hid ((hb2.block kb1 (lt_at HHB11.out)).trans HHB11.out)
  have p0 := cell_at hlb2 0
  have p1 := cell_at hlb2 1
  have p2 := cell_at hlb2 2
  have f0 := free_at hlb2 0
  have f1 := free_at hlb2 1
  have f2 := free_at hlb2 2
  have HLB2 := hid hlb2
  have HB2 := hid (HB1.out.comp hb2)
  clear hb2 hlb2 q0 q1 q2
  go_upto_region 5 with (fail)
  have hge : w.heap.size ≤ lb := Nat.le_of_eq HLE.out
  have s2 := set_at (set_at (set_at HLB2.out 0 (.int .i64 (S : Nat))) 1 (.int .i64 (N : Nat))) 2 (.int .i64 (T : Nat))
  have hb3 := bl_set (bl_set (bl_set HB2.out (p := ⟨lb, 0, none⟩) hge (.int .i64 (S : Nat))) (p := ⟨lb, 1, none⟩) hge (.int .i64 (N : Nat))) (p := ⟨lb, 2, none⟩) hge (.int .i64 (T : Nat))
  have hhb31 := (set_other (w := (w2.setCell ⟨lb, 0, none⟩ (.int .i64 (S : Nat))).setCell ⟨lb, 1, none⟩ (.int .i64 (N : Nat))) (a := ⟨lb, 2, none⟩) (v := .int .i64 (T : Nat)) hne1.symm).trans ((set_other (w := w2.setCell ⟨lb, 0, none⟩ (.int .i64 (S : Nat))) (a := ⟨lb, 1, none⟩) (v := .int .i64 (N : Nat)) hne1.symm).trans ((set_other (w := w2) (a := ⟨lb, 0, none⟩) (v := .int .i64 (S : Nat)) hne1.symm).trans HHB21.out))
  obtain ⟨W3, hW3⟩ : ∃ W3, ((w2.setCell ⟨lb, 0, none⟩ (.int .i64 (S : Nat))).setCell ⟨lb, 1, none⟩ (.int .i64 (N : Nat))).setCell ⟨lb, 2, none⟩ (.int .i64 (T : Nat)) = W3 := ⟨_, rfl⟩
  rw [hW3] at s2 hb3 ⊢
  rw [hW3] at hhb31
  have HHB31 := hid hhb31
  clear hhb31
  have hlb3 : W3.heap[lb]? = some (.cells #[.int .i64 (S : Nat), .int .i64 (N : Nat), .int .i64 (T : Nat)] 23 (0, 0)) := s2
  have HLB3 := hid hlb3
  have HB3 := hid hb3
  have q0 := cell_at hlb3 0
  have q1 := cell_at hlb3 1
  have q2 := cell_at hlb3 2
  clear hW3 s2 hb3 hlb3 p0 p1 p2 f0 f1 f2
  go_wp2_with fail
  refine (HNEW.out _).mono ?_
  rintro e w4 ⟨hr, hb4⟩
  rw [if_pos hby] at hr
  obtain ⟨f, hf0, rfl, hf⟩ := hr
  have HF := hid hf
  have HLB4 := hid ((hb4.block lb (lt_at HLB3.out)).trans HLB3.out)
  have HHB41 := hid ((hb4.block kb1 (lt_at HHB31.out)).trans HHB31.out)
  have HB4 := hid (HB3.out.comp hb4)
  clear hf hb4 q0 q1 q2
  have hl4 := HLB4.out
  have hh4 := HHB41.out
  have q0 := cell_at hl4 0
  have q1 := cell_at hl4 1
  have q2 := cell_at hl4 2
  have g0 := cell_at hh4 0
  have g1 := cell_at hh4 1
  have g2 := cell_at hh4 2
  have g3 := cell_at hh4 3
  have g4 := cell_at hh4 4
  have g5 := cell_at hh4 5
  clear hl4 hh4
  go_wp2_with fail
  refine (right_any S N T hd1 _ _ rows1 _ HL.out.s2 hN8 ⟨_, rfl, HSL1.out.below HB4.out⟩ HWF1.out (HRB1.out.below HB4.out) HRX1.out).mono ?_
  rintro e wr1 ⟨⟨yv1, rv1, rfl, hsl, hrb⟩, hbr⟩
  obtain ⟨ya1, yn1, yc1, hyv⟩ : ∃ a n c, yv1 = .slice a n c := by obtain ⟨a, c, e, _⟩ := hsl; exact ⟨_, _, _, e⟩
  subst hyv
  obtain ⟨X1, hX1⟩ : ∃ X, rtH N hd1 = X := ⟨_, rfl⟩
  obtain ⟨R1, hR1⟩ : ∃ R, rtS S N rows1 = R := ⟨_, rfl⟩
  rw [hX1] at hsl ⊢
  rw [hR1] at hrb
  have XW1 : Hid X1.Wf := hid (by rw [← hX1]; exact rtH_wf HWF1.out hN8)
  have XF1 : Hid X1.Fit := hid (by rw [← hX1]; exact rtH_fit HWF1.out hN8)
  have XC1 : Hid (CanB S N X1 R1) := hid (by rw [← hX1, ← hR1]; exact rtS_can S N hd1 rows1)
  have XL1 : Hid (∀ x ∈ R1, ∀ y ∈ x, y < 256) := hid (by rw [← hR1]; exact rtS_lt HRX1.out)
  have XSL := hid hsl
  have XRB := hid hrb
  have BR := hid hbr
  have HXE1 := hid hX1
  have HRE1 := hid hR1
  clear hsl hrb hbr hX1 hR1 q0 q1 q2 g0 g1 g2 g3 g4 g5
  go_upto_region 9 with (fail)
  obtain ⟨bx1, hbxE⟩ : ∃ b, wr1.heap.size = b := ⟨_, rfl⟩
  obtain ⟨W5, hWx⟩ : ∃ V, wr1.alloc (.cells #[.int .i64 X1.kind, .int .u32 (X1.id : Nat), .int .i64 X1.row, .int .i64 X1.place, .int .i64 X1.width, .slice ya1 yn1 yc1] 39) = V := ⟨_, rfl⟩
  have hbx : Below wr1.heap.size wr1 W5 := by rw [← hWx]; exact (Below.refl _ _).alloc (Nat.le_refl _) _
  have hxb : W5.heap[bx1]? = some (.cells #[.int .i64 X1.kind, .int .u32 (X1.id : Nat), .int .i64 X1.row, .int .i64 X1.place, .int .i64 X1.width, .slice ya1 yn1 yc1] 39 (0, 0)) := by rw [← hWx]; exact alloc_at hbxE.symm
  rw [hWx, hbxE]
  have hbx4 := BR.out.comp hbx
  have HXB51 := hid hxb
  have HYS51 := hid (XSL.out.below hbx)
  have HYR51 := hid (XRB.out.below hbx)
  have HB5 := hid (HB4.out.comp hbx4)
  have HLB5 := hid ((hbx4.block lb (lt_at HLB4.out)).trans HLB4.out)
  have BX5 := hid hbx4
  clear hbx4 hbx hxb hWx hbxE XSL XRB BR
  have HF5 := hid (HF.out.below BX5.out)
  have x0 := cell_at HXB51.out 0
  have x1 := cell_at HXB51.out 1
  have x2 := cell_at HXB51.out 2
  have x3 := cell_at HXB51.out 3
  have x4 := cell_at HXB51.out 4
  have x5 := cell_at HXB51.out 5
  go_wp2_with fail
  refine (pack_any f S N T mw mh _ _ X1 R1 W5 HL.out HF5.out ⟨_, rfl, HYS51.out⟩ XW1.out HYR51.out XL1.out XC1.out).mono ?_
  rintro e w6 ⟨⟨pv, rfl, hown⟩, hb6⟩
  have hplen : (packB S N T mw mh X1 R1).length = pageB S N T mw mh := packB_len XC1.out
  obtain ⟨n, hn⟩ : ∃ n, pageB S N T mw mh = n := ⟨_, rfl⟩
  obtain ⟨pg, pc, rfl, hpg1', hpo⟩ := hown.ow (by rw [hplen]; omega)
  rw [hplen, hn] at hpo ⊢
  rw [hn] at hpg hpg1
  have hpc : n ≤ pc := by obtain ⟨_, _, _, h, _⟩ := hpo; exact h
  have hpc2 : (pc : Int) ≤ 9223372036854775807 := by obtain ⟨_, _, _, _, h, _⟩ := hpo; unfold maxLen at h; omega
  have hpc1 : (n : Int) ≤ (pc : Int) := by omega
  have HPO := hid hpo
  have HPG := hid hpg1'
  have HN := hid hn
  have HW56 := hid hb6
  have HB6 := hid (HB5.out.comp hb6)
  have HLB6 := hid ((hb6.block lb (lt_at HLB5.out)).trans HLB5.out)
  have HF6 := hid (HF5.out.below hb6)
  clear hown hb6 hplen hpo hpg1' hn x0 x1 x2 x3 x4 x5 hby
  go_wp2_with fail
  refine (bytes_any f S N T mw mh w6 HF6.out HL.out.pw HL.out.ph HL.out.s2 hN8).mono ?_
  rintro e w7 ⟨rfl, nb, rfl⟩
  rw [byB_page, HN.out]
  go_wp2_with fail
  obtain ⟨W7, hW7⟩ : ∃ V, w6.drewN nb = V := ⟨_, rfl⟩
  have hb7 : Below w6.heap.size w6 W7 := by rw [← hW7]; exact (Below.refl _ _).drewN nb
  rw [hW7]
  have HPO7 := hid (HPO.out.same (hb7.block pg HPO.out.lt))
  have HLB7 := hid ((hb7.block lb (lt_at HLB6.out)).trans HLB6.out)
  have HF7 := hid (HF6.out.below hb7)
  have HB7 := hid (HB6.out.comp hb7)
  have HW57 := hid (HW56.out.comp hb7)
  have q2 := cell_at HLB7.out 2
  clear hW7 hb7
  have hlast : n = lastB S N T mw mh + (T / 4 + 1) := by rw [← HN.out]; rfl
  obtain ⟨nd, hnd⟩ : ∃ nd, n - T / 4 = nd := ⟨_, rfl⟩
  have hnd1 : 1 ≤ nd := by omega
  have hy1 : IntKind.i64.wrap ((n : Int) - (T : Int) / 4) = (nd : Int) := by rw [show (n : Int) - (T : Int) / 4 = (nd : Int) by omega]; exact IntWalk.i64_in _ (by omega)
  obtain ⟨a0, ha0⟩ : ∃ a0, atn % nd = a0 := ⟨_, rfl⟩
  have ha1 : a0 < nd := by rw [← ha0]; exact Nat.mod_lt _ hnd1
  have hy2 : ((atn : Nat) : Int).tmod (nd : Int) = ((a0 : Nat) : Int) := by rw [← ha0]; exact tm atn nd
  have hy3 : ((atn : Nat) : Int) % (nd : Int) = ((a0 : Nat) : Int) := by rw [← ha0]; rfl
  have HND := hid hnd
  have ha2 : a0 + T / 4 < n := by omega
  have HLAST := hid hlast
  clear hlast hnd ha0
  go_quiet ((go_at_call 13; exact quiet_eq (HAT.out _)))
  obtain ⟨W8, hW8⟩ : ∃ V, W7.drewN nq = V := ⟨_, rfl⟩
  rw [hW8]
  have hb8 : Below W5.heap.size W5 W8 := by rw [← hW8]; exact HW57.out.drewN nq
  have hpo8 : Ow .u8 5 W8 pg n pc ((packB S N T mw mh X1 R1).getD · 0) := by rw [← hW8]; exact HPO7.out
  have HB8 := hid hb8
  have HPO8 := hid hpo8
  clear hy1 hy2 hy3 hb8 hpo8 hW8 q2
  go_wp2_with fail
  go_loopg [18] (n - a0) (fun gk v wr => ∃ k : Nat, k + gk = n ∧ a0 ≤ k ∧ v = .int .i64 k ∧ Ow .u8 5 wr pg n pc (fillF a0 ((packB S N T mw mh X1 R1).getD · 0) k) ∧ Below W5.heap.size W5 wr)
  case atStart =>
    refine ⟨a0, by omega, Nat.le_refl _, rfl, ?_, HB8.out⟩
    rw [fill_start]; exact HPO8.out
  case round =>
    obtain ⟨k, hk, hak, rfl, hpo, hbel⟩ := hrel
    have HPK := hid hpo
    have HBK := hid hbel
    clear hpo hbel HPO8 HB8
    by_cases hlt : k < n
    · have c1 := HPK.out.cell hlt
      have z1 := HPK.out.free k
      have i1 : (k : Int) < (n : Int) := by omega
      go_wp2_with fail
      go_roundg (gk - 1)
      case measure => omega
      case rel =>
        have h1 := HPK.out.set k 255
        rw [fill_succ _ hak] at h1
        exact ⟨k + 1, by omega, by omega, by go_num, h1, bl_set HBK.out HPG.out _⟩
    · obtain rfl : k = n := by omega
      obtain ⟨mx, m1, m2, m3⟩ := mx_of zn T
      have hpb : ∀ j, (packB S N T mw mh X1 R1).getD j 0 < 256 := fun j => Gf.getD_lt (m := 8) (packB_lt XC1.out XL1.out) j
      have hon : 8 * (T / 4 + 1) ≤ ones (((List.range k).map (fillF a0 ((packB S N T mw mh X1 R1).getD · 0) k)).drop (lastB S N T mw mh)) := by
        have hl := HLAST.out
        rw [ones_mid k _ _ (fun j h1 h2 => by unfold fillF; exact if_pos ⟨by omega, h2⟩)]
        omega
      have HON := hid hon
      have HPB : Hid (∀ j, fillF a0 ((packB S N T mw mh X1 R1).getD · 0) k j < 256) := hid (fill_lt hpb)
      clear hpb hon
      go_upto_block 2 with (fail)
      go_cut [] (fun wx => ∃ F : Nat → Nat, Ow .u8 5 wx pg k pc F ∧ (∀ j, F j < 256) ∧ 8 * (T / 4 + 1) ≤ ones (((List.range k).map F).drop (lastB S N T mw mh)) + T ∧ Below W5.heap.size W5 wx)
      case first =>
        go_wp2_with fail
        go_loopg [19] mx (fun gk v wr => ∃ (I : Nat) (F : Nat → Nat), I + gk = mx ∧ v = .int .i64 I ∧ Ow .u8 5 wr pg k pc F ∧ (∀ j, F j < 256) ∧ 8 * (T / 4 + 1) ≤ ones (((List.range k).map F).drop (lastB S N T mw mh)) + I ∧ Below W5.heap.size W5 wr)
        case atStart => exact ⟨0, _, by omega, rfl, HPK.out, HPB.out, HON.out, HBK.out⟩
        case round =>
          clear HPK HBK HON HPB
          obtain ⟨I, F, hI, rfl, hpo, hF, hon, hbel⟩ := hrel
          have HPK := hid hpo
          have HBK := hid hbel
          have HFF := hid hF
          have HON := hid hon
          have hlbk := (hbel.block lb (lt_at HLB5.out)).trans HLB5.out
          have q2 := cell_at hlbk 2
          clear hpo hbel hF hon hlbk
          by_cases hlt2 : I < mx
          · have j1 : (I : Int) < (zn : Int) := by omega
            have j2 : (I : Int) < (T : Int) := by omega
            have hIz : I < zs.length := by rw [HZL.out]; omega
            have hzI : (Lit.int .i64 (zs.getD I 0)).wf = true := HZW.out _ (by rw [List.getD_eq_getElem?_getD, List.getElem?_eq_getElem hIz]; exact List.getElem_mem hIz)
            have hzr := HZ.out.below (HB5.out.comp HBK.out)
            obtain ⟨a', c', he, h1, h2, hc⟩ := hzr
            cases he
            obtain ⟨zg, zo, rfl, hcz⟩ := hc I hIz
            have HAB := hid (fun w => abs_any (zs.getD I 0) w hzI)
            have hab := absN_le hzI
            obtain ⟨zv, hzv⟩ : ∃ zv, zs.getD I 0 = zv := ⟨_, rfl⟩
            rw [hzv] at hcz HAB hab
            obtain ⟨av, hav⟩ : ∃ av, absN zv = av := ⟨_, rfl⟩
            rw [hav] at HAB hab
            clear hc hzI hzv hav h1 h2
            go_upto_region 20 with (go_at_call 13; refine (HAB.out _).mono ?_; rintro e w' ⟨rfl, rfl⟩)
            obtain ⟨kk, hkk⟩ : ∃ kk, av % (8 * k) = kk := ⟨_, rfl⟩
            have hk8 : kk < 8 * k := by rw [← hkk]; exact Nat.mod_lt _ (by omega)
            have hmod : ((av : Nat) : Int) % (8 * (k : Int)) = ((kk : Nat) : Int) := by rw [← hkk]; push_cast; rfl
            rw [hmod]
            have hd8 : (kk : Int) / 8 < (k : Int) := by omega
            have c1 := HPK.out.cell (show kk / 8 < k by omega)
            have z1 := HPK.out.free (kk / 8)
            have hxl := xor_lob (F (kk / 8)) kk (HFF.out _)
            have HXL := hid hxl
            have HK8 := hid hk8
            clear hmod hkk hxl hk8 q2
            go_wp2_with fail
            go_roundg (gk - 1)
            case measure => omega
            case rel =>
              refine ⟨I + 1, upd F (kk / 8) (F (kk / 8) ^^^ 2 ^ (kk % 8)), by omega, by go_num, ?_, ?_, ?_, bl_set HBK.out HPG.out _⟩
              · rw [HXL.out]; exact HPK.out.set _ _
              · intro j
                unfold upd
                split
                · exact Nat.xor_lt_two_pow (n := 8) (HFF.out _) (Nat.lt_of_le_of_lt (Nat.pow_le_pow_right (by decide) (show kk % 8 ≤ 7 by omega)) (by decide))
                · exact HFF.out j
              · rw [tg_map k F kk HK8.out]
                have h1 := (tg_drop_ones (l := (List.range k).map F) (fun y hy => by obtain ⟨j, _, rfl⟩ := List.mem_map.1 hy; exact HFF.out j) (k := kk) (by simpa using HK8.out) (lastB S N T mw mh)).2
                have h2 := HON.out
                omega
          · obtain rfl : I = mx := by omega
            have hon2 := HON.out
            by_cases hIz : I < zn
            · have j1 : (I : Int) < (zn : Int) := by omega
              have j2 : ¬ (I : Int) < (T : Int) := by omega
              have m4 : I ≤ T := m2
              clear m1 m2 m3
              have HM := hid m4
              clear m4 hon2
              go_wp2_with fail
              go_meet
              exact ⟨F, HPK.out, HFF.out, by have := HON.out; have := HM.out; omega, HBK.out⟩
            · have j1 : ¬ (I : Int) < (zn : Int) := by omega
              have HM := hid m2
              clear m1 m2 m3 hon2
              go_wp2_with fail
              go_meet
              exact ⟨F, HPK.out, HFF.out, by have := HON.out; have := HM.out; omega, HBK.out⟩
      case rest =>
        obtain ⟨F, hpo, hF, hon, hbel⟩ := hcut
        have HB9 := hid (HB5.out.comp hbel)
        have hrd := hpo.rd
        have hen : T < ones (((List.range k).map F).drop (lastB S N T mw mh)) := by omega
        obtain ⟨l, hl⟩ : ∃ l, (List.range k).map F = l := ⟨_, rfl⟩
        have hlen : l.length = k := by rw [← hl]; simp
        have hlt8 : ∀ y ∈ l, y < 256 := by rw [← hl]; intro y hy; obtain ⟨j, _, rfl⟩ := List.mem_map.1 hy; exact hF j
        rw [hl] at hrd hen
        have HUN := hid (unpack_any f S N T mw mh _ l wc HL.out (HF5.out.below hbel) hrd (hlen.trans HN.out.symm) hlt8)
        have hto := opn_torn hen
        have HTO := hid hto
        clear hpo hF hon hbel hrd hen hl hlen hlt8 hto HPB HON HPK HBK
        go_wp2_with fail
        refine HUN.out.mono ?_
        rintro e w9 ⟨⟨ov, rfl, hov⟩, hb9⟩
        obtain ⟨sa, sc, wa, wcc, ra, rc, rfl, o1, o2, o3⟩ := hov.out
        have HBF := hid (HB9.out.comp hb9)
        generalize opn S N T mw mh l = o at *
        have hto := HTO.out
        clear HTO hov hb9 o1 o2 o3 HUN
        obtain ⟨er, her⟩ : ∃ er, o.erased = er := ⟨_, rfl⟩
        obtain ⟨wh, hwh⟩ : ∃ wh, o.whole = wh := ⟨_, rfl⟩
        rw [her, hwh] at hto ⊢
        generalize o.hd.slots.length = n1 at *
        generalize o.sectors.length = n3 at *
        generalize o.words.length = n2 at *
        generalize o.hd.kind = u1 at *
        generalize o.hd.id = u2 at *
        generalize o.hd.row = u3 at *
        generalize o.hd.place = u4 at *
        generalize o.hd.width = u5 at *
        generalize o.flips = u6 at *
        clear her hwh
        cases er with
        | true =>
          clear hto
          go_wp2_with fail
          go_ret
          exact ⟨rfl, (HBF.out.comp ((Below.refl _ _).alloc (Nat.le_refl _) _))⟩
        | false =>
          obtain rfl : wh = 3 := by rcases hto with h | h; cases h; exact h
          clear hto
          go_wp2_with fail
          go_ret
          exact ⟨rfl, (HBF.out.comp ((Below.refl _ _).alloc (Nat.le_refl _) _))⟩
end Go.Proofs.Ytoanopegoilcnaa
