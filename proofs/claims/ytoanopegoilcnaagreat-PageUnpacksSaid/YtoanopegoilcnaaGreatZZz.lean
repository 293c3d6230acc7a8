/- Walks over firkinlaw05: PageUnpacks. -/
import Derived.Test.YtoanopegoilcnaaGreatJy
import Derived.Test.YtoanopegoilcnaaGreatZZt
import Derived.Test.YtoanopegoilcnaaGreatZZs
import Derived.Test.YtoanopegoilcnaaGreatZZy
import Derived.Outline
set_option linter.unusedVariables false
namespace Go.Proofs.YtoanopegoilcnaaGreat
open Go.RowKit Go.Mem Go.Pg Go.Sort

set_option maxRecDepth 100000 in
set_option maxHeartbeats 12800000 in
theorem pageUnpacks_walk (a b c : Int) (v1 : Value) (hd1 : Head) (v2 : Value) (rows1 : List (List Nat)) (za : Option Addr) (zn zc : Nat) (zs : List Int) (ra : Option Addr) (rn rc : Nat) (rxs : List Nat) (w : World) (ha : (Lit.int .i64 a).wf = true) (hb : (Lit.int .i64 b).wf = true) (hc : (Lit.int .i64 c).wf = true)
    (hv1 : HdV w v1 hd1) (hw1 : hd1.Wf) (hr1 : RB w v2 rows1) (hrx1 : ∀ r ∈ rows1, ∀ y ∈ r, y < 256)
    (hz : RdI .i64 w (.slice za zn zc) zs) (hzl : zs.length = zn) (hzw : ∀ y ∈ zs, (Lit.int .i64 y).wf = true) (hrv : Rd .u8 w (.slice ra rn rc) rxs) (hrl : rxs.length = rn) (hrx : ∀ y ∈ rxs, y < 256) :
    Calls Tryz.prog 4 #[.agg #[.int .i64 a, .int .i64 b, .int .i64 c], v1, v2, .slice za zn zc, .slice ra rn rc] w fun e w' => e = .returned (.bool true) ∧ Below w.heap.size w w' := by
  have HZ := hid hz
  have HZW := hid hzw
  have hcz : zn ≤ zc ∧ zc ≤ maxLen := by obtain ⟨a', c', he, h1, h2, _⟩ := hz; cases he; exact ⟨by omega, h2⟩
  have hcz1 : (zn : Int) ≤ (zc : Int) := by omega
  have hcz2 : (zc : Int) ≤ 9223372036854775807 := by have := hcz.2; unfold maxLen at this; omega
  have HZL := hid hzl
  have HRB1 := hid hr1
  have HRX1 := hid hrx1
  have HRAW := hid hrv
  have HRL := hid hrl
  have HRX := hid hrx
  clear hz hzw hcz hzl hr1 hrx1 hrv hrl hrx
  obtain ⟨mw, mh, hL⟩ := small_lay (absN a) (absN b) (absN c)
  have hS12 : smA (absN a) 12 ≤ 12 := by unfold smA; omega
  have hN3 : smA (absN b) 3 ≤ 3 := by unfold smA; omega
  have hT3 : smA (absN c) 3 ≤ 3 := by unfold smA; omega
  have HSM := hid (fun w => small_any a b c w ha hb hc)
  generalize smA (absN a) 12 = S at *
  generalize smA (absN b) 3 = N at *
  generalize smA (absN c) 3 = T at *
  have hT8 := hL.t2
  have hT1 := hL.t1
  have hN1 := hL.n1
  have hN8 := hL.n2
  have hpg := pageB_le hL
  have hby : byB S N T mw mh ≤ 4096 := by rw [byB_page]; omega
  have hpg1 : 1 ≤ pageB S N T mw mh := by unfold pageB; omega
  have hqq : Par (13 + 11 * N) T mh := by have := hL.ph; rwa [show 9 + 11 * N + 4 = 13 + 11 * N by omega] at this
  have HBOTH := hid (fun w => both_any S N T mw mh w hL hqq hby)
  have HQ := hid hqq
  have HL := hid hL
  clear hqq
  obtain ⟨zv1, rfl, hsl1⟩ := hv1
  have HSL1 := hid hsl1
  have HWF1 := hid hw1
  clear hsl1 hw1
  clear hL ha hb hc
  go_enter Tryz.func4, Tryz.ntmps4
  go_wp2_with fail
  obtain ⟨W, hW⟩ : ∃ W, (w.alloc (.cells #[.int .i64 a, .int .i64 b, .int .i64 c] 23)).alloc (.cells #[.int .i64 hd1.kind, .int .u32 (hd1.id : Nat), .int .i64 hd1.row, .int .i64 hd1.place, .int .i64 hd1.width, zv1] 27) = W := ⟨_, rfl⟩
  have hlb : W.heap[w.heap.size]? = some (.cells #[.int .i64 a, .int .i64 b, .int .i64 c] 23 (0, 0)) := by rw [← hW]; exact (alloc_old (by simp; try omega)).trans (alloc_new w _)
  have hhb1 : W.heap[w.heap.size + 1]? = some (.cells #[.int .i64 hd1.kind, .int .u32 (hd1.id : Nat), .int .i64 hd1.row, .int .i64 hd1.place, .int .i64 hd1.width, zv1] 27 (0, 0)) := by rw [← hW]; exact alloc_at (by simp)
  have hbW : Below w.heap.size w W := by rw [← hW]; exact bl_alloc (bl_alloc (Below.refl _ _) _) _
  rw [hW]
  refine (awake_any _).mono ?_
  rintro e w1 ⟨rfl, hb1⟩
  obtain ⟨kb1, hhE1⟩ : ∃ b, w.heap.size + 1 = b := ⟨_, rfl⟩
  obtain ⟨lb, hlE⟩ : ∃ b, w.heap.size = b := ⟨_, rfl⟩
  rw [hhE1] at hhb1 ⊢
  rw [hlE] at hlb ⊢
  have hlb1 := (hb1.block lb (lt_at hlb)).trans hlb
  have HHB11 := hid ((hb1.block kb1 (lt_at hhb1)).trans hhb1)
  have HHE1 := hid hhE1
  have hne1 : lb ≠ kb1 := by omega
  have HB1 := hid (hbW.comp hb1)
  have HLE := hid hlE
  have q0 := cell_at hlb1 0
  have q1 := cell_at hlb1 1
  have q2 := cell_at hlb1 2
  have HLB1 := hid hlb1
  clear hW hbW hlb hb1 hlb1 hlE hhb1 hhE1
  go_wp2_with fail
  refine (HSM.out _).mono ?_
  rintro e w2 ⟨rfl, hb2⟩
  have hlb2 := (hb2.block lb (lt_at HLB1.out)).trans HLB1.out
  have HHB21 := hid ((hb2.block kb1 (lt_at HHB11.out)).trans HHB11.out)
  have p0 := cell_at hlb2 0
  have p1 := cell_at hlb2 1
  have p2 := cell_at hlb2 2
  have f0 := free_at hlb2 0
  have f1 := free_at hlb2 1
  have f2 := free_at hlb2 2
  have HLB2 := hid hlb2
  have HB2 := hid (HB1.out.comp hb2)
  clear hb2 hlb2 q0 q1 q2
  go_upto_region 5 with (fail)
  have hge : w.heap.size ≤ lb := Nat.le_of_eq HLE.out
  have s2 := set_at (set_at (set_at HLB2.out 0 (.int .i64 (S : Nat))) 1 (.int .i64 (N : Nat))) 2 (.int .i64 (T : Nat))
  have hb3 := bl_set (bl_set (bl_set HB2.out (p := ⟨lb, 0, none⟩) hge (.int .i64 (S : Nat))) (p := ⟨lb, 1, none⟩) hge (.int .i64 (N : Nat))) (p := ⟨lb, 2, none⟩) hge (.int .i64 (T : Nat))
  have hhb31 := (set_other (w := (w2.setCell ⟨lb, 0, none⟩ (.int .i64 (S : Nat))).setCell ⟨lb, 1, none⟩ (.int .i64 (N : Nat))) (a := ⟨lb, 2, none⟩) (v := .int .i64 (T : Nat)) hne1.symm).trans ((set_other (w := w2.setCell ⟨lb, 0, none⟩ (.int .i64 (S : Nat))) (a := ⟨lb, 1, none⟩) (v := .int .i64 (N : Nat)) hne1.symm).trans ((set_other (w := w2) (a := ⟨lb, 0, none⟩) (v := .int .i64 (S : Nat)) hne1.symm).trans HHB21.out))
  obtain ⟨W3, hW3⟩ : ∃ W3, ((w2.setCell ⟨lb, 0, none⟩ (.int .i64 (S : Nat))).setCell ⟨lb, 1, none⟩ (.int .i64 (N : Nat))).setCell ⟨lb, 2, none⟩ (.int .i64 (T : Nat)) = W3 := ⟨_, rfl⟩
  rw [hW3] at s2 hb3 ⊢
  rw [hW3] at hhb31
  have HHB31 := hid hhb31
  clear hhb31
  have hlb3 : W3.heap[lb]? = some (.cells #[.int .i64 (S : Nat), .int .i64 (N : Nat), .int .i64 (T : Nat)] 23 (0, 0)) := s2
  have HLB3 := hid hlb3
  have HB3 := hid hb3
  have q0 := cell_at hlb3 0
  have q1 := cell_at hlb3 1
  have q2 := cell_at hlb3 2
  clear hW3 s2 hb3 hlb3 p0 p1 p2 f0 f1 f2
  go_wp2_with fail
  refine (HBOTH.out _).mono ?_
  rintro e w3 ⟨⟨f, v5, rfl, hf, h5⟩, hb4⟩
  obtain ⟨ga, gl, gc, ha, hl, hc, rfl, _, _⟩ := h5.parts
  have HF3 := hid hf
  have H53 := hid h5
  have HLB3' := hid ((hb4.block lb (lt_at HLB3.out)).trans HLB3.out)
  have HHB31' := hid ((hb4.block kb1 (lt_at HHB31.out)).trans HHB31.out)
  have HB3' := hid (HB3.out.comp hb4)
  clear hf h5 hb4 q0 q1 q2
  go_upto_region 6 with (fail)
  obtain ⟨k3, hk3⟩ : ∃ b, w3.heap.size = b := ⟨_, rfl⟩
  obtain ⟨W4, hW4⟩ : ∃ V, w3.alloc (.cells #[.int .i64 S, .int .i64 N, .int .i64 T, .int .i64 mw, .int .i64 ((S : Int) + 4), .int .i64 T, .slice ga gl gc, .int .i64 mh, .int .i64 (13 + 11 * (N : Int)), .int .i64 T, .slice ha hl hc] 35) = V := ⟨_, rfl⟩
  rw [hW4, hk3]
  have hb4 : Below w3.heap.size w3 W4 := by rw [← hW4]; exact (Below.refl _ _).alloc (Nat.le_refl _) _
  have hkf : W4.heap[k3]? = some (.cells #[.int .i64 S, .int .i64 N, .int .i64 T, .int .i64 mw, .int .i64 ((S : Int) + 4), .int .i64 T, .slice ga gl gc, .int .i64 mh, .int .i64 (13 + 11 * (N : Int)), .int .i64 T, .slice ha hl hc] 35 (0, 0)) := by rw [← hW4]; exact alloc_at hk3.symm
  have H54 := hid (H53.out.below hb4)
  have HF4 := hid (HF3.out.below hb4)
  have HLB4 := hid ((hb4.block lb (lt_at HLB3'.out)).trans HLB3'.out)
  have HHB41 := hid ((hb4.block kb1 (lt_at HHB31'.out)).trans HHB31'.out)
  have HB4 := hid (HB3'.out.comp hb4)
  have HKF4 := hid hkf
  clear hW4 hb4 hk3 hkf
  have hl4 := HLB4.out
  have hh4 := HHB41.out
  have q0 := cell_at hl4 0
  have q1 := cell_at hl4 1
  have q2 := cell_at hl4 2
  have g0 := cell_at hh4 0
  have g1 := cell_at hh4 1
  have g2 := cell_at hh4 2
  have g3 := cell_at hh4 3
  have g4 := cell_at hh4 4
  have g5 := cell_at hh4 5
  clear hl4 hh4
  go_wp2_with fail
  refine (right_any S N T hd1 _ _ rows1 _ HL.out.s2 hN8 ⟨_, rfl, HSL1.out.below HB4.out⟩ HWF1.out (HRB1.out.below HB4.out) HRX1.out).mono ?_
  rintro e wr1 ⟨⟨yv1, rv1, rfl, hsl, hrb⟩, hbr⟩
  obtain ⟨ya1, yn1, yc1, hyv⟩ : ∃ a n c, yv1 = .slice a n c := by obtain ⟨a, c, e, _⟩ := hsl; exact ⟨_, _, _, e⟩
  subst hyv
  obtain ⟨X1, hX1⟩ : ∃ X, rtH N hd1 = X := ⟨_, rfl⟩
  obtain ⟨R1, hR1⟩ : ∃ R, rtS S N rows1 = R := ⟨_, rfl⟩
  rw [hX1] at hsl ⊢
  rw [hR1] at hrb
  have XW1 : Hid X1.Wf := hid (by rw [← hX1]; exact rtH_wf HWF1.out hN8)
  have XF1 : Hid X1.Fit := hid (by rw [← hX1]; exact rtH_fit HWF1.out hN8)
  have XC1 : Hid (CanB S N X1 R1) := hid (by rw [← hX1, ← hR1]; exact rtS_can S N hd1 rows1)
  have XL1 : Hid (∀ x ∈ R1, ∀ y ∈ x, y < 256) := hid (by rw [← hR1]; exact rtS_lt HRX1.out)
  have XSL := hid hsl
  have XRB := hid hrb
  have BR := hid hbr
  have HXE1 := hid hX1
  have HRE1 := hid hR1
  clear hsl hrb hbr hX1 hR1 q0 q1 q2 g0 g1 g2 g3 g4 g5
  go_upto_region 9 with (fail)
  obtain ⟨bx1, hbxE⟩ : ∃ b, wr1.heap.size = b := ⟨_, rfl⟩
  obtain ⟨W5, hWx⟩ : ∃ V, wr1.alloc (.cells #[.int .i64 X1.kind, .int .u32 (X1.id : Nat), .int .i64 X1.row, .int .i64 X1.place, .int .i64 X1.width, .slice ya1 yn1 yc1] 27) = V := ⟨_, rfl⟩
  have hbx : Below wr1.heap.size wr1 W5 := by rw [← hWx]; exact (Below.refl _ _).alloc (Nat.le_refl _) _
  have hxb : W5.heap[bx1]? = some (.cells #[.int .i64 X1.kind, .int .u32 (X1.id : Nat), .int .i64 X1.row, .int .i64 X1.place, .int .i64 X1.width, .slice ya1 yn1 yc1] 27 (0, 0)) := by rw [← hWx]; exact alloc_at hbxE.symm
  rw [hWx, hbxE]
  have hbx4 := BR.out.comp hbx
  have HXB51 := hid hxb
  have HYS51 := hid (XSL.out.below hbx)
  have HYR51 := hid (XRB.out.below hbx)
  have HB5 := hid (HB4.out.comp hbx4)
  have HKF5 := hid ((hbx4.block k3 (lt_at HKF4.out)).trans HKF4.out)
  have BX5 := hid hbx4
  clear hbx4 hbx hxb hWx hbxE XSL XRB BR
  have H55 := hid (H54.out.below BX5.out)
  have HF5 := hid (HF4.out.below BX5.out)
  have x0 := cell_at HXB51.out 0
  have x1 := cell_at HXB51.out 1
  have x2 := cell_at HXB51.out 2
  have x3 := cell_at HXB51.out 3
  have x4 := cell_at HXB51.out 4
  have x5 := cell_at HXB51.out 5
  have hkf5 := HKF5.out
  have c0 := cell_at hkf5 0
  have c1 := cell_at hkf5 1
  have c2 := cell_at hkf5 2
  have c3 := cell_at hkf5 3
  have c4 := cell_at hkf5 4
  have c5 := cell_at hkf5 5
  have c6 := cell_at hkf5 6
  have c7 := cell_at hkf5 7
  have c8 := cell_at hkf5 8
  have c9 := cell_at hkf5 9
  have c10 := cell_at hkf5 10
  clear hkf5
  go_wp2_with fail
  have hp5 := r5pack_any S N T mw mh _ _ _ X1 R1 W5 HL.out HQ.out H55.out ⟨_, rfl, HYS51.out⟩ XW1.out HYR51.out XL1.out
  have HP5 := hid hp5
  clear hp5
  refine HP5.out.mono ?_
  rintro e w6 ⟨hr6, hb6⟩
  rw [if_pos XC1.out] at hr6
  obtain ⟨pv, rfl, hown⟩ := hr6
  have hplen : (packB S N T mw mh X1 R1).length = pageB S N T mw mh := packB_len XC1.out
  obtain ⟨n, hn⟩ : ∃ n, pageB S N T mw mh = n := ⟨_, rfl⟩
  obtain ⟨pg, pc, rfl, hpg1', hpo⟩ := hown.ow (by rw [hplen]; omega)
  rw [hplen, hn] at hpo ⊢
  rw [hn] at hpg hpg1
  have hpc : n ≤ pc := by obtain ⟨_, _, _, h, _⟩ := hpo; exact h
  have hpc2 : (pc : Int) ≤ 9223372036854775807 := by obtain ⟨_, _, _, _, h, _⟩ := hpo; unfold maxLen at h; omega
  have hpc1 : (n : Int) ≤ (pc : Int) := by omega
  have HPO := hid hpo
  have HPG := hid hpg1'
  have hpb : ∀ j, (packB S N T mw mh X1 R1).getD j 0 < 256 := fun j => Gf.getD_lt (m := 8) (packB_lt XC1.out XL1.out) j
  have HPB := hid hpb
  have HB6 := hid hb6
  clear hown hb6 hplen hpo hpg1' hn x0 x1 x2 x3 x4 x5 c0 c1 c2 c3 c4 c5 c6 c7 c8 c9 c10 hby hpb HP5
  obtain ⟨mx, m1, m2, m3⟩ := mx_of zn 30
  go_upto_block 0 with (fail)
  go_cut [] (fun wx => ∃ F : Nat → Nat, Ow .u8 5 wx pg n pc F ∧ (∀ j, F j < 256) ∧ Below W5.heap.size W5 wx)
  case first =>
    go_wp2_with fail
    go_loopg [19] mx (fun gk v wr => ∃ (I : Nat) (F : Nat → Nat), I + gk = mx ∧ v = .int .i64 I ∧ Ow .u8 5 wr pg n pc F ∧ (∀ j, F j < 256) ∧ Below W5.heap.size W5 wr)
    case atStart => exact ⟨0, _, by omega, rfl, HPO.out, HPB.out, HB6.out⟩
    case round =>
      clear HPO HPB HB6
      obtain ⟨I, F, hI, rfl, hpo, hF, hbel⟩ := hrel
      have HPK := hid hpo
      have HBK := hid hbel
      have HFF := hid hF
      clear hpo hbel hF
      by_cases hlt2 : I < mx
      · have j1 : (I : Int) < (zn : Int) := by omega
        have j2 : (I : Int) < 30 := by omega
        have hIz : I < zs.length := by rw [HZL.out]; omega
        have hzI : (Lit.int .i64 (zs.getD I 0)).wf = true := HZW.out _ (by rw [List.getD_eq_getElem?_getD, List.getElem?_eq_getElem hIz]; exact List.getElem_mem hIz)
        have hzr := HZ.out.below (HB5.out.comp HBK.out)
        obtain ⟨a', c', he, h1, h2, hc⟩ := hzr
        cases he
        obtain ⟨zg, zo, rfl, hcz⟩ := hc I hIz
        have HAB := hid (fun w => abs_any (zs.getD I 0) w hzI)
        have hab := absN_le hzI
        obtain ⟨zv, hzv⟩ : ∃ zv, zs.getD I 0 = zv := ⟨_, rfl⟩
        rw [hzv] at hcz HAB hab
        obtain ⟨av, hav⟩ : ∃ av, absN zv = av := ⟨_, rfl⟩
        rw [hav] at HAB hab
        clear hc hzI hzv hav h1 h2
        go_upto_region 14 with (go_at_call 11; refine (HAB.out _).mono ?_; rintro e w' ⟨rfl, rfl⟩)
        obtain ⟨kk, hkk⟩ : ∃ kk, av % (8 * n) = kk := ⟨_, rfl⟩
        have hk8 : kk < 8 * n := by rw [← hkk]; exact Nat.mod_lt _ (by omega)
        have hmod : ((av : Nat) : Int) % (8 * (n : Int)) = ((kk : Nat) : Int) := by rw [← hkk]; push_cast; rfl
        rw [hmod]
        have hd8 : (kk : Int) / 8 < (n : Int) := by omega
        have c1 := HPK.out.cell (show kk / 8 < n by omega)
        have z1 := HPK.out.free (kk / 8)
        have hxl := xor_lob (F (kk / 8)) kk (HFF.out _)
        have HXL := hid hxl
        clear hmod hkk hxl hk8
        go_wp2_with fail
        go_roundg (gk - 1)
        case measure => omega
        case rel =>
          refine ⟨I + 1, upd F (kk / 8) (F (kk / 8) ^^^ 2 ^ (kk % 8)), by omega, by go_num, ?_, ?_, bl_set HBK.out HPG.out _⟩
          · rw [HXL.out]; exact HPK.out.set _ _
          · intro j
            unfold upd
            split
            · exact Nat.xor_lt_two_pow (n := 8) (HFF.out _) (Nat.lt_of_le_of_lt (Nat.pow_le_pow_right (by decide) (show kk % 8 ≤ 7 by omega)) (by decide))
            · exact HFF.out j
      · obtain rfl : I = mx := by omega
        by_cases hIz : I < zn
        · have j1 : (I : Int) < (zn : Int) := by omega
          have j2 : ¬ (I : Int) < 30 := by omega
          clear m1 m2 m3
          go_wp2_with fail
          go_meet
          exact ⟨F, HPK.out, HFF.out, HBK.out⟩
        · have j1 : ¬ (I : Int) < (zn : Int) := by omega
          clear m1 m2 m3
          go_wp2_with fail
          go_meet
          exact ⟨F, HPK.out, HFF.out, HBK.out⟩
  case rest =>
    obtain ⟨F, hpo, hF, hbel⟩ := hcut
    have HPW := hid hpo
    have HFF := hid hF
    have HFC := hid (HF5.out.below hbel)
    have H5C := hid (H55.out.below hbel)
    have HKFC := hid ((hbel.block k3 (lt_at HKF5.out)).trans HKF5.out)
    have HBC := hid (HB5.out.comp hbel)
    clear hpo hF hbel HPO HPB HB6 m1 m2 m3
    by_cases hr0 : 0 < rn
    · by_cases hz0 : zn = 0
      · subst hz0
        have hr1 : (0 : Int) < (rn : Int) := by omega
        have hrd := HRAW.out.below (HBC.out)
        obtain ⟨rg, ro, rfl⟩ : ∃ g o, ra = some ⟨g, o, none⟩ := by
          obtain ⟨a', c', he, _, _, hc⟩ := HRAW.out
          cases he
          obtain ⟨g', o', rfl, _⟩ := hc 0 (by rw [HRL.out]; omega)
          exact ⟨g', o', rfl⟩
        have HU1 := hid (unp_all f S N T mw mh rg ro rc rn rxs wc HL.out HFC.out hrd HRL.out HRX.out)
        have HU2 : Hid (∀ V, Below wc.heap.size wc V → _) := hid fun V hV => r5unp_all S N T mw mh _ rg ro rc rn rxs V HL.out HQ.out (H5C.out.below hV) (hrd.below hV) HRL.out HRX.out
        clear hrd HPW HFF
        obtain ⟨E, hE⟩ : ∃ E, unpE S N T mw mh rxs = E := ⟨_, rfl⟩
        have hwf := unpO_wf S N T mw mh rxs
        obtain ⟨o, ho⟩ : ∃ o, unpO S N T mw mh rxs = o := ⟨_, rfl⟩
        rw [ho] at hwf
        rw [ho, hE] at HU1 HU2
        have HWF := hid hwf
        clear ho hE hwf
        go_wp2_with fail
        refine HU1.out.mono ?_
        rintro e w7 ⟨⟨ov, rfl, hov⟩, hb7⟩
        have HOV := hid hov
        obtain ⟨sa, sc, wa, wcc, ra1, rc1, rfl, _⟩ := hov.out
        have hkf7 := (hb7.block k3 (lt_at HKFC.out)).trans HKFC.out
        go_upto_region 18 with (fail)
        obtain ⟨b1, hb1E⟩ : ∃ b, w7.heap.size = b := ⟨_, rfl⟩
        obtain ⟨W8, hW8⟩ : ∃ V, w7.alloc (.cells #[.bool o.erased, .int .i64 (o.whole : Nat), .int .i64 o.hd.kind, .int .u32 (o.hd.id : Nat), .int .i64 o.hd.row, .int .i64 o.hd.place, .int .i64 o.hd.width, .slice sa o.hd.slots.length sc, .slice wa o.words.length wcc, .slice ra1 o.sectors.length rc1, .int .i64 (o.flips : Nat)] 50) = V := ⟨_, rfl⟩
        rw [hW8, hb1E]
        have hb8 : Below w7.heap.size w7 W8 := by rw [← hW8]; exact (Below.refl _ _).alloc (Nat.le_refl _) _
        have hox8 : W8.heap[b1]? = some (.cells #[.bool o.erased, .int .i64 (o.whole : Nat), .int .i64 o.hd.kind, .int .u32 (o.hd.id : Nat), .int .i64 o.hd.row, .int .i64 o.hd.place, .int .i64 o.hd.width, .slice sa o.hd.slots.length sc, .slice wa o.words.length wcc, .slice ra1 o.sectors.length rc1, .int .i64 (o.flips : Nat)] 50 (0, 0)) := by rw [← hW8]; exact alloc_at hb1E.symm
        have hkf8 := (hb8.block k3 (lt_at hkf7)).trans hkf7
        have HO8 := hid hox8
        have HB8 := hid (hb7.comp hb8)
        have HOV8 := hid (HOV.out.below hb8)
        have c0 := cell_at hkf8 0
        have c1 := cell_at hkf8 1
        have c2 := cell_at hkf8 2
        have c3 := cell_at hkf8 3
        have c4 := cell_at hkf8 4
        have c5 := cell_at hkf8 5
        have c6 := cell_at hkf8 6
        have c7 := cell_at hkf8 7
        have c8 := cell_at hkf8 8
        have c9 := cell_at hkf8 9
        have c10 := cell_at hkf8 10
        clear hW8 hb8 hox8 hkf8 hkf7 hb7 hov hb1E HU1 HOV
        go_wp2_with fail
        refine (HU2.out _ HB8.out).mono ?_
        rintro e w9 ⟨⟨ov2, rfl, hov2⟩, hb9⟩
        have HOV2 := hid hov2
        obtain ⟨sa2, sc2, wa2, wcc2, ra2, rc2, rfl, _⟩ := hov2.out
        have HO9 := hid ((hb9.block b1 (lt_at HO8.out)).trans HO8.out)
        have HOV9 := hid (HOV8.out.below hb9)
        have HB9 := hid (HB8.out.comp hb9)
        clear c0 c1 c2 c3 c4 c5 c6 c7 c8 c9 c10 hov2 hb9 HU2
        go_upto_region 19 with (fail)
        obtain ⟨b2, hb2E⟩ : ∃ b, w9.heap.size = b := ⟨_, rfl⟩
        obtain ⟨W10, hW10⟩ : ∃ V, w9.alloc (.cells #[.bool o.erased, .int .i64 (o.whole : Nat), .int .i64 o.hd.kind, .int .u32 (o.hd.id : Nat), .int .i64 o.hd.row, .int .i64 o.hd.place, .int .i64 o.hd.width, .slice sa2 o.hd.slots.length sc2, .slice wa2 o.words.length wcc2, .slice ra2 o.sectors.length rc2, .int .i64 (o.flips : Nat)] 50) = V := ⟨_, rfl⟩
        rw [hW10, hb2E]
        have hb10 : Below w9.heap.size w9 W10 := by rw [← hW10]; exact (Below.refl _ _).alloc (Nat.le_refl _) _
        have hox10 : W10.heap[b2]? = some (.cells #[.bool o.erased, .int .i64 (o.whole : Nat), .int .i64 o.hd.kind, .int .u32 (o.hd.id : Nat), .int .i64 o.hd.row, .int .i64 o.hd.place, .int .i64 o.hd.width, .slice sa2 o.hd.slots.length sc2, .slice wa2 o.words.length wcc2, .slice ra2 o.sectors.length rc2, .int .i64 (o.flips : Nat)] 50 (0, 0)) := by rw [← hW10]; exact alloc_at hb2E.symm
        have hox9 := (hb10.block b1 (lt_at HO9.out)).trans HO9.out
        have HSAME := hid (r5same_any _ _ o W10 (HOV9.out.below hb10) (HOV2.out.below hb10) HWF.out)
        have HB10 := hid (HB9.out.comp hb10)
        obtain ⟨p0, p1, p2, p3, p4, p5, p6, p7, p8, p9, p10⟩ := op_cells hox9
        obtain ⟨q0, q1, q2, q3, q4, q5, q6, q7, q8, q9, q10⟩ := op_cells hox10
        clear hW10 hb10 hox10 hox9 hb2E HOV9 HOV2 HOV8 HO8 HO9 HB8 HB9
        generalize o.erased = er at *
        generalize o.whole = wh at *
        generalize o.hd.slots.length = m1 at *
        generalize o.sectors.length = m3 at *
        generalize o.words.length = m2 at *
        generalize o.hd.kind = u1 at *
        generalize o.hd.id = u2 at *
        generalize o.hd.row = u3 at *
        generalize o.hd.place = u4 at *
        generalize o.hd.width = u5 at *
        generalize o.flips = u6 at *
        go_wp2_with fail
        refine HSAME.out.mono ?_
        rintro e w11 ⟨rfl, hb11⟩
        have HB11 := hid hb11
        clear hb11 HSAME p0 p1 p2 p3 p4 p5 p6 p7 p8 p9 p10 q0 q1 q2 q3 q4 q5 q6 q7 q8 q9 q10
        go_wp2_with fail
        go_ret
        exact ⟨rfl, HBC.out.comp (HB10.out.comp HB11.out)⟩
      · have hr1 : (0 : Int) < (rn : Int) := by omega
        have hz1 : ¬ (zn : Int) = 0 := by omega
        have hz2 : ((zn : Int) == 0) = false := beq_eq_false_iff_ne.2 hz1
        have hrd := HPW.out.rd
        obtain ⟨l, hl⟩ : ∃ l, (List.range n).map F = l := ⟨_, rfl⟩
        have hlen : l.length = n := by rw [← hl]; simp
        have hlt8 : ∀ y ∈ l, y < 256 := by rw [← hl]; intro y hy; obtain ⟨j, _, rfl⟩ := List.mem_map.1 hy; exact HFF.out j
        rw [hl] at hrd
        have HU1 := hid (unp_all f S N T mw mh pg 0 pc n l wc HL.out HFC.out hrd hlen hlt8)
        have HU2 : Hid (∀ V, Below wc.heap.size wc V → _) := hid fun V hV => r5unp_all S N T mw mh _ pg 0 pc n l V HL.out HQ.out (H5C.out.below hV) (hrd.below hV) hlen hlt8
        clear hrd hl hlen hlt8 HPW HFF
        obtain ⟨E, hE⟩ : ∃ E, unpE S N T mw mh l = E := ⟨_, rfl⟩
        have hwf := unpO_wf S N T mw mh l
        obtain ⟨o, ho⟩ : ∃ o, unpO S N T mw mh l = o := ⟨_, rfl⟩
        rw [ho] at hwf
        rw [ho, hE] at HU1 HU2
        have HWF := hid hwf
        clear ho hE hwf
        go_wp2_with fail
        refine HU1.out.mono ?_
        rintro e w7 ⟨⟨ov, rfl, hov⟩, hb7⟩
        have HOV := hid hov
        obtain ⟨sa, sc, wa, wcc, ra1, rc1, rfl, _⟩ := hov.out
        have hkf7 := (hb7.block k3 (lt_at HKFC.out)).trans HKFC.out
        go_upto_region 18 with (fail)
        obtain ⟨b1, hb1E⟩ : ∃ b, w7.heap.size = b := ⟨_, rfl⟩
        obtain ⟨W8, hW8⟩ : ∃ V, w7.alloc (.cells #[.bool o.erased, .int .i64 (o.whole : Nat), .int .i64 o.hd.kind, .int .u32 (o.hd.id : Nat), .int .i64 o.hd.row, .int .i64 o.hd.place, .int .i64 o.hd.width, .slice sa o.hd.slots.length sc, .slice wa o.words.length wcc, .slice ra1 o.sectors.length rc1, .int .i64 (o.flips : Nat)] 50) = V := ⟨_, rfl⟩
        rw [hW8, hb1E]
        have hb8 : Below w7.heap.size w7 W8 := by rw [← hW8]; exact (Below.refl _ _).alloc (Nat.le_refl _) _
        have hox8 : W8.heap[b1]? = some (.cells #[.bool o.erased, .int .i64 (o.whole : Nat), .int .i64 o.hd.kind, .int .u32 (o.hd.id : Nat), .int .i64 o.hd.row, .int .i64 o.hd.place, .int .i64 o.hd.width, .slice sa o.hd.slots.length sc, .slice wa o.words.length wcc, .slice ra1 o.sectors.length rc1, .int .i64 (o.flips : Nat)] 50 (0, 0)) := by rw [← hW8]; exact alloc_at hb1E.symm
        have hkf8 := (hb8.block k3 (lt_at hkf7)).trans hkf7
        have HO8 := hid hox8
        have HB8 := hid (hb7.comp hb8)
        have HOV8 := hid (HOV.out.below hb8)
        have c0 := cell_at hkf8 0
        have c1 := cell_at hkf8 1
        have c2 := cell_at hkf8 2
        have c3 := cell_at hkf8 3
        have c4 := cell_at hkf8 4
        have c5 := cell_at hkf8 5
        have c6 := cell_at hkf8 6
        have c7 := cell_at hkf8 7
        have c8 := cell_at hkf8 8
        have c9 := cell_at hkf8 9
        have c10 := cell_at hkf8 10
        clear hW8 hb8 hox8 hkf8 hkf7 hb7 hov hb1E HU1 HOV
        go_wp2_with fail
        refine (HU2.out _ HB8.out).mono ?_
        rintro e w9 ⟨⟨ov2, rfl, hov2⟩, hb9⟩
        have HOV2 := hid hov2
        obtain ⟨sa2, sc2, wa2, wcc2, ra2, rc2, rfl, _⟩ := hov2.out
        have HO9 := hid ((hb9.block b1 (lt_at HO8.out)).trans HO8.out)
        have HOV9 := hid (HOV8.out.below hb9)
        have HB9 := hid (HB8.out.comp hb9)
        clear c0 c1 c2 c3 c4 c5 c6 c7 c8 c9 c10 hov2 hb9 HU2
        go_upto_region 19 with (fail)
        obtain ⟨b2, hb2E⟩ : ∃ b, w9.heap.size = b := ⟨_, rfl⟩
        obtain ⟨W10, hW10⟩ : ∃ V, w9.alloc (.cells #[.bool o.erased, .int .i64 (o.whole : Nat), .int .i64 o.hd.kind, .int .u32 (o.hd.id : Nat), .int .i64 o.hd.row, .int .i64 o.hd.place, .int .i64 o.hd.width, .slice sa2 o.hd.slots.length sc2, .slice wa2 o.words.length wcc2, .slice ra2 o.sectors.length rc2, .int .i64 (o.flips : Nat)] 50) = V := ⟨_, rfl⟩
        rw [hW10, hb2E]
        have hb10 : Below w9.heap.size w9 W10 := by rw [← hW10]; exact (Below.refl _ _).alloc (Nat.le_refl _) _
        have hox10 : W10.heap[b2]? = some (.cells #[.bool o.erased, .int .i64 (o.whole : Nat), .int .i64 o.hd.kind, .int .u32 (o.hd.id : Nat), .int .i64 o.hd.row, .int .i64 o.hd.place, .int .i64 o.hd.width, .slice sa2 o.hd.slots.length sc2, .slice wa2 o.words.length wcc2, .slice ra2 o.sectors.length rc2, .int .i64 (o.flips : Nat)] 50 (0, 0)) := by rw [← hW10]; exact alloc_at hb2E.symm
        have hox9 := (hb10.block b1 (lt_at HO9.out)).trans HO9.out
        have HSAME := hid (r5same_any _ _ o W10 (HOV9.out.below hb10) (HOV2.out.below hb10) HWF.out)
        have HB10 := hid (HB9.out.comp hb10)
        obtain ⟨p0, p1, p2, p3, p4, p5, p6, p7, p8, p9, p10⟩ := op_cells hox9
        obtain ⟨q0, q1, q2, q3, q4, q5, q6, q7, q8, q9, q10⟩ := op_cells hox10
        clear hW10 hb10 hox10 hox9 hb2E HOV9 HOV2 HOV8 HO8 HO9 HB8 HB9
        generalize o.erased = er at *
        generalize o.whole = wh at *
        generalize o.hd.slots.length = m1 at *
        generalize o.sectors.length = m3 at *
        generalize o.words.length = m2 at *
        generalize o.hd.kind = u1 at *
        generalize o.hd.id = u2 at *
        generalize o.hd.row = u3 at *
        generalize o.hd.place = u4 at *
        generalize o.hd.width = u5 at *
        generalize o.flips = u6 at *
        go_wp2_with fail
        refine HSAME.out.mono ?_
        rintro e w11 ⟨rfl, hb11⟩
        have HB11 := hid hb11
        clear hb11 HSAME p0 p1 p2 p3 p4 p5 p6 p7 p8 p9 p10 q0 q1 q2 q3 q4 q5 q6 q7 q8 q9 q10
        go_wp2_with fail
        go_ret
        exact ⟨rfl, HBC.out.comp (HB10.out.comp HB11.out)⟩
    · obtain rfl : rn = 0 := by omega
      have hrd := HPW.out.rd
      obtain ⟨l, hl⟩ : ∃ l, (List.range n).map F = l := ⟨_, rfl⟩
      have hlen : l.length = n := by rw [← hl]; simp
      have hlt8 : ∀ y ∈ l, y < 256 := by rw [← hl]; intro y hy; obtain ⟨j, _, rfl⟩ := List.mem_map.1 hy; exact HFF.out j
      rw [hl] at hrd
      have HU1 := hid (unp_all f S N T mw mh pg 0 pc n l wc HL.out HFC.out hrd hlen hlt8)
      have HU2 : Hid (∀ V, Below wc.heap.size wc V → _) := hid fun V hV => r5unp_all S N T mw mh _ pg 0 pc n l V HL.out HQ.out (H5C.out.below hV) (hrd.below hV) hlen hlt8
      clear hrd hl hlen hlt8 HPW HFF
      obtain ⟨E, hE⟩ : ∃ E, unpE S N T mw mh l = E := ⟨_, rfl⟩
      have hwf := unpO_wf S N T mw mh l
      obtain ⟨o, ho⟩ : ∃ o, unpO S N T mw mh l = o := ⟨_, rfl⟩
      rw [ho] at hwf
      rw [ho, hE] at HU1 HU2
      have HWF := hid hwf
      clear ho hE hwf
      go_wp2_with fail
      refine HU1.out.mono ?_
      rintro e w7 ⟨⟨ov, rfl, hov⟩, hb7⟩
      have HOV := hid hov
      obtain ⟨sa, sc, wa, wcc, ra1, rc1, rfl, _⟩ := hov.out
      have hkf7 := (hb7.block k3 (lt_at HKFC.out)).trans HKFC.out
      go_upto_region 18 with (fail)
      obtain ⟨b1, hb1E⟩ : ∃ b, w7.heap.size = b := ⟨_, rfl⟩
      obtain ⟨W8, hW8⟩ : ∃ V, w7.alloc (.cells #[.bool o.erased, .int .i64 (o.whole : Nat), .int .i64 o.hd.kind, .int .u32 (o.hd.id : Nat), .int .i64 o.hd.row, .int .i64 o.hd.place, .int .i64 o.hd.width, .slice sa o.hd.slots.length sc, .slice wa o.words.length wcc, .slice ra1 o.sectors.length rc1, .int .i64 (o.flips : Nat)] 50) = V := ⟨_, rfl⟩
      rw [hW8, hb1E]
      have hb8 : Below w7.heap.size w7 W8 := by rw [← hW8]; exact (Below.refl _ _).alloc (Nat.le_refl _) _
      have hox8 : W8.heap[b1]? = some (.cells #[.bool o.erased, .int .i64 (o.whole : Nat), .int .i64 o.hd.kind, .int .u32 (o.hd.id : Nat), .int .i64 o.hd.row, .int .i64 o.hd.place, .int .i64 o.hd.width, .slice sa o.hd.slots.length sc, .slice wa o.words.length wcc, .slice ra1 o.sectors.length rc1, .int .i64 (o.flips : Nat)] 50 (0, 0)) := by rw [← hW8]; exact alloc_at hb1E.symm
      have hkf8 := (hb8.block k3 (lt_at hkf7)).trans hkf7
      have HO8 := hid hox8
      have HB8 := hid (hb7.comp hb8)
      have HOV8 := hid (HOV.out.below hb8)
      have c0 := cell_at hkf8 0
      have c1 := cell_at hkf8 1
      have c2 := cell_at hkf8 2
      have c3 := cell_at hkf8 3
      have c4 := cell_at hkf8 4
      have c5 := cell_at hkf8 5
      have c6 := cell_at hkf8 6
      have c7 := cell_at hkf8 7
      have c8 := cell_at hkf8 8
      have c9 := cell_at hkf8 9
      have c10 := cell_at hkf8 10
      clear hW8 hb8 hox8 hkf8 hkf7 hb7 hov hb1E HU1 HOV
      go_wp2_with fail
      refine (HU2.out _ HB8.out).mono ?_
      rintro e w9 ⟨⟨ov2, rfl, hov2⟩, hb9⟩
      have HOV2 := hid hov2
      obtain ⟨sa2, sc2, wa2, wcc2, ra2, rc2, rfl, _⟩ := hov2.out
      have HO9 := hid ((hb9.block b1 (lt_at HO8.out)).trans HO8.out)
      have HOV9 := hid (HOV8.out.below hb9)
      have HB9 := hid (HB8.out.comp hb9)
      clear c0 c1 c2 c3 c4 c5 c6 c7 c8 c9 c10 hov2 hb9 HU2
      go_upto_region 19 with (fail)
      obtain ⟨b2, hb2E⟩ : ∃ b, w9.heap.size = b := ⟨_, rfl⟩
      obtain ⟨W10, hW10⟩ : ∃ V, w9.alloc (.cells #[.bool o.erased, .int .i64 (o.whole : Nat), .int .i64 o.hd.kind, .int .u32 (o.hd.id : Nat), .int .i64 o.hd.row, .int .i64 o.hd.place, .int .i64 o.hd.width, .slice sa2 o.hd.slots.length sc2, .slice wa2 o.words.length wcc2, .slice ra2 o.sectors.length rc2, .int .i64 (o.flips : Nat)] 50) = V := ⟨_, rfl⟩
      rw [hW10, hb2E]
      have hb10 : Below w9.heap.size w9 W10 := by rw [← hW10]; exact (Below.refl _ _).alloc (Nat.le_refl _) _
      have hox10 : W10.heap[b2]? = some (.cells #[.bool o.erased, .int .i64 (o.whole : Nat), .int .i64 o.hd.kind, .int .u32 (o.hd.id : Nat), .int .i64 o.hd.row, .int .i64 o.hd.place, .int .i64 o.hd.width, .slice sa2 o.hd.slots.length sc2, .slice wa2 o.words.length wcc2, .slice ra2 o.sectors.length rc2, .int .i64 (o.flips : Nat)] 50 (0, 0)) := by rw [← hW10]; exact alloc_at hb2E.symm
      have hox9 := (hb10.block b1 (lt_at HO9.out)).trans HO9.out
      have HSAME := hid (r5same_any _ _ o W10 (HOV9.out.below hb10) (HOV2.out.below hb10) HWF.out)
      have HB10 := hid (HB9.out.comp hb10)
      obtain ⟨p0, p1, p2, p3, p4, p5, p6, p7, p8, p9, p10⟩ := op_cells hox9
      obtain ⟨q0, q1, q2, q3, q4, q5, q6, q7, q8, q9, q10⟩ := op_cells hox10
      clear hW10 hb10 hox10 hox9 hb2E HOV9 HOV2 HOV8 HO8 HO9 HB8 HB9
      generalize o.erased = er at *
      generalize o.whole = wh at *
      generalize o.hd.slots.length = m1 at *
      generalize o.sectors.length = m3 at *
      generalize o.words.length = m2 at *
      generalize o.hd.kind = u1 at *
      generalize o.hd.id = u2 at *
      generalize o.hd.row = u3 at *
      generalize o.hd.place = u4 at *
      generalize o.hd.width = u5 at *
      generalize o.flips = u6 at *
      go_wp2_with fail
      refine HSAME.out.mono ?_
      rintro e w11 ⟨rfl, hb11⟩
      have HB11 := hid hb11
      clear hb11 HSAME p0 p1 p2 p3 p4 p5 p6 p7 p8 p9 p10 q0 q1 q2 q3 q4 q5 q6 q7 q8 q9 q10
      go_wp2_with fail
      go_ret
      exact ⟨rfl, HBC.out.comp (HB10.out.comp HB11.out)⟩
end Go.Proofs.YtoanopegoilcnaaGreat
