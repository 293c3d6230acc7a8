/- Walks over firkinlaw05: PagePacks. -/
import Derived.Test.YtoanopegoilcnaaGreatZZt
import Derived.Test.YtoanopegoilcnaaGreatZPlc
import Derived.Test.YtoanopegoilcnaaGreatJj
set_option linter.unusedVariables false
namespace Go.Proofs.YtoanopegoilcnaaGreat
open Go.RowKit Go.Mem Go.Pg

set_option maxRecDepth 100000 in
set_option maxHeartbeats 12800000 in
theorem pagePacks_walk (a b c : Int) (v1 : Value) (hd1 : Head) (v2 : Value) (rows1 : List (List Nat)) (w : World) (ha : (Lit.int .i64 a).wf = true) (hb : (Lit.int .i64 b).wf = true) (hc : (Lit.int .i64 c).wf = true)
    (hv1 : HdV w v1 hd1) (hw1 : hd1.Wf) (hr1 : RB w v2 rows1) (hrx1 : ∀ r ∈ rows1, ∀ y ∈ r, y < 256) :
    Calls Tryz.prog 3 #[.agg #[.int .i64 a, .int .i64 b, .int .i64 c], v1, v2] w fun e w' => e = .returned (.bool true) ∧ Below w.heap.size w w' := by
  have HRB1 := hid hr1
  have HRX1 := hid hrx1
  clear hr1 hrx1
  obtain ⟨mw, mh, hL⟩ := small_lay (absN a) (absN b) (absN c)
  have hS12 : smA (absN a) 12 ≤ 12 := by unfold smA; omega
  have hN3 : smA (absN b) 3 ≤ 3 := by unfold smA; omega
  have hT3 : smA (absN c) 3 ≤ 3 := by unfold smA; omega
  have HSM := hid (fun w => small_any a b c w ha hb hc)
  generalize smA (absN a) 12 = S at *
  generalize smA (absN b) 3 = N at *
  generalize smA (absN c) 3 = T at *
  have hpg := pageB_le hL
  have hby : byB S N T mw mh ≤ 4096 := by rw [byB_page]; omega
  have hqq : Par (13 + 11 * N) T mh := by have := hL.ph; rwa [show 9 + 11 * N + 4 = 13 + 11 * N by omega] at this
  have HBOTH := hid (fun w => both_any S N T mw mh w hL hqq hby)
  have HQ := hid hqq
  have HL := hid hL
  have HWF1 := hid hw1
  have HV1 := hid hv1
  obtain ⟨zv, rfl, hsl⟩ := hv1
  obtain ⟨za, zcap, rfl, _⟩ := id hsl
  generalize hd1.slots.length = zn at *
  clear hL ha hb hc hsl hw1 hpg hby hqq
  go_enter Tryz.func3, Tryz.ntmps3
  go_wp2_with fail
  obtain ⟨W, hW⟩ : ∃ W, (w.alloc (.cells #[.int .i64 a, .int .i64 b, .int .i64 c] 23)).alloc (.cells #[.int .i64 hd1.kind, .int .u32 (hd1.id : Nat), .int .i64 hd1.row, .int .i64 hd1.place, .int .i64 hd1.width, .slice za zn zcap] 27) = W := ⟨_, rfl⟩
  have hlb : W.heap[w.heap.size]? = some (.cells #[.int .i64 a, .int .i64 b, .int .i64 c] 23 (0, 0)) := by rw [← hW]; exact (alloc_old (by simp)).trans (alloc_new w _)
  have hhb : W.heap[w.heap.size + 1]? = some (.cells #[.int .i64 hd1.kind, .int .u32 (hd1.id : Nat), .int .i64 hd1.row, .int .i64 hd1.place, .int .i64 hd1.width, .slice za zn zcap] 27 (0, 0)) := by rw [← hW]; exact alloc_at (by simp)
  have hbW : Below w.heap.size w W := by rw [← hW]; exact bl_alloc (bl_alloc (Below.refl _ _) _) _
  rw [hW]
  refine (awake_any _).mono ?_
  rintro e w1 ⟨rfl, hb1⟩
  obtain ⟨kb, hkE⟩ : ∃ b, w.heap.size + 1 = b := ⟨_, rfl⟩
  obtain ⟨lb, hlE⟩ : ∃ b, w.heap.size = b := ⟨_, rfl⟩
  rw [hkE] at hhb ⊢
  rw [hlE] at hlb ⊢
  have hlb1 := (hb1.block lb (lt_at hlb)).trans hlb
  have HHB := hid ((hb1.block kb (lt_at hhb)).trans hhb)
  have HB1 := hid (hbW.comp hb1)
  have q0 := cell_at hlb1 0
  have q1 := cell_at hlb1 1
  have q2 := cell_at hlb1 2
  clear hW hbW hlb hb1 hlb1 hlE hhb hkE
  go_wp2_with fail
  refine (HSM.out _).mono ?_
  rintro e w2 ⟨rfl, hb2⟩
  have HHB2 := hid ((hb2.block kb (lt_at HHB.out)).trans HHB.out)
  have HB2 := hid (HB1.out.comp hb2)
  clear hb2 q0 q1 q2
  go_wp2_with fail
  refine (HBOTH.out _).mono ?_
  rintro e w3 ⟨⟨f, v5, rfl, hf, h5⟩, hb3⟩
  obtain ⟨ga, gl, gc, ha, hl, hc, rfl, _, _⟩ := h5.parts
  have HF := hid hf
  have H5 := hid h5
  have HHB3 := hid ((hb3.block kb (lt_at HHB2.out)).trans HHB2.out)
  have HB3 := hid (HB2.out.comp hb3)
  clear hf h5 hb3
  go_upto_region 5 with (fail)
  obtain ⟨k3, hk3⟩ : ∃ b, w3.heap.size = b := ⟨_, rfl⟩
  obtain ⟨W4, hW4⟩ : ∃ V, w3.alloc (.cells #[.int .i64 S, .int .i64 N, .int .i64 T, .int .i64 mw, .int .i64 ((S : Int) + 4), .int .i64 T, .slice ga gl gc, .int .i64 mh, .int .i64 (13 + 11 * (N : Int)), .int .i64 T, .slice ha hl hc] 35) = V := ⟨_, rfl⟩
  rw [hW4, hk3]
  have hb4 : Below w3.heap.size w3 W4 := by rw [← hW4]; exact (Below.refl _ _).alloc (Nat.le_refl _) _
  have hkf : W4.heap[k3]? = some (.cells #[.int .i64 S, .int .i64 N, .int .i64 T, .int .i64 mw, .int .i64 ((S : Int) + 4), .int .i64 T, .slice ga gl gc, .int .i64 mh, .int .i64 (13 + 11 * (N : Int)), .int .i64 T, .slice ha hl hc] 35 (0, 0)) := by rw [← hW4]; exact alloc_at hk3.symm
  have H54 := hid (H5.out.below hb4)
  have HF4 := hid (HF.out.below hb4)
  have HHB4 := hid ((hb4.block kb (lt_at HHB3.out)).trans HHB3.out)
  have HB4 := hid (HB3.out.comp hb4)
  have HKF := hid hkf
  have HV4 : Hid (∀ V, Below W4.heap.size W4 V → HdV V (.agg #[.int .i64 hd1.kind, .int .u32 (hd1.id : Nat), .int .i64 hd1.row, .int .i64 hd1.place, .int .i64 hd1.width, .slice za zn zcap]) hd1) := hid fun V hV => HV1.out.below (HB4.out.comp hV)
  have hh4 := HHB4.out
  have g0 := cell_at hh4 0
  have g1 := cell_at hh4 1
  have g2 := cell_at hh4 2
  have g3 := cell_at hh4 3
  have g4 := cell_at hh4 4
  have g5 := cell_at hh4 5
  clear hW4 hb4 hk3 hkf hh4
  by_cases hcan : CanB S N hd1 rows1
  · have CN := hid hcan
    clear hcan
    go_wp2_with fail
    refine (pack_any f S N T mw mh _ _ hd1 rows1 W4 HL.out HF4.out (HV4.out W4 (Below.refl _ _)) HWF1.out (HRB1.out.below HB4.out) HRX1.out CN.out).mono ?_
    rintro e w5 ⟨⟨pv, rfl, hown⟩, hb5⟩
    have HP5 := hid hown.rd
    have hkf5 := (hb5.block k3 (lt_at HKF.out)).trans HKF.out
    have hhb5 := (hb5.block kb (lt_at HHB4.out)).trans HHB4.out
    have HB5 := hid hb5
    clear hown hb5 g0 g1 g2 g3 g4 g5
    have c0 := cell_at hkf5 0
    have c1 := cell_at hkf5 1
    have c2 := cell_at hkf5 2
    have c3 := cell_at hkf5 3
    have c4 := cell_at hkf5 4
    have c5 := cell_at hkf5 5
    have c6 := cell_at hkf5 6
    have c7 := cell_at hkf5 7
    have c8 := cell_at hkf5 8
    have c9 := cell_at hkf5 9
    have c10 := cell_at hkf5 10
    have g0 := cell_at hhb5 0
    have g1 := cell_at hhb5 1
    have g2 := cell_at hhb5 2
    have g3 := cell_at hhb5 3
    have g4 := cell_at hhb5 4
    have g5 := cell_at hhb5 5
    clear hkf5 hhb5
    go_wp2_with fail
    have HR5 := hid (r5pack_any S N T mw mh _ _ _ hd1 rows1 w5 HL.out HQ.out (H54.out.below HB5.out) (HV4.out w5 HB5.out) HWF1.out (HRB1.out.below (HB4.out.comp HB5.out)) HRX1.out)
    refine HR5.out.mono ?_
    rintro e w6 ⟨hr, hb6⟩
    rw [if_pos CN.out] at hr
    obtain ⟨qv, rfl, hown⟩ := hr
    have HB6 := hid (HB5.out.comp hb6)
    have k1 := conv_rd (HP5.out.below hb6)
    have k2 := conv_rd hown.rd
    clear hown hb6 HR5 g0 g1 g2 g3 g4 g5 c0 c1 c2 c3 c4 c5 c6 c7 c8 c9 c10
    generalize sv (packB S N T mw mh hd1 rows1) = str at *
    go_wp2_with fail
    go_ret
    exact ⟨by simp, HB4.out.comp HB6.out⟩
  · have CN := hid hcan
    clear hcan
    go_wp2_with fail
    refine (pack_bad f S N T mw mh _ _ hd1 rows1 W4 HL.out HF4.out (HV4.out W4 (Below.refl _ _)) HWF1.out (HRB1.out.below HB4.out) HRX1.out CN.out).mono ?_
    rintro e w5 ⟨rfl, hb5⟩
    have hkf5 := (hb5.block k3 (lt_at HKF.out)).trans HKF.out
    have hhb5 := (hb5.block kb (lt_at HHB4.out)).trans HHB4.out
    have HB5 := hid hb5
    clear hb5 g0 g1 g2 g3 g4 g5
    have c0 := cell_at hkf5 0
    have c1 := cell_at hkf5 1
    have c2 := cell_at hkf5 2
    have c3 := cell_at hkf5 3
    have c4 := cell_at hkf5 4
    have c5 := cell_at hkf5 5
    have c6 := cell_at hkf5 6
    have c7 := cell_at hkf5 7
    have c8 := cell_at hkf5 8
    have c9 := cell_at hkf5 9
    have c10 := cell_at hkf5 10
    have g0 := cell_at hhb5 0
    have g1 := cell_at hhb5 1
    have g2 := cell_at hhb5 2
    have g3 := cell_at hhb5 3
    have g4 := cell_at hhb5 4
    have g5 := cell_at hhb5 5
    clear hkf5 hhb5
    go_wp2_with fail
    refine (r5pack_any S N T mw mh _ _ _ hd1 rows1 w5 HL.out HQ.out (H54.out.below HB5.out) (HV4.out w5 HB5.out) HWF1.out (HRB1.out.below (HB4.out.comp HB5.out)) HRX1.out).mono ?_
    rintro e w6 ⟨hr, hb6⟩
    rw [if_neg CN.out] at hr
    subst hr
    have HB6 := hid (HB5.out.comp hb6)
    have k1 := conv_rd (RowM.nil 0 w6).rd
    clear hb6 g0 g1 g2 g3 g4 g5 c0 c1 c2 c3 c4 c5 c6 c7 c8 c9 c10
    generalize sv [] = str at *
    go_wp2_with fail
    go_ret
    exact ⟨by simp, HB4.out.comp HB6.out⟩
end Go.Proofs.YtoanopegoilcnaaGreat
