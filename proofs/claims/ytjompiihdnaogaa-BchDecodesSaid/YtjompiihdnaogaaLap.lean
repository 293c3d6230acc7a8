/- Walks over firkinlaw02: BchDecodes, whole. -/
import Derived.Test.YtjompiihdnaogaaLao
namespace Go.Proofs.Ytjompiihdnaogaa
open Go.RowKit Go.Mem

set_option maxRecDepth 100000 in
set_option maxHeartbeats 3200000 in
theorem bchDecodes_walk (a : Option Addr) (n cap : Nat) (xs : List Nat) (b : Option Addr) (n2 cap2 : Nat) (ys : List Nat) (t : Int) (a3 : Option Addr) (n3 cap3 : Nat) (zs : List Int) (w : World) (hv : Rd .u8 w (.slice a n cap) xs) (hl : xs.length = n) (hx : ∀ y ∈ xs, y < 256)
    (hv2 : Rd .u8 w (.slice b n2 cap2) ys) (hl2 : ys.length = n2) (hx2 : ∀ y ∈ ys, y < 256) (ht : (Lit.int .i64 t).wf = true) (hz : RdI .i64 w (.slice a3 n3 cap3) zs) (hzl : zs.length = n3) (hzw : ∀ y ∈ zs, (Lit.int .i64 y).wf = true) :
    Calls Try.prog 5 #[.slice a n cap, .slice b n2 cap2, .int .i64 t, .slice a3 n3 cap3] w fun e w' => e = .returned (.bool true) ∧ Below w.heap.size w w' := by
  have hc3 : n3 ≤ cap3 ∧ cap3 ≤ 9223372036854775807 := by obtain ⟨a', c', he, h1, h2, _⟩ := hz; cases he; unfold maxLen at h2; exact ⟨by omega, by omega⟩
  have hc31 := hc3.1
  have hc32 := hc3.2
  have HZ := hid hz
  have HZL := hid hzl
  have HZW := hid hzw
  have HV := hid hv
  have HX := hid hx
  have HL := hid hl
  have HV2 := hid hv2
  have HX2 := hid hx2
  have HL2 := hid hl2
  have hcapn : n ≤ cap ∧ cap ≤ maxLen := by obtain ⟨a', c', he, h1, h2, _⟩ := hv; cases he; exact ⟨by omega, h2⟩
  have hcapn2 : n2 ≤ cap2 ∧ cap2 ≤ maxLen := by obtain ⟨a', c', he, h1, h2, _⟩ := hv2; cases he; exact ⟨by omega, h2⟩
  have hc1 := hcapn.1
  have hc2 : cap ≤ 9223372036854775807 := by have := hcapn.2; unfold maxLen at this; omega
  have hc4 := hcapn2.1
  have hc5 : cap2 ≤ 9223372036854775807 := by have := hcapn2.2; unfold maxLen at this; omega
  clear hz hzl hzw hc3 hv hx hl hv2 hx2 hl2 hcapn hcapn2
  by_cases h0 : n = 0 ∨ 40 < n
  · rcases h0 with rfl | h0
    · go_enter Try.func5, Try.ntmps5
      go_wp2_with fail
      refine (awake_any _).mono ?_
      rintro e w1 ⟨rfl, hb1⟩
      go_wp2_with fail
      go_ret
      exact ⟨rfl, hb1⟩
    · have h1 : ((n : Int) == 0) = false := beq_eq_false_iff_ne.2 (by omega)
      have h2 : (40 : Int) < (n : Int) := by omega
      go_enter Try.func5, Try.ntmps5
      go_wp2_with fail
      refine (awake_any _).mono ?_
      rintro e w1 ⟨rfl, hb1⟩
      go_wp2_with fail
      go_ret
      exact ⟨rfl, hb1⟩
  · have h1 : ((n : Int) == 0) = false := beq_eq_false_iff_ne.2 (by omega)
    have h2 : ¬ (40 : Int) < (n : Int) := by omega
    have hn1 : 1 ≤ n := by omega
    have hn2 : n ≤ 40 := by omega
    clear h0
    obtain ⟨m, hp⟩ := Par.ex n (tt t) (by omega) (by omega) (tt_bd t).1 (tt_bd t).2
    have HP := hid hp
    have hcode := fun w => code_any a n cap m t w hp ht
    generalize tt t = T at *
    have HCODE := hid hcode
    clear hcode hp
    go_enter Try.func5, Try.ntmps5
    go_wp2_with fail
    refine (awake_any _).mono ?_
    rintro e w1 ⟨rfl, hb1⟩
    have HB1 := hid hb1
    clear hb1
    go_wp2_with fail
    refine (HCODE.out _).mono ?_
    rintro e w2 ⟨⟨c, rv, rfl, hc, hrc⟩, hb2⟩
    have HC := hid hc
    have HRC := hid hrc
    have HB2 := hid (HB1.out.comp hb2)
    obtain ⟨ga, L, gcap, rfl⟩ := nil_RC hrc
    clear hc hrc hb2 HCODE
    obtain ⟨W0, hW0⟩ : ∃ W0, w2.alloc (.cells #[.int .i64 m, .int .i64 n, .int .i64 T, .slice ga L gcap] 29) = W0 := ⟨_, rfl⟩
    have hR : W0.heap[w2.heap.size]? = some (.cells #[.int .i64 m, .int .i64 n, .int .i64 T, .slice ga L gcap] 29 (0, 0)) := by rw [← hW0]; exact alloc_new w2 _
    have hb20 : Below w2.heap.size w2 W0 := by rw [← hW0]; exact (Below.refl _ _).alloc (Nat.le_refl _) _
    have HC0 := hid (HC.out.below hb20)
    have HRC0 := hid (HRC.out.below hb20)
    have HB0 := hid (HB2.out.comp hb20)
    have HR := hid hR
    have HW0 := hid hW0
    clear hR hb20 hW0 HC HRC HB2
    obtain ⟨P, hP⟩ : ∃ P, (rr m T + 7) / 8 = P := ⟨_, rfl⟩
    have HPE := hid hP.symm
    have hPl : P ≤ 14 := by have := HP.out.r.2.2.2.1; omega
    clear hP
    by_cases hz3 : n3 = 0
    · subst hz3
      by_cases hnp : n2 = P
      · subst hnp
        go_wp2_with fail
        rw [HW0.out]
        refine (decode_any c n T m n2 _ _ xs ys _ HP.out HC0.out (HV.out.below HB0.out) (HV2.out.below HB0.out) HX.out HX2.out HL.out HPE.out HL2.out).mono ?_
        rintro e w3 ⟨hd1, hb3⟩
        have hrd := rdecode_any (.agg #[.int .i64 m, .int .i64 n, .int .i64 T, .slice ga L gcap]) (.slice a n cap) (.slice b n2 cap2) xs ys n T m n2 w3 HP.out (HRC0.out.below hb3) (HV.out.below (HB0.out.comp hb3)) (HV2.out.below (HB0.out.comp hb3)) HX.out HX2.out HL.out HPE.out HL2.out
        have HRD := hid hrd
        have hR3 := (hb3.block _ (lt_at HR.out)).trans HR.out
        have q0 := cell_at hR3 0
        have q1 := cell_at hR3 1
        have q2 := cell_at hR3 2
        have q3 := cell_at hR3 3
        have HB3 := hid (HB0.out.comp hb3)
        clear hb3 hrd hR3
        rcases hd1 with ⟨g1, e1, g2, e2, d1, p1, u1, _, _, rfl, ho1, ho2, hd1, hp1, hg1⟩ | ⟨rfl, hbad1⟩
        · have HO1 := hid ho1
          have HO2 := hid ho2
          have HD1 := hid hd1
          have HQ1 := hid hp1
          have HG1 := hid hg1
          clear ho1 ho2 hd1 hp1 hg1
          go_wp2_with fail
          refine HRD.out.mono ?_
          rintro e w4 ⟨hd2, hb4⟩
          rcases hd2 with ⟨g3, e3, g4, e4, d2, p2, u2, _, _, rfl, ho3, ho4, hd2, hp2, hg2⟩ | ⟨_, hbad⟩
          · obtain ⟨v1, v2, rfl⟩ := DecGood.uniq HP.out HPE.out HG1.out hg2 HD1.out HQ1.out hd2 hp2
            have k1 := conv_rd ((HO1.out.same (hb4.block _ HO1.out.lt)).rd)
            have k2 := conv_rd ((HO2.out.same (hb4.block _ HO2.out.lt)).rd)
            have k3 := conv_rd ((ho3.congr (fun j hj => (v1 j hj).symm)).rd)
            have k4 := conv_rd ((ho4.congr (fun j hj => (v2 j hj).symm)).rd)
            have HB4 := hid (HB3.out.comp hb4)
            generalize sv ((List.range n).map d1) = str1 at *
            generalize sv ((List.range n2).map p1) = str2 at *
            clear hb4 ho3 ho4 hd2 hp2 hg2 v1 v2
            go_wp2_with fail
            go_ret
            exact ⟨by simp, HB4.out⟩
          · exact (hbad.not HG1.out).elim
        · have HBAD := hid hbad1
          clear hbad1
          go_wp2_with fail
          refine HRD.out.mono ?_
          rintro e w4 ⟨hd2, hb4⟩
          rcases hd2 with ⟨g3, e3, g4, e4, d2, p2, u2, _, _, rfl, ho3, ho4, hd2, hp2, hg2⟩ | ⟨rfl, hbad⟩
          · exact (HBAD.out.not hg2).elim
          · have k1 : (convert 35 9 (.slice none 0 0)).run Try.prog w4 = .ok (.string (sv [])) w4 := conv_rd ⟨none, 0, rfl, Nat.le_refl _, by unfold maxLen; omega, fun j hj => by simp at hj⟩
            have HB4 := hid (HB3.out.comp hb4)
            clear hb4 hbad
            go_wp2_with fail
            go_ret
            exact ⟨by simp, HB4.out⟩
      · go_wp2_with fail
        rw [HW0.out]
        refine (decode_bad c n T m P a n cap b n2 cap2 _ HP.out HC0.out HPE.out rfl hnp).mono ?_
        rintro e w' ⟨rfl, rfl⟩
        have q0 := cell_at HR.out 0
        have q1 := cell_at HR.out 1
        have q2 := cell_at HR.out 2
        have q3 := cell_at HR.out 3
        go_wp2_with fail
        refine (rdecode_bad _ n T m P a n cap b n2 cap2 _ HP.out HRC0.out HPE.out rfl hnp).mono ?_
        rintro e w3 ⟨rfl, hb3⟩
        have k1 : (convert 35 9 (.slice none 0 0)).run Try.prog w3 = .ok (.string (sv [])) w3 := conv_rd ⟨none, 0, rfl, Nat.le_refl _, by unfold maxLen; omega, fun j hj => by simp at hj⟩
        have HB3 := hid (HB0.out.comp hb3)
        clear hb3
        go_wp2_with fail
        go_ret
        exact ⟨by simp, HB3.out⟩
    · have hz4 : (0 : Int) < (n3 : Int) := by omega
      go_wp2_with fail
      rw [HW0.out]
      refine (rencode_any _ _ xs n T m _ HP.out HRC0.out (HV.out.below HB0.out) HX.out HL.out).mono ?_
      rintro e w3 ⟨p, P', hp1, hP', rfl, hpc, hb3⟩
      obtain rfl : P' = P := by rw [hP', HPE.out]
      have hP1 : 1 ≤ P' := by have := HP.out.r.2.1; omega
      have hpr := Rd.of_fa hpc P' P' (Nat.le_refl _) (Nat.le_refl _) (by unfold maxLen; omega)
      have HPR := hid hpr
      have HB3 := hid (HB0.out.comp hb3)
      have HC3 := hid (HC0.out.below hb3)
      have HRC3 := hid (HRC0.out.below hb3)
      have HR3 := hid ((hb3.block _ (lt_at HR.out)).trans HR.out)
      clear hP' hp1 hpc hb3 hpr
      go_wp2_with fail
      refine (bent_any _ _ _ xs ((List.range P').map (par m T xs)) zs _ (HV.out.below HB3.out) HPR.out (HZ.out.below HB3.out) HX.out (fun y hy => by obtain ⟨j, _, rfl⟩ := List.mem_map.1 hy; exact par_lt _ _ _ j) HZW.out (by have := HL.out; omega) (by simp; omega) (by have := HL.out; omega) (by simp; omega)).mono ?_
      rintro e w4 ⟨⟨g1, cc1, g2, cc2, F1, F2, hg1, hg2, he, ho1, ho2, hf1, hf2, hub⟩, hb4⟩
      rw [HL.out] at he ho1
      rw [List.length_map, List.length_range] at he ho2
      subst he
      have hl1 : ∀ y ∈ (List.range n).map F1, y < 256 := fun y hy => by obtain ⟨j, _, rfl⟩ := List.mem_map.1 hy; exact hf1 j
      have hl2 : ∀ y ∈ (List.range P').map F2, y < 256 := fun y hy => by obtain ⟨j, _, rfl⟩ := List.mem_map.1 hy; exact hf2 j
      have HO1 := hid ho1.rd
      have HO2 := hid ho2.rd
      have HL1 := hid hl1
      have HL2' := hid hl2
      have HB4 := hid (HB3.out.comp hb4)
      have HC4 := hid (HC3.out.below hb4)
      have HRC4 := hid (HRC3.out.below hb4)
      have HR4 := hid ((hb4.block _ (lt_at HR3.out)).trans HR3.out)
      clear hg1 hg2 ho1 ho2 hf1 hf2 hub hb4 hl1 hl2
      go_wp2_with fail
      refine (decode_any c n T m P' _ _ ((List.range n).map F1) ((List.range P').map F2) _ HP.out HC4.out HO1.out HO2.out HL1.out HL2'.out (by simp) HPE.out (by simp)).mono ?_
      rintro e w5 ⟨hd1, hb5⟩
      have hrd := rdecode_any (.agg #[.int .i64 m, .int .i64 n, .int .i64 T, .slice ga L gcap]) _ _ ((List.range n).map F1) ((List.range P').map F2) n T m P' w5 HP.out (HRC4.out.below hb5) (HO1.out.below hb5) (HO2.out.below hb5) HL1.out HL2'.out (by simp) HPE.out (by simp)
      have HRD := hid hrd
      have hR5 := (hb5.block _ (lt_at HR4.out)).trans HR4.out
      have q0 := cell_at hR5 0
      have q1 := cell_at hR5 1
      have q2 := cell_at hR5 2
      have q3 := cell_at hR5 3
      have HB5 := hid (HB4.out.comp hb5)
      clear hb5 hrd hR5
      rcases hd1 with ⟨y1, e1, y2, e2, d1, p1, u1, _, _, rfl, ho1, ho2, hd1, hp1, hg1⟩ | ⟨rfl, hbad1⟩
      · have HO1 := hid ho1
        have HO2 := hid ho2
        have HD1 := hid hd1
        have HQ1 := hid hp1
        have HG1 := hid hg1
        clear ho1 ho2 hd1 hp1 hg1
        go_wp2_with fail
        refine HRD.out.mono ?_
        rintro e w6 ⟨hd2, hb6⟩
        rcases hd2 with ⟨y3, e3, y4, e4, d2, p2, u2, _, _, rfl, ho3, ho4, hd2, hp2, hg2⟩ | ⟨_, hbad⟩
        · obtain ⟨v1, v2, rfl⟩ := DecGood.uniq HP.out HPE.out HG1.out hg2 HD1.out HQ1.out hd2 hp2
          have k1 := conv_rd ((HO1.out.same (hb6.block _ HO1.out.lt)).rd)
          have k2 := conv_rd ((HO2.out.same (hb6.block _ HO2.out.lt)).rd)
          have k3 := conv_rd ((ho3.congr (fun j hj => (v1 j hj).symm)).rd)
          have k4 := conv_rd ((ho4.congr (fun j hj => (v2 j hj).symm)).rd)
          have HB6 := hid (HB5.out.comp hb6)
          generalize sv ((List.range n).map d1) = str1 at *
          generalize sv ((List.range P').map p1) = str2 at *
          clear hb6 ho3 ho4 hd2 hp2 hg2 v1 v2
          go_wp2_with fail
          go_ret
          exact ⟨by simp, HB6.out⟩
        · exact (hbad.not HG1.out).elim
      · have HBAD := hid hbad1
        clear hbad1
        go_wp2_with fail
        refine HRD.out.mono ?_
        rintro e w6 ⟨hd2, hb6⟩
        rcases hd2 with ⟨y3, e3, y4, e4, d2, p2, u2, _, _, rfl, ho3, ho4, hd2, hp2, hg2⟩ | ⟨rfl, hbad⟩
        · exact (HBAD.out.not hg2).elim
        · have k1 : (convert 35 9 (.slice none 0 0)).run Try.prog w6 = .ok (.string (sv [])) w6 := conv_rd ⟨none, 0, rfl, Nat.le_refl _, by unfold maxLen; omega, fun j hj => by simp at hj⟩
          have HB6 := hid (HB5.out.comp hb6)
          clear hb6 hbad
          go_wp2_with fail
          go_ret
          exact ⟨by simp, HB6.out⟩
end Go.Proofs.Ytjompiihdnaogaa
