/- Walks over firkinlaw02: BchMends. -/
import Derived.Test.YtjompiihdnaogaaLah
namespace Go.Proofs.Ytjompiihdnaogaa
open Go.RowKit Go.Mem

theorem tt_cases (t : Int) (hw : (Lit.int .i64 t).wf = true) : (t < 0 ∧ wrap64 (1 + -(t + 1).tmod 8) = (tt t : Int)) ∨ (0 ≤ t ∧ 1 + t % 8 = (tt t : Int)) := by
  have hb := bounds_i64 hw
  by_cases h0 : t < 0
  · refine .inl ⟨h0, ?_⟩
    rw [← Int.neg_tmod, Int.tmod_eq_emod_of_nonneg (by omega), IntWalk.wrap64_in _ ⟨by omega, by omega⟩]
    unfold tt; rw [if_pos h0]; omega
  · refine .inr ⟨by omega, ?_⟩
    unfold tt; rw [if_neg h0]; omega

set_option maxRecDepth 100000 in
set_option maxHeartbeats 3200000 in
theorem bchMends_walk (a : Option Addr) (n cap : Nat) (xs : List Nat) (t : Int) (a3 : Option Addr) (n3 cap3 : Nat) (zs : List Int) (w : World) (hv : Rd .u8 w (.slice a n cap) xs) (hl : xs.length = n) (hx : ∀ y ∈ xs, y < 256) (ht : (Lit.int .i64 t).wf = true)
    (hz : RdI .i64 w (.slice a3 n3 cap3) zs) (hzl : zs.length = n3) (hzw : ∀ y ∈ zs, (Lit.int .i64 y).wf = true) :
    Calls Try.prog 6 #[.slice a n cap, .int .i64 t, .slice a3 n3 cap3] w fun e w' => e = .returned (.bool true) ∧ Below w.heap.size w w' := by
  have hc3 : n3 ≤ cap3 ∧ cap3 ≤ 9223372036854775807 := by obtain ⟨a', c', he, h1, h2, _⟩ := hz; cases he; unfold maxLen at h2; exact ⟨by omega, by omega⟩
  have hc31 := hc3.1
  have hc32 := hc3.2
  have hzs : (tt t < n3 ∧ Hid (RdI .i64 w (.slice a3 (tt t) cap3) (zs.take (tt t)) ∧ (zs.take (tt t)).length = tt t ∧ ∀ y ∈ zs.take (tt t), (Lit.int .i64 y).wf = true)) ∨ (n3 ≤ tt t ∧ Hid (RdI .i64 w (.slice a3 n3 cap3) zs ∧ zs.length = n3 ∧ ∀ y ∈ zs, (Lit.int .i64 y).wf = true)) := by
    by_cases h : tt t < n3
    · exact .inl ⟨h, hid ⟨hz.take hzl _ (by omega), by rw [List.length_take]; omega, fun y hy => hzw y (List.mem_of_mem_take hy)⟩⟩
    · exact .inr ⟨by omega, hid ⟨hz, hzl, hzw⟩⟩
  have htc := tt_cases t ht
  have htb := tt_bd t
  have hb64 := bounds_i64 ht
  have hb641 := hb64.1
  have hb642 := hb64.2
  clear hz hzl hzw hc3 hb64
  have HV := hid hv
  have HX := hid hx
  have HL := hid hl
  have hcapn : n ≤ cap ∧ cap ≤ maxLen := by obtain ⟨a', c', he, h1, h2, _⟩ := hv; cases he; exact ⟨by omega, h2⟩
  have hc1 := hcapn.1
  have hc2 : cap ≤ 9223372036854775807 := by have := hcapn.2; unfold maxLen at this; omega
  clear hv hx hl hcapn
  by_cases h0 : n = 0 ∨ 200 < n
  · rcases h0 with rfl | h0
    · go_enter Try.func6, Try.ntmps6
      go_wp2_with fail
      refine (awake_any _).mono ?_
      rintro e w1 ⟨rfl, hb1⟩
      go_wp2_with fail
      go_ret
      exact ⟨rfl, hb1⟩
    · have h1 : ((n : Int) == 0) = false := beq_eq_false_iff_ne.2 (by omega)
      have h2 : (200 : Int) < (n : Int) := by omega
      go_enter Try.func6, Try.ntmps6
      go_wp2_with fail
      refine (awake_any _).mono ?_
      rintro e w1 ⟨rfl, hb1⟩
      go_wp2_with fail
      go_ret
      exact ⟨rfl, hb1⟩
  · have h1 : ((n : Int) == 0) = false := beq_eq_false_iff_ne.2 (by omega)
    have h2 : ¬ (200 : Int) < (n : Int) := by omega
    have hn1 : 1 ≤ n := by omega
    have hn2 : n ≤ 200 := by omega
    clear h0
    obtain ⟨m, hp⟩ := Par.ex n (tt t) (by omega) (by omega) (tt_bd t).1 (tt_bd t).2
    have HP := hid hp
    have hcode := fun w => code_any a n cap m t w hp ht
    generalize tt t = T at *
    have HCODE := hid hcode
    clear hcode hp
    have htb1 := htb.1
    have htb2 := htb.2
    clear htb
    rcases htc with ⟨ht0, hT⟩ | ⟨ht0, hT⟩ <;> rcases hzs with ⟨hz0, HZ⟩ | ⟨hz0, HZ⟩
    all_goals
      go_enter Try.func6, Try.ntmps6
      go_wp2_with fail
      refine (awake_any _).mono ?_
      rintro e w1 ⟨rfl, hb1⟩
      have HB1 := hid hb1
      clear hb1
      go_wp2_with fail
      refine (HCODE.out _).mono ?_
      rintro e w2 ⟨⟨c, rv, rfl, hc, hrc⟩, hb2⟩
      have HC := hid hc
      have HRC := hid hrc
      have HB2 := hid (HB1.out.comp hb2)
      obtain ⟨ga, L, gcap, rfl⟩ := nil_RC hrc
      clear hc hrc hb2 HCODE
      go_wp2_with fail
      obtain ⟨W0, hW0⟩ : ∃ W0, w2.alloc (.cells #[.int .i64 m, .int .i64 n, .int .i64 T, .slice ga L gcap] 29) = W0 := ⟨_, rfl⟩
      have hb20 : Below w2.heap.size w2 W0 := by rw [← hW0]; exact (Below.refl _ _).alloc (Nat.le_refl _) _
      rw [hW0]
      have HC0 := hid (HC.out.below hb20)
      have HB0 := hid (HB2.out.comp hb20)
      clear hb20 hW0 HC HRC HB2
      refine (encode_any c n T m _ xs _ HP.out HC0.out (HV.out.below HB0.out) HX.out HL.out).mono ?_
      rintro e w3 ⟨p, P, hp1, hP, rfl, hpc, hb3⟩
      have hPl : P ≤ 14 := by have := HP.out.r.2.2.2.1; omega
      have hP1 : 1 ≤ P := by have := HP.out.r.2.1; omega
      have hpr := Rd.of_fa hpc P P (Nat.le_refl _) (Nat.le_refl _) (by unfold maxLen; omega)
      have HPR := hid hpr
      have HPE := hid hP
      have HB3 := hid (HB0.out.comp hb3)
      have HC3 := hid (HC0.out.below hb3)
      clear hpr hP hb3 hp1 hpc HC0 HB0
      go_wp2_with fail
      refine (bent_any _ _ _ xs ((List.range P).map (par m T xs)) _ _ (HV.out.below HB3.out) HPR.out (HZ.out.1.below HB3.out) HX.out (fun y hy => by obtain ⟨j, _, rfl⟩ := List.mem_map.1 hy; exact par_lt _ _ _ j) HZ.out.2.2 (by have := HL.out; omega) (by simp; omega) (by have := HL.out; omega) (by simp; omega)).mono ?_
      rintro e w4 ⟨⟨g1, cc1, g2, cc2, F1, F2, hg1, hg2, he, ho1, ho2, hf1, hf2, hub⟩, hb4⟩
      rw [HL.out] at he ho1 hub
      rw [List.length_map, List.length_range] at he ho2 hub
      subst he
      obtain ⟨Q, hQ⟩ : ∃ Q, (List.range P).map (par m T xs) = Q := ⟨_, rfl⟩
      obtain ⟨D1, hD1⟩ : ∃ D1, (List.range n).map F1 = D1 := ⟨_, rfl⟩
      obtain ⟨D2, hD2⟩ : ∃ D2, (List.range P).map F2 = D2 := ⟨_, rfl⟩
      have hr1 := ho1.rd
      have hr2 := ho2.rd
      rw [hD1] at hr1
      rw [hD2] at hr2
      rw [hQ] at hub
      have hQg : ∀ j, j < P → Q.getD j 0 = par m T xs j := fun j hj => by rw [← hQ, rg_getD _ _ _ hj]
      have hub1 : ub (D1.getD · 0) (xs.getD · 0) n = ub F1 (xs.getD · 0) n := ub_congr (fun j hj => by rw [← hD1]; exact rg_getD _ _ _ hj) (fun _ _ => rfl)
      have hub2 : ub (D2.getD · 0) (Q.getD · 0) P = ub F2 (Q.getD · 0) P := ub_congr (fun j hj => by rw [← hD2]; exact rg_getD _ _ _ hj) (fun _ _ => rfl)
      have hub3 : ub (D2.getD · 0) (par m T xs) P = ub (D2.getD · 0) (Q.getD · 0) P := ub_congr (fun _ _ => rfl) (fun j hj => (hQg j hj).symm)
      have hdl1 : ∀ y ∈ D1, y < 256 := fun y hy => by rw [← hD1] at hy; obtain ⟨j, _, rfl⟩ := List.mem_map.1 hy; exact hf1 j
      have hdl2 : ∀ y ∈ D2, y < 256 := fun y hy => by rw [← hD2] at hy; obtain ⟨j, _, rfl⟩ := List.mem_map.1 hy; exact hf2 j
      have hql : ∀ y ∈ Q, y < 256 := fun y hy => by rw [← hQ] at hy; obtain ⟨j, _, rfl⟩ := List.mem_map.1 hy; exact par_lt _ _ _ j
      have hln1 : D1.length = n := by rw [← hD1]; simp
      have hln2 : D2.length = P := by rw [← hD2]; simp
      have hlq : Q.length = P := by rw [← hQ]; simp
      have hbd : ub (D1.getD · 0) (xs.getD · 0) n + ub (D2.getD · 0) (par m T xs) P ≤ T := by
        rw [hub3, hub2, hub1]
        have := HZ.out.2.1
        omega
      have hk2 : ub (D1.getD · 0) (xs.getD · 0) n + Gf.cs (fun i => bitAt (D2.getD · 0) i ^^ bitAt (par m T xs) i) (rr m T) ≤ ub (D1.getD · 0) (xs.getD · 0) n + ub (D2.getD · 0) (Q.getD · 0) P := by
        rw [← hub3]
        have := (dst_ub (bytes := n) (P := P) (D1.getD · 0) (D2.getD · 0) (xs.getD · 0) (par m T xs) (show rr m T ≤ 8 * P by have := HPE.out; omega)).2
        omega
      have HR1 := hid hr1
      have HR2 := hid hr2
      have HDL1 := hid hdl1
      have HDL2 := hid hdl2
      have HQL := hid hql
      have HLN1 := hid hln1
      have HLN2 := hid hln2
      have HLQ := hid hlq
      have HBD := hid hbd
      have HK2 := hid hk2
      have HQE := hid hQ
      have HC4 := hid (HC3.out.below hb4)
      have HB4 := hid (HB3.out.comp hb4)
      have HPR4 := hid (HPR.out.below hb4)
      rw [hQ] at HPR4
      clear hr1 hr2 ho1 ho2 hdl1 hdl2 hql hln1 hln2 hlq hbd hk2 hQ hQg hub1 hub2 hub3 hub hD1 hD2 hf1 hf2 hb4 hg1 hg2
      go_wp2_with fail
      refine (decode_any c n T m P _ _ D1 D2 _ HP.out HC4.out HR1.out HR2.out HDL1.out HDL2.out HLN1.out HPE.out HLN2.out).mono ?_
      rintro e w5 ⟨hdr, hb5⟩
      obtain ⟨g3, cc3, g4, cc4, rfl, hx3, hx4⟩ := dec_known HP.out HPE.out xs HL.out HX.out HBD.out hdr
      rw [HQE.out] at hx4
      have HB5 := hid (HB4.out.comp hb5)
      have k1 : (convert 35 9 (.slice (some ⟨g3, 0, none⟩) n cc3)).run Try.prog w5 = .ok (.string (sv xs)) w5 := conv_rd hx3
      have k2 : (convert 35 9 (.slice a n cap)).run Try.prog w5 = .ok (.string (sv xs)) w5 := conv_rd (HV.out.below HB5.out)
      have k3 : (convert 35 9 (.slice (some ⟨g4, 0, none⟩) P cc4)).run Try.prog w5 = .ok (.string (sv Q)) w5 := conv_rd hx4
      have k4 : (convert 35 9 (.slice (some ⟨p, 0, none⟩) P P)).run Try.prog w5 = .ok (.string (sv Q)) w5 := conv_rd (HPR4.out.below hb5)
      have hu1 := unlike_any (.slice (some ⟨g1, 0, none⟩) n cc1) (.slice a n cap) D1 xs w5 (HR1.out.below hb5) (HV.out.below HB5.out) HDL1.out HX.out (by rw [HLN1.out, HL.out]) (by rw [HLN1.out]; omega)
      rw [HLN1.out] at hu1
      have hu2 := fun k => unlike_any (.slice (some ⟨g2, 0, none⟩) P cc2) (.slice (some ⟨p, 0, none⟩) P P) D2 Q (w5.drewN k) (HR2.out.below (hb5.drewN k)) (HPR4.out.below (hb5.drewN k)) HDL2.out HQL.out (by rw [HLN2.out, HLQ.out]) (by rw [HLN2.out]; omega)
      rw [HLN2.out] at hu2
      have hkk := HK2.out
      have hle1 : ub (D1.getD · 0) (xs.getD · 0) n ≤ 8 * n := by rw [← us_ub]; exact us_le _ _ _
      have hle2 : ub (D2.getD · 0) (Q.getD · 0) P ≤ 8 * P := by rw [← us_ub]; exact us_le _ _ _
      generalize ub (D1.getD · 0) (xs.getD · 0) n + Gf.cs (fun i => bitAt (D2.getD · 0) i ^^ bitAt (par m T xs) i) (rr m T) = kk at *
      generalize ub (D1.getD · 0) (xs.getD · 0) n = u1 at *
      generalize ub (D2.getD · 0) (Q.getD · 0) P = u2 at *
      have HU1 := hid hu1
      have HU2 := hid hu2
      have hkz : (kk : Int) ≤ (u1 : Int) + (u2 : Int) := by omega
      clear hdr hb5 hx3 hx4 hu1 hu2 hkk
      generalize sv xs = str1 at *
      generalize sv Q = str2 at *
      go_wp2_with fail
      refine HU1.out.mono ?_
      rintro e w' ⟨rfl, kd1, rfl⟩
      go_wp2_with fail
      refine (HU2.out kd1).mono ?_
      rintro e w' ⟨rfl, kd2, rfl⟩
      go_wp2_with fail
      go_ret
      exact ⟨by simp, HB5.out.drewN (kd1 + kd2)⟩
end Go.Proofs.Ytjompiihdnaogaa
