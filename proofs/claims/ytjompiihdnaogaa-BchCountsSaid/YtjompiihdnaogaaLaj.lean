/- Walks over firkinlaw02: BchApart. -/
import Derived.Test.YtjompiihdnaogaaLai
namespace Go.Proofs.Ytjompiihdnaogaa
open Go.RowKit Go.Mem

theorem apart_plain {n T m P : Nat} (hp : Par n T m) (hP : P = (rr m T + 7) / 8) (xs ys : List Nat) (hx : xs.length = n) (hy : ys.length = n) (hys : ∀ y ∈ ys, y < 256) (hxs : ∀ y ∈ xs, y < 256) :
    ub (xs.getD · 0) (ys.getD · 0) n = 0 ∨ 2 * T + 1 ≤ ub (xs.getD · 0) (ys.getD · 0) n + ub (par m T xs) (par m T ys) P := by
  rcases Nat.lt_or_ge (2 * T) (ub (xs.getD · 0) (ys.getD · 0) n + ub (par m T xs) (par m T ys) P) with h | h
  · exact .inr h
  · left
    have h1 := par_cw hp xs hx
    have h2 := par_cw hp ys hy
    obtain ⟨d1, d2⟩ := dst_ub (bytes := n) (P := P) (xs.getD · 0) (par m T xs) (ys.getD · 0) (par m T ys) (show rr m T ≤ 8 * P by omega)
    have hs := cw_near hp h1 h2 (by rw [d1]; omega)
    have hw := wd_bytes (bytes := n) (P := P) (by omega) (fun j => Gf.getD_lt (m := 8) hxs j) (par_lt _ _ _) (fun j => Gf.getD_lt (m := 8) hys j) (par_lt _ _ _) hs (fun i h1 _ => by rw [par_pad _ _ _ _ h1, par_pad _ _ _ _ h1])
    rw [ub_congr hw.1 (fun _ _ => rfl), ub_self]

set_option maxRecDepth 100000 in
set_option maxHeartbeats 3200000 in
theorem bchApart_walk (a : Option Addr) (n cap : Nat) (xs : List Nat) (a3 : Option Addr) (n3 cap3 : Nat) (zs : List Int) (t : Int) (w : World) (hv : Rd .u8 w (.slice a n cap) xs) (hl : xs.length = n) (hx : ∀ y ∈ xs, y < 256)
    (hz : RdI .i64 w (.slice a3 n3 cap3) zs) (hzw : ∀ y ∈ zs, (Lit.int .i64 y).wf = true) (ht : (Lit.int .i64 t).wf = true) :
    Calls Try.prog 8 #[.slice a n cap, .slice a3 n3 cap3, .int .i64 t] w fun e w' => e = .returned (.bool true) ∧ Below w.heap.size w w' := by
  have HZ := hid hz
  have HZW := hid hzw
  clear hz hzw
  have htc := tt_cases t ht
  have htb := tt_bd t
  have hb64 := bounds_i64 ht
  have hb641 := hb64.1
  have hb642 := hb64.2
  clear hb64
  have HV := hid hv
  have HX := hid hx
  have HL := hid hl
  have hcapn : n ≤ cap ∧ cap ≤ maxLen := by obtain ⟨a', c', he, h1, h2, _⟩ := hv; cases he; exact ⟨by omega, h2⟩
  have hc1 := hcapn.1
  have hc2 : cap ≤ 9223372036854775807 := by have := hcapn.2; unfold maxLen at this; omega
  clear hv hx hl hcapn
  by_cases h0 : n = 0 ∨ 200 < n
  · rcases h0 with rfl | h0
    · go_enter Try.func8, Try.ntmps8
      go_wp2_with fail
      refine (awake_any _).mono ?_
      rintro e w1 ⟨rfl, hb1⟩
      go_wp2_with fail
      go_ret
      exact ⟨rfl, hb1⟩
    · have h1 : ((n : Int) == 0) = false := beq_eq_false_iff_ne.2 (by omega)
      have h2 : (200 : Int) < (n : Int) := by omega
      go_enter Try.func8, Try.ntmps8
      go_wp2_with fail
      refine (awake_any _).mono ?_
      rintro e w1 ⟨rfl, hb1⟩
      go_wp2_with fail
      go_ret
      exact ⟨rfl, hb1⟩
  · have h1 : ((n : Int) == 0) = false := beq_eq_false_iff_ne.2 (by omega)
    have h2 : ¬ (200 : Int) < (n : Int) := by omega
    have hn1 : 1 ≤ n := by omega
    have hn2 : n ≤ 200 := by omega
    clear h0
    obtain ⟨m, hp⟩ := Par.ex n (tt t) (by omega) (by omega) (tt_bd t).1 (tt_bd t).2
    have HP := hid hp
    have hcode := fun w => code_any a n cap m t w hp ht
    generalize tt t = T at *
    have HCODE := hid hcode
    clear hcode hp
    have htb1 := htb.1
    have htb2 := htb.2
    clear htb
    rcases htc with ⟨ht0, hT⟩ | ⟨ht0, hT⟩
    all_goals
      go_enter Try.func8, Try.ntmps8
      go_wp2_with fail
      refine (awake_any _).mono ?_
      rintro e w1 ⟨rfl, hb1⟩
      have HB1 := hid hb1
      clear hb1
      go_wp2_with fail
      refine (HCODE.out _).mono ?_
      rintro e w2 ⟨⟨c, rv, rfl, hc, hrc⟩, hb2⟩
      have HC := hid hc
      have HRC := hid hrc
      have HB2 := hid (HB1.out.comp hb2)
      obtain ⟨ga, L, gcap, rfl⟩ := nil_RC hrc
      clear hc hrc hb2 HCODE
      go_wp2_with fail
      obtain ⟨W0, hW0⟩ : ∃ W0, w2.alloc (.cells #[.int .i64 m, .int .i64 n, .int .i64 T, .slice ga L gcap] 29) = W0 := ⟨_, rfl⟩
      have hb20 : Below w2.heap.size w2 W0 := by rw [← hW0]; exact (Below.refl _ _).alloc (Nat.le_refl _) _
      rw [hW0]
      have HC0 := hid (HC.out.below hb20)
      have HB0 := hid (HB2.out.comp hb20)
      clear hb20 hW0 HC HRC HB2
      refine (bentn_any _ _ xs zs _ (HV.out.below HB0.out) (HZ.out.below HB0.out) HX.out HZW.out (by have := HL.out; omega) (by have := HL.out; omega)).mono ?_
      rintro e w3 ⟨⟨g1, cc1, F1, hg1, he, ho1, hf1, hub⟩, hb3⟩
      rw [HL.out] at he ho1
      subst he
      obtain ⟨D1, hD1⟩ : ∃ D1, (List.range n).map F1 = D1 := ⟨_, rfl⟩
      have hr1 := ho1.rd
      rw [hD1] at hr1
      have hdl1 : ∀ y ∈ D1, y < 256 := fun y hy => by rw [← hD1] at hy; obtain ⟨j, _, rfl⟩ := List.mem_map.1 hy; exact hf1 j
      have hln1 : D1.length = n := by rw [← hD1]; simp
      have HR1 := hid hr1
      have HDL1 := hid hdl1
      have HLN1 := hid hln1
      have HB3 := hid (HB0.out.comp hb3)
      have HC3 := hid (HC0.out.below hb3)
      clear hr1 hdl1 hln1 hb3 hub ho1 hf1 hD1 hg1 HC0 HB0
      go_wp2_with fail
      refine (encode_any c n T m _ xs _ HP.out HC3.out (HV.out.below HB3.out) HX.out HL.out).mono ?_
      rintro e w4 ⟨p, P, hp1, hP, rfl, hpc, hb4⟩
      have hPl : P ≤ 14 := by have := HP.out.r.2.2.2.1; omega
      have hpr := Rd.of_fa hpc P P (Nat.le_refl _) (Nat.le_refl _) (by unfold maxLen; omega)
      have HPR := hid hpr
      have HPE := hid hP
      have HB4 := hid (HB3.out.comp hb4)
      have HC4 := hid (HC3.out.below hb4)
      have HR4 := hid (HR1.out.below hb4)
      clear hpr hP hb4 hp1 hpc HC3 HB3 HR1
      go_wp2_with fail
      refine (encode_any c n T m _ D1 _ HP.out HC4.out HR4.out HDL1.out HLN1.out).mono ?_
      rintro e w5 ⟨p2, P2, hp2, hP2, he, hpc2, hb5⟩
      rw [← HPE.out] at hP2
      rw [hP2] at he hpc2
      subst he
      have hpr2 := Rd.of_fa hpc2 P P (Nat.le_refl _) (Nat.le_refl _) (by unfold maxLen; omega)
      have HPR2 := hid hpr2
      have HPR5 := hid (HPR.out.below hb5)
      have HR5 := hid (HR4.out.below hb5)
      have HB5 := hid (HB4.out.comp hb5)
      have hap := apart_plain HP.out HPE.out xs D1 HL.out HLN1.out HDL1.out HX.out
      have hu1 := unlike_any (.slice a n cap) (.slice (some ⟨g1, 0, none⟩) n cc1) xs D1 w5 (HV.out.below HB5.out) HR5.out HX.out HDL1.out (by rw [HLN1.out, HL.out]) (by rw [HL.out]; omega)
      rw [HL.out] at hu1
      have hub3 : ub (((List.range P).map (par m T xs)).getD · 0) (((List.range P).map (par m T D1)).getD · 0) P = ub (par m T xs) (par m T D1) P := ub_congr (fun j hj => rg_getD _ _ _ hj) (fun j hj => rg_getD _ _ _ hj)
      have hu2 := fun k => unlike_any (.slice (some ⟨p, 0, none⟩) P P) (.slice (some ⟨p2, 0, none⟩) P P) ((List.range P).map (par m T xs)) ((List.range P).map (par m T D1)) (w5.drewN k) HPR5.out HPR2.out (fun y hy => by obtain ⟨j, _, rfl⟩ := List.mem_map.1 hy; exact par_lt _ _ _ j) (fun y hy => by obtain ⟨j, _, rfl⟩ := List.mem_map.1 hy; exact par_lt _ _ _ j) (by simp) (by simp; omega)
      rw [List.length_map, List.length_range, hub3] at hu2
      have hle1 : ub (xs.getD · 0) (D1.getD · 0) n ≤ 8 * n := by rw [← us_ub]; exact us_le _ _ _
      have hle2 : ub (par m T xs) (par m T D1) P ≤ 8 * P := by rw [← us_ub]; exact us_le _ _ _
      generalize ub (xs.getD · 0) (D1.getD · 0) n = u1 at *
      generalize ub (par m T xs) (par m T D1) P = u2 at *
      have HU1 := hid hu1
      have HU2 := hid hu2
      have HAP := hid hap
      clear hP2 hpc2 hb5 hp2 hpr2 hub3 hu1 hu2 hap
      go_wp2_with fail
      refine HU1.out.mono ?_
      rintro e w' ⟨rfl, kd1, rfl⟩
      by_cases hu0 : u1 = 0
      · subst hu0
        go_wp2_with fail
        go_ret
        exact ⟨rfl, HB5.out.drewN kd1⟩
      · have hu0b : ((u1 : Int) == 0) = false := beq_eq_false_iff_ne.2 (by omega)
        have hge : 2 * (T : Int) + 1 ≤ (u1 : Int) + (u2 : Int) := by have := HAP.out; omega
        clear hu0
        go_wp2_with fail
        refine (HU2.out kd1).mono ?_
        rintro e w' ⟨rfl, kd2, rfl⟩
        go_wp2_with fail
        go_ret
        exact ⟨rfl, HB5.out.drewN (kd1 + kd2)⟩
end Go.Proofs.Ytjompiihdnaogaa
