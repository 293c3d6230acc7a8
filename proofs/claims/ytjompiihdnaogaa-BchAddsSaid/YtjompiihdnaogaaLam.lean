/- Walks over firkinlaw02: BchAdds. -/
import Derived.Test.YtjompiihdnaogaaLal
namespace Go.Proofs.Ytjompiihdnaogaa
open Go.RowKit Go.Mem

/-- Two rows of bytes, one upon the other. -/
def zx (xs ys : List Nat) (I : Nat) : List Nat := (List.range I).map (fun j => xs.getD j 0 ^^^ ys.getD j 0)
theorem zx_len (xs ys : List Nat) (I : Nat) : (zx xs ys I).length = I := by simp [zx]
theorem zx_succ (xs ys : List Nat) (I : Nat) : zx xs ys (I+1) = zx xs ys I ++ [xs.getD I 0 ^^^ ys.getD I 0] := by simp [zx, List.range_succ]
theorem zx_lt {xs ys : List Nat} (hx : ∀ y ∈ xs, y < 256) (hy : ∀ y ∈ ys, y < 256) (I : Nat) : ∀ y ∈ zx xs ys I, y < 256 := fun y h => by
  obtain ⟨j, _, rfl⟩ := List.mem_map.1 h
  exact Nat.xor_lt_two_pow (n := 8) (Gf.getD_lt (m := 8) hx j) (Gf.getD_lt (m := 8) hy j)
theorem bitAt_xor (f g : Nat → Nat) (i : Nat) : bitAt (fun j => f j ^^^ g j) i = (bitAt f i ^^ bitAt g i) := by unfold bitAt; rw [Nat.testBit_xor]
theorem par_xor {bytes t m P : Nat} (hp : Par bytes t m) (hP : P = (rr m t + 7) / 8) (xs ys : List Nat) (hx : ∀ y ∈ xs, y < 256) (hy : ∀ y ∈ ys, y < 256) (hlx : xs.length = bytes) (hly : ys.length = bytes) :
    ∀ j, j < P → par m t (zx xs ys bytes) j = par m t xs j ^^^ par m t ys j := by
  refine par_unique hp hP _ (zx_len _ _ _) (zx_lt hx hy _) (fun j => par m t xs j ^^^ par m t ys j) (fun j => Nat.xor_lt_two_pow (n := 8) (par_lt _ _ _ j) (par_lt _ _ _ j)) (fun i h1 _ => by rw [bitAt_xor, par_pad _ _ _ _ h1, par_pad _ _ _ _ h1]; rfl) ?_
  refine ((par_cw hp xs hlx).xor (par_cw hp ys hly)).congr (fun p hpl => ?_)
  by_cases h : p < rr m t
  · rw [wd_lo h, wd_lo h, wd_lo h, bitAt_xor]
  · rw [wd_hi (by omega), wd_hi (by omega), wd_hi (by omega), ← bitAt_xor]
    unfold bitAt
    show _ = ((zx xs ys bytes).getD _ 0).testBit _
    unfold zx
    rw [rg_getD _ _ _ (by omega)]

set_option maxRecDepth 100000 in
set_option maxHeartbeats 800000 in
theorem bchAdds_not (a : Option Addr) (n cap : Nat) (b : Option Addr) (n2 cap2 : Nat) (t : Int) (w : World) (hc1 : n ≤ cap) (_hc2 : cap ≤ 9223372036854775807) (_hd1 : n2 ≤ cap2) (_hd2 : cap2 ≤ 9223372036854775807) (h0 : n = 0 ∨ 200 < n ∨ n ≠ n2) :
    Calls Try.prog 7 #[.slice a n cap, .slice b n2 cap2, .int .i64 t] w fun e w' => e = .returned (.bool true) ∧ Below w.heap.size w w' := by
  by_cases e0 : n = 0
  · subst e0
    go_enter Try.func7, Try.ntmps7
    go_wp2_with fail
    refine (awake_any _).mono ?_
    rintro e w1 ⟨rfl, hb1⟩
    go_wp2_with fail
    go_ret
    exact ⟨rfl, hb1⟩
  · have h1 : ((n : Int) == 0) = false := beq_eq_false_iff_ne.2 (by omega)
    by_cases e1 : 200 < n
    · have h2 : (200 : Int) < (n : Int) := by omega
      go_enter Try.func7, Try.ntmps7
      go_wp2_with fail
      refine (awake_any _).mono ?_
      rintro e w1 ⟨rfl, hb1⟩
      go_wp2_with fail
      go_ret
      exact ⟨rfl, hb1⟩
    · have h2 : ¬ (200 : Int) < (n : Int) := by omega
      have h3 : ((n : Int) != (n2 : Int)) = true := bne_iff_ne.2 (by omega)
      go_enter Try.func7, Try.ntmps7
      go_wp2_with fail
      refine (awake_any _).mono ?_
      rintro e w1 ⟨rfl, hb1⟩
      go_wp2_with fail
      go_ret
      exact ⟨rfl, hb1⟩

set_option maxRecDepth 100000 in
set_option maxHeartbeats 3200000 in
theorem bchAdds_same (a : Option Addr) (n cap : Nat) (xs : List Nat) (b : Option Addr) (cap2 : Nat) (ys : List Nat) (t : Int) (w : World) (hv : Rd .u8 w (.slice a n cap) xs) (hl : xs.length = n) (hx : ∀ y ∈ xs, y < 256)
    (hv2 : Rd .u8 w (.slice b n cap2) ys) (hl2 : ys.length = n) (hx2 : ∀ y ∈ ys, y < 256) (ht : (Lit.int .i64 t).wf = true) (hn1 : 1 ≤ n) (hn2 : n ≤ 200) :
    Calls Try.prog 7 #[.slice a n cap, .slice b n cap2, .int .i64 t] w fun e w' => e = .returned (.bool true) ∧ Below w.heap.size w w' := by
  have HV := hid hv
  have HX := hid hx
  have HL := hid hl
  have HV2 := hid hv2
  have HX2 := hid hx2
  have HL2 := hid hl2
  have hcapn : n ≤ cap ∧ cap ≤ maxLen := by obtain ⟨a', c', he, h1, h2, _⟩ := hv; cases he; exact ⟨by omega, h2⟩
  have hcapn2 : n ≤ cap2 ∧ cap2 ≤ maxLen := by obtain ⟨a', c', he, h1, h2, _⟩ := hv2; cases he; exact ⟨by omega, h2⟩
  have hc1 := hcapn.1
  have hc2 : cap ≤ 9223372036854775807 := by have := hcapn.2; unfold maxLen at this; omega
  have hc3 := hcapn2.1
  have hc4 : cap2 ≤ 9223372036854775807 := by have := hcapn2.2; unfold maxLen at this; omega
  have h1 : ((n : Int) == 0) = false := beq_eq_false_iff_ne.2 (by omega)
  have h2 : ¬ (200 : Int) < (n : Int) := by omega
  have h3 : ((n : Int) != (n : Int)) = false := by simp
  obtain ⟨m, hp⟩ := Par.ex n (tt t) (by omega) (by omega) (tt_bd t).1 (tt_bd t).2
  have HP := hid hp
  have hcode := fun w => code_any a n cap m t w hp ht
  generalize tt t = T at *
  have HCODE := hid hcode
  clear hv hx hl hcapn hv2 hx2 hl2 hcapn2 hcode hp
  go_enter Try.func7, Try.ntmps7
  go_wp2_with fail
  refine (awake_any _).mono ?_
  rintro e w1 ⟨rfl, hb1⟩
  have HB1 := hid hb1
  clear hb1
  go_wp2_with fail
  refine (HCODE.out _).mono ?_
  rintro e w2 ⟨⟨c, rv, rfl, hc, hrc⟩, hb2⟩
  have HC := hid hc
  have HB2 := hid (HB1.out.comp hb2)
  obtain ⟨ga, L, gcap, rfl⟩ := nil_RC hrc
  clear hc hrc hb2 HCODE
  go_wp2_with fail
  obtain ⟨W0, hW0⟩ : ∃ W0, w2.alloc (.cells #[.int .i64 m, .int .i64 n, .int .i64 T, .slice ga L gcap] 29) = W0 := ⟨_, rfl⟩
  have hb20 : Below w2.heap.size w2 W0 := by rw [← hW0]; exact (Below.refl _ _).alloc (Nat.le_refl _) _
  rw [hW0]
  have HC0 := hid (HC.out.below hb20)
  have HB0 := hid (HB2.out.comp hb20)
  clear hb20 hW0 HC HB2
  refine (encode_any c n T m _ xs _ HP.out HC0.out (HV.out.below HB0.out) HX.out HL.out).mono ?_
  rintro e w3 ⟨p, P, hp1, hP, rfl, hpc, hb3⟩
  have hPl : P ≤ 14 := by have := HP.out.r.2.2.2.1; omega
  have HPE := hid hP
  have HPC := hid hpc
  have HB3 := hid (HB0.out.comp hb3)
  have HC3 := hid (HC0.out.below hb3)
  clear hP hb3 hp1 hpc HC0 HB0
  go_wp2_with fail
  refine (encode_any c n T m _ ys _ HP.out HC3.out (HV2.out.below HB3.out) HX2.out HL2.out).mono ?_
  rintro e w4 ⟨q, P', hq1, hP', rfl, hqc, hb4⟩
  obtain rfl : P' = P := by rw [hP', HPE.out]
  have HQC := hid hqc
  have HPC4 := hid ((hb4.block _ (lt_at HPC.out)).trans HPC.out)
  have HB4 := hid (HB3.out.comp hb4)
  have HC4 := hid (HC3.out.below hb4)
  have hpar := codeParity_any c n T m w4 HC4.out HP.out
  rw [← HPE.out] at hpar
  have HPAR := hid hpar
  have hpp : ((P' : Int) != (P' : Int)) = false := by simp
  clear hP' hb4 hq1 hqc HPC HC3 hpar
  go_wp2_with fail
  refine HPAR.out.mono ?_
  rintro e w' ⟨rfl, rfl⟩
  go_wp2_with fail
  go_loopg [15, 14] n (fun gk i d wr => ∃ I : Nat, I + gk = n ∧ i = .int .i64 I ∧ Own .u8 5 w4.heap.size wr d (zx xs ys I) ∧ Below w4.heap.size w4 wr)
  case atStart => exact ⟨0, by omega, rfl, Own.nil _ _ _ _, Below.refl _ _⟩
  case round =>
    obtain ⟨I, hI, rfl, ho, hbx⟩ := hrel
    have HO := hid ho
    have HBX := hid hbx
    clear ho hbx
    by_cases hlt : I < n
    · have hzl := zx_len xs ys I
      have hzs := zx_succ xs ys I
      obtain ⟨a1, k1, e1, _, _, hcx⟩ := HV.out.below (HB4.out.comp HBX.out)
      injection e1 with e1 en e2
      clear en
      subst e1 e2
      obtain ⟨g1, o1, rfl, hx1⟩ := hcx I (by have := HL.out; omega)
      obtain ⟨a2, k2, e2, _, _, hcy⟩ := HV2.out.below (HB4.out.comp HBX.out)
      injection e2 with e1 en e2
      clear en
      subst e1 e2
      obtain ⟨g2, o2, rfl, hx2⟩ := hcy I (by have := HL2.out; omega)
      have hxl := HX.out _ (getD_mem (show I < xs.length by have := HL.out; omega))
      have hyl := HX2.out _ (getD_mem (show I < ys.length by have := HL2.out; omega))
      generalize xs.getD I 0 = x at *
      generalize ys.getD I 0 = y at *
      have ex : bits .xor .u8 (x : Int) (y : Int) = ((x ^^^ y : Nat) : Int) := bits_xor_nat .u8 8 (by decide) wraps_u8 _ _ hxl hyl
      have EX := hid ex
      have HZS := hid hzs
      have hIz : (I : Int) < (n : Int) := by omega
      have hl1 : (zx xs ys I).length ≤ 1000000000 := by omega
      generalize zx xs ys I = Z at *
      have HZL := hid hzl
      have hbs := HBX.out.size
      clear hcx hcy hzs hzl
      go_wp2_with fail
      go_region_law (refine step_one el_byte (by rfl) _ _ (by rfl) w4.heap.size _ Z (by rfl) (by exact (HO.out.alloc _).drewN 1) ⟨wr.heap.size, 0, none⟩ 1 (x ^^^ y) (by rfl) (by first | exact new_cell _ _ _ | exact (new_cell _ _ _).trans (by rw [EX.out])) hl1 (by simp; omega) ?_; intro g3 cap3 w5 hown hgrow hat)
      all_goals
        go_wp2_with fail
        go_roundg (gk - 1)
        case measure => omega
        case rel =>
          refine ⟨I + 1, by omega, by go_num, ?_, ?_⟩
          · rw [HZS.out]; exact hown
          · refine grow_below ((HBX.out.alloc hbs _).drew) (by simp; omega) hgrow (fun g hg => (HO.out.blk g hg).1)
    · obtain rfl : I = n := by omega
      obtain ⟨da, dk, rfl, hk1, hk2, hdc⟩ := HO.out.rd
      rw [zx_len] at hk1
      have hrd : Rd .u8 wr (.slice da I dk) (zx xs ys I) := ⟨da, dk, by rw [zx_len], by rw [zx_len]; exact hk1, hk2, hdc⟩
      have HRD := hid hrd
      have HB5 := hid (HB4.out.comp HBX.out)
      have hpx := par_xor HP.out HPE.out xs ys HX.out HX2.out HL.out HL2.out
      have HPX := hid hpx
      have HP5 := hid ((HBX.out.block _ (lt_at HPC4.out)).trans HPC4.out)
      have HQ5 := hid ((HBX.out.block _ (lt_at HQC.out)).trans HQC.out)
      rw [zx_len] at *
      clear hrd hdc hk1 hk2 hpx HO
      go_wp2_with fail
      refine (encode_any c I T m _ (zx xs ys I) _ HP.out (HC4.out.below HBX.out) HRD.out (zx_lt HX.out HX2.out _) (zx_len _ _ _)).mono ?_
      rintro e w6 ⟨r, P2, hr1, hP2, rfl, hrc, hb6⟩
      obtain rfl : P2 = P' := by rw [hP2, HPE.out]
      have HRC := hid hrc
      have HB6 := hid (HB5.out.comp hb6)
      have HP6 := hid ((hb6.block _ (lt_at HP5.out)).trans HP5.out)
      have HQ6 := hid ((hb6.block _ (lt_at HQ5.out)).trans HQ5.out)
      clear hP2 hrc hb6 hr1
      go_wp2_with fail
      go_loopg [18] P2 (fun gk i wr2 => ∃ J : Nat, J + gk = P2 ∧ i = .int .i64 J ∧ ∃ k, wr2 = w6.drewN k)
      case atStart => exact ⟨0, by omega, rfl, 0, rfl⟩
      case round =>
        obtain ⟨J, hJ, rfl, kd, rfl⟩ := hrel
        by_cases hlt2 : J < P2
        · have cr : (w6.drewN kd).cell? ⟨r, J, none⟩ = some (.int .u8 ((par m T (zx xs ys I) J : Nat) : Int)) := fa_cell HRC.out hlt2
          have cp : (w6.drewN kd).cell? ⟨p, J, none⟩ = some (.int .u8 ((par m T xs J : Nat) : Int)) := fa_cell HP6.out hlt2
          have cq : (w6.drewN kd).cell? ⟨q, J, none⟩ = some (.int .u8 ((par m T ys J : Nat) : Int)) := fa_cell HQ6.out hlt2
          rw [HPX.out J hlt2] at cr
          have hpl := par_lt m T xs J
          have hql := par_lt m T ys J
          generalize par m T xs J = x at *
          generalize par m T ys J = y at *
          have ex : bits .xor .u8 (x : Int) (y : Int) = ((x ^^^ y : Nat) : Int) := bits_xor_nat .u8 8 (by decide) wraps_u8 _ _ hpl hql
          generalize x ^^^ y = z at *
          have hzz : ((z : Int) != (z : Int)) = false := by simp
          have hJz : (J : Int) < (P2 : Int) := by omega
          generalize hwd : w6.drewN kd = wd at *
          have HWD := hid hwd
          clear hwd hpl hql
          go_wp2_with fail
          go_quiet (fail)
          go_wp2_with fail
          go_roundg (P2 - (J + 1))
          case measure => omega
          case rel => exact ⟨J + 1, by omega, by go_num, kd + nq, by rw [← HWD.out, drewN_add]⟩
        · obtain rfl : J = P2 := by omega
          go_wp2_with fail
          go_ret
          exact ⟨by simp, HB6.out.drewN kd⟩

theorem bchAdds_walk (a : Option Addr) (n cap : Nat) (xs : List Nat) (b : Option Addr) (n2 cap2 : Nat) (ys : List Nat) (t : Int) (w : World) (hv : Rd .u8 w (.slice a n cap) xs) (hl : xs.length = n) (hx : ∀ y ∈ xs, y < 256)
    (hv2 : Rd .u8 w (.slice b n2 cap2) ys) (hl2 : ys.length = n2) (hx2 : ∀ y ∈ ys, y < 256) (ht : (Lit.int .i64 t).wf = true) :
    Calls Try.prog 7 #[.slice a n cap, .slice b n2 cap2, .int .i64 t] w fun e w' => e = .returned (.bool true) ∧ Below w.heap.size w w' := by
  by_cases h0 : n = 0 ∨ 200 < n ∨ n ≠ n2
  · have hcapn : n ≤ cap ∧ cap ≤ maxLen := by obtain ⟨a', c', he, h1, h2, _⟩ := hv; cases he; exact ⟨by omega, h2⟩
    have hcapn2 : n2 ≤ cap2 ∧ cap2 ≤ maxLen := by obtain ⟨a', c', he, h1, h2, _⟩ := hv2; cases he; exact ⟨by omega, h2⟩
    unfold maxLen at *
    exact bchAdds_not a n cap b n2 cap2 t w hcapn.1 (by omega) hcapn2.1 (by omega) h0
  · obtain rfl : n = n2 := by omega
    exact bchAdds_same a n cap xs b cap2 ys t w hv hl hx hv2 hl2 hx2 ht (by omega) (by omega)
end Go.Proofs.Ytjompiihdnaogaa
