/- Walks over the journal's laws: JournalKeeps. -/
import Derived.Test.YtkdjefnnhanhhaaUt
import Derived.Deep.RegionLawGrows
set_option linter.unusedVariables false
namespace Go.Proofs.Ytkdjefnnhanhhaa
open Go Go.RowKit Go.Mem Go.Jn
set_option linter.unusedVariables false

set_option maxRecDepth 100000 in
set_option maxHeartbeats 12800000 in
theorem journalKeeps_walk (a b : Int) (sp : Option Addr) (len cap : Nat) (l : List HOp) (cp : Option Addr) (clen ccap : Nat) (cs : List Int) (zp : Option Addr) (zlen zcap : Nat) (zs : List Int) (hf : Bool) (w : World)
    (h1 : (Lit.int .i64 a).wf = true) (h2 : (Lit.int .i64 b).wf = true) (h3 : OpR w sp len cap l) (hc : RdI .i64 w (.slice cp clen ccap) cs) (hcl : cs.length = clen) (hcw : ∀ y ∈ cs, (Lit.int .i64 y).wf = true)
    (hz : RdI .i64 w (.slice zp zlen zcap) zs) (hzl : zs.length = zlen) (hzw : ∀ y ∈ zs, (Lit.int .i64 y).wf = true) (hrc : zcap * 8 ≤ 140737488351232) :
    Calls Try.prog 7 #[.int .i64 a, .int .i64 b, .slice sp len cap, .slice cp clen ccap, .slice zp zlen zcap, .bool hf] w fun e w' => e = .returned (.bool true) ∧ Below w.heap.size w w' := by
  have hmm := @run_makeMap Try.prog
  have hreach : zlen * 8 ≤ 140737488351232 := by
    obtain ⟨_, c9, e, k1, _, _⟩ := hz
    simp only [Value.slice.injEq] at e
    omega
  clear hrc
  have A1 := hid (labs_any a · h1)
  have A2 := hid (labs_any b · h2)
  obtain ⟨a0, ha0⟩ : ∃ n, absN' a = n := ⟨_, rfl⟩
  obtain ⟨b0, hb0⟩ : ∃ n, absN' b = n := ⟨_, rfl⟩
  rw [ha0] at A1
  rw [hb0] at A2
  obtain ⟨a1, ha1⟩ : ∃ n, a0 % 12 = n := ⟨_, rfl⟩
  obtain ⟨b1, hb1⟩ : ∃ n, b0 % 120 = n := ⟨_, rfl⟩
  have m1 : (a0 : Int) % 12 = (a1 : Int) := by omega
  have m2 : (b0 : Int) % 120 = (b1 : Int) := by omega
  have m1' : (a0 : Int).tmod 12 = (a1 : Int) := by rw [← ha1]; rfl
  have m2' : (b0 : Int).tmod 120 = (b1 : Int) := by rw [← hb1]; rfl
  obtain ⟨nb, hnb⟩ : ∃ n, 8 + a1 = n := ⟨_, rfl⟩
  obtain ⟨sz, hsz⟩ : ∃ n, 128 + b1 = n := ⟨_, rfl⟩
  have x1 : IntKind.i64.wrap (8 + (a1 : Int)) = (nb : Int) := by rw [IntWalk.i64_in _ ⟨by omega, by omega⟩]; omega
  have x2 : IntKind.i64.wrap (128 + (b1 : Int)) = (sz : Int) := by rw [IntWalk.i64_in _ ⟨by omega, by omega⟩]; omega
  have hnl : 8 ≤ nb ∧ nb < 20 := by omega
  have hsl : 128 ≤ sz ∧ sz < 248 := by omega
  have HOR := hid h3
  have HC := hid hc
  have HCW := hid hcw
  have HCL := hid hcl
  have hlenb : (len : Int) ≤ 9223372036854775807 := by have := h3.2.2.1; have := h3.2.1; unfold maxLen at *; omega
  have hclb : (clen : Int) ≤ 9223372036854775807 := by
    obtain ⟨_, _, e, k1, k2, _⟩ := hc
    unfold maxLen at k2; omega
  have HZ := hid hz
  have HZW := hid hzw
  have HZL := hid hzl
  clear ha0 hb0 ha1 hb1 hnb hsz h1 h2 h3 hc hcl hcw hz hzl hzw
  go_enter Try.func7, Try.ntmps7
  go_wp2_with fail
  refine (jawake_any w).mono ?_
  rintro e w1 ⟨rfl, hb1⟩
  have HB1 := hid hb1
  clear hb1
  go_wp2_with fail
  refine (A1.out w1).mono ?_
  rintro e w2 ⟨rfl, rfl⟩
  go_wp2_with fail
  refine (A2.out w1).mono ?_
  rintro e w2 ⟨rfl, rfl⟩
  go_wp2_with fail
  refine (tnew_any nb sz (by omega) (by omega) w1).mono ?_
  rintro e w2 ⟨rfl, hT, hb2⟩
  obtain ⟨T, hTe⟩ : ∃ T, w1.heap.size = T := ⟨_, rfl⟩
  have HB2 := hid (HB1.out.trans (hb2.mono HB1.out.size))
  have hTw : w.heap.size ≤ T := by rw [← hTe]; exact HB1.out.size
  have HT := hid hT
  rw [hTe] at HT ⊢
  clear hT hb2
  go_wp2_with fail
  obtain ⟨mb, hmb⟩ : ∃ m, w2.heap.size = m := ⟨_, rfl⟩
  have HQ0 := hid (show Kq w (w2.alloc (.map #[] 0)) (fun j => T ≤ j ∧ j ≠ mb) T mb (tp0 nb sz) [] (.slice zp zlen zcap) zs nb sz 0 from by
    have hTl : T < w2.heap.size := by
      obtain ⟨ka, sa, K, S, ck, cs, kv, sv, h⟩ := HT.out
      exact lt_at h.hp
    have hb9 : Below w.heap.size w (w2.alloc (.map #[] 0)) := HB2.out.alloc HB2.out.size _
    refine ⟨HT.out.shift (fun j hj _ => alloc_old hj) (fun j hj h => ⟨h, by omega⟩) (fun j hj => ?_), ⟨tp0_clean nb sz, on_tp0 nb sz, tp0_ok (by omega) (by omega) (by omega) (by omega), rfl, rfl, tp0_snd nb sz (by omega), ⟨0, Nat.le_refl _, by have := tp0_lim nb sz; rwa [Nat.zero_mul]⟩, Nat.zero_le _, ⟨List.Pairwise.nil, fun p hp => (by cases hp)⟩, Nat.zero_le _⟩, ?_, fun h => h.2 rfl, hb9, ⟨fun j h => by have : T ≤ j := h.1; omega, by rw [← hmb]; exact HB2.out.size⟩, fun W hW => ?_, HZW.out⟩
    · rw [World.size_alloc] at hj
      exact ⟨by omega, by omega⟩
    · rw [← hmb]; exact MAt.nil _ _ _ _
    · refine HZ.out.below (hb9.trans (hW.below (B := w.heap.size) hb9.size (fun j hj h => ?_)))
      have h9 : (T ≤ j ∧ j ≠ mb) ∨ j = mb := h
      have := HB2.out.size
      omega)
  rw [hmb]
  clear HT HB2 HB1 hTe
  go_wp2_with fail
  go_loopg [17, 15, 16, 4] 6 (fun gk v17 v15 v16 v4 wr => ∃ (R I mb : Nat) (Q : Nat → Prop) (t : Tp) (M : MM) (pv : Value) (zs : List Int), R + gk = 6 ∧ v17 = .int .i64 (R : Nat) ∧ v15 = .map (some mb) ∧ v16 = .int .i64 (I : Nat) ∧ I ≤ 300 ∧ pv = v4 ∧ zs.length = zlen ∧ Kq w wr Q T mb t M pv zs nb sz (R * 310))
  case atStart => exact ⟨0, 0, mb, _, _, _, _, zs, by omega, rfl, rfl, rfl, by omega, rfl, HZL.out, HQ0.out⟩
  case round =>
    obtain ⟨R, I, mb, Q, t, M, v4, zs, hR, rfl, rfl, rfl, hI, rfl, hZL, hK⟩ := hrel
    have HK := hid hK
    clear hK HQ0
    by_cases hlt : R ≤ clen ∧ R < 6
    · have i1 : (R : Int) ≤ (clen : Int) := by omega
      have i2 : (R : Int) < 6 := by omega
      have HOP := hid (HK.out.open (by omega))
      go_wp2_with fail
      refine HOP.out.mono ?_
      rintro e w3 ⟨J, s, rfl, hS, hI3, hC3, hO3, hm3, hn3, hz3, hM3, hb3, hF3⟩
      have HJ := hid hS
      have HI3 := hid hI3
      have HM3 := hid hM3
      have HB3 := hid hb3
      have HF3 := hid hF3
      have hmm3 := hid hm3
      have HN3 := hid hn3
      have HS3 := hid hz3
      have HHO := hid (show Calls Try.prog 19 #[.pointer (some ⟨J, 0, none⟩), .map (some mb)] w3 fun e w' => e = .returned (.bool true) ∧ Below w3.heap.size w3 w' from by
        obtain ⟨_, b9, rv9, hJ9⟩ := hS
        have h1 := room_le hI3.tok
        have h2 := hI3.few
        refine (holds_any hJ9 hM3 (by omega) (by rw [← hm3]; omega)).mono ?_
        rintro e w' ⟨rfl, hb⟩
        exact ⟨by rw [decide_eq_true hm3], hb⟩)
      clear hS hI3 hC3 hO3 hm3 hn3 hz3 hM3 hb3 hF3 HOP
      go_wp2_with fail
      refine HHO.out.mono ?_
      rintro e w4 ⟨rfl, hb4⟩
      obtain ⟨⟨ka, sa, K4, S4, ck4, cs4, kv4, sv4, hT4⟩, b4, rv4, hJ4⟩ := HJ.out.below hb4
      have c4 := hT4.c4
      have f4 := hT4.ff 4
      have HTP4 := hid hT4.hp
      have HT4 := hid (hT4.head (t' := { s.t with cut := -1 }) 4 (.int .i64 (-1)) rfl rfl rfl rfl (Nat.le_refl _) rfl)
      have HJ4 := hid hJ4
      have HB4 := hid hb4
      clear hT4 hJ4 hb4 HHO
      have HIS := hid (HI3.out.cutT (-1) s.t.half)
      go_upto_if 75 with (fail)
      obtain ⟨W4, hW4⟩ : ∃ W, w4.setCell ⟨T, 4, none⟩ (.int .i64 (-1)) = W := ⟨_, rfl⟩
      have hQT : Q T := HT4.out.q.1
      have HJ5 := hid (show JAtC Q W4 J T s.j b4 rv4 from by rw [← hW4]; exact HJ4.out.offT HTP4.out (Off.setCell (Q := fun i => i = T) (Off.refl _ _) (p := ⟨T, 4, none⟩) rfl _))
      have HF4 := hid (show Off Q w3 W4 from by rw [← hW4]; exact (Off.of_below HB4.out).setCell (p := ⟨T, 4, none⟩) hQT _)
      have HT5 := hid (show TpC Q W4 T { s.t with cut := -1 } ka sa K4 S4 ck4 cs4 kv4 sv4 from by rw [← hW4]; exact HT4.out)
      rw [hW4]
      clear c4 f4 hW4 HT4
      go_cut [20] from 42 to 199 (fun v wx => ∃ (c : Int) (h : Bool), TpC Q wx T { s.t with cut := c, half := h } ka sa K4 S4 ck4 cs4 kv4 sv4 ∧ Off (fun i => i = T) W4 wx)
      case first =>
        by_cases hrc : R < clen
        · have j1 : (R : Int) < (clen : Int) := by omega
          have hb9 : Below w.heap.size w W4 := HB3.out.trans (HF4.out.below (B := w.heap.size) HB3.out.size (fun j hj h => by have := HK.out.lo.1 j h; omega))
          obtain ⟨_, _, e9, _, _, hce⟩ := HC.out.below hb9
          obtain ⟨g9, o9, e8, hcz⟩ := hce R (by rw [HCL.out]; exact hrc)
          simp only [Value.slice.injEq] at e9
          obtain ⟨rfl, hdrop, rfl⟩ := e9
          clear hdrop hce
          subst e8
          obtain ⟨x, hx⟩ : ∃ x, cs.getD R 0 = x := ⟨_, rfl⟩
          rw [hx] at hcz
          have AX := hid (labs_any x · (by rw [← hx]; exact HCW.out _ (mem_getD' _ _ (by rw [HCL.out]; exact hrc))))
          obtain ⟨x0, hx0⟩ : ∃ n, absN' x = n := ⟨_, rfl⟩
          rw [hx0] at AX
          obtain ⟨x4, hx4⟩ : ∃ n, x0 % 40 = n := ⟨_, rfl⟩
          have n1 : (x0 : Int).tmod 40 = (x4 : Int) := by rw [← hx4]; rfl
          have n2 : (x0 : Int) % 40 = (x4 : Int) := by omega
          have hops := HI3.out.ops
          obtain ⟨op, hop⟩ : ∃ n, s.t.ops = n := ⟨_, rfl⟩
          have c3 : W4.cell? ⟨T, 3, none⟩ = some (.int .i64 (op : Nat)) := by rw [← hop]; exact HT5.out.c3
          have c4 := HT5.out.c4
          have f4 := HT5.out.ff 4
          obtain ⟨cu, hcu⟩ : ∃ n, op + x4 = n := ⟨_, rfl⟩
          have n3 : IntKind.i64.wrap ((op : Int) + (x4 : Int)) = (cu : Int) := by rw [IntWalk.i64_in _ ⟨by omega, by omega⟩]; omega
          clear hx hx0 hx4 hop hcu hops hb9
          go_upto_region 18 with (fail)
          refine wp_region_quiet_tail 14 (by kernel_rfl) (by kernel_rfl) ?_
          simp only [List.take_succ_cons, List.take_zero, List.drop_succ_cons, List.drop_zero]
          repeat (go_big_quiet_step ((go_at_call 10; exact quiet_eq (AX.out _))))
          refine wpQuiet_nil ?_
          intro _ hw'
          obtain ⟨nq, hw''⟩ := hw'
          subst hw''
          have hT6 := (HT5.out.below ((Below.refl _ _).drewN nq)).head (t' := { s.t with cut := (cu : Int) }) 4 (.int .i64 (cu : Nat)) rfl rfl rfl rfl (Nat.le_refl _) rfl
          have c5 := hT6.c5
          have f5 := hT6.ff 5
          have HT7 := hid (hT6.head (t' := { s.t with cut := (cu : Int), half := hf }) 5 (.bool hf) rfl rfl rfl rfl (Nat.le_refl _) rfl)
          clear hT6
          go_wp2_with fail
          go_meet
          case rel => exact ⟨(cu : Int), hf, HT7.out, Off.setCell (Q := fun i => i = T) (Off.setCell (Q := fun i => i = T) ((Off.refl _ _).drewN nq) (p := ⟨T, 4, none⟩) rfl _) (p := ⟨T, 5, none⟩) rfl _⟩
        · have j1 : ¬ (R : Int) < (clen : Int) := by omega
          go_wp2_with fail
          go_meet
          case rel => exact ⟨-1, s.t.half, HT5.out, Off.refl _ _⟩
      case rest =>
      obtain ⟨cu, hv, hT5, hF5T⟩ := hcut
      have hJ9 := HJ5.out.offT HT5.out.hp hF5T
      have HJ9 := hid hJ9
      have hF5 : Off Q W4 wc := hF5T.imp (fun i _ h => by rw [h]; exact hQT)
      clear hF5T hJ9
      have hM5 := (HM3.out.same (HF4.out.block mb HM3.out.lt HK.out.nq)).same (hF5.block mb (Nat.lt_of_lt_of_le HM3.out.lt HF4.out.size) HK.out.nq)
      have HCO := hid (copied_any hM5 (by rw [← hmm3.out]; have h1 := room_le HI3.out.tok; have h2 := HI3.out.few; omega))
      have HT5' := hid hT5
      have HF5 := hid hF5
      clear hT5 hF5 hM5
      go_wp2_with fail
      refine HCO.out.mono ?_
      rintro e w6 ⟨rfl, hM6, hb6⟩
      obtain ⟨g6, hg6⟩ : ∃ g, w6.heap.size = g := ⟨_, rfl⟩
      have hJS5 : JSt Q wc J T ⟨s.j, { s.t with cut := cu, half := hv }⟩ := ⟨⟨ka, sa, K4, S4, ck4, cs4, kv4, sv4, HT5'.out⟩, b4, rv4, HJ9.out⟩
      have HKR := hid (Kr.start (s := ⟨s.j, { s.t with cut := cu, half := hv }⟩) (k := R * 310 + 1) (by have := HK.out; rw [← hmm3.out] at this; exact this) ((HF3.out.trans HF4.out).trans HF5.out) hJS5 (HI3.out.cutT cu hv) (Nat.le_refl _) HN3.out HS3.out (by have := hM6; rw [← hmm3.out] at this; exact this) hb6 hg6)
      have HM6 := hid hM6
      have hg6' := hg6
      clear hM6 hb6 hJS5 HCO
      go_upto_block 2 with (fail)
      obtain ⟨W7, hW7⟩ : ∃ W, w6.alloc (.cells #[.map (some wc.heap.size)] 44) = W := ⟨_, rfl⟩
      rw [hW7] at HKR ⊢
      have hQT' := hid hQT
      clear hW7 HM6 hg6' HT5' HF5 HJ9 HJ5 HF4 HT5 HTP4 HJ4 HB4 HIS HM3 HB3 HF3 hmm3 HN3 HS3 HI3 HJ HK hQT
      go_wp2_with fail
      refine Code.wp_mono NoPanic.imp ?_
      refine keeps_inner I mb J T nb sz (R * 310 + 1) sp len cap l w W7 _ _ _ v4 _ zs _ _ _ _ _ _ _ _ _ _ _ _ _ _ _ _ _ _ _ _ _ _ _ _ _ _ _ _ _ _ _ _ _ _ _ _ _ _ _ _ _ _ _ _ _ _ _ _ _ _ _ _ _ _ _ _ _ _ _ _ _ _ _ _ _ _ _ _ _ _ _ _ _ _ _ _ _ _ _ _ _ _ _ _ _ _ _ _ _ _ _ _ _ _ _ _ _ _ _ _ _ _ _ _ _ _ _ _ _ _ _ _ _ _ _ _ _ _ _ _ _ _ _ _ _ _ _ _ _ _ _ _ _ _ _ _ _ _ _ _ _ _ _ _ _ _ _ _ _ _ _ _ _ _ _ _ _ _ _ _ _ _ _ _ _ _ _ _ _ _ _ _ _ _ _ _ _ _ _ _ _ _ _ _ _ _ _ _ _ _ _ _ _ _ _ HOR.out hI (by omega) HKR.out rfl ?_
      intro aF I2 d Q2 t2 Ms sv iv dv wr2 hfr hiv hdv hI2 hK
      obtain ⟨u12, hfr⟩ := hfr
      obtain ⟨u23, hfr⟩ := hfr
      obtain ⟨u24, hfr⟩ := hfr
      obtain ⟨u97, hfr⟩ := hfr
      obtain ⟨u98, hfr⟩ := hfr
      obtain ⟨u99, hfr⟩ := hfr
      obtain ⟨u100, hfr⟩ := hfr
      obtain ⟨u101, hfr⟩ := hfr
      obtain ⟨u102, hfr⟩ := hfr
      obtain ⟨u103, hfr⟩ := hfr
      obtain ⟨u104, hfr⟩ := hfr
      obtain ⟨u105, hfr⟩ := hfr
      obtain ⟨u106, hfr⟩ := hfr
      obtain ⟨u107, hfr⟩ := hfr
      obtain ⟨u108, hfr⟩ := hfr
      obtain ⟨u109, hfr⟩ := hfr
      obtain ⟨u110, hfr⟩ := hfr
      obtain ⟨u111, hfr⟩ := hfr
      obtain ⟨u112, hfr⟩ := hfr
      obtain ⟨u113, hfr⟩ := hfr
      obtain ⟨u114, hfr⟩ := hfr
      obtain ⟨u115, hfr⟩ := hfr
      obtain ⟨u116, hfr⟩ := hfr
      obtain ⟨u117, hfr⟩ := hfr
      obtain ⟨u118, hfr⟩ := hfr
      obtain ⟨u119, hfr⟩ := hfr
      obtain ⟨u120, hfr⟩ := hfr
      obtain ⟨u121, hfr⟩ := hfr
      obtain ⟨u122, hfr⟩ := hfr
      obtain ⟨u123, hfr⟩ := hfr
      obtain ⟨u124, hfr⟩ := hfr
      obtain ⟨u125, hfr⟩ := hfr
      obtain ⟨u126, hfr⟩ := hfr
      obtain ⟨u127, hfr⟩ := hfr
      obtain ⟨u128, hfr⟩ := hfr
      obtain ⟨u129, hfr⟩ := hfr
      obtain ⟨u130, hfr⟩ := hfr
      obtain ⟨u131, hfr⟩ := hfr
      obtain ⟨u132, hfr⟩ := hfr
      obtain ⟨u133, hfr⟩ := hfr
      obtain ⟨u134, hfr⟩ := hfr
      obtain ⟨u135, hfr⟩ := hfr
      obtain ⟨u136, hfr⟩ := hfr
      obtain ⟨u137, hfr⟩ := hfr
      obtain ⟨u138, hfr⟩ := hfr
      obtain ⟨u139, hfr⟩ := hfr
      obtain ⟨u140, hfr⟩ := hfr
      obtain ⟨u141, hfr⟩ := hfr
      obtain ⟨u142, hfr⟩ := hfr
      obtain ⟨u143, hfr⟩ := hfr
      obtain ⟨u144, hfr⟩ := hfr
      obtain ⟨u145, hfr⟩ := hfr
      subst hfr
      subst hiv
      subst hdv
      have HLV := hid (hK.leave (by omega))
      clear hK HKR
      go_wp2_with fail
      refine HLV.out.mono ?_
      rintro e w8 ⟨⟨ul, rfl⟩, hK8⟩
      have HOP8 := hid (hK8.open (by omega))
      clear hK8 HLV
      go_wp2_with fail
      refine HOP8.out.mono ?_
      rintro e w9 ⟨K, s9, rfl, hK9⟩
      have HK9 := hid hK9
      clear hK9 HOP8
      go_wp2_with fail
      refine Code.wp_mono NoPanic.imp ?_
      refine keeps_search d K T mb nb sz _ w w9 _ s9 Ms _ v4 _ zs _ _ _ _ _ _ _ _ _ _ _ _ _ _ _ _ _ _ _ _ _ _ _ _ _ _ _ _ _ _ _ _ _ _ _ _ _ _ _ _ _ _ _ _ _ _ _ _ _ _ _ _ _ _ _ _ _ _ _ _ _ _ _ _ _ _ _ _ _ _ _ _ _ _ _ _ _ _ _ _ _ _ _ _ _ _ _ _ _ _ _ _ _ _ _ _ _ _ _ _ _ _ _ _ _ _ _ _ _ _ _ _ _ _ _ _ _ _ _ _ _ _ _ _ _ _ _ _ _ _ _ _ _ _ _ _ _ _ _ _ _ _ _ _ _ _ _ _ _ _ _ _ _ _ _ _ _ _ _ _ _ _ _ _ _ _ _ _ _ _ _ _ _ _ _ _ _ _ _ _ _ _ _ _ _ _ _ _ _ _ _ _ _ _ _ _ HK9.out ?_
      intro aF mb2 Q3 iv wr3 hfr hK3
      obtain ⟨y162, hfr⟩ := hfr
      obtain ⟨y163, hfr⟩ := hfr
      obtain ⟨y164, hfr⟩ := hfr
      obtain ⟨y165, hfr⟩ := hfr
      obtain ⟨y166, hfr⟩ := hfr
      obtain ⟨y167, hfr⟩ := hfr
      obtain ⟨y168, hfr⟩ := hfr
      obtain ⟨y169, hfr⟩ := hfr
      obtain ⟨y170, hfr⟩ := hfr
      obtain ⟨y171, hfr⟩ := hfr
      obtain ⟨y172, hfr⟩ := hfr
      obtain ⟨y173, hfr⟩ := hfr
      obtain ⟨y174, hfr⟩ := hfr
      obtain ⟨y175, hfr⟩ := hfr
      obtain ⟨y176, hfr⟩ := hfr
      obtain ⟨y177, hfr⟩ := hfr
      obtain ⟨y178, hfr⟩ := hfr
      obtain ⟨y179, hfr⟩ := hfr
      obtain ⟨y180, hfr⟩ := hfr
      obtain ⟨y181, hfr⟩ := hfr
      obtain ⟨y182, hfr⟩ := hfr
      obtain ⟨y183, hfr⟩ := hfr
      subst hfr
      obtain ⟨pa, pc, hpv, hp1, hp2, hp3⟩ := hK3.pk _ (Off.refl _ _)
      have HK3 := hid hK3
      have HPZ := hid hK3.pz
      clear hK3 HK9
      have hR1 : IntKind.i64.wrap ((R : Int) + 1) = (R : Int) + 1 := IntWalk.i64_in _ ⟨by omega, by omega⟩
      obtain ⟨nz, hnz⟩ : ∃ n, zs.length = n := ⟨_, rfl⟩
      rw [hnz] at hpv hp1
      have hnzb : (nz : Int) ≤ 9223372036854775807 := by unfold maxLen at hp2; omega
      subst hpv
      by_cases h0 : nz = 0
      · subst h0
        clear hp3
        go_wp2_with fail
        go_roundg (gk - 1)
        case measure => omega
        case rel => exact ⟨R + 1, I2, mb2, Q3, _, _, _, zs, by omega, by go_num, rfl, rfl, hI2, rfl, hZL, HK3.out.more (by omega)⟩
      · have h1 : (0 : Int) < (nz : Int) := by omega
        obtain ⟨pg, po, rfl, pc0⟩ := hp3 0 (by omega)
        have hcz : ∀ j, j < nz → wr3.cell? ⟨pg, po + j, none⟩ = some (.int .i64 (zs.getD j 0)) := fun j hj => by
          obtain ⟨g', o', e', hc⟩ := hp3 j (by omega)
          cases e'
          exact hc
        have HCZ := hid hcz
        obtain ⟨z0, hzz⟩ : ∃ z, zs.getD 0 0 = z := ⟨_, rfl⟩
        rw [hzz, Nat.add_zero] at pc0
        have HZ0 := hid hzz
        have HNZ := hid hnz
        have HZLL := hid hZL
        have HIR := hid hreach
        obtain ⟨ii, hii, hi0, hi1, hi2⟩ := info_parts info_i64
        have q1 : (1 : Int) ≤ (nz : Int) := by omega
        have q2 : (nz : Int) ≤ (pc : Int) := by omega
        have q3 : (pc : Int) ≤ 9223372036854775807 := by unfold maxLen at hp2; omega
        have q4 : (1 : Int) ≤ (pc : Int) := by omega
        clear hp3 hcz hzz hnz hZL
        by_cases hn1 : nz = 1
        · subst hn1
          go_wp2_with fail
          go_region_law (first
            | (refine step_append_grows (by rfl) (.tmp 194) (.tmp 198) 43 (by rfl) 3 ii (.int .i64 0) 1 8 Try.underlying43 hii hi0 hi1 hi2 (by rfl) (by decide) (some ⟨pg, po, none⟩) 0 0 ((zs.drop 1).map (Value.int .i64)) (by rfl) (fun h => by cases h) (by have := HNZ.out; simp only [List.length_map, List.length_drop]; omega) (none_holds HNZ.out) ⟨wr3.heap.size, 0, none⟩ 1 1 [.int .i64 z0] (by rfl) (by rfl) (by exact cell_one_new wr3 _ _) (fun u hu => by simp at hu; subst hu; rfl) (by omega) (by unfold maxLen; omega) (by have := HIR.out; have := HZLL.out; have := HNZ.out; omega) ?_; intro v9 w9 hown9 hgr9)
            | fail)
          all_goals (
            obtain ⟨Q9, hK9⟩ := HK3.out.turned (by rw [HNZ.out]; omega) (by first | exact ((Below.refl _ _).alloc (Nat.le_refl _) _).drew | exact (Below.refl _ _).drew.alloc (Nat.le_refl _) _) (by rw [HNZ.out, HZ0.out]; first | exact hown9 | (have := hown9; rwa [show nz - 1 + 1 = nz by omega] at this)) hgr9
            have HK9 := hid hK9
            clear hK9 hown9 hgr9 HK3
            go_wp2_with fail
            go_roundg (gk - 1)
            case measure => omega
            case rel => exact ⟨R + 1, I2, mb2, Q9, _, _, _, zs.drop 1 ++ zs.take 1, by omega, by go_num, rfl, rfl, hI2, rfl, by rw [turned_len]; exact HZLL.out, HK9.out.more (by omega)⟩)
        · have q5 : ¬ nz - 1 = 0 := by omega
          have q6 : ¬ (nz : Int) = 1 := by omega
          have q7 : ¬ nz = 1 := hn1
          go_wp2_with fail
          go_region_law (first
            | (refine step_append_grows (by rfl) (.tmp 194) (.tmp 198) 43 (by rfl) 3 ii (.int .i64 0) 1 8 Try.underlying43 hii hi0 hi1 hi2 (by rfl) (by decide) (some ⟨pg, po + 1, none⟩) (nz - 1) (nz - 1) ((zs.drop 1).map (Value.int .i64)) (by rfl) (fun h => by cases h) (by have := HNZ.out; simp only [List.length_map, List.length_drop]; omega) (tail_holds HCZ.out HNZ.out (by first | exact ((Below.refl _ _).alloc (Nat.le_refl _) _).drew | exact (Below.refl _ _).drew.alloc (Nat.le_refl _) _)) ⟨wr3.heap.size, 0, none⟩ 1 1 [.int .i64 z0] (by rfl) (by rfl) (by exact cell_one_new wr3 _ _) (fun u hu => by simp at hu; subst hu; rfl) (by omega) (by unfold maxLen; omega) (by have := HIR.out; have := HZLL.out; have := HNZ.out; omega) ?_; intro v9 w9 hown9 hgr9)
            | fail)
          all_goals (
            obtain ⟨Q9, hK9⟩ := HK3.out.turned (by rw [HNZ.out]; omega) (by first | exact ((Below.refl _ _).alloc (Nat.le_refl _) _).drew | exact (Below.refl _ _).drew.alloc (Nat.le_refl _) _) (by rw [HNZ.out, HZ0.out]; first | exact hown9 | (have := hown9; rwa [show nz - 1 + 1 = nz by omega] at this)) hgr9
            have HK9 := hid hK9
            clear hK9 hown9 hgr9 HK3
            go_wp2_with fail
            go_roundg (gk - 1)
            case measure => omega
            case rel => exact ⟨R + 1, I2, mb2, Q9, _, _, _, zs.drop 1 ++ zs.take 1, by omega, by go_num, rfl, rfl, hI2, rfl, by rw [turned_len]; exact HZLL.out, HK9.out.more (by omega)⟩)
    · have hh : ¬ (R : Int) ≤ (clen : Int) ∨ ((R : Int) ≤ (clen : Int) ∧ ¬ (R : Int) < 6) := by omega
      rcases hh with hh | ⟨hh, hh2⟩
      all_goals (
        go_wp2_with fail
        go_ret
        exact ⟨rfl, HK.out.b⟩)
end Go.Proofs.Ytkdjefnnhanhhaa
