/- Walks over bch: the rest by the generator. -/
import Derived.Test.YtjompiihdnaogaaBca
import Derived.Test.YtjompiihdnaogaaBr
namespace Go.Proofs.Ytjompiihdnaogaa
open Go.RowKit Go.Mem

def gf1 (m t : Nat) : Nat → Nat := fun i => (Gf.gen m t).getD i 0
theorem gf1_le {m t : Nat} (h : Gf.Ok m) (i : Nat) : gf1 m t i ≤ 1 := by
  rcases Gf.bin_getD (Gf.gen_bin h t) i with e | e <;> unfold gf1 <;> omega
/-- The generator's lower coefficients as a number. -/
def gnum (m t : Nat) : Nat := Gf.gn (gf1 m t) (rr m t)

theorem longbit_int (hi lo : Nat) (i : Int) (w : World) (h1 : hi < 18446744073709551616) (h2 : lo < 18446744073709551616) (h0 : 0 ≤ i) (h3 : i < 128) :
    Calls Try.prog 32 #[.agg #[.int .u64 hi, .int .u64 lo], .int .i64 i] w fun e w' => e = .returned (.int .u64 ((if i.toNat < 64 then lo.testBit i.toNat else hi.testBit (i.toNat - 64)).toNat : Nat)) ∧ Below w.heap.size w w' := by
  obtain ⟨n, rfl⟩ := Int.eq_ofNat_of_zero_le h0
  exact longbit_any hi lo n w h1 h2 (by omega)

/-- What is handed back: the register's halves. -/
def RestRet (m t : Nat) (xs : List Nat) (e : Ending) : Prop :=
  e = .returned (.agg #[.int .u64 ((Gf.hi64 (Gf.zd (rr m t) (gnum m t) (xs.getD · 0) xs.length) : Nat) : Int), .int .u64 ((Gf.lo64 (Gf.zd (rr m t) (gnum m t) (xs.getD · 0) xs.length) : Nat) : Int)])

set_option maxRecDepth 100000 in
set_option maxHeartbeats 800000 in
theorem rest_any (c bytes t m : Nat) (v : Value) (xs : List Nat) (w : World) (hp : Par bytes t m) (h : CodeAt w c bytes t m) (hv : Rd .u8 w v xs) (hx : ∀ y ∈ xs, y < 256) :
    Calls Try.prog 31 #[.pointer (some ⟨c, 0, none⟩), v] w fun e w' => RestRet m t xs e ∧ Below w.heap.size w w' := by
  have hl := hv.len
  have hr := hp.r
  have HH := hid h
  obtain ⟨fb, gv, h1, h2, h3⟩ := h
  obtain ⟨ga, gcap, rfl, g1, g2, g3⟩ := h3
  rw [hr.1] at h1 g1 g3
  have c3 : w.cell? ⟨c, 3, none⟩ = some (.slice ga (rr m t + 1) gcap) := cell_at h1 3
  have hclt := lt_at h1
  obtain ⟨xa, xcap, rfl, x1, x2, x3⟩ := hv
  have HG3 := hid g3
  have HX3 := hid x3
  have HXL := hid hx
  have r1 := hr.2.1
  have r104 := hr.2.2.2.1
  have hrc : rr m t ≤ gcap := by omega
  clear h1 h2 g3 x3 hx hr
  go_enter Try.func31, Try.ntmps31
  go_wp2_with (go_at_call 16; refine (codeBits_any c bytes t m _ (HH.out.below ((Below.refl _ w).alloc (Nat.le_refl _) _)) hp).mono ?_; rintro e w' ⟨rfl, rfl⟩)
  go_loopg [22] (rr m t) (fun g i wr => ∃ I : Nat, I + g = rr m t ∧ i = .int .i64 I ∧ Below w.heap.size w wr ∧ wr.heap.size = w.heap.size + 2 ∧ wr.heap[w.heap.size]? = some (.cells #[.int .u64 0, .int .u64 0] 67 (0, 0)) ∧ wr.heap[w.heap.size + 1]? = some (.cells #[.int .u64 ((Gf.hi64 (Gf.gn (gf1 m t) I) : Nat) : Int), .int .u64 ((Gf.lo64 (Gf.gn (gf1 m t) I) : Nat) : Int)] 67 (0, 0)))
  case atStart =>
    refine ⟨0, by omega, rfl, ((Below.refl _ w).alloc (Nat.le_refl _) _).alloc (by simp) _, by simp, ?_, ?_⟩
    · exact (alloc_old (by simp)).trans (alloc_new _ _)
    · have := alloc_new (w.alloc (.cells #[.int .u64 0, .int .u64 0] 67)) (.cells #[.int .u64 0, .int .u64 0] 67)
      rw [World.size_alloc] at this
      have e1 : Gf.gn (gf1 m t) 0 = 0 := rfl
      rw [e1, Gf.hi64_zero, Gf.lo64_zero]
      exact this
  case round =>
    obtain ⟨I, hI, rfl, hb, hsz, hbx, hbg⟩ := hrel
    have HB := hid hb
    have HS := hid hsz
    have HBX := hid hbx
    have HBG := hid hbg
    clear hb hsz hbx hbg
    by_cases hlt : I < rr m t
    · obtain ⟨gg, go, rfl, hgc⟩ := HG3.out I (by omega)
      have cg : wr.cell? ⟨gg, go + I, none⟩ = some (.int .i64 ((gf1 m t I : Nat) : Int)) := by rw [HB.out.cell (World.block_lt_of_cell? _ _ hgc)]; exact hgc
      clear hgc
      have g1le := gf1_le hp.ok (t := t) I
      have hgl := Gf.gn_lt (gf1_le hp.ok (t := t)) I
      by_cases h64 : I < 64
      · have cl : wr.cell? ⟨w.heap.size + 1, 1, none⟩ = some (.int .u64 ((Gf.lo64 (Gf.gn (gf1 m t) I) : Nat) : Int)) := cell_at HBG.out 1
        have hll := Gf.lo64_lt (Gf.gn (gf1 m t) I)
        generalize el : Gf.lo64 (Gf.gn (gf1 m t) I) = lo at *
        have EL := hid el
        clear el
        have fl : wr.frozen? ⟨w.heap.size + 1, 1, none⟩ = false := free_at HBG.out 1
        go_wp2
        refine wp_region_quiet_tail 8 (by kernel_rfl) (by kernel_rfl) ?_
        simp only [List.take_succ_cons, List.take_zero, List.drop_succ_cons, List.drop_zero]
        repeat (go_big_quiet_step (fail))
        refine wpQuiet_nil ?_
        intro _ hw'
        obtain ⟨nq, hw''⟩ := hw'
        subst hw''
        go_wp2
        go_roundg (gk - 1)
        case measure => omega
        case rel =>
          have e := Gf.gn_lo (gf1_le hp.ok (t := t)) I h64
          refine ⟨I + 1, by omega, by go_num, (HB.out.drewN nq).setCell (by simp) _, by simpa using HS.out, ?_, ?_⟩
          · exact (set_other (by simp)).trans HBX.out
          · refine (set_at (w := wr.drewN nq) HBG.out 1 _).trans ?_
            rw [e.1, e.2, EL.out, or_shl_u64 lo _ I hll g1le h64]; rfl
      · have cl : wr.cell? ⟨w.heap.size + 1, 0, none⟩ = some (.int .u64 ((Gf.hi64 (Gf.gn (gf1 m t) I) : Nat) : Int)) := cell_at HBG.out 0
        have h128 : Gf.gn (gf1 m t) I < 2^128 := Nat.lt_of_lt_of_le hgl (Nat.pow_le_pow_right (by decide) (by omega))
        have hll := Gf.hi64_lt h128
        clear h128 hgl
        generalize el : Gf.hi64 (Gf.gn (gf1 m t) I) = lo at *
        have EL := hid el
        clear el
        have fl : wr.frozen? ⟨w.heap.size + 1, 0, none⟩ = false := free_at HBG.out 0
        go_wp2
        refine wp_region_quiet_tail 9 (by kernel_rfl) (by kernel_rfl) ?_
        simp only [List.take_succ_cons, List.take_zero, List.drop_succ_cons, List.drop_zero]
        repeat (go_big_quiet_step (fail))
        refine wpQuiet_nil ?_
        intro _ hw'
        obtain ⟨nq, hw''⟩ := hw'
        subst hw''
        go_wp2
        go_roundg (gk - 1)
        case measure => omega
        case rel =>
          have e := Gf.gn_hi (gf1_le hp.ok (t := t)) I (by omega)
          refine ⟨I + 1, by omega, by go_num, (HB.out.drewN nq).setCell (by simp) _, by simpa using HS.out, ?_, ?_⟩
          · exact (set_other (by simp)).trans HBX.out
          · refine (set_at (w := wr.drewN nq) HBG.out 0 _).trans ?_
            rw [e.1, e.2, EL.out, or_shl_u64 lo _ (I - 64) hll g1le (by omega)]; rfl
    · have eI : I = rr m t := by omega
      subst eI
      have hG128 : gnum m t < 2^128 := Nat.lt_of_lt_of_le (Gf.gn_lt (gf1_le hp.ok (t := t)) _) (Nat.pow_le_pow_right (by decide) (by omega))
      have HBG' : Hid (wr.heap[w.heap.size + 1]? = some (.cells #[.int .u64 ((Gf.hi64 (gnum m t) : Nat) : Int), .int .u64 ((Gf.lo64 (gnum m t) : Nat) : Int)] 67 (0, 0))) := HBG
      have HS' : Hid (w.heap.size + 2 ≤ wr.heap.size) := hid (by rw [HS.out]; exact Nat.le_refl _)
      clear HBG HS
      generalize eG : gnum m t = G at *
      have EG := hid eG
      clear eG
      obtain ⟨wo, rfl⟩ : ∃ wo : World, wo = wr := ⟨_, rfl⟩
      go_wp2
      go_loopg [49] xs.length (fun g j wr => ∃ J : Nat, J + g = xs.length ∧ j = .int .i64 J ∧ Below w.heap.size w wr ∧ w.heap.size + 2 ≤ wr.heap.size ∧ wr.heap[w.heap.size]? = some (.cells #[.int .u64 ((Gf.hi64 (Gf.zd (rr m t) G (xs.getD · 0) J) : Nat) : Int), .int .u64 ((Gf.lo64 (Gf.zd (rr m t) G (xs.getD · 0) J) : Nat) : Int)] 67 (0, 0)) ∧ wr.heap[w.heap.size + 1]? = some (.cells #[.int .u64 ((Gf.hi64 G : Nat) : Int), .int .u64 ((Gf.lo64 G : Nat) : Int)] 67 (0, 0)))
      case atStart =>
        have e0 : Gf.zd (rr m t) G (xs.getD · 0) 0 = 0 := rfl
        exact ⟨0, by omega, rfl, HB.out, HS'.out, by rw [e0, Gf.hi64_zero, Gf.lo64_zero]; exact HBX.out, HBG'.out⟩
      case round =>
        clear HBX HBG' HB HS'
        obtain ⟨J, hJ, rfl, hb, hsz, hbx, hbg⟩ := hrel
        have HB := hid hb
        have HS := hid hsz
        have HBX := hid hbx
        have HBG := hid hbg
        clear hb hsz hbx hbg
        by_cases hlt2 : J < xs.length
        · obtain ⟨xg, xo, rfl, hxc⟩ := HX3.out J hlt2
          have cx : wr.cell? ⟨xg, xo + J, none⟩ = some (.int .u8 ((xs.getD J 0 : Nat) : Int)) := by rw [HB.out.cell (World.block_lt_of_cell? _ _ hxc)]; exact hxc
          have hx256 := HXL.out _ (getD_mem hlt2)
          have hzs : Gf.zd (rr m t) G (xs.getD · 0) (J+1) = Gf.zb (rr m t) G (Gf.zd (rr m t) G (xs.getD · 0) J) (xs.getD J 0) 8 := rfl
          have HZS := hid hzs
          have hz128 := Gf.zd_lt (r := rr m t) (G := G) (xs.getD · 0) hG128 J
          clear hxc hzs
          generalize xs.getD J 0 = x at *
          generalize Gf.zd (rr m t) G (xs.getD · 0) J = Z at *
          obtain ⟨wp, rfl⟩ : ∃ wp : World, wp = wr := ⟨_, rfl⟩
          go_wp2
          clear cx
          go_loopg [11] 8 (fun g k wr => ∃ i : Nat, i + g = 8 ∧ k = .int .i64 (7 - (i : Int)) ∧ Below w.heap.size w wr ∧ w.heap.size + 2 ≤ wr.heap.size ∧ wr.heap[w.heap.size]? = some (.cells #[.int .u64 ((Gf.hi64 (Gf.zb (rr m t) G Z x i) : Nat) : Int), .int .u64 ((Gf.lo64 (Gf.zb (rr m t) G Z x i) : Nat) : Int)] 67 (0, 0)) ∧ wr.heap[w.heap.size + 1]? = some (.cells #[.int .u64 ((Gf.hi64 G : Nat) : Int), .int .u64 ((Gf.lo64 G : Nat) : Int)] 67 (0, 0)))
          case atStart => exact ⟨0, by omega, rfl, HB.out, HS.out, HBX.out, HBG.out⟩
          case round =>
            clear HBX HBG HB HS
            obtain ⟨i, hi, rfl, hb, hsz, hbx, hbg⟩ := hrel
            have HB := hid hb
            have HS := hid hsz
            have HBX := hid hbx
            have HBG := hid hbg
            clear hb hsz hbx hbg
            by_cases hi8 : i < 8
            · have hzi := Gf.zb_lt (r := rr m t) (x := x) hG128 hz128 i
              have hh := Gf.hi64_lt hzi
              have hll := Gf.lo64_lt (Gf.zb (rr m t) G Z x i)
              have hgh := Gf.hi64_lt hG128
              have hgl := Gf.lo64_lt G
              have hbit := Gf.bit_halves (Gf.zb (rr m t) G Z x i) (rr m t - 1)
              have hst : Gf.zb (rr m t) G Z x (i+1) = Gf.zstep (rr m t) G (Gf.zb (rr m t) G Z x i) (x.testBit (7 - i)) := rfl
              have HBIT := hid hbit
              have HST := hid hst
              clear hbit hst hzi
              have cxh : wr.cell? ⟨w.heap.size, 0, none⟩ = some (.int .u64 ((Gf.hi64 (Gf.zb (rr m t) G Z x i) : Nat) : Int)) := cell_at HBX.out 0
              have cxl : wr.cell? ⟨w.heap.size, 1, none⟩ = some (.int .u64 ((Gf.lo64 (Gf.zb (rr m t) G Z x i) : Nat) : Int)) := cell_at HBX.out 1
              generalize ezh : Gf.hi64 (Gf.zb (rr m t) G Z x i) = zh at *
              generalize ezl : Gf.lo64 (Gf.zb (rr m t) G Z x i) = zl at *
              have EZH := hid ezh
              have EZL := hid ezl
              clear ezh ezl
              have hk0 : (0 : Int) ≤ 7 - (i : Int) := by omega
              obtain ⟨r1, hr1⟩ : ∃ r1, rr m t - 1 = r1 := ⟨_, rfl⟩
              rw [hr1] at HBIT
              have ew : IntKind.i64.wrap ((rr m t : Int) - 1) = (r1 : Int) := by rw [IntWalk.i64_in _ (by omega)]; omega
              have hr128 : r1 < 128 := by omega
              have HR1 := hid hr1
              clear hr1
              obtain ⟨tv, htv⟩ : ∃ tv, (if r1 < 64 then zl.testBit r1 else zh.testBit (r1 - 64)).toNat = tv := ⟨_, rfl⟩
              have hcall : Hid (∀ w', Calls Try.prog 32 #[.agg #[.int .u64 zh, .int .u64 zl], .int .i64 r1] w' fun e w'' => e = .returned (.int .u64 tv) ∧ Below w'.heap.size w' w'') := hid fun w' => by
                have := longbit_any zh zl r1 w' hh hll hr128
                rwa [htv] at this
              have htv1 : tv ≤ 1 := by rw [← htv]; cases (if r1 < 64 then zl.testBit r1 else zh.testBit (r1 - 64)) <;> decide
              have HTV := hid htv
              clear htv
              have eand := and1_wrap x (7 - i) hx256
              obtain ⟨bv, hbv⟩ : ∃ bv, (x.testBit (7 - i)).toNat = bv := ⟨_, rfl⟩
              have hbv1 : bv ≤ 1 := by rw [← hbv]; cases x.testBit (7 - i) <;> decide
              rw [hbv] at eand
              have HBV := hid hbv
              clear hbv
              have exor := bits_xor_u64_nat tv bv (by omega) (by omega)
              obtain ⟨tp, htp⟩ : ∃ tp, tv ^^^ bv = tp := ⟨_, rfl⟩
              have htp1 : tp ≤ 1 := by
                rw [← htp]
                rcases (show tv = 0 ∨ tv = 1 by omega) with e | e <;> rcases (show bv = 0 ∨ bv = 1 by omega) with e' | e' <;> rw [e, e'] <;> decide
              rw [htp] at exor
              have HTP := hid htp
              clear htp
              go_upto_region 16 with fail
              go_cut [12] (fun s wx => s = .int .u64 (tp : Int) ∧ Below wr.heap.size wr wx)
              case first =>
                go_region_with (go_at_call 32; refine (hcall.out _).mono ?_; rintro e w' ⟨rfl, hb⟩)
                all_goals
                  go_wp2_with fail
                  go_meet
                  exact ⟨rfl, hb.os, hb.tape, hb.output, hb.size, hb.block⟩
              case rest =>
                obtain ⟨rfl, hbc⟩ := hcut
                have HBC := hid hbc
                have hsz2 := hbc.size
                clear cxh cxl eand exor hcall hbc
                have HBX2 := hid ((HBC.out.block _ (lt_at HBX.out)).trans HBX.out)
                have HBG2 := hid ((HBC.out.block _ (lt_at HBG.out)).trans HBG.out)
                have cxh : wc.cell? ⟨w.heap.size, 0, none⟩ = some (.int .u64 (zh : Int)) := cell_at HBX2.out 0
                have cxl : wc.cell? ⟨w.heap.size, 1, none⟩ = some (.int .u64 (zl : Int)) := cell_at HBX2.out 1
                have fxh : wc.frozen? ⟨w.heap.size, 0, none⟩ = false := free_at HBX2.out 0
                have fxl : wc.frozen? ⟨w.heap.size, 1, none⟩ = false := free_at HBX2.out 1
                have cgh : wc.cell? ⟨w.heap.size + 1, 0, none⟩ = some (.int .u64 ((Gf.hi64 G : Nat) : Int)) := cell_at HBG2.out 0
                have cgl : wc.cell? ⟨w.heap.size + 1, 1, none⟩ = some (.int .u64 ((Gf.lo64 G : Nat) : Int)) := cell_at HBG2.out 1
                generalize egh : Gf.hi64 G = gh at *
                generalize egl : Gf.lo64 G = gl at *
                have EGH := hid egh
                have EGL := hid egl
                clear egh egl
                have E17a := hid (twice_hi zh zl hll)
                have E17b := hid (twice_lo zl)
                obtain ⟨h2, eh2⟩ : ∃ h2, ((zh * 2) % 2^64) ||| (zl / 2^63) = h2 := ⟨_, rfl⟩
                obtain ⟨l2, el2⟩ : ∃ l2, (zl * 2) % 2^64 = l2 := ⟨_, rfl⟩
                rw [eh2] at E17a
                rw [el2] at E17b
                obtain ⟨mk, emk⟩ : ∃ mk, (if tp = 1 then 2^64 - 1 else 0 : Nat) = mk := ⟨_, rfl⟩
                obtain ⟨ah, eah⟩ : ∃ ah, (if tp = 1 then gh else 0 : Nat) = ah := ⟨_, rfl⟩
                obtain ⟨al, eal⟩ : ∃ al, (if tp = 1 then gl else 0 : Nat) = al := ⟨_, rfl⟩
                have en := neg_mask tp htp1
                have ea1 : bits .and .u64 (gh : Int) (mk : Int) = (ah : Int) := by
                  rw [← emk, ← eah, ← Gf.and_mask gh tp hgh htp1]
                  exact bits_and_u64_nat _ _ hgh (by split <;> decide)
                have ea2 : bits .and .u64 (gl : Int) (mk : Int) = (al : Int) := by
                  rw [← emk, ← eal, ← Gf.and_mask gl tp hgl htp1]
                  exact bits_and_u64_nat _ _ hgl (by split <;> decide)
                rw [emk] at en
                have hh2 : h2 < 2^64 := by rw [← eh2]; exact Nat.or_lt_two_pow (Nat.mod_lt _ (Nat.two_pow_pos 64)) (by omega)
                have hl2 : l2 < 2^64 := by rw [← el2]; exact Nat.mod_lt _ (Nat.two_pow_pos 64)
                have hah : ah < 2^64 := by rw [← eah]; split; exact hgh; exact Nat.two_pow_pos 64
                have hal : al < 2^64 := by rw [← eal]; split; exact hgl; exact Nat.two_pow_pos 64
                have ex1 := bits_xor_u64_nat h2 ah hh2 hah
                have ex2 := bits_xor_u64_nat l2 al hl2 hal
                have EH2 := hid eh2
                have EL2 := hid el2
                have EMK := hid emk
                have EAH := hid eah
                have EAL := hid eal
                clear eh2 el2 emk eah eal hh2 hl2 hah hal hgh hgl
                go_upto_region 18 with fail
                rw [E17a.out, E17b.out]
                go_region
                have HZH := Gf.zstep_halves (rr m t) G (Gf.zb (rr m t) G Z x i) (x.testBit (7 - i)) zh zl gh gl tv bv tp h2 l2 ah al EZH.out EZL.out EGH.out EGL.out (by rw [HR1.out, HBIT.out, HTV.out]) HBV.out HTP.out EH2.out EL2.out EAH.out EAL.out
                have HZ2 := hid HZH
                clear HZH
                go_wp2
                go_roundg (gk - 1)
                case measure => omega
                case rel =>
                  refine ⟨i + 1, by omega, congrArg (Value.int .i64) (by omega), ?_, ?_, ?_, ?_⟩
                  · exact (((((HB.out.trans (HBC.out.mono HB.out.size)).setCell (Nat.le_refl _) _).setCell (Nat.le_refl _) _).setCell (Nat.le_refl _) _).setCell (Nat.le_refl _) _).drew
                  · have := HS.out; simp; omega
                  · refine (set_at (set_at (set_at (set_at HBX2.out 0 (.int .u64 (h2 : Int))) 1 (.int .u64 (l2 : Int))) 0 (.int .u64 ((h2 ^^^ ah : Nat) : Int))) 1 (.int .u64 ((l2 ^^^ al : Nat) : Int))).trans ?_
                    rw [HST.out, HZ2.out.1, HZ2.out.2]; rfl
                  · refine (set_other (by simp)).trans ((set_other (by simp)).trans ((set_other (by simp)).trans ((set_other (by simp)).trans HBG2.out)))
            · have ei : i = 8 := by omega
              subst ei
              rw [← HZS.out] at HBX
              go_wp2
              go_roundg (xs.length - (J + 1))
              case measure => omega
              case rel => exact ⟨J + 1, by omega, by go_num, HB.out, HS.out, HBX.out, HBG.out⟩
        · have eJ : J = xs.length := by omega
          subst eJ
          generalize ezh : Gf.hi64 (Gf.zd (rr m t) G (xs.getD · 0) xs.length) = zh at *
          generalize ezl : Gf.lo64 (Gf.zd (rr m t) G (xs.getD · 0) xs.length) = zl at *
          have EZH := hid ezh
          have EZL := hid ezl
          clear ezh ezl
          have cxh : wr.cell? ⟨w.heap.size, 0, none⟩ = some (.int .u64 (zh : Int)) := cell_at HBX.out 0
          have cxl : wr.cell? ⟨w.heap.size, 1, none⟩ = some (.int .u64 (zl : Int)) := cell_at HBX.out 1
          have fxh : wr.frozen? ⟨w.heap.size, 0, none⟩ = false := free_at HBX.out 0
          have fxl : wr.frozen? ⟨w.heap.size, 1, none⟩ = false := free_at HBX.out 1
          go_wp2
          have c1 := (World.cell?_setCell_same wr ⟨w.heap.size, 0, none⟩ (.int .u64 (zh : Int)) cxh)
          have c2 : (wr.setCell ⟨w.heap.size, 0, none⟩ (.int .u64 (zh : Int))).cell? ⟨w.heap.size, 1, none⟩ = some (.int .u64 (zl : Int)) := (World.cell?_setCell_other _ _ _ _ (by simp)).trans cxl
          have c3 := (World.cell?_setCell_same _ ⟨w.heap.size, 1, none⟩ (.int .u64 (zl : Int)) c2)
          have c4 : ((wr.setCell ⟨w.heap.size, 0, none⟩ (.int .u64 (zh : Int))).setCell ⟨w.heap.size, 1, none⟩ (.int .u64 (zl : Int))).cell? ⟨w.heap.size, 0, none⟩ = some (.int .u64 (zh : Int)) := (World.cell?_setCell_other _ _ _ _ (by simp)).trans c1
          refine bodyPost_ret (v := .agg #[.int .u64 (zh : Int), .int .u64 (zl : Int)]) (by simp [results, Try.results31, go_sem, c3, c4]) rfl ⟨?_, (HB.out.setCell (Nat.le_refl _) _).setCell (Nat.le_refl _) _⟩
          unfold RestRet
          rw [EG.out, EZH.out, EZL.out]
end Go.Proofs.Ytjompiihdnaogaa
