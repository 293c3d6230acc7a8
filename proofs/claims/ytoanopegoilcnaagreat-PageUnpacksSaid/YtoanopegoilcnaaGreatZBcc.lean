/- Walks over bch: parity is encoded. -/
import Derived.Test.YtoanopegoilcnaaGreatJf
import Derived.Deep.RegionWith
import Derived.Deep.DrawnRows
set_option linter.unusedVariables false
namespace Go.Proofs.YtoanopegoilcnaaGreat
open Go.RowKit Go.Mem
attribute [local go_sem ↓] Go.wp_at_zero Go.wp_at_succ

/-- The bytes of a register of r bits, after i of its bits from the top. -/
def pbI (r X : Nat) : Nat → Nat → Nat
  | 0 => fun _ => 0
  | i + 1 => if X.testBit (r - 1 - i) then upd (pbI r X i) (i / 8) (pbI r X i (i / 8) ^^^ (128 >>> (i % 8))) else pbI r X i
theorem pbI_lt (r X i : Nat) : ∀ j, pbI r X i j < 256 := by
  induction i with
  | zero => intro j; simp [pbI]
  | succ i ih =>
    intro j
    rw [pbI]
    split
    · unfold upd
      split
      · exact Nat.xor_lt_two_pow (n := 8) (ih _) (by rw [Nat.shiftRight_eq_div_pow]; exact Nat.lt_of_le_of_lt (Nat.div_le_self _ _) (by decide))
      · exact ih j
    · exact ih j
/-- The parity bytes of a word. -/
def par (m t : Nat) (xs : List Nat) : Nat → Nat := pbI (rr m t) (Gf.zd (rr m t) (gnum m t) (xs.getD · 0) xs.length) (rr m t)

set_option maxRecDepth 100000 in
set_option maxHeartbeats 6400000 in
theorem encode_any (c bytes t m : Nat) (v : Value) (xs : List Nat) (w : World) (hp : Par bytes t m) (h : CodeAt w c bytes t m) (hv : Rd .u8 w v xs) (hx : ∀ y ∈ xs, y < 256) (hlen : xs.length = bytes) :
    Calls Tryz.prog 50 #[.pointer (some ⟨c, 0, none⟩), v] w fun e w' => ∃ p P, w.heap.size ≤ p ∧ P = (rr m t + 7) / 8 ∧ e = .returned (.tuple #[.slice (some ⟨p, 0, none⟩) P P, .int .i64 0]) ∧ w'.heap[p]? = some (.cells (fa .u8 P (par m t xs)) 5 (0, 0)) ∧ Below w.heap.size w w' := by
  subst hlen
  have hR := hid (rest_any c xs.length t m v xs)
  have hr := hp.r
  have HH := hid h
  have HV := hid hv
  have HX := hid hx
  obtain ⟨fb, gv, h1, h2, h3⟩ := h
  obtain ⟨xa, xcap, rfl, x1, x2, x3⟩ := hv
  obtain ⟨X, eX⟩ : ∃ X, Gf.zd (rr m t) (gnum m t) (xs.getD · 0) xs.length = X := ⟨_, rfl⟩
  obtain ⟨zh, ezh⟩ : ∃ zh, Gf.hi64 X = zh := ⟨_, rfl⟩
  obtain ⟨zl, ezl⟩ : ∃ zl, Gf.lo64 X = zl := ⟨_, rfl⟩
  have hrest : Hid (∀ w', CodeAt w' c xs.length t m → Rd .u8 w' (.slice xa xs.length xcap) xs → Calls Tryz.prog 70 #[.pointer (some ⟨c, 0, none⟩), .slice xa xs.length xcap] w' fun e w'' => e = .returned (.agg #[.int .u64 zh, .int .u64 zl]) ∧ Below w'.heap.size w' w'') := hid fun w' hc hv => by
    have := hR.out w' hp hc hv HX.out
    unfold RestRet at this
    rw [eX, ezh, ezl] at this
    exact this
  have eHL := hid (Gf.bit_halves X)
  rw [ezh, ezl] at eHL
  have hX128 : X < 2^128 := by rw [← eX]; exact Gf.zd_lt (xs.getD · 0) (Nat.lt_of_lt_of_le (Gf.gn_lt (gf1_le hp.ok (t := t)) _) (Nat.pow_le_pow_right (by decide) (by have := hp.r.2.2.2.1; omega))) _
  have hzh : zh < 18446744073709551616 := by rw [← ezh]; exact Gf.hi64_lt hX128
  have hzl : zl < 18446744073709551616 := by rw [← ezl]; exact Gf.lo64_lt X
  have EX := hid eX
  clear eX ezh ezl hX128 hR
  have c1 : w.cell? ⟨c, 1, none⟩ = some (.int .i64 xs.length) := cell_at h1 1
  have hb2 := hp.b2
  have r104 := hr.2.2.2.1
  have hP := hid (codeParity_any c xs.length t m)
  obtain ⟨P, hPe⟩ : ∃ P, (rr m t + 7) / 8 = P := ⟨_, rfl⟩
  have hpar : Hid (∀ w', CodeAt w' c xs.length t m → Calls Tryz.prog 34 #[.pointer (some ⟨c, 0, none⟩)] w' fun e w'' => e = .returned (.int .i64 (P : Nat)) ∧ w' = w'') := hid fun w' hc => by rw [← hPe]; exact codeParity_any c xs.length t m w' hc hp
  have hP14 : P ≤ 14 := by omega
  have HPE := hid hPe
  clear hPe hP
  have hmk : ∀ w, (Instr.makeSlice 39 (.int .i64 (P : Int)) (.int .i64 (P : Int))).run Tryz.prog w = .ok (.slice (some ⟨w.heap.size, 0, none⟩) P P) (w.alloc (.cells (fa .u8 P (fun _ => 0)) 5)) := fun w => mk_bytes _ (by omega) w
  have hne : ((xs.length : Int) != (xs.length : Int)) = false := by simp
  clear h1 h2 h3 x3 hx hr
  go_enter Tryz.func50, Tryz.ntmps50
  go_upto_region 3 with fail
  go_cut [6, 7, 8] (fun o r x wx => r = .int .i64 (rr m t) ∧ Below w.heap.size w wx ∧ ∃ p q, w.heap.size ≤ p ∧ w.heap.size ≤ q ∧ p ≠ q ∧ o = .slice (some ⟨p, 0, none⟩) P P ∧ x = .pointer (some ⟨q, 0, none⟩) ∧ wx.heap[p]? = some (.cells (fa .u8 P (fun _ => 0)) 5 (0, 0)) ∧ wx.heap[q]? = some (.cells #[.int .u64 zh, .int .u64 zl] 123 (0, 0)))
  case first =>
    go_region_with (first | (go_at_call 34; refine (hpar.out _ (HH.out.below (by repeat (first | exact Below.refl _ _ | refine bl_drew ?_ | refine bl_alloc ?_ _ | refine Below.comp ?_ (by assumption))))).mono ?_; rintro e w' ⟨rfl, rfl⟩) | (go_at_call 54; refine (codeBits_any c xs.length t m _ (HH.out.below (by repeat (first | exact Below.refl _ _ | refine bl_drew ?_ | refine bl_alloc ?_ _ | refine Below.comp ?_ (by assumption)))) hp).mono ?_; rintro e w' ⟨rfl, rfl⟩) | (go_at_call 70; refine (hrest.out _ (HH.out.below (by repeat (first | exact Below.refl _ _ | refine bl_drew ?_ | refine bl_alloc ?_ _ | refine Below.comp ?_ (by assumption)))) (HV.out.below (by repeat (first | exact Below.refl _ _ | refine bl_drew ?_ | refine bl_alloc ?_ _ | refine Below.comp ?_ (by assumption))))).mono ?_; rintro e w' ⟨rfl, hbr⟩; obtain ⟨hcb, hfb⟩ := bcell hbr; have hzb := hbr.size; simp at hzb; try simp only [Nat.add_one_le_iff] at hzb))
    all_goals (go_wp2_with fail; go_meet; refine ⟨rfl, ?_, _, _, ?_, ?_, ?_, rfl, rfl, ?_, ?_⟩)
    all_goals first
      | ((repeat (first | exact Below.refl _ _ | refine bl_drew ?_ | refine bl_drewN ?_ _ | refine bl_alloc ?_ _ | refine bl_set ?_ (by first | (simp; done) | (simp; omega)) _ | refine Below.comp ?_ (by assumption))); done)
      | ((repeat (first | exact alloc_at (by simp) | refine (alloc_old (by first | assumption | (simp; done) | (simp; omega))).trans ?_ | refine @set_pair _ _ (.int .u64 0) (.int .u64 0) _ _ _ _ ?_ | refine (set_other (by first | (simp; done) | (simp; omega))).trans ?_ | refine (Below.block (by assumption) _ (by first | (simp; done) | (simp; omega))).trans ?_)); done)
      | (simp; done)
      | omega
      | (simp; omega)
  case rest =>
    obtain ⟨rfl, hb, p, q, hp1, hq1, hpq, rfl, rfl, hpc, hqc⟩ := hcut
    have HB := hid hb
    have HP := hid hpc
    have HQ := hid hqc
    clear hb hpc hqc
    go_wp2
    go_loopg [30] (rr m t) (fun g i wr => ∃ I : Nat, I + g = rr m t ∧ i = .int .i64 I ∧ Below w.heap.size w wr ∧ wr.heap[p]? = some (.cells (fa .u8 P (pbI (rr m t) X I)) 5 (0, 0)) ∧ wr.heap[q]? = some (.cells #[.int .u64 zh, .int .u64 zl] 123 (0, 0)))
    case atStart => exact ⟨0, by omega, rfl, HB.out, HP.out, HQ.out⟩
    case round =>
      clear HB HP HQ
      obtain ⟨I, hI, rfl, hb, hpc, hqc⟩ := hrel
      have HB := hid hb
      have HP := hid hpc
      have HQ := hid hqc
      clear hb hpc hqc
      by_cases hlt : I < rr m t
      · have cxh : wr.cell? ⟨q, 0, none⟩ = some (.int .u64 (zh : Int)) := cell_at HQ.out 0
        have cxl : wr.cell? ⟨q, 1, none⟩ = some (.int .u64 (zl : Int)) := cell_at HQ.out 1
        obtain ⟨k, hk⟩ : ∃ k : Int, (rr m t : Int) - 1 - I = k := ⟨_, rfl⟩
        have hk0 : 0 ≤ k := by omega
        have hk1 : k < 128 := by omega
        have hkn : k.toNat = rr m t - 1 - I := by omega
        have hbt := longbit_int zh zl k
        obtain ⟨tb, etb⟩ : ∃ tb, ((if k.toNat < 64 then zl.testBit k.toNat else zh.testBit (k.toNat - 64)).toNat : Nat) = tb := ⟨_, rfl⟩
        have htb : tb = (X.testBit (rr m t - 1 - I)).toNat := by rw [← etb, hkn, eHL.out]
        rw [etb] at hbt
        have HBT := hid hbt
        have HTB := hid htb
        clear hbt htb etb hkn
        have hpl := lt_at HP.out
        have hql := lt_at HQ.out
        by_cases hbit : X.testBit (rr m t - 1 - I) = true
        · obtain rfl : tb = 1 := by rw [HTB.out, hbit]; rfl
          have HBI := hid hbit
          clear hbit
          have hI8 : I < 8 * P := by have := HPE.out; omega
          go_wp2_with (first | (go_at_call 71; refine (HBT.out _ hzh hzl hk0 hk1).mono ?_; rintro e w' ⟨rfl, hbr⟩) | (go_at_call 61; refine (turn_any p P P I _ _ ((hbr.block _ hpl).trans HP.out) (Nat.le_refl _) (by omega) (pbI_lt _ _ _) hI8).mono ?_; rintro e w2 ⟨rfl, ht1, ht2, ht3⟩))
          go_roundg (gk - 1)
          case measure => omega
          case rel =>
            refine ⟨I + 1, by omega, by go_num, ?_, ?_, ?_⟩
            · exact (HB.out.comp hbr).grown ht2 (HB.out.comp hbr).size (fun k hk => by cases hk; exact hp1)
            · refine ht1.trans ?_
              rw [pbI, if_pos HBI.out]
            · exact (ht2.block q (Nat.lt_of_lt_of_le hql hbr.size) (fun h => hpq (by cases h; rfl))).trans ((hbr.block _ hql).trans HQ.out)
        · obtain rfl : tb = 0 := by rw [HTB.out]; simp [hbit]
          have HBI := hid hbit
          clear hbit
          go_wp2_with (go_at_call 71; refine (HBT.out _ hzh hzl hk0 hk1).mono ?_; rintro e w' ⟨rfl, hbr⟩)
          go_roundg (gk - 1)
          case measure => omega
          case rel =>
            refine ⟨I + 1, by omega, by go_num, HB.out.comp hbr, ?_, (hbr.block _ hql).trans HQ.out⟩
            refine ((hbr.block _ hpl).trans HP.out).trans ?_
            rw [pbI, if_neg HBI.out]
      · have eI : I = rr m t := by omega
        subst eI
        go_wp2
        go_ret2
        refine ⟨p, P, hp1, HPE.out.symm, rfl, ?_, HB.out⟩
        refine HP.out.trans ?_
        unfold par
        rw [EX.out]
end Go.Proofs.YtoanopegoilcnaaGreat
