/- Walks over bch: the locator (Berlekamp, Massey). -/
import Derived.Test.YtjompiihdnaogaaBcf
import Derived.Test.YtjompiihdnaogaaBm
import Derived.Deep.CutBlock
namespace Gf
/-- How long the rows may grow. -/
theorem bms_len (m : Nat) (s : List Nat) (n : Nat) : (bms m s n).now.length ≤ n + 1 ∧ (bms m s n).was.length + (bms m s n).gap ≤ n + 2 ∧ 1 ≤ (bms m s n).now.length ∧ 1 ≤ (bms m s n).was.length := by
  induction n with
  | zero => simp [bms]
  | succ n ih =>
    show (bmStep m s n (bms m s n)).now.length ≤ _ ∧ (bmStep m s n (bms m s n)).was.length + (bmStep m s n (bms m s n)).gap ≤ _ ∧ 1 ≤ (bmStep m s n (bms m s n)).now.length ∧ 1 ≤ (bmStep m s n (bms m s n)).was.length
    generalize bms m s n = b at *
    obtain ⟨h1, h2, h3, h4⟩ := ih
    unfold bmStep
    split
    · exact ⟨by show b.now.length ≤ _; omega, by show b.was.length + (b.gap + 1) ≤ _; omega, h3, h4⟩
    · split
      · simp only [nextP, List.length_map, List.length_range]; omega
      · simp only [nextP, List.length_map, List.length_range]; omega
end Gf
namespace Go.Proofs.Ytjompiihdnaogaa
open Go.RowKit Go.Mem

theorem _root_.Go.Mem.Ow.owns {k : IntKind} {e : TypeId} {w : World} {g n cap base : Nat} {f : Nat → Nat} (h : Ow k e w g n cap f) (hb : base ≤ g) :
    w.ownsRow base e 1 (.slice (some ⟨g, 0, none⟩) n cap) n ((List.range n).map fun j => Value.int k (f j : Nat)) := by
  obtain ⟨cur, h1, h2, h3, h4, h5⟩ := h
  refine ⟨by simp, .inr ⟨g, cap, cur, rfl, hb, h1, h3, h4, by simpa using h2, ?_⟩⟩
  apply List.ext_getElem?
  intro j
  rw [Nat.mul_one, List.getElem?_take]
  by_cases hj : j < n
  · rw [if_pos hj]
    have := h5 j hj
    rw [Array.getElem?_toList, this]
    simp [hj]
  · rw [if_neg hj, List.getElem?_eq_none (by simp; omega)]

/-- A slice into memory of one's own. -/
def Fr (B : Nat) (v : Value) : Prop := ∃ (a : Option Addr) (n c g o : Nat), v = .slice a n c ∧ a = some ⟨g, o, none⟩ ∧ B ≤ g
theorem Fr.len {B : Nat} {a : Option Addr} {n c : Nat} (h : Fr B (.slice a n c)) (k : Nat) : Fr B (.slice a k c) := by
  obtain ⟨a', n', c', g, o, he, ha, hg⟩ := h
  cases he
  exact ⟨_, _, _, g, o, rfl, ha, hg⟩

/-- The next register, the first K terms of it turned. -/
def nxk (m : Nat) (now was : List Nat) (gap y K j : Nat) : Nat := now.getD j 0 ^^^ (if gap ≤ j ∧ j - gap < K then Gf.mul m y (was.getD (j - gap) 0) else 0)
theorem nxk_lt {m : Nat} (hm : Gf.Ok m) {now : List Nat} (hn : ∀ y ∈ now, y < 2^m) (was : List Nat) (gap y K j : Nat) : nxk m now was gap y K j < 2^m := by
  refine Nat.xor_lt_two_pow (Gf.getD_lt hn j) ?_
  split
  · exact Gf.mul_lt hm _ _
  · exact Nat.two_pow_pos m
theorem nxk_succ (m : Nat) (now was : List Nat) (gap y K : Nat) (j : Nat) : upd (nxk m now was gap y K) (K + gap) (nxk m now was gap y K (K + gap) ^^^ Gf.mul m y (was.getD K 0)) j = nxk m now was gap y (K+1) j := by
  unfold upd nxk
  by_cases h : j = K + gap
  · subst h
    rw [if_pos rfl, if_neg (by omega), if_pos (by omega), Nat.xor_zero, show K + gap - gap = K by omega]
  · rw [if_neg h]
    by_cases h2 : gap ≤ j ∧ j - gap < K
    · rw [if_pos h2, if_pos (by omega)]
    · rw [if_neg h2, if_neg (by omega)]
theorem nxk_all (m : Nat) (now was : List Nat) (gap y j : Nat) : nxk m now was gap y was.length j = Gf.nxf m now was gap y j := by
  unfold nxk Gf.nxf
  by_cases h : gap ≤ j
  · rw [if_pos h]
    by_cases h2 : j - gap < was.length
    · rw [if_pos ⟨h, h2⟩]
    · rw [if_neg (by omega), show was.getD (j - gap) 0 = 0 from Gf.getD_ge (by omega), Gf.mul_zero]
  · rw [if_neg h, if_neg (by omega)]

set_option maxRecDepth 100000 in
set_option maxHeartbeats 3200000 in
theorem locator_any (c bytes t m : Nat) (v : Value) (s : List Nat) (w : World) (hp : Par bytes t m) (h : CodeAt w c bytes t m) (hv : Rd .i64 w v s) (hs : ∀ y ∈ s, y < 2^m) (hl : s.length ≤ 16) :
    Calls Try.prog 40 #[.pointer (some ⟨c, 0, none⟩), v] w fun e w' => (∃ v', e = .returned v' ∧ Rd .i64 w' v' (Gf.locator m s) ∧ Fr w.heap.size v') ∧ Below w.heap.size w w' := by
  have hm := hp.ok
  have h13 := hm.2
  have hl2 : 2^m ≤ 8192 := Nat.pow_le_pow_right (n := 2) (by decide) h13
  have HH := hid h
  have HV := hid hv
  have HSL := hid hs
  obtain ⟨fb, gv, h1, h2, h3⟩ := h
  have hcl := lt_at h1
  obtain ⟨sa, scap, rfl, x1, x2, x3⟩ := hv
  have HX3 := hid x3
  have H1 := hid h1
  have H2 := hid h2
  clear h1 h2 h3 x3 hs
  go_enter Try.func40, Try.ntmps40
  go_wp2
  go_loopg [21, 5, 6, 7, 8, 9] s.length (fun gk i vn vw vl vg vz wr => ∃ n : Nat, n + gk = s.length ∧ i = .int .i64 n ∧ Rd .i64 wr vn (Gf.bms m s n).now ∧ Rd .i64 wr vw (Gf.bms m s n).was ∧ vl = .int .i64 ((Gf.bms m s n).len : Nat) ∧ vg = .int .i64 ((Gf.bms m s n).gap : Nat) ∧ vz = .int .i64 ((Gf.bms m s n).last : Nat) ∧ Below w.heap.size w wr ∧ Fr w.heap.size vn ∧ Fr w.heap.size vw)
  case atStart =>
    refine ⟨0, by omega, rfl, ?_, ?_, rfl, rfl, rfl, by (repeat (first | exact Below.refl _ _ | refine bl_drew ?_ | refine bl_drewN ?_ _ | refine bl_alloc ?_ _ | refine bl_set ?_ (by first | (simp; done) | (simp; omega)) _ | refine Below.comp ?_ (by assumption))), ⟨_, _, _, w.heap.size, 0, rfl, rfl, Nat.le_refl _⟩, ⟨_, _, _, w.heap.size + 1, 0, rfl, rfl, by omega⟩⟩
    · refine ⟨_, _, rfl, Nat.le_refl 1, by decide, fun j hj => ⟨w.heap.size, 0, rfl, ?_⟩⟩
      obtain rfl : j = 0 := by have : j < 1 := hj; omega
      exact cell_at (b := w.heap.size) ((alloc_old (by simp)).trans (alloc_new _ _)) 0
    · refine ⟨_, _, rfl, Nat.le_refl 1, by decide, fun j hj => ⟨w.heap.size + 1, 0, rfl, ?_⟩⟩
      obtain rfl : j = 0 := by have : j < 1 := hj; omega
      exact cell_at (b := w.heap.size + 1) (alloc_at (by simp)) 0
  case round =>
    obtain ⟨n, hn, rfl, hrn, hrw, rfl, rfl, rfl, hb, hfn, hfw⟩ := hrel
    have HB := hid hb
    have HRN := hid hrn
    have HRW := hid hrw
    have hln := Gf.bms_len m s n
    have hinv := Gf.inv_all hm s HSL.out n
    have HG : Hid (Gf.bms m s (n+1) = Gf.bmStep m s n (Gf.bms m s n)) := hid rfl
    generalize hb' : Gf.bms m s n = b at *
    have HI := hid hinv
    have n1 := hln.1
    have n2 := hln.2.1
    have n3 := hln.2.2.1
    have n4 := hln.2.2.2
    have n5 := hinv.ln
    have n6 := hinv.g1
    have hnl := hinv.nl
    have HNL := hid hnl
    have HWL := hid hinv.wl
    clear hb hrn hrw hln hinv hnl
    by_cases hlt : n < s.length
    · clear hb'
      obtain ⟨na, ncap, rfl, nc1, nc2, nc3⟩ := HRN.out
      obtain ⟨wa, wcap, rfl, wc1, wc2, wc3⟩ := HRW.out
      have HNC := hid nc3
      have HWC := hid wc3
      obtain ⟨g0, o0, rfl, hx0⟩ := HX3.out n hlt
      have cx : wr.cell? ⟨g0, o0 + n, none⟩ = some (.int .i64 ((s.getD n 0 : Nat) : Int)) := by rw [HB.out.cell (World.block_lt_of_cell? _ _ hx0)]; exact hx0
      have HX0 := hid hx0
      obtain ⟨sn, hsn⟩ : ∃ sn, s.getD n 0 = sn := ⟨_, rfl⟩
      rw [hsn] at cx
      have HSN := hid hsn
      clear hx0 nc3 wc3 hsn
      obtain ⟨wo, rfl⟩ : ∃ wo : World, wo = wr := ⟨_, rfl⟩
      have h1' : wo.heap[c]? = _ := (HB.out.block c (lt_at H1.out)).trans H1.out
      have HM : Hid (Made wo fb m) := hid (H2.out.below HB.out)
      have H1' := hid h1'
      clear h1'
      obtain ⟨M, hM⟩ : ∃ M, min b.len (b.now.length - 1) = M := ⟨_, rfl⟩
      have dl : ∀ I, Gf.disci m s b.now n I < 2^m := fun I => Nat.xor_lt_two_pow (Gf.getD_lt HSL.out n) (Gf.sx_lt _ _ fun i _ => Gf.mul_lt hm _ _)
      have DL := hid dl
      clear dl
      go_upto_block 2 with fail
      clear cx
      go_cut [11, 12] (fun d i wx => d = .int .i64 ((Gf.disc m s b.now b.len n : Nat) : Int) ∧ ∃ k, wx = wo.drewN k)
      case first =>
       go_wp2
       go_loopg [12, 11] M (fun gk i d wr => ∃ I : Nat, I + gk = M ∧ i = .int .i64 ((I : Int) + 1) ∧ d = .int .i64 ((Gf.disci m s b.now n I : Nat) : Int) ∧ ∃ k, wr = wo.drewN k)
       case atStart => exact ⟨0, by omega, rfl, by rw [← HSN.out]; simp [Gf.disci, Gf.sx], 0, rfl⟩
       case round =>
         obtain ⟨I, hI, rfl, rfl, kd, rfl⟩ := hrel
         by_cases hIM : I < M
         · obtain ⟨g1, o1, rfl, hy1⟩ := HNC.out (I+1) (by omega)
           obtain ⟨q, hq⟩ : ∃ q : Nat, (n : Int) - ((I : Int) + 1) = (q : Int) := ⟨n - (I + 1), by omega⟩
           have hqn : n - (I + 1) = q := by omega
           obtain ⟨g0', o0', he, hx1⟩ := HX3.out q (by omega)
           cases he
           have cz : (wo.drewN kd).cell? ⟨g0, o0 + q, none⟩ = some (.int .i64 ((s.getD q 0 : Nat) : Int)) := by rw [World.cell?_drewN, HB.out.cell (World.block_lt_of_cell? _ _ hx1)]; exact hx1
           have cy : (wo.drewN kd).cell? ⟨g1, o1 + (I + 1), none⟩ = some (.int .i64 ((b.now.getD (I+1) 0 : Nat) : Int)) := hy1
           have cf : (wo.drewN kd).cell? ⟨c, 0, none⟩ = some (.pointer (some ⟨fb, 0, none⟩)) := cell_at (w := wo) H1'.out 0
           have b1 : (I : Int) + 1 < (b.now.length : Int) := by omega
           have b2 : (q : Int) < (s.length : Int) := by omega
           have b3 : (I : Int) + 1 ≤ (b.len : Int) := by omega
           have hvs := Gf.getD_lt HSL.out q
           have hvn := Gf.getD_lt HNL.out (I+1)
           have hml := Gf.mul_lt hm (b.now.getD (I+1) 0) (s.getD q 0)
           have hdl := DL.out I
           have hstep : Gf.disci m s b.now n (I+1) = Gf.disci m s b.now n I ^^^ Gf.mul m (b.now.getD (I+1) 0) (s.getD q 0) := by
             unfold Gf.disci
             rw [Nat.xor_assoc, ← hqn]; rfl
           have ex := xor_i64 (Gf.disci m s b.now n I) (Gf.mul m (b.now.getD (I+1) 0) (s.getD q 0)) (by omega) (by omega)
           have HST := hid hstep
           have HVS := hid hvs
           have HVN := hid hvn
           clear hstep hvs hvn hml hdl hqn hx1 hy1
           generalize Gf.disci m s b.now n I = d at *
           generalize b.now.getD (I+1) 0 = y at *
           generalize s.getD q 0 = z at *
           generalize hwd : wo.drewN kd = wd at *
           have HMD : Hid (Made wd fb m) := hid (by rw [← hwd]; exact HM.out)
           have HWD := hid hwd
           clear hwd
           go_wp2
           go_quiet ((go_at_call 56; exact Calls.quiet_of (mul_made fb m _ _ _ hm (by exact HMD.out) HVN.out HVS.out)))
           go_wp2
           go_roundg (gk - 1)
           case measure => omega
           case rel => exact ⟨I + 1, by omega, by go_num, by rw [HST.out], kd + nq, by rw [← HWD.out, drewN_add]⟩
         · obtain rfl : I = M := by omega
           have hdc : Gf.disc m s b.now b.len n = Gf.disci m s b.now n I := by unfold Gf.disc Gf.disci; rw [hM]
           generalize hd : Gf.disci m s b.now n I = d at *
           have HD := hid hd
           have HDC := hid hdc
           clear hd hdc
           generalize hwd : wo.drewN kd = wd at *
           have HMD : Hid (Made wd fb m) := hid (by rw [← hwd]; exact HM.out)
           have HWD := hid hwd
           clear hwd
           by_cases hIl : I < b.len
           · have b3 : (I : Int) + 1 ≤ (b.len : Int) := by omega
             have b1 : ¬ (I : Int) + 1 < (b.now.length : Int) := by omega
             go_wp2
             go_meet
             exact ⟨by rw [HDC.out], kd, HWD.out.symm⟩
           · have b3 : ¬ (I : Int) + 1 ≤ (b.len : Int) := by omega
             go_wp2
             go_meet
             exact ⟨by rw [HDC.out], kd, HWD.out.symm⟩
      case rest =>
        obtain ⟨rfl, kd, rfl⟩ := hcut
        generalize hd : Gf.disc m s b.now b.len n = d at *
        have hdl : d < 2^m := by rw [← hd]; exact Nat.xor_lt_two_pow (Gf.getD_lt HSL.out n) (Gf.sx_lt _ _ fun i _ => Gf.mul_lt hm _ _)
        have HD := hid hd
        clear hd
        generalize hwd : wo.drewN kd = wd at *
        have HWD := hid hwd
        clear hwd
        by_cases hd0 : d = 0
        · have e1 : Gf.bms m s (n+1) = { b with gap := b.gap + 1 } := by rw [HG.out]; unfold Gf.bmStep; rw [HD.out, if_pos hd0]
          have E1 := hid e1
          clear e1
          subst hd0
          go_wp2
          go_roundg (gk - 1)
          case measure => omega
          case rel =>
            refine ⟨n + 1, by omega, by go_num, ?_⟩
            rw [E1.out]
            refine ⟨?_, ?_, rfl, by go_num, rfl, ?_, hfn, hfw⟩
            · rw [← HWD.out]; exact HRN.out.drewN kd
            · rw [← HWD.out]; exact HRW.out.drewN kd
            · rw [← HWD.out]; exact HB.out.drewN kd
        · have hd1 : ((d : Int) == 0) = false := beq_eq_false_iff_ne.2 (by omega)
          have HD0 := hid hd0
          clear hd0
          have HRN' : Hid (Rd .i64 wd (.slice na b.now.length ncap) b.now) := hid (by rw [← HWD.out]; exact HRN.out.drewN kd)
          have HRW' : Hid (Rd .i64 wd (.slice wa b.was.length wcap) b.was) := hid (by rw [← HWD.out]; exact HRW.out.drewN kd)
          have HB' : Hid (Below w.heap.size w wd) := hid (by rw [← HWD.out]; exact HB.out.drewN kd)
          have HMD : Hid (Made wd fb m) := hid (by rw [← HWD.out]; exact HM.out)
          have H1d : Hid (wd.heap[c]? = _) := hid ((by rw [← HWD.out]; rfl : wd.heap[c]? = wo.heap[c]?).trans H1'.out)
          clear HRN HRW HB HM H1' HNC HWC
          obtain ⟨T, hT⟩ : ∃ T, max b.now.length (b.was.length + b.gap) = T := ⟨_, rfl⟩
          obtain ⟨i, hi, hz, hs, hbb⟩ := info_parts info_int
          go_upto_block 4 with (go_at_call 57; refine (clone_ints _ b.now _ HRN'.out (by omega) (by omega)).mono ?_; rintro e wx ⟨⟨g2, cap2, hg2, rfl, ho⟩, hbx⟩)
          go_wp2
          go_loopg [13] (T - b.now.length) (fun gk v wr => ∃ cnt g cap : Nat, cnt + gk = T ∧ b.now.length ≤ cnt ∧ v = .slice (some ⟨g, 0, none⟩) cnt cap ∧ wd.heap.size ≤ g ∧ Ow .i64 3 wr g cnt cap (b.now.getD · 0) ∧ Below wd.heap.size wd wr)
          case atStart => exact ⟨_, g2, cap2, by omega, Nat.le_refl _, rfl, hg2, ho, hbx⟩
          case round =>
            clear ho hbx
            obtain ⟨cnt, g, cap, hcnt, hcn, rfl, hgd, ho, hbx⟩ := hrel
            have HO := hid ho
            have HBX := hid hbx
            clear ho hbx
            by_cases hlc : cnt < T
            · have hc1 : (cnt : Int) < (b.was.length : Int) + b.gap := by omega
              have hcap := HO.out
              obtain ⟨_, _, _, hcap1, hcap2, _⟩ := hcap
              go_wp2_with (at_builtin; refine wpList_append_lies _ rfl _ _ 27 rfl wd.heap.size 3 i (.int .i64 0) 1 8 Try.underlying27 hi hz hs hbb rfl (by decide) (.slice (some ⟨g, 0, none⟩) cnt cap) cnt ((List.range cnt).map fun j => Value.int .i64 (b.now.getD j 0 : Nat)) rfl ((HO.out.owns hgd).alloc _) ⟨wr.heap.size, 0, none⟩ 1 1 [.int .i64 0] rfl rfl (cell_one_new _ _ _) (fun x hx => by simp at hx; subst hx; rfl) (by decide) (by unfold maxLen; omega) (by omega) (by simp; exact Nat.le_succ_of_le HBX.out.size) _ rfl ?_; intro g3 cap3 w3 hown hgrow hat hlt3)
              have hO3 := (Ow.of_owns (k := .i64) (f := (b.now.getD · 0)) hown (fun j hj => by
                by_cases hj2 : j < cnt
                · simp [List.getElem?_append, hj2]
                · obtain rfl : j = cnt := by omega
                  rw [Gf.getD_ge hcn]
                  simp))
              go_roundg (gk - 1)
              case measure => omega
              case rel => exact ⟨cnt + 1, g3, cap3, by omega, by omega, rfl, hO3.1, hO3.2.2, (bl_alloc HBX.out _).grown hgrow (by simp; exact Nat.le_succ_of_le HBX.out.size) (fun k hk => by cases hk; exact hgd)⟩
            · obtain rfl : cnt = T := by omega
              have hc1 : ¬ (cnt : Int) < (b.was.length : Int) + b.gap := by omega
              have hMx : Hid (Made wr fb m) := hid (HMD.out.below HBX.out)
              have h1x : wr.heap[c]? = _ := (HBX.out.block c (lt_at H1d.out)).trans H1d.out
              have cf : wr.cell? ⟨c, 0, none⟩ = some (.pointer (some ⟨fb, 0, none⟩)) := cell_at h1x 0
              have hl0 := HI.out.l0
              have hll := HI.out.ll
              have hlz : b.last ≤ Gf.sz m := by unfold Gf.sz; omega
              have hil := Gf.inv_lt hm b.last
              have h1x' := hid h1x
              have HL0 := hid hl0
              clear h1x hl0 hll
              go_wp2
              go_quiet ((first | (go_at_call 58; exact Calls.quiet_of (inv_made fb m _ _ hm (by exact hMx.out) hlz HL0.out)) | (go_at_call 56; exact Calls.quiet_of (mul_made fb m _ _ _ hm (by exact hMx.out) hdl hil))))
              go_wp2
              obtain ⟨y, hy⟩ : ∃ y, Gf.mul m d (Gf.inv m b.last) = y := ⟨_, rfl⟩
              have hyl : y < 2^m := by rw [← hy]; exact Gf.mul_lt hm _ _
              rw [hy]
              have HYE := hid hy
              have HOq : Hid (Ow .i64 3 (wr.drewN nq) g cnt cap (b.now.getD · 0)) := hid HO.out
              have HBq : Hid (Below wd.heap.size wd (wr.drewN nq)) := hid (HBX.out.drewN nq)
              clear HO HBX cf hMx h1x' hy
              generalize wr.drewN nq = wq at *
              go_loopg [86] b.was.length (fun gk k wr => ∃ K : Nat, K + gk = b.was.length ∧ k = .int .i64 K ∧ Ow .i64 3 wr g cnt cap (nxk m b.now b.was b.gap y K) ∧ Below wd.heap.size wd wr)
              case atStart => exact ⟨0, by omega, rfl, HOq.out.congr (fun j _ => by simp [nxk]), HBq.out⟩
              case round =>
                clear HOq HBq
                obtain ⟨K, hK, rfl, ho, hbx⟩ := hrel
                have HO := hid ho
                have HBX := hid hbx
                clear ho hbx
                by_cases hKl : K < b.was.length
                · have hr2 := HRW'.out.below HBX.out
                  obtain ⟨g5, o5, rfl, _, hg5, hcw⟩ := rd_block hr2 (by omega)
                  have cw : wr.cell? ⟨g5, o5 + K, none⟩ = some (.int .i64 ((b.was.getD K 0 : Nat) : Int)) := hcw K hKl
                  have h1x : wr.heap[c]? = _ := (HBX.out.block c (lt_at H1d.out)).trans H1d.out
                  have cf : wr.cell? ⟨c, 0, none⟩ = some (.pointer (some ⟨fb, 0, none⟩)) := cell_at h1x 0
                  have hMx : Hid (Made wr fb m) := hid (HMD.out.below HBX.out)
                  have hKg : K + b.gap < cnt := by omega
                  have cz : wr.cell? ⟨g, K + b.gap, none⟩ = some (.int .i64 ((nxk m b.now b.was b.gap y K (K + b.gap) : Nat) : Int)) := HO.out.cell hKg
                  have fz : wr.frozen? ⟨g, K + b.gap, none⟩ = false := HO.out.free _
                  have es : IntKind.i64.wrap ((K : Int) + b.gap) = ((K + b.gap : Nat) : Int) := by rw [IntWalk.i64_in _ (by omega)]; simp
                  have hb1 : ((K + b.gap : Nat) : Int) < (cnt : Int) := by omega
                  have hb2 : (K : Int) < (b.was.length : Int) := by omega
                  have hwl := Gf.getD_lt HWL.out K
                  have hvl := nxk_lt hm HNL.out b.was b.gap y K (K + b.gap)
                  have hml := Gf.mul_lt hm y (b.was.getD K 0)
                  have ex := xor_i64 (nxk m b.now b.was b.gap y K (K + b.gap)) (Gf.mul m y (b.was.getD K 0)) (by omega) (by omega)
                  have hst := nxk_succ m b.now b.was b.gap y K
                  have HST := hid hst
                  have HWK := hid hwl
                  clear h1x hr2 hcw hvl hml hst hwl
                  generalize nxk m b.now b.was b.gap y K (K + b.gap) = v0 at *
                  generalize b.was.getD K 0 = z at *
                  go_wp2
                  refine wp_region_quiet_tail 15 (by kernel_rfl) (by kernel_rfl) ?_
                  simp only [List.take_succ_cons, List.take_zero, List.drop_succ_cons, List.drop_zero]
                  repeat (go_big_quiet_step ((go_at_call 56; exact Calls.quiet_of (mul_made fb m _ _ _ hm (by exact hMx.out) hyl HWK.out))))
                  refine wpQuiet_nil ?_
                  intro _ hw'
                  obtain ⟨nr, hw''⟩ := hw'
                  subst hw''
                  go_wp2
                  go_roundg (gk - 1)
                  case measure => omega
                  case rel =>
                    refine ⟨K + 1, by omega, by go_num, ?_, ?_⟩
                    · refine Ow.congr (f := upd (nxk m b.now b.was b.gap y K) (K + b.gap) (v0 ^^^ Gf.mul m y z)) ?_ (fun j _ => HST.out j)
                      exact Ow.set (w := wr.drewN nr) HO.out _ _
                    · exact (HBX.out.drewN nr).setCell hgd _
                · obtain rfl : K = b.was.length := by omega
                  have hn : Hid (Ow .i64 3 wr g cnt cap (Gf.nxf m b.now b.was b.gap y)) := hid (HO.out.congr fun j _ => nxk_all m _ _ _ _ j)
                  have HNX : Hid (Rd .i64 wr (.slice (some ⟨g, 0, none⟩) cnt cap) (Gf.nextP m b.now b.was b.gap y)) := hid (by
                    have := hn.out.rd
                    unfold Gf.nextP
                    rw [hT]; exact this)
                  by_cases h2l : 2 * b.len ≤ n
                  · have hc2 : (2 : Int) * b.len ≤ n := by omega
                    have e1 : Gf.bms m s (n+1) = ⟨Gf.nextP m b.now b.was b.gap y, b.now, n + 1 - b.len, 1, d⟩ := by
                      rw [HG.out]; unfold Gf.bmStep
                      rw [HD.out, if_neg HD0.out, if_pos h2l, HYE.out]
                    have E1 := hid e1
                    clear e1
                    go_wp2
                    go_roundg (s.length - (n + 1))
                    case measure => omega
                    case rel =>
                      refine ⟨n + 1, by omega, by go_num, ?_⟩
                      rw [E1.out]
                      exact ⟨HNX.out, HRN'.out.below HBX.out, congrArg (Value.int .i64) (by simp only; omega), rfl, rfl, HB'.out.comp HBX.out, ⟨_, _, _, g, 0, rfl, rfl, Nat.le_trans HB'.out.size hgd⟩, hfn⟩
                  · have hc2 : ¬ (2 : Int) * b.len ≤ n := by omega
                    have e1 : Gf.bms m s (n+1) = ⟨Gf.nextP m b.now b.was b.gap y, b.was, b.len, b.gap + 1, b.last⟩ := by
                      rw [HG.out]; unfold Gf.bmStep
                      rw [HD.out, if_neg HD0.out, if_neg h2l, HYE.out]
                    have E1 := hid e1
                    clear e1
                    go_wp2
                    go_roundg (s.length - (n + 1))
                    case measure => omega
                    case rel =>
                      refine ⟨n + 1, by omega, by go_num, ?_⟩
                      rw [E1.out]
                      exact ⟨HNX.out, HRW'.out.below HBX.out, rfl, by go_num, rfl, HB'.out.comp HBX.out, ⟨_, _, _, g, 0, rfl, rfl, Nat.le_trans HB'.out.size hgd⟩, hfw⟩
    · obtain rfl : n = s.length := by omega
      obtain ⟨na, ncap, rfl, nc1, nc2, nc3⟩ := HRN.out
      have HNC := hid nc3
      have hfr : ∀ k, Fr w.heap.size (.slice na k ncap) := fun k => hfn.len k
      have HFR := hid hfr
      clear nc3 hfn hfw hfr
      have hne : b.now ≠ [] := fun e => by rw [e] at n3; simp at n3
      obtain ⟨q1, q2, q3, q4⟩ := Gf.trim1_spec b.now hne
      have hLd : Gf.locator m s = Gf.trim1 b.now := by unfold Gf.locator; rw [hb']
      have HLD := hid hLd
      have Q2 := hid q2
      have hL1 : 1 ≤ (Gf.trim1 b.now).length := List.length_pos_iff.2 q1
      generalize hp' : Gf.trim1 b.now = P at *
      clear hLd q1 q2 hp'
      obtain ⟨L, hL⟩ : ∃ L, P.length = L := ⟨_, rfl⟩
      rw [hL] at q3 q4 hL1
      have HQ4 := hid q4
      have HLL := hid hL
      clear q4 hL
      obtain ⟨wo, rfl⟩ : ∃ wo : World, wo = wr := ⟨_, rfl⟩
      go_wp2
      go_loopg [5] (b.now.length - L) (fun gk v wr => v = .slice na (L + gk) ncap ∧ L + gk ≤ b.now.length ∧ wr = wo)
      case atStart => exact ⟨by rw [show L + (b.now.length - L) = b.now.length by omega], by omega, rfl⟩
      case round =>
        obtain ⟨rfl, hle, rfl⟩ := hrel
        cases gk with
        | succ r =>
          obtain ⟨N, hN⟩ : ∃ N, L + r = N := ⟨_, rfl⟩
          have eN : L + (r + 1) = N + 1 := by omega
          rw [eN] at hle ⊢
          obtain ⟨g, o, rfl, hcell⟩ := HNC.out N (by omega)
          have h0 : b.now.getD N 0 = 0 := by rw [← Q2.out N]; exact Gf.getD_ge (by rw [HLL.out]; omega)
          rw [h0] at hcell
          have ek2 : (N : Int) + 1 - 1 = N := by omega
          have hkc : N ≤ ncap := by omega
          have h1N : (1 : Int) < (N : Int) + 1 := by omega
          go_wp2
          go_roundg r
          case measure => omega
          case rel => exact ⟨by rw [hN], by omega, rfl⟩
        | zero =>
          have hRd : Hid (Rd .i64 wr (.slice na L ncap) P) := hid (by
            refine ⟨na, ncap, by rw [HLL.out], by rw [HLL.out]; omega, nc2, fun j hj => ?_⟩
            obtain ⟨g', o', he, hx⟩ := HNC.out j (by rw [HLL.out] at hj; omega)
            exact ⟨g', o', he, by rw [hx, Q2.out j]⟩)
          rw [Nat.add_zero] at hle ⊢
          by_cases hL2 : 1 < L
          · obtain ⟨N, hN⟩ : ∃ N, L = N + 1 := ⟨L - 1, by omega⟩
            have hq := HQ4.out hL2
            rw [Q2.out, show L - 1 = N by omega] at hq
            subst hN
            obtain ⟨g, o, rfl, hcell⟩ := HNC.out N (by omega)
            have hb : (((b.now.getD N 0 : Nat) : Int) == 0) = false := beq_eq_false_iff_ne.2 (by omega)
            have ek2 : (N : Int) + 1 - 1 = N := by omega
            have h1N : (1 : Int) < (N : Int) + 1 := by omega
            generalize b.now.getD N 0 = x0 at hcell hb hq
            go_wp2
            go_ret
            exact ⟨⟨_, rfl, by rw [HLD.out]; exact hRd.out, HFR.out _⟩, HB.out⟩
          · obtain rfl : L = 1 := by omega
            go_wp2
            go_ret
            exact ⟨⟨_, rfl, by rw [HLD.out]; exact hRd.out, HFR.out _⟩, HB.out⟩
end Go.Proofs.Ytjompiihdnaogaa
