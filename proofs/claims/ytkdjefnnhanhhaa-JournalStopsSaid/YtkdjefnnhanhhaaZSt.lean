/- Walks over slices: pdqsortOrdered at numbers: a row is sorted. -/
import Derived.Test.YtkdjefnnhanhhaaZSp
import Derived.Test.YtkdjefnnhanhhaaZSq
import Derived.Test.YtkdjefnnhanhhaaZSr
import Derived.Test.YtkdjefnnhanhhaaUl
set_option linter.unusedVariables false
namespace Go.Proofs.Ytkdjefnnhanhhaa
open Go Go.RowKit Go.Mem Go.Sort
set_option linter.unusedVariables false

theorem pivot_any (g cap a b : Nat) (d : Array Nat) (w : World) (h : RwU w g cap d) (hb : b ≤ d.size) (hsz : d.size ≤ 1000000000) (hl1 : a + 8 ≤ b) :
    Calls Try.prog 64 #[.slice (some ⟨g, 0, none⟩) d.size cap, .int .i64 (a : Nat), .int .i64 (b : Nat)] w fun e w' => (∃ (p : Nat) (hh : Hint), e = .returned (.tuple #[.int .i64 (p : Nat), .int .i64 (hintN hh : Nat)]) ∧ a ≤ p ∧ p < b) ∧ RwU w' g cap d ∧ w.grownBy w' (some g) := by
  obtain ⟨c1, c2⟩ := choosePivot_holds ltN d a b (by omega)
  by_cases h50 : b < a + 50
  · refine (pivot_small g cap a b d w h hb hsz hl1 h50).mono ?_
    rintro e w' ⟨rfl, r, gr, _⟩
    exact ⟨⟨_, _, rfl, c1, c2⟩, r, gr⟩
  · refine (pivot_big g cap a b d w h hb hsz (by omega)).mono ?_
    rintro e w' ⟨rfl, r, gr, _⟩
    exact ⟨⟨_, _, rfl, c1, c2⟩, r, gr⟩

set_option maxRecDepth 100000 in
set_option maxHeartbeats 12800000 in
theorem pdq_any : ∀ (m a b g cap L : Nat) (d : Array Nat) (w : World), b - a < m → RwU w g cap d → a ≤ b → b ≤ d.size → d.size ≤ 60000 → L ≤ 300 → Sort.Below ltN a b d →
    Calls Try.prog 57 #[.slice (some ⟨g, 0, none⟩) d.size cap, .int .i64 (a : Nat), .int .i64 (b : Nat), .int .i64 (L : Nat)] w fun e w' => e = .returned (.tuple #[]) ∧ ∃ d', RwU w' g cap d' ∧ PermIn a b d d' ∧ SortedIn ltN a b d' ∧ w.grownBy w' (some g) := by
  intro m
  induction m with
  | zero => intro a b g cap L d w hm; omega
  | succ m ih =>
  intro a b g cap L d w hm h hab hb hsz hL hBl
  obtain ⟨N, hN⟩ : ∃ N, d.size = N := ⟨_, rfl⟩
  have hca : N ≤ cap ∧ cap ≤ maxLen := by obtain ⟨_, _, _, h1, h2, _⟩ := h; exact ⟨by omega, h2⟩
  have hc1 : (N : Int) ≤ (cap : Int) := by omega
  have hc2 : (cap : Int) ≤ 9223372036854775807 := by have := hca.2; unfold maxLen at this; omega
  have IH := Lib.hid ih
  have HRs := Lib.hid h
  have HGs := Lib.hid (show w.grownBy w (some g) from ((Below.refl w.heap.size w)).toGrown _)
  have HN := Lib.hid hN
  have HBL := Lib.hid hBl
  rw [hN] at hb hsz ⊢
  clear h hN hca ih hBl
  go_enter Try.func57, Try.ntmps57
  go_wp2_with fail
  go_loopg [1, 2, 3, 8, 9] (b - a) (fun gk va vb vl v8 v9 wr => ∃ (a1 b1 L1 : Nat) (wb wp : Bool) (dk : Array Nat), gk = b1 - a1 ∧ va = .int .i64 (a1 : Nat) ∧ vb = .int .i64 (b1 : Nat) ∧ vl = .int .i64 (L1 : Nat) ∧ v8 = .bool wb ∧ v9 = .bool wp ∧ a ≤ a1 ∧ a1 ≤ b1 ∧ b1 ≤ b ∧ L1 ≤ 300 ∧ dk.size = N ∧ RwU wr g cap dk ∧ w.grownBy wr (some g) ∧ Sort.Below ltN a1 b1 dk ∧ (∀ R, PermIn a1 b1 dk R → SortedIn ltN a1 b1 R → PermIn a b d R ∧ SortedIn ltN a b R))
  case atStart => exact ⟨a, b, L, true, true, d, rfl, rfl, rfl, rfl, rfl, rfl, Nat.le_refl _, hab, Nat.le_refl _, hL, HN.out, HRs.out, HGs.out, HBL.out, fun R h1 h2 => ⟨h1, h2⟩⟩
  case round =>
    clear HRs HGs HBL HN
    obtain ⟨a1, b1, L1, wb, wp, dk, hgk, rfl, rfl, rfl, rfl, rfl, aa, ab, bb, hL1, hsk, rr, rg, hbl, hcl⟩ := hrel
    have HSK := Lib.hid hsk
    have HRs := Lib.hid rr
    have HGs := Lib.hid rg
    have HBL := Lib.hid hbl
    have HCL := Lib.hid hcl
    clear hsk rr rg hbl hcl
    obtain ⟨l, hl⟩ : ∃ l, b1 - a1 = l := ⟨_, rfl⟩
    have hl3 : (b1 : Int) - (a1 : Int) = (l : Nat) := by omega
    by_cases h12 : l ≤ 12
    · have h12i : (l : Int) ≤ 12 := by omega
      have HI := Lib.hid (ins_any g cap a1 b1 dk wr HRs.out ab (by rw [HSK.out]; omega) (by rw [HSK.out]; omega))
      obtain ⟨hp, hq⟩ := insertionSort_holds swo_ltN dk a1 b1 ab (by rw [HSK.out]; omega)
      have HPQ := Lib.hid (And.intro hp hq)
      rw [HSK.out] at HI
      clear hp hq
      go_wp2_with fail
      refine HI.out.mono ?_
      rintro e w1 ⟨rfl, r1, _, g1⟩
      have R1 := Lib.hid r1
      have G1 := Lib.hid g1
      clear r1 g1
      go_wp2_with fail
      obtain ⟨f1, f2⟩ := HCL.out _ HPQ.out.1 HPQ.out.2
      exact bodyPost_ret (v := .tuple #[]) (by simp [results, Try.results57, go_sem]) rfl ⟨rfl, _, R1.out, f1, f2, grow_tr HGs.out G1.out⟩
    · have h12i : ¬ (l : Int) ≤ 12 := by omega
      by_cases hL0 : L1 = 0
      · subst hL0
        have HI := Lib.hid (heap_any g cap a1 b1 dk wr HRs.out (by omega) (by rw [HSK.out]; omega) (by rw [HSK.out]; omega))
        obtain ⟨hp, hq⟩ := heapSort_holds swo_ltN dk a1 b1 ab (by rw [HSK.out]; omega)
        have HPQ := Lib.hid (And.intro hp hq)
        rw [HSK.out] at HI
        clear hp hq
        go_wp2_with fail
        refine HI.out.mono ?_
        rintro e w1 ⟨rfl, r1, _, g1⟩
        have R1 := Lib.hid r1
        have G1 := Lib.hid g1
        clear r1 g1
        go_wp2_with fail
        obtain ⟨f1, f2⟩ := HCL.out _ HPQ.out.1 HPQ.out.2
        exact bodyPost_ret (v := .tuple #[]) (by simp [results, Try.results57, go_sem]) rfl ⟨rfl, _, R1.out, f1, f2, grow_tr HGs.out G1.out⟩
      · have e0 : ((L1 : Int) == 0) = false := beq_eq_false_iff_ne.2 (by omega)
        have hLp : 1 ≤ L1 := by omega
        clear hL0
        go_upto_if 35 with fail
        go_cut [3] from 34 to 41 (fun vl wx => ∃ (L2 : Nat) (d1 : Array Nat), vl = .int .i64 (L2 : Nat) ∧ L2 ≤ 300 ∧ RwU wx g cap d1 ∧ w.grownBy wx (some g) ∧ PermIn a1 b1 dk d1)
        case first =>
          cases wb with
          | true =>
            go_wp2_with fail
            go_meet
            exact ⟨L1, dk, rfl, hL1, HRs.out, HGs.out, permIn_refl dk a1 b1⟩
          | false =>
            have HI := Lib.hid (bp_any g cap a1 b1 dk wr HRs.out (by omega) (by rw [HSK.out]; omega) (by rw [HSK.out]; omega))
            rw [HSK.out] at HI
            go_wp2_with fail
            refine HI.out.mono ?_
            rintro e w1 ⟨rfl, d1, r1, p1, g1⟩
            have R1 := Lib.hid r1
            have G1 := Lib.hid g1
            have P1 := Lib.hid p1
            clear r1 g1 p1
            go_wp2_with fail
            go_meet
            exact ⟨L1 - 1, d1, by congr 1; omega, by omega, R1.out, grow_tr HGs.out G1.out, P1.out⟩
        case rest =>
          obtain ⟨L2, d1, rfl, hL2, rr, rg, rp⟩ := hcut
          clear HRs HGs e0 hLp hL1
          have HRs := Lib.hid rr
          have HGs := Lib.hid rg
          have HP1 := Lib.hid rp
          have HS1 := Lib.hid (show d1.size = N from by rw [rp.1]; exact HSK.out)
          clear rr rg rp
          have HI := Lib.hid (pivot_any g cap a1 b1 d1 wc HRs.out (by rw [HS1.out]; omega) (by rw [HS1.out]; omega) (by omega))
          rw [HS1.out] at HI
          go_wp2_with fail
          refine HI.out.mono ?_
          rintro e w1 ⟨⟨p, hh, rfl, p1, p2⟩, r1, g1⟩
          have R1 := Lib.hid r1
          have G1 := Lib.hid (grow_tr HGs.out g1)
          clear HRs HGs HI r1 g1
          go_upto_if 50 with fail
          go_cut [11, 12] from 49 to 60 (fun v11 v12 wx => ∃ (p2 : Nat) (h2 : Hint) (d2 : Array Nat), v11 = .int .i64 (p2 : Nat) ∧ v12 = .int .i64 (hintN h2 : Nat) ∧ a1 ≤ p2 ∧ p2 < b1 ∧ RwU wx g cap d2 ∧ w.grownBy wx (some g) ∧ PermIn a1 b1 dk d2)
          case first =>
            cases hh with
            | decreasing =>
              rw [show ((hintN Hint.decreasing : Nat) : Int) = 2 from rfl]
              have HI := Lib.hid (rev_any g cap a1 b1 d1 w1 R1.out (by omega) (by rw [HS1.out]; omega) (by rw [HS1.out]; omega) ab)
              have HP2 := Lib.hid (reverseRange_holds d1 a1 b1 ab (by rw [HS1.out]; omega))
              rw [HS1.out] at HI
              go_wp2_with fail
              refine HI.out.mono ?_
              rintro e w2 ⟨rfl, r2, _, g2⟩
              have R2 := Lib.hid r2
              have G2 := Lib.hid g2
              clear r2 g2
              go_wp2_with fail
              go_meet
              exact ⟨b1 - 1 - (p - a1), .increasing, _, by congr 1; omega, rfl, by omega, by omega, R2.out, grow_tr G1.out G2.out, permIn_trans _ _ _ a1 b1 HP1.out HP2.out⟩
            | increasing =>
              rw [show ((hintN Hint.increasing : Nat) : Int) = 1 from rfl]
              go_wp2_with fail
              go_meet
              exact ⟨p, .increasing, d1, rfl, rfl, p1, p2, R1.out, G1.out, HP1.out⟩
            | unknown =>
              rw [show ((hintN Hint.unknown : Nat) : Int) = 0 from rfl]
              go_wp2_with fail
              go_meet
              exact ⟨p, .unknown, d1, rfl, rfl, p1, p2, R1.out, G1.out, HP1.out⟩
          case rest =>
            obtain ⟨q, h2, d2, rfl, rfl, q1, q2, rr, rg, rp⟩ := hcut
            obtain ⟨W2, rfl⟩ : ∃ W, W = wc := ⟨_, rfl⟩
            clear R1 G1 HP1 HS1 p1 p2
            have HRs := Lib.hid rr
            have HGs := Lib.hid rg
            have HP2 := Lib.hid rp
            have HS2 := Lib.hid (show d2.size = N from by rw [rp.1]; exact HSK.out)
            have HB2 := Lib.hid (HBL.out.perm (by rw [HSK.out]; omega) rp)
            clear rr rg rp
            obtain ⟨t0, ht0⟩ : ∃ t, (wb && wp && decide (h2 = .increasing)) = t := ⟨_, rfl⟩
            have HT0 := Lib.hid ht0
            clear ht0
            go_upto_region 15 with fail
            go_cut [68] from 61 to 67 (fun v wx => v = .bool t0 ∧ wx = W2)
            case first =>
              have ht0 := HT0.out
              cases wb with
              | false =>
                have e : t0 = false := by rw [← ht0]; rfl
                go_wp2_with fail
                go_meet
                exact ⟨by rw [e], rfl⟩
              | true =>
                cases wp with
                | false =>
                  have e : t0 = false := by rw [← ht0]; rfl
                  go_wp2_with fail
                  go_meet
                  exact ⟨by rw [e], rfl⟩
                | true =>
                  cases h2 with
                  | increasing =>
                    have e : t0 = true := by rw [← ht0]; rfl
                    rw [show ((hintN Hint.increasing : Nat) : Int) = 1 from rfl]
                    go_wp2_with fail
                    go_meet
                    exact ⟨by rw [e], rfl⟩
                  | unknown =>
                    have e : t0 = false := by rw [← ht0]; rfl
                    rw [show ((hintN Hint.unknown : Nat) : Int) = 0 from rfl]
                    go_wp2_with fail
                    go_meet
                    exact ⟨by rw [e], rfl⟩
                  | decreasing =>
                    have e : t0 = false := by rw [← ht0]; rfl
                    rw [show ((hintN Hint.decreasing : Nat) : Int) = 2 from rfl]
                    go_wp2_with fail
                    go_meet
                    exact ⟨by rw [e], rfl⟩
            case' rest => obtain ⟨rfl, hwx⟩ := hcut; rw [hwx]; clear hwx
            go_upto_if 68 with fail
            go_cut [] from 61 to 72 (fun wx => ∃ (d3 : Array Nat), RwU wx g cap d3 ∧ w.grownBy wx (some g) ∧ PermIn a1 b1 dk d3)
            case first =>
              cases t0 with
              | true =>
                have HI := pins_any g cap a1 b1 d2 W2 HRs.out (by omega) (by rw [HS2.out]; omega) (by rw [HS2.out]; omega)
                have hpi := partialInsertionSort_holds swo_ltN d2 a1 b1 (by omega) (by rw [HS2.out]; omega) HB2.out
                rw [HS2.out] at HI
                obtain ⟨R, hR⟩ : ∃ R, partialInsertionSort ltN d2 a1 b1 = R := ⟨_, rfl⟩
                rw [hR] at HI hpi
                obtain ⟨dR, bR⟩ := R
                simp only [] at HI hpi
                have HI := Lib.hid HI
                have HPI := Lib.hid hpi
                clear hpi hR
                go_wp2_with fail
                refine HI.out.mono ?_
                rintro e w2 ⟨rfl, r2, g2⟩
                have R2 := Lib.hid r2
                have G2 := Lib.hid g2
                clear r2 g2
                cases bR with
                | true =>
                  go_wp2_with fail
                  obtain ⟨f1, f2⟩ := HCL.out _ (permIn_trans _ _ _ a1 b1 HP2.out HPI.out.1) (HPI.out.2 (by trivial))
                  exact bodyPost_ret (v := .tuple #[]) (by simp [results, Try.results57, go_sem]) rfl ⟨rfl, _, R2.out, f1, f2, grow_tr HGs.out G2.out⟩
                | false =>
                  go_wp2_with fail
                  go_meet
                  exact ⟨dR, R2.out, grow_tr HGs.out G2.out, permIn_trans _ _ _ a1 b1 HP2.out HPI.out.1⟩
              | false =>
                go_wp2_with fail
                go_meet
                exact ⟨d2, HRs.out, HGs.out, HP2.out⟩
            case rest =>
              obtain ⟨d3, rr, rg, rp⟩ := hcut
              clear HRs HGs
              have HRs := Lib.hid rr
              have HGs := Lib.hid rg
              have HP3 := Lib.hid rp
              have HS3 := Lib.hid (show d3.size = N from by rw [rp.1]; exact HSK.out)
              have HB3 := Lib.hid (HBL.out.perm (by rw [HSK.out]; omega) rp)
              clear rr rg rp HP2 HS2 HB2 HT0
              obtain ⟨tst, htst⟩ : ∃ t, (decide (0 < a1) && !ltN d3[a1 - 1]! d3[q]!) = t := ⟨_, rfl⟩
              have HTST := Lib.hid htst
              clear htst
              go_upto_region 17 with fail
              go_cut [87] from 73 to 86 (fun v wx => v = .bool tst ∧ RwU wx g cap d3 ∧ w.grownBy wx (some g))
              case first =>
                by_cases ha : 0 < a1
                · have ha1 : (0 : Int) < (a1 : Int) := by omega
                  have ha2 : (a1 : Int) < (N : Int) := by omega
                  have hq2 : (q : Int) < (N : Int) := by omega
                  have c1 := HRs.out.cell (j := a1 - 1) (by rw [HS3.out]; omega)
                  have c2 := HRs.out.cell (j := q) (by rw [HS3.out]; omega)
                  have z1 := HRs.out.free (a1 - 1)
                  have z2 := HRs.out.free q
                  obtain ⟨x, hx⟩ : ∃ x, d3[a1 - 1]! = x := ⟨_, rfl⟩
                  obtain ⟨y, hy⟩ : ∃ y, d3[q]! = y := ⟨_, rfl⟩
                  rw [hx] at c1
                  rw [hy] at c2
                  have HT2 := Lib.hid (show (!ltN x y) = tst from by rw [← HTST.out, hx, hy, decide_eq_true ha]; rfl)
                  have HL := Lib.hid (fun q => less_any x y (wc.drewN q))
                  clear hx hy
                  cases hl2 : ltN x y with
                  | true =>
                    have HL2 := Lib.hid (fun q => by have := HL.out q; rw [hl2] at this; exact this)
                    have HT3 := Lib.hid (show false = tst from by rw [← HT2.out, hl2]; rfl)
                    clear HL hl2 HT2
                    go_quiet ((go_at_call 67; exact quiet_eq (HL2.out _)))
                    go_wp2_with fail
                    go_meet
                    exact ⟨by rw [← HT3.out], HRs.out, grow_tr HGs.out (grow_drewN _ _ _)⟩
                  | false =>
                    have HL2 := Lib.hid (fun q => by have := HL.out q; rw [hl2] at this; exact this)
                    have HT3 := Lib.hid (show true = tst from by rw [← HT2.out, hl2]; rfl)
                    clear HL hl2 HT2
                    go_quiet ((go_at_call 67; exact quiet_eq (HL2.out _)))
                    go_wp2_with fail
                    go_meet
                    exact ⟨by rw [← HT3.out], HRs.out, grow_tr HGs.out (grow_drewN _ _ _)⟩
                · have ha1 : ¬ (0 : Int) < (a1 : Int) := by omega
                  have HT3 := Lib.hid (show false = tst from by rw [← HTST.out, decide_eq_false ha]; rfl)
                  go_quiet (fail)
                  go_wp2_with fail
                  go_meet
                  exact ⟨by rw [← HT3.out], HRs.out, grow_tr HGs.out (grow_drewN _ _ _)⟩
              case rest =>
                obtain ⟨rfl, rr, rg⟩ := hcut
                clear HRs HGs
                have HRs := Lib.hid rr
                have HGs := Lib.hid rg
                clear rr rg
                have hb1 : b1 ≤ d3.size := by rw [HS3.out]; omega
                cases tst with
                | true =>
                  have ht := HTST.out
                  simp only [Bool.and_eq_true, decide_eq_true_eq, Bool.not_eq_true'] at ht
                  obtain ⟨R, hR⟩ : ∃ R, partitionEqual ltN d3 a1 b1 q = R := ⟨_, rfl⟩
                  have HI := partEq_any g cap a1 b1 q d3 wc HRs.out q1 q2 hb1 (by rw [HS3.out]; omega)
                  rw [HS3.out, hR] at HI
                  obtain ⟨mid, d4⟩ := R
                  obtain ⟨m1, m2, m3, m4, m5⟩ := round_eq swo_ltN (partitionEqual_holds ltN) ht.1 q1 q2 hb1 HB3.out ht.2 hR
                  simp only [] at HI
                  have HI := Lib.hid HI
                  have HM := Lib.hid (And.intro m3 (And.intro m4 m5))
                  clear m3 m4 m5 hR ht hb1
                  go_wp2_with fail
                  refine HI.out.mono ?_
                  rintro e w2 ⟨rfl, r2, g2⟩
                  have R2 := Lib.hid r2
                  have G2 := Lib.hid g2
                  clear r2 g2
                  go_wp2_with fail
                  go_roundg (b1 - mid)
                  case measure => omega
                  case rel => exact ⟨mid, b1, L2, wb, wp, d4, rfl, rfl, rfl, rfl, rfl, rfl, by omega, m2, bb, hL2, by rw [HM.out.1]; exact HS3.out, R2.out, grow_tr HGs.out G2.out, HM.out.2.1, fun R h1 h2 => by
                    obtain ⟨x1, x2⟩ := HM.out.2.2 R h1 h2
                    exact HCL.out R (permIn_trans _ _ _ a1 b1 HP3.out x1) x2⟩
                | false =>
                  obtain ⟨R, hR⟩ : ∃ R, partition ltN d3 a1 b1 q = R := ⟨_, rfl⟩
                  have HI := part_any g cap a1 b1 q d3 wc HRs.out q1 q2 hb1 (by rw [HS3.out]; omega)
                  rw [HS3.out, hR] at HI
                  obtain ⟨mid, ap, d4⟩ := R
                  obtain ⟨m1, m2, m3, m4, m5, m6, m7⟩ := round_part swo_ltN (partition_holds (lt := ltN)) q1 q2 hb1 HB3.out hR
                  simp only [] at HI
                  have HI := Lib.hid HI
                  have HM := Lib.hid (And.intro m4 (And.intro m5 (And.intro m6 m7)))
                  have HS4 := Lib.hid (m3.trans HS3.out)
                  clear m3 m4 m5 m6 m7 hR hb1
                  obtain ⟨ll, hll⟩ : ∃ ll, mid - a1 = ll := ⟨_, rfl⟩
                  obtain ⟨rl, hrl⟩ : ∃ rl, b1 - mid = rl := ⟨_, rfl⟩
                  have hlli : (mid : Int) - (a1 : Int) = (ll : Nat) := by omega
                  have hrli : (b1 : Int) - (mid : Int) = (rl : Nat) := by omega
                  by_cases hlr : ll < rl
                  · have hlri : (ll : Int) < (rl : Int) := by omega
                    have HC := Lib.hid (fun wx (hr : RwU wx g cap d4) => IH.out a1 mid g cap L2 d4 wx (by omega) hr m1 (by rw [HS4.out]; omega) (by rw [HS4.out]; exact hsz) hL2 HM.out.1)
                    rw [HS4.out] at HC
                    go_wp2_with fail
                    refine HI.out.mono ?_
                    rintro e w2 ⟨rfl, r2, g2⟩
                    have R2 := Lib.hid r2
                    have G2 := Lib.hid g2
                    clear r2 g2
                    go_wp2_with fail
                    refine (HC.out w2 R2.out).mono ?_
                    rintro e w3 ⟨rfl, d5, r3, p3, s3, g3⟩
                    have R3 := Lib.hid r3
                    have G3 := Lib.hid g3
                    have P3 := Lib.hid (And.intro p3 s3)
                    clear r3 g3 p3 s3
                    go_wp2_with fail
                    go_roundg (b1 - (mid + 1))
                    case measure => omega
                    case rel =>
                      obtain ⟨x3, x4⟩ := HM.out.2.2.1 d5 P3.out.1 P3.out.2
                      exact ⟨mid + 1, b1, L2, _, ap, d5, rfl, by go_num, rfl, rfl, rfl, rfl, by omega, by omega, bb, hL2, by rw [P3.out.1.1]; exact HS4.out, R3.out, grow_tr (grow_tr HGs.out G2.out) G3.out, x3, fun R h1 h2 => by
                        obtain ⟨x1, x2⟩ := x4 R h1 h2
                        exact HCL.out R (permIn_trans _ _ _ a1 b1 HP3.out x1) x2⟩
                  · have hlri : ¬ (ll : Int) < (rl : Int) := by omega
                    have hm1 : ((mid + 1 : Nat) : Int) = (mid : Int) + 1 := by omega
                    have HC := fun wx (hr : RwU wx g cap d4) => IH.out (mid + 1) b1 g cap L2 d4 wx (by omega) hr (by omega) (by rw [HS4.out]; omega) (by rw [HS4.out]; exact hsz) hL2 HM.out.2.1
                    rw [HS4.out] at HC
                    rw [hm1] at HC
                    have HC := Lib.hid HC
                    clear hm1
                    go_wp2_with fail
                    refine HI.out.mono ?_
                    rintro e w2 ⟨rfl, r2, g2⟩
                    have R2 := Lib.hid r2
                    have G2 := Lib.hid g2
                    clear r2 g2
                    go_wp2_with fail
                    refine (HC.out w2 R2.out).mono ?_
                    rintro e w3 ⟨rfl, d5, r3, p3, s3, g3⟩
                    have R3 := Lib.hid r3
                    have G3 := Lib.hid g3
                    have P3 := Lib.hid (And.intro p3 s3)
                    clear r3 g3 p3 s3
                    go_wp2_with fail
                    go_roundg (mid - a1)
                    case measure => omega
                    case rel =>
                      obtain ⟨x3, x4⟩ := HM.out.2.2.2 d5 P3.out.1 P3.out.2
                      exact ⟨a1, mid, L2, _, ap, d5, rfl, rfl, rfl, rfl, rfl, rfl, aa, m1, by omega, hL2, by rw [P3.out.1.1]; exact HS4.out, R3.out, grow_tr (grow_tr HGs.out G2.out) G3.out, x3, fun R h1 h2 => by
                        obtain ⟨x1, x2⟩ := x4 R h1 h2
                        exact HCL.out R (permIn_trans _ _ _ a1 b1 HP3.out x1) x2⟩

set_option maxHeartbeats 3200000 in
/-- slices.Sort sorts rows of up to 60000 numbers. -/
theorem sort_long : SortOk 60000 := by
  intro g cap d w h hs
  have HP := Lib.hid (fun L (hL : L ≤ 300) => pdq_any (d.size + 1) 0 d.size g cap L d w (by omega) h (Nat.zero_le _) (Nat.le_refl _) hs hL (Or.inl rfl))
  have HL := Lib.hid (len_any d.size w (by omega))
  obtain ⟨n, hn⟩ : ∃ n, d.size = n := ⟨_, rfl⟩
  rw [hn] at HP HL hs ⊢
  clear h hn
  go_enter Try.func46, Try.ntmps46
  go_wp2_with fail
  refine HL.out.mono ?_
  rintro e w' ⟨⟨L, rfl, hL⟩, rfl⟩
  go_wp2_with fail
  refine (HP.out L hL).mono ?_
  rintro e w' ⟨rfl, d', h2, h3, h4, h5⟩
  have H2 := Lib.hid h2
  have H3 := Lib.hid (And.intro h3 (And.intro h4 h5))
  clear h2 h3 h4 h5
  go_wp2_with fail
  go_end0
  exact ⟨rfl, _, H2.out, H3.out.1, H3.out.2.1, H3.out.2.2⟩
end Go.Proofs.Ytkdjefnnhanhhaa
