/- Walks over slices: partialInsertionSortOrdered at numbers. (Printed by a program.) -/
import Derived.Test.YtkdjefnnhanhhaaZSo
import Derived.Deep.CutBlock
import Derived.Sort.WalkC4
set_option linter.unusedVariables false
namespace Go.Proofs.Ytkdjefnnhanhhaa
open Go Go.RowKit Go.Mem Go.Sort
set_option linter.unusedVariables false

set_option maxRecDepth 100000 in
set_option maxHeartbeats 12800000 in
theorem shiftDown_go {j : Nat} {d : Array Nat} (h : 1 ≤ j) (hl : ltN d[j]! d[j - 1]! = true) : shiftDown ltN j d = shiftDown ltN (j - 1) (swp d j (j - 1)) := by
  obtain ⟨k, rfl⟩ : ∃ k, j = k + 1 := ⟨j - 1, by omega⟩
  rw [shiftDown]
  simp only [Nat.add_sub_cancel] at hl ⊢
  rw [hl]
  rfl
theorem shiftDown_end {j : Nat} {d : Array Nat} (h : j = 0 ∨ ltN d[j]! d[j - 1]! = false) : shiftDown ltN j d = d := by
  cases j with
  | zero => rfl
  | succ k =>
    rw [shiftDown]
    have hl := h.resolve_left (by omega)
    simp only [Nat.add_sub_cancel] at hl
    rw [hl]
    rfl
theorem shiftUp_go {b j : Nat} {d : Array Nat} (h : j < b) (hl : ltN d[j]! d[j - 1]! = true) : shiftUp ltN b j d = shiftUp ltN b (j + 1) (swp d j (j - 1)) := by
  rw [shiftUp, if_pos h, hl]
  rfl
theorem shiftUp_end {b j : Nat} {d : Array Nat} (h : ¬ j < b ∨ ltN d[j]! d[j - 1]! = false) : shiftUp ltN b j d = d := by
  rw [shiftUp]
  rcases h with h | h
  · rw [if_neg h]
  · split
    · rw [h]; rfl
    · rfl
theorem scanSorted_go {b i : Nat} {d : Array Nat} (h : i < b) (hl : ltN d[i]! d[i - 1]! = false) : scanSorted ltN d b i = scanSorted ltN d b (i + 1) := by
  rw [scanSorted, if_pos (by simp [h, hl])]
theorem scanSorted_end {b i : Nat} {d : Array Nat} (h : ¬ i < b ∨ ltN d[i]! d[i - 1]! = true) : scanSorted ltN d b i = i := by
  rw [scanSorted, if_neg (by rcases h with h | h <;> simp [h])]
theorem scanSorted_in {b : Nat} {d : Array Nat} : ∀ (n i : Nat), b - i = n → i ≤ b → i ≤ scanSorted ltN d b i ∧ scanSorted ltN d b i ≤ b := by
  intro n
  induction n with
  | zero => intro i hn h; rw [scanSorted_end (Or.inl (by omega))]; exact ⟨Nat.le_refl _, h⟩
  | succ n ih =>
    intro i hn h
    cases hl : ltN d[i]! d[i - 1]! with
    | true => rw [scanSorted_end (Or.inr hl)]; exact ⟨Nat.le_refl _, h⟩
    | false =>
      rw [scanSorted_go (by omega) hl]
      have := ih (i + 1) (by omega) (by omega)
      exact ⟨by omega, this.2⟩
theorem fixDown_size (a i : Nat) (d : Array Nat) : (fixDown ltN a i d).size = d.size := by
  have h : ∀ j (d : Array Nat), (shiftDown ltN j d).size = d.size := by
    intro j
    induction j with
    | zero => intro d; rfl
    | succ k ih => intro d; rw [shiftDown]; split; rfl; rw [ih, swp_size]
  unfold fixDown
  split
  · exact h _ _
  · rfl
theorem fixUp_size (b i : Nat) (d : Array Nat) : (fixUp ltN b i d).size = d.size := by
  have h : ∀ n j (d : Array Nat), b - j = n → (shiftUp ltN b j d).size = d.size := by
    intro n
    induction n with
    | zero => intro j d hn; rw [shiftUp_end (Or.inl (by omega))]
    | succ n ih =>
      intro j d hn
      cases hl : ltN d[j]! d[j - 1]! with
      | true => rw [shiftUp_go (by omega) hl, ih _ _ (by omega), swp_size]
      | false => rw [shiftUp_end (Or.inr hl)]
  unfold fixUp
  split
  · exact h _ _ _ rfl
  · rfl
set_option maxRecDepth 100000 in
set_option maxHeartbeats 12800000 in
theorem pins_any (g cap a b : Nat) (d : Array Nat) (w : World) (h : RwU w g cap d) (hab : a < b) (hb : b ≤ d.size) (hsz : d.size ≤ 1000000000) :
    Calls Try.prog 66 #[.slice (some ⟨g, 0, none⟩) d.size cap, .int .i64 (a : Nat), .int .i64 (b : Nat)] w fun e w' => e = .returned (.bool (partialInsertionSort ltN d a b).2) ∧ RwU w' g cap (partialInsertionSort ltN d a b).1 ∧ w.grownBy w' (some g) := by
  obtain ⟨N, hN⟩ : ∃ N, d.size = N := ⟨_, rfl⟩
  have hca : N ≤ cap ∧ cap ≤ maxLen := by obtain ⟨_, _, _, h1, h2, _⟩ := h; exact ⟨by omega, h2⟩
  have hc1 : (N : Int) ≤ (cap : Int) := by omega
  have hc2 : (cap : Int) ≤ 9223372036854775807 := by have := hca.2; unfold maxLen at this; omega
  have HRs := Lib.hid h
  have HGs := Lib.hid (show w.grownBy w (some g) from ((Below.refl w.heap.size w)).toGrown _)
  have HN := Lib.hid hN
  rw [hN] at hb hsz ⊢
  clear h hN hca
  obtain ⟨R, hR⟩ : ∃ R, partialIns ltN a b 5 (a + 1) d = R := ⟨_, rfl⟩
  rw [show partialInsertionSort ltN d a b = R from hR]
  have HRES := Lib.hid hR
  clear hR
  have hba : ((b - a : Nat) : Int) = (b : Int) - (a : Int) := by omega
  go_enter Try.func66, Try.ntmps66
  go_wp2_with fail
  go_loopg [7, 8] 5 (fun gk vi vn wr => ∃ (s i : Nat) (dk : Array Nat), s = gk ∧ s ≤ 5 ∧ vi = .int .i64 (i : Nat) ∧ vn = .int .i64 (5 - (s : Int)) ∧ a < i ∧ i ≤ b ∧ dk.size = N ∧ RwU wr g cap dk ∧ w.grownBy wr (some g) ∧ partialIns ltN a b s i dk = R)
  case atStart => exact ⟨5, a + 1, d, rfl, Nat.le_refl _, by go_num, rfl, by omega, by omega, HN.out, HRs.out, HGs.out, HRES.out⟩
  case round =>
    clear HRs HGs HRES
    obtain ⟨s, i, dk, rfl, hs5, rfl, rfl, ai, ib, hsk, rr, rg, hO⟩ := hrel
    have HSK := Lib.hid hsk
    have HRs := Lib.hid rr
    have HGs := Lib.hid rg
    have HO := Lib.hid hO
    clear hsk rr rg hO
    cases s with
    | zero =>
      have e5 : (5 : Int) - ((0 : Nat) : Int) = 5 := rfl
      rw [e5]
      go_wp2_with fail
      have e := HO.out
      rw [show partialIns ltN a b 0 i dk = (dk, false) from rfl] at e
      rw [← e]
      go_ret
      exact ⟨rfl, HRs.out, HGs.out⟩
    | succ s =>
      obtain ⟨c, hc⟩ : ∃ c : Nat, 4 - s = c := ⟨_, rfl⟩
      have hc1 : (5 : Int) - ((s + 1 : Nat) : Int) = (c : Nat) := by omega
      have hc2 : (c : Int) < 5 := by omega
      rw [hc1]
      obtain ⟨I2, hI2⟩ : ∃ I2, scanSorted ltN dk b i = I2 := ⟨_, rfl⟩
      have b1 : i ≤ I2 ∧ I2 ≤ b := by rw [← hI2]; exact scanSorted_in _ _ rfl ib
      have HI2 := Lib.hid hI2
      have HO2 := Lib.hid ((partialIns_succ (lt := ltN) a b s i dk).symm.trans HO.out)
      rw [hI2] at HO2
      have HCS := Lib.hid (show c + s = 4 from by omega)
      clear hI2 HO hc1 hc hs5
      go_upto_block 2 with fail
      go_cut [7] from 17 to 34 (fun vi wx => vi = .int .i64 (I2 : Nat) ∧ RwU wx g cap dk ∧ w.grownBy wx (some g))
      case first =>
        go_wp2_with fail
        go_loopg [7] (b - i) (fun gk vi wr => ∃ i2 : Nat, gk = b - i2 ∧ i ≤ i2 ∧ i2 ≤ b ∧ vi = .int .i64 (i2 : Nat) ∧ RwU wr g cap dk ∧ w.grownBy wr (some g) ∧ scanSorted ltN dk b i2 = I2)
        case atStart => exact ⟨i, rfl, Nat.le_refl _, ib, rfl, HRs.out, HGs.out, HI2.out⟩
        case round =>
          obtain ⟨i2, hgk2, r1, r2, rfl, rr, rg, rs⟩ := hrel
          have HRR := Lib.hid rr
          have HRG := Lib.hid rg
          have RS := Lib.hid rs
          clear rr rg rs
          by_cases hle : i2 < b
          · have x1 : (i2 : Int) < (b : Int) := by omega
            have x2 : (i2 : Int) < (N : Int) := by omega
            have c1 := HRR.out.cell (j := i2) (by rw [HSK.out]; omega)
            have c2 := HRR.out.cell (j := i2 - 1) (by rw [HSK.out]; omega)
            have z1 := HRR.out.free i2
            have z2 := HRR.out.free (i2 - 1)
            obtain ⟨x, hx⟩ : ∃ x, dk[i2]! = x := ⟨_, rfl⟩
            obtain ⟨y, hy⟩ : ∃ y, dk[i2 - 1]! = y := ⟨_, rfl⟩
            have HXX := Lib.hid (And.intro hx hy)
            rw [hx] at c1
            rw [hy] at c2
            have HL := Lib.hid (fun q => less_any x y (wr.drewN q))
            clear hx hy
            cases hl : ltN x y with
            | false =>
              have HL2 := Lib.hid (fun q => by have := HL.out q; rw [hl] at this; exact this)
              have HLT := Lib.hid hl
              clear HL hl
              go_wp2_with fail
              go_quiet ((go_at_call 67; exact quiet_eq (HL2.out _)))
              go_wp2_with fail
              go_roundg (b - (i2 + 1))
              case measure => omega
              case rel => exact ⟨i2 + 1, rfl, by omega, by omega, by go_num, HRR.out, grow_tr HRG.out (grow_drewN _ _ _), (scanSorted_go hle (by rw [HXX.out.1, HXX.out.2]; exact HLT.out)).symm.trans RS.out⟩
            | true =>
              have HL2 := Lib.hid (fun q => by have := HL.out q; rw [hl] at this; exact this)
              have HLT := Lib.hid hl
              clear HL hl
              go_wp2_with fail
              go_quiet ((go_at_call 67; exact quiet_eq (HL2.out _)))
              go_wp2_with fail
              go_meet
              have e := (scanSorted_end (Or.inr (by rw [HXX.out.1, HXX.out.2]; exact HLT.out))).symm.trans RS.out
              exact ⟨by rw [e], HRR.out, grow_tr HRG.out (grow_drewN _ _ _)⟩
          · have x1 : ¬ (i2 : Int) < (b : Int) := by omega
            go_wp2_with fail
            go_quiet (fail)
            go_wp2_with fail
            go_meet
            have e := (scanSorted_end (Or.inl hle)).symm.trans RS.out
            exact ⟨by rw [e], HRR.out, grow_tr HRG.out (grow_drewN _ _ _)⟩
      case rest =>
        obtain ⟨rfl, rr, rg⟩ := hcut
        clear HRs HGs
        have HRs := Lib.hid rr
        have HGs := Lib.hid rg
        clear rr rg
        by_cases hend : I2 = b
        · have hE : ((I2 : Int) == (b : Int)) = true := beq_iff_eq.2 (by omega)
          have HE := Lib.hid (show (dk, true) = R from by have := HO2.out; rw [if_pos hend] at this; exact this)
          clear hend
          go_wp2_with fail
          rw [← HE.out]
          go_ret
          exact ⟨rfl, HRs.out, HGs.out⟩
        · have hE : ((I2 : Int) == (b : Int)) = false := beq_eq_false_iff_ne.2 (by omega)
          have hib : I2 < b := by omega
          by_cases h50 : b - a < 50
          · have h50i : (b : Int) - (a : Int) < 50 := by omega
            have HE := Lib.hid (show (dk, false) = R from by have := HO2.out; rw [if_neg hend, if_pos h50] at this; exact this)
            clear hend
            go_wp2_with fail
            rw [← HE.out]
            go_ret
            exact ⟨rfl, HRs.out, HGs.out⟩
          · have h50i : ¬ (b : Int) - (a : Int) < 50 := by omega
            have hO3 := HO2.out
            rw [if_neg hend, if_neg h50] at hO3
            obtain ⟨I3, hI3⟩ : ∃ I3, I2 - 1 = I3 := ⟨_, rfl⟩
            have hI3i : (I2 : Int) - 1 = (I3 : Nat) := by omega
            rw [hI3] at hO3
            have HO3 := Lib.hid hO3
            have HI3 := Lib.hid hI3
            have hI3N : I3 < N := by omega
            clear hend hO3 HO2 hI3
            go_wp2_with fail
            obtain ⟨d2, hnew⟩ : ∃ D, swp dk I2 I3 = D := ⟨_, rfl⟩
            have HNEW := Lib.hid hnew
            have HSN := Lib.hid (show d2.size = N from by rw [← hnew, swp_size]; exact HSK.out)
            clear hnew
            go_cut [] from 42 to 57 (fun wx => RwU wx g cap d2 ∧ w.grownBy wx (some g))
            case first =>
              have m1 : I2 < dk.size := by rw [HSK.out]; omega
              have m2 : I3 < dk.size := by rw [HSK.out]; omega
              have x1 : (I2 : Int) < (N : Int) := by omega
              have x2 : (I3 : Int) < (N : Int) := by omega
              have M12 := Lib.hid (And.intro m1 m2)
              have c1 := HRs.out.cell (j := I2) m1
              have c2 := HRs.out.cell (j := I3) m2
              have z1 := HRs.out.free I2
              have z2 := HRs.out.free I3
              clear m1 m2
              obtain ⟨x, hx⟩ : ∃ x, dk[I2]! = x := ⟨_, rfl⟩
              obtain ⟨y, hy⟩ : ∃ y, dk[I3]! = y := ⟨_, rfl⟩
              have HXY := Lib.hid (And.intro hx hy)
              rw [hx] at c1
              rw [hy] at c2
              have HEQ := Lib.hid (show I2 = I3 → x = y from fun h => by rw [← hx, ← hy, h])
              clear hx hy
              have hsw := fun wx (hwx : RwU wx g cap dk) => RwU.swap hwx (j := I2) (k := I3) M12.out.1 M12.out.2
              rw [HXY.out.1, HXY.out.2, HNEW.out] at hsw
              have HSW := Lib.hid hsw
              clear hsw
              have heq : ¬ I2 = I3 := by omega
              have hj4 : ¬ I3 = I2 := fun h => heq h.symm
              go_region
              all_goals
                go_wp2_with fail
                go_meet
                exact ⟨HSW.out _ (show RwU (wc.drew) g cap dk from HRs.out), grow_tr HGs.out (grow_tr (grow_drewN _ 1 _) (grow_swap _ g _ _ _ _))⟩
            case rest =>
              obtain ⟨rr, rg⟩ := hcut
              clear HRs HGs
              have HRs := Lib.hid rr
              have HGs := Lib.hid rg
              clear rr rg
              rw [HNEW.out] at HO3
              obtain ⟨d3, hd3⟩ : ∃ d3, fixDown ltN a I2 d2 = d3 := ⟨_, rfl⟩
              have HS3 := Lib.hid (show d3.size = N from by rw [← hd3, fixDown_size]; exact HSN.out)
              have HD3 := Lib.hid hd3
              rw [hd3] at HO3
              have hNZ : (I2 : Int) < (N : Int) := by omega
              clear hd3
              go_upto_if 61 with fail
              go_cut [] from 58 to 94 (fun wx => RwU wx g cap d3 ∧ w.grownBy wx (some g))
              case first =>
                by_cases h2 : I2 - a ≥ 2
                · have h2i : (2 : Int) ≤ (I2 : Int) - (a : Int) := by omega
                  have HST := Lib.hid (show shiftDown ltN I3 d2 = d3 from by rw [← HD3.out]; unfold fixDown; rw [if_pos h2, HI3.out])
                  go_wp2_with fail
                  go_loopg [9] I3 (fun gk vj wr => ∃ (j : Nat) (dj : Array Nat), j = gk ∧ j < N ∧ vj = .int .i64 (j : Nat) ∧ dj.size = N ∧ RwU wr g cap dj ∧ w.grownBy wr (some g) ∧ shiftDown ltN j dj = d3)
                  case atStart => exact ⟨I3, d2, rfl, hI3N, rfl, HSN.out, HRs.out, HGs.out, HST.out⟩
                  case round =>
                    clear HRs HGs HST
                    obtain ⟨j, dj, rfl, hjN, rfl, hsj, rr, rg, rs⟩ := hrel
                    have HSJ := Lib.hid hsj
                    have HRJ := Lib.hid rr
                    have HGJ := Lib.hid rg
                    have RS := Lib.hid rs
                    clear hsj rr rg rs
                    by_cases hj1 : 1 ≤ j
                    · have j1 : (1 : Int) ≤ (j : Int) := by omega
                      have j2 : (j : Int) < (N : Int) := by omega
                      have c1 := HRJ.out.cell (j := j) (by rw [HSJ.out]; omega)
                      have c2 := HRJ.out.cell (j := j - 1) (by rw [HSJ.out]; omega)
                      have z1 := HRJ.out.free j
                      have z2 := HRJ.out.free (j - 1)
                      obtain ⟨x, hx⟩ : ∃ x, dj[j]! = x := ⟨_, rfl⟩
                      obtain ⟨y, hy⟩ : ∃ y, dj[j - 1]! = y := ⟨_, rfl⟩
                      have HXY := Lib.hid (And.intro hx hy)
                      rw [hx] at c1
                      rw [hy] at c2
                      have hj3 : ¬ j = j - 1 := by omega
                      have hj4 : ¬ j - 1 = j := by omega
                      have HL := Lib.hid (fun q => less_any x y (wr.drewN q))
                      clear hx hy
                      cases hl : ltN x y with
                      | true =>
                        have HL2 := Lib.hid (fun q => by have := HL.out q; rw [hl] at this; exact this)
                        have HLT := Lib.hid hl
                        clear HL hl
                        go_wp2_with fail
                        go_quiet ((go_at_call 67; exact quiet_eq (HL2.out _)))
                        go_wp2_with fail
                        go_region
                        all_goals
                          go_wp2_with fail
                          go_roundg (j - 1)
                          case measure => omega
                          case rel =>
                            have h1 := (show RwU ((wr.drewN nq).drew) g cap dj from HRJ.out).swap (j := j) (k := j - 1) (by rw [HSJ.out]; omega) (by rw [HSJ.out]; omega)
                            rw [HXY.out.1, HXY.out.2] at h1
                            exact ⟨j - 1, swp dj j (j - 1), rfl, by omega, by congr 1; omega, by rw [swp_size]; exact HSJ.out, h1, grow_tr HGJ.out (grow_tr (grow_drewN _ nq _) (grow_tr (grow_drewN _ 1 _) (grow_swap _ g j (j - 1) _ _))), (shiftDown_go hj1 (by rw [HXY.out.1, HXY.out.2]; exact HLT.out)).symm.trans RS.out⟩
                      | false =>
                        have HL2 := Lib.hid (fun q => by have := HL.out q; rw [hl] at this; exact this)
                        have HLT := Lib.hid hl
                        clear HL hl
                        go_wp2_with fail
                        go_quiet ((go_at_call 67; exact quiet_eq (HL2.out _)))
                        go_wp2_with fail
                        go_meet
                        have e := (shiftDown_end (Or.inr (by rw [HXY.out.1, HXY.out.2]; exact HLT.out))).symm.trans RS.out
                        exact ⟨by rw [← e]; exact HRJ.out, grow_tr HGJ.out (grow_drewN _ _ _)⟩
                    · have j1 : ¬ (1 : Int) ≤ (j : Int) := by omega
                      go_wp2_with fail
                      go_meet
                      have e := (shiftDown_end (Or.inl (by omega))).symm.trans RS.out
                      exact ⟨by rw [← e]; exact HRJ.out, HGJ.out⟩
                · have h2i : ¬ (2 : Int) ≤ (I2 : Int) - (a : Int) := by omega
                  have e : d2 = d3 := by rw [← HD3.out]; unfold fixDown; rw [if_neg h2]
                  have E := Lib.hid e
                  clear e
                  go_wp2_with fail
                  go_meet
                  exact ⟨by rw [← E.out]; exact HRs.out, HGs.out⟩
              case rest =>
                obtain ⟨rr, rg⟩ := hcut
                clear HRs HGs HD3 HSN HNEW
                have HRs := Lib.hid rr
                have HGs := Lib.hid rg
                clear rr rg
                obtain ⟨d4, hd4⟩ : ∃ d4, fixUp ltN b I2 d3 = d4 := ⟨_, rfl⟩
                have HS4 := Lib.hid (show d4.size = N from by rw [← hd4, fixUp_size]; exact HS3.out)
                have HD4 := Lib.hid hd4
                rw [hd4] at HO3
                clear hd4
                have FIN := Lib.hid (fun (wx : World) (h1 : RwU wx g cap d4) (h2 : w.grownBy wx (some g)) => (show ∃ (s' i : Nat) (dk : Array Nat), s' = s ∧ s' ≤ 5 ∧ Value.int .i64 (I2 : Nat) = .int .i64 (i : Nat) ∧ Value.int .i64 ((c : Int) + 1) = .int .i64 (5 - (s' : Int)) ∧ a < i ∧ i ≤ b ∧ dk.size = N ∧ RwU wx g cap dk ∧ w.grownBy wx (some g) ∧ partialIns ltN a b s' i dk = R from ⟨s, I2, d4, rfl, by have := HCS.out; omega, rfl, by have := HCS.out; congr 1; omega, by omega, by omega, HS4.out, h1, h2, HO3.out⟩))
                clear HO3 HS4 HCS
                by_cases h2 : b - I2 ≥ 2
                · have h2i : (2 : Int) ≤ (b : Int) - (I2 : Int) := by omega
                  have HST := Lib.hid (show shiftUp ltN b (I2 + 1) d3 = d4 from by rw [← HD4.out]; unfold fixUp; rw [if_pos h2])
                  go_wp2_with fail
                  go_loopg [10] (b - (I2 + 1)) (fun gk vj wr => ∃ (j : Nat) (dj : Array Nat), gk = b - j ∧ 1 ≤ j ∧ j ≤ b ∧ vj = .int .i64 (j : Nat) ∧ dj.size = N ∧ RwU wr g cap dj ∧ w.grownBy wr (some g) ∧ shiftUp ltN b j dj = d4)
                  case atStart => exact ⟨I2 + 1, d3, rfl, by omega, by omega, by go_num, HS3.out, HRs.out, HGs.out, HST.out⟩
                  case round =>
                    clear HRs HGs HST
                    obtain ⟨j, dj, hgk2, hj1, hjN, rfl, hsj, rr, rg, rs⟩ := hrel
                    have HSJ := Lib.hid hsj
                    have HRJ := Lib.hid rr
                    have HGJ := Lib.hid rg
                    have RS := Lib.hid rs
                    clear hsj rr rg rs
                    by_cases hjb : j < b
                    · have j1 : (j : Int) < (b : Int) := by omega
                      have j2 : (j : Int) < (N : Int) := by omega
                      have c1 := HRJ.out.cell (j := j) (by rw [HSJ.out]; omega)
                      have c2 := HRJ.out.cell (j := j - 1) (by rw [HSJ.out]; omega)
                      have z1 := HRJ.out.free j
                      have z2 := HRJ.out.free (j - 1)
                      obtain ⟨x, hx⟩ : ∃ x, dj[j]! = x := ⟨_, rfl⟩
                      obtain ⟨y, hy⟩ : ∃ y, dj[j - 1]! = y := ⟨_, rfl⟩
                      have HXY := Lib.hid (And.intro hx hy)
                      rw [hx] at c1
                      rw [hy] at c2
                      have hj3 : ¬ j = j - 1 := by omega
                      have hj4 : ¬ j - 1 = j := by omega
                      have HL := Lib.hid (fun q => less_any x y (wr.drewN q))
                      clear hx hy
                      cases hl : ltN x y with
                      | true =>
                        have HL2 := Lib.hid (fun q => by have := HL.out q; rw [hl] at this; exact this)
                        have HLT := Lib.hid hl
                        clear HL hl
                        go_wp2_with fail
                        go_quiet ((go_at_call 67; exact quiet_eq (HL2.out _)))
                        go_wp2_with fail
                        go_region
                        all_goals
                          go_wp2_with fail
                          go_roundg (b - (j + 1))
                          case measure => omega
                          case rel =>
                            have h1 := (show RwU ((wr.drewN nq).drew) g cap dj from HRJ.out).swap (j := j) (k := j - 1) (by rw [HSJ.out]; omega) (by rw [HSJ.out]; omega)
                            rw [HXY.out.1, HXY.out.2] at h1
                            exact ⟨j + 1, swp dj j (j - 1), rfl, by omega, by omega, by go_num, by rw [swp_size]; exact HSJ.out, h1, grow_tr HGJ.out (grow_tr (grow_drewN _ nq _) (grow_tr (grow_drewN _ 1 _) (grow_swap _ g j (j - 1) _ _))), (shiftUp_go hjb (by rw [HXY.out.1, HXY.out.2]; exact HLT.out)).symm.trans RS.out⟩
                      | false =>
                        have HL2 := Lib.hid (fun q => by have := HL.out q; rw [hl] at this; exact this)
                        have HLT := Lib.hid hl
                        clear HL hl
                        go_wp2_with fail
                        go_quiet ((go_at_call 67; exact quiet_eq (HL2.out _)))
                        go_wp2_with fail
                        go_roundg s
                        case measure => omega
                        case rel =>
                          have e := (shiftUp_end (Or.inr (by rw [HXY.out.1, HXY.out.2]; exact HLT.out))).symm.trans RS.out
                          exact FIN.out _ (by rw [← e]; exact HRJ.out) (grow_tr HGJ.out (grow_drewN _ _ _))
                    · have j1 : ¬ (j : Int) < (b : Int) := by omega
                      go_wp2_with fail
                      go_roundg s
                      case measure => omega
                      case rel =>
                        have e := (shiftUp_end (Or.inl hjb)).symm.trans RS.out
                        exact FIN.out _ (by rw [← e]; exact HRJ.out) (HGJ.out)
                · have h2i : ¬ (2 : Int) ≤ (b : Int) - (I2 : Int) := by omega
                  have e : d3 = d4 := by rw [← HD4.out]; unfold fixUp; rw [if_neg h2]
                  have E := Lib.hid e
                  clear e
                  go_wp2_with fail
                  go_roundg s
                  case measure => omega
                  case rel =>
                    exact FIN.out _ (by rw [← E.out]; exact HRs.out) (HGs.out)
end Go.Proofs.Ytkdjefnnhanhhaa
