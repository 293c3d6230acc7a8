/- Walks over slices: partitionEqualOrdered at numbers. (Printed by a program.) -/
import Derived.Test.YtkdjefnnhanhhaaZSo
import Derived.Deep.CutBlock
import Derived.Sort.WalkC4
set_option linter.unusedVariables false
namespace Go.Proofs.Ytkdjefnnhanhhaa
open Go Go.RowKit Go.Mem Go.Sort
set_option linter.unusedVariables false

set_option maxRecDepth 100000 in
set_option maxHeartbeats 12800000 in
theorem partEq_any (g cap a b pivot : Nat) (d : Array Nat) (w : World) (h : RwU w g cap d) (hap : a ≤ pivot) (hpb : pivot < b) (hb : b ≤ d.size) (hsz : d.size ≤ 1000000000) :
    Calls Try.prog 68 #[.slice (some ⟨g, 0, none⟩) d.size cap, .int .i64 (a : Nat), .int .i64 (b : Nat), .int .i64 (pivot : Nat)] w fun e w' => e = .returned (.int .i64 ((partitionEqual ltN d a b pivot).1 : Nat)) ∧ RwU w' g cap (partitionEqual ltN d a b pivot).2 ∧ w.grownBy w' (some g) := by
  obtain ⟨N, hN⟩ : ∃ N, d.size = N := ⟨_, rfl⟩
  have hca : N ≤ cap ∧ cap ≤ maxLen := by obtain ⟨_, _, _, h1, h2, _⟩ := h; exact ⟨by omega, h2⟩
  have hc1 : (N : Int) ≤ (cap : Int) := by omega
  have hc2 : (cap : Int) ≤ 9223372036854775807 := by have := hca.2; unfold maxLen at this; omega
  have HRs := Lib.hid h
  have HGs := Lib.hid (show w.grownBy w (some g) from ((Below.refl w.heap.size w)).toGrown _)
  have HN := Lib.hid hN
  rw [hN] at hb hsz ⊢
  clear h hN hca
  obtain ⟨R, hR⟩ : ∃ R, partitionEqual ltN d a b pivot = R := ⟨_, rfl⟩
  rw [hR]
  have HRES := Lib.hid hR
  clear hR
  go_enter Try.func68, Try.ntmps68
  go_wp2_with fail
  obtain ⟨dn, hnew⟩ : ∃ D, swp d a pivot = D := ⟨_, rfl⟩
  have HNEW := Lib.hid hnew
  have HSN := Lib.hid (show dn.size = N from by rw [← hnew, swp_size]; exact HN.out)
  clear hnew
  go_cut [] from 11 to 24 (fun wx => RwU wx g cap dn ∧ w.grownBy wx (some g))
  case first =>
    have m1 : a < d.size := by rw [HN.out]; omega
    have m2 : pivot < d.size := by rw [HN.out]; omega
    have x1 : (a : Int) < (N : Int) := by omega
    have x2 : (pivot : Int) < (N : Int) := by omega
    have M12 := Lib.hid (And.intro m1 m2)
    have c1 := HRs.out.cell (j := a) m1
    have c2 := HRs.out.cell (j := pivot) m2
    have z1 := HRs.out.free a
    have z2 := HRs.out.free pivot
    clear m1 m2
    obtain ⟨x, hx⟩ : ∃ x, d[a]! = x := ⟨_, rfl⟩
    obtain ⟨y, hy⟩ : ∃ y, d[pivot]! = y := ⟨_, rfl⟩
    have HXY := Lib.hid (And.intro hx hy)
    rw [hx] at c1
    rw [hy] at c2
    have HEQ := Lib.hid (show a = pivot → x = y from fun h => by rw [← hx, ← hy, h])
    clear hx hy
    have hsw := fun wx (hwx : RwU wx g cap d) => RwU.swap hwx (j := a) (k := pivot) M12.out.1 M12.out.2
    rw [HXY.out.1, HXY.out.2, HNEW.out] at hsw
    have HSW := Lib.hid hsw
    clear hsw
    by_cases heq : a = pivot
    · have hxy := HEQ.out heq
      subst hxy
      subst heq
      clear c2 z2 x2 HEQ HXY
      go_region
      all_goals
        go_wp2_with fail
        go_meet
        exact ⟨HSW.out _ (show RwU (w.drew) g cap d from HRs.out), grow_tr HGs.out (grow_tr (grow_drewN _ 1 _) (grow_swap _ g _ _ _ _))⟩
    · have hj4 : ¬ pivot = a := fun h => heq h.symm
      go_region
      all_goals
        go_wp2_with fail
        go_meet
        exact ⟨HSW.out _ (show RwU (w.drew) g cap d from HRs.out), grow_tr HGs.out (grow_tr (grow_drewN _ 1 _) (grow_swap _ g _ _ _ _))⟩
  case rest =>
    obtain ⟨rr, rg⟩ := hcut
    clear HRs HGs
    have HRs := Lib.hid rr
    have HGs := Lib.hid rg
    clear rr rg
    obtain ⟨dk, hdk⟩ : ∃ x, x = dn := ⟨_, rfl⟩
    subst hdk
    have HR1 := Lib.hid (show partEqLoop ltN a (a + 1) (b - 1) dk = R from by rw [← HRES.out, ← HNEW.out]; rfl)
    go_wp2_with fail
    go_loopg [9, 10] (b - 1 + 1 - (a + 1)) (fun gk vi vj wr => ∃ (i j : Nat) (dk : Array Nat), gk = j + 1 - i ∧ vi = .int .i64 (i : Nat) ∧ vj = .int .i64 (j : Nat) ∧ a < i ∧ i ≤ j + 1 ∧ j < b ∧ dk.size = N ∧ RwU wr g cap dk ∧ w.grownBy wr (some g) ∧ partEqLoop ltN a i j dk = R)
    case atStart =>
      exact ⟨a + 1, b - 1, dk, rfl, by go_num, by congr 1; omega, by omega, by omega, by omega, HSN.out, HRs.out, HGs.out, HR1.out⟩
    case round =>
      clear HNEW HSN HR1 HRES HRs HGs
      obtain ⟨i, j, dk, hgk, rfl, rfl, ai, ij, jb, hsk, rr, rg, hO⟩ := hrel
      have HSK := Lib.hid hsk
      have HRs := Lib.hid rr
      have HGs := Lib.hid rg
      have HO := Lib.hid hO
      obtain ⟨pv, hpv⟩ : ∃ x, dk[a]! = x := ⟨_, rfl⟩
      have HPV := Lib.hid hpv
      clear hsk rr rg hO hpv
      go_upto_block 2 with fail
      obtain ⟨I2, hI2⟩ : ∃ I2, scanUp (fun x => !ltN dk[a]! x) dk j i = I2 := ⟨_, rfl⟩
      have b1 : i ≤ I2 ∧ I2 ≤ j + 1 := by rw [← hI2]; exact ⟨scanUp_ge _ _ _ _, (scanUp_spec _ _ _ _ _ rfl).2.1 ij⟩
      have HI2 := Lib.hid hI2
      clear hI2
      go_cut [9] from 29 to 45 (fun vi wx => vi = .int .i64 (I2 : Nat) ∧ RwU wx g cap dk ∧ w.grownBy wx (some g))
      case first =>
        go_wp2_with fail
        go_loopg [9] (j + 1 - i) (fun gk vi wr => ∃ i2 : Nat, gk = j + 1 - i2 ∧ i ≤ i2 ∧ i2 ≤ j + 1 ∧ vi = .int .i64 (i2 : Nat) ∧ RwU wr g cap dk ∧ w.grownBy wr (some g) ∧ scanUp (fun x => !ltN dk[a]! x) dk j i2 = I2)
        case atStart => exact ⟨i, rfl, Nat.le_refl _, ij, rfl, HRs.out, HGs.out, HI2.out⟩
        case round =>
          obtain ⟨i2, rfl, r1, r2, rfl, rr, rg, rs⟩ := hrel
          have HRR := Lib.hid rr
          have HRG := Lib.hid rg
          have RS := Lib.hid rs
          clear rr rg rs
          by_cases hle : i2 ≤ j
          · have x1 : (i2 : Int) ≤ (j : Int) := by omega
            have x2 : (i2 : Int) < (N : Int) := by omega
            have x3 : (a : Int) < (N : Int) := by omega
            have c1 := HRR.out.cell (j := i2) (by rw [HSK.out]; omega)
            have c2 := HRR.out.cell (j := a) (by rw [HSK.out]; omega)
            have z1 := HRR.out.free i2
            have z2 := HRR.out.free a
            obtain ⟨x, hx⟩ : ∃ x, dk[i2]! = x := ⟨_, rfl⟩
            have HXX := Lib.hid hx
            rw [hx] at c1
            rw [HPV.out] at c2
            have HL := Lib.hid (fun q => less_any pv x (wr.drewN q))
            clear hx
            cases hl : ltN pv x with
            | false =>
              have HL2 := Lib.hid (fun q => by have := HL.out q; rw [hl] at this; exact this)
              have HLT := Lib.hid hl
              clear HL hl
              go_wp2_with fail
              go_quiet ((go_at_call 67; exact quiet_eq (HL2.out _)))
              go_wp2_with fail
              go_roundg (j + 1 - (i2 + 1))
              case measure => omega
              case rel => exact ⟨i2 + 1, rfl, by omega, by omega, by go_num, HRR.out, grow_tr HRG.out (grow_drewN _ _ _), (scanUp_go (fun x => !ltN dk[a]! x) dk j i2 hle (by show (!ltN dk[a]! dk[i2]!) = true; rw [HXX.out, HPV.out, HLT.out]; rfl)).symm.trans RS.out⟩
            | true =>
              have HL2 := Lib.hid (fun q => by have := HL.out q; rw [hl] at this; exact this)
              have HLT := Lib.hid hl
              clear HL hl
              go_wp2_with fail
              go_quiet ((go_at_call 67; exact quiet_eq (HL2.out _)))
              go_wp2_with fail
              go_meet
              have e := (scanUp_end (fun x => !ltN dk[a]! x) dk j i2 (Or.inr (by show (!ltN dk[a]! dk[i2]!) = false; rw [HXX.out, HPV.out, HLT.out]; rfl))).symm.trans RS.out
              exact ⟨by rw [e], HRR.out, grow_tr HRG.out (grow_drewN _ _ _)⟩
          · have x1 : ¬ (i2 : Int) ≤ (j : Int) := by omega
            go_wp2_with fail
            go_quiet (fail)
            go_wp2_with fail
            go_meet
            have e := (scanUp_end (fun x => !ltN dk[a]! x) dk j i2 (Or.inl hle)).symm.trans RS.out
            exact ⟨by rw [e], HRR.out, grow_tr HRG.out (grow_drewN _ _ _)⟩
      case rest =>
        obtain ⟨rfl, rr, rg⟩ := hcut
        clear HRs HGs
        have HRs := Lib.hid rr
        have HGs := Lib.hid rg
        clear rr rg
        go_upto_block 4 with fail
        obtain ⟨J2, hJ2⟩ : ∃ J2, scanDown (fun x => ltN dk[a]! x) dk I2 j = J2 := ⟨_, rfl⟩
        have b2 : J2 ≤ j ∧ I2 ≤ J2 + 1 := by rw [← hJ2]; exact ⟨scanDown_le _ _ _ _, (scanDown_spec _ _ _ _).2.1 b1.2⟩
        have HJ2 := Lib.hid hJ2
        clear hJ2
        go_cut [10] from 46 to 61 (fun vi wx => vi = .int .i64 (J2 : Nat) ∧ RwU wx g cap dk ∧ w.grownBy wx (some g))
        case first =>
          go_wp2_with fail
          go_loopg [10] j (fun gk vi wr => ∃ j2 : Nat, j2 = gk ∧ j2 ≤ j ∧ I2 ≤ j2 + 1 ∧ vi = .int .i64 (j2 : Nat) ∧ RwU wr g cap dk ∧ w.grownBy wr (some g) ∧ scanDown (fun x => ltN dk[a]! x) dk I2 j2 = J2)
          case atStart => exact ⟨j, rfl, Nat.le_refl _, b1.2, rfl, HRs.out, HGs.out, HJ2.out⟩
          case round =>
            obtain ⟨j2, rfl, r1, r2, rfl, rr, rg, rs⟩ := hrel
            have HRR := Lib.hid rr
            have HRG := Lib.hid rg
            have RS := Lib.hid rs
            clear rr rg rs
            by_cases hle : I2 ≤ j2
            · have x1 : (I2 : Int) ≤ (j2 : Int) := by omega
              have x2 : (j2 : Int) < (N : Int) := by omega
              have x3 : (a : Int) < (N : Int) := by omega
              have c1 := HRR.out.cell (j := j2) (by rw [HSK.out]; omega)
              have c2 := HRR.out.cell (j := a) (by rw [HSK.out]; omega)
              have z1 := HRR.out.free j2
              have z2 := HRR.out.free a
              obtain ⟨x, hx⟩ : ∃ x, dk[j2]! = x := ⟨_, rfl⟩
              have HXX := Lib.hid hx
              rw [hx] at c1
              rw [HPV.out] at c2
              have HL := Lib.hid (fun q => less_any pv x (wr.drewN q))
              clear hx
              cases hl : ltN pv x with
              | true =>
                have HL2 := Lib.hid (fun q => by have := HL.out q; rw [hl] at this; exact this)
                have HLT := Lib.hid hl
                clear HL hl
                go_wp2_with fail
                go_quiet ((go_at_call 67; exact quiet_eq (HL2.out _)))
                go_wp2_with fail
                go_roundg (j2 - 1)
                case measure => omega
                case rel => exact ⟨j2 - 1, rfl, by omega, by omega, by congr 1; omega, HRR.out, grow_tr HRG.out (grow_drewN _ _ _), (scanDown_go (fun x => ltN dk[a]! x) dk I2 j2 hle (by omega) (by show (ltN dk[a]! dk[j2]!) = true; rw [HXX.out, HPV.out, HLT.out])).symm.trans RS.out⟩
              | false =>
                have HL2 := Lib.hid (fun q => by have := HL.out q; rw [hl] at this; exact this)
                have HLT := Lib.hid hl
                clear HL hl
                go_wp2_with fail
                go_quiet ((go_at_call 67; exact quiet_eq (HL2.out _)))
                go_wp2_with fail
                go_meet
                have e := (scanDown_end (fun x => ltN dk[a]! x) dk I2 j2 (Or.inr (by show (ltN dk[a]! dk[j2]!) = false; rw [HXX.out, HPV.out, HLT.out]))).symm.trans RS.out
                exact ⟨by rw [e], HRR.out, grow_tr HRG.out (grow_drewN _ _ _)⟩
            · have x1 : ¬ (I2 : Int) ≤ (j2 : Int) := by omega
              go_wp2_with fail
              go_quiet (fail)
              go_wp2_with fail
              go_meet
              have e := (scanDown_end (fun x => ltN dk[a]! x) dk I2 j2 (Or.inl hle)).symm.trans RS.out
              exact ⟨by rw [e], HRR.out, grow_tr HRG.out (grow_drewN _ _ _)⟩
        case rest =>
          obtain ⟨rfl, rr, rg⟩ := hcut
          clear HRs HGs
          have HRs := Lib.hid rr
          have HGs := Lib.hid rg
          clear rr rg
          by_cases hbr : J2 < I2
          · have y1 : (J2 : Int) < (I2 : Int) := by omega
            have HE := Lib.hid ((partEq_break ltN a i j dk HI2.out.symm HJ2.out.symm hbr).symm.trans HO.out)
            go_wp2_with fail
            rw [← HE.out]
            go_ret
            exact ⟨rfl, HRs.out, HGs.out⟩
          · have y1 : ¬ (J2 : Int) < (I2 : Int) := by omega
            have HE := Lib.hid ((partEq_go ltN a i j dk HI2.out.symm HJ2.out.symm (by omega)).symm.trans HO.out)
            have hlt2 := scans_lt ltN a i j dk (by omega) HI2.out.symm HJ2.out.symm (by omega)
            have b3 : J2 < N ∧ I2 < N := by omega
            go_wp2_with fail
            obtain ⟨dn, hnew⟩ : ∃ D, swp dk I2 J2 = D := ⟨_, rfl⟩
            have HNEW := Lib.hid hnew
            have HSN := Lib.hid (show dn.size = N from by rw [← hnew, swp_size]; exact HSK.out)
            clear hnew
            go_cut [] from 65 to 78 (fun wx => RwU wx g cap dn ∧ w.grownBy wx (some g))
            case first =>
              have m1 : I2 < dk.size := by rw [HSK.out]; omega
              have m2 : J2 < dk.size := by rw [HSK.out]; omega
              have x1 : (I2 : Int) < (N : Int) := by omega
              have x2 : (J2 : Int) < (N : Int) := by omega
              have M12 := Lib.hid (And.intro m1 m2)
              have c1 := HRs.out.cell (j := I2) m1
              have c2 := HRs.out.cell (j := J2) m2
              have z1 := HRs.out.free I2
              have z2 := HRs.out.free J2
              clear m1 m2
              obtain ⟨x, hx⟩ : ∃ x, dk[I2]! = x := ⟨_, rfl⟩
              obtain ⟨y, hy⟩ : ∃ y, dk[J2]! = y := ⟨_, rfl⟩
              have HXY := Lib.hid (And.intro hx hy)
              rw [hx] at c1
              rw [hy] at c2
              have HEQ := Lib.hid (show I2 = J2 → x = y from fun h => by rw [← hx, ← hy, h])
              clear hx hy
              have hsw := fun wx (hwx : RwU wx g cap dk) => RwU.swap hwx (j := I2) (k := J2) M12.out.1 M12.out.2
              rw [HXY.out.1, HXY.out.2, HNEW.out] at hsw
              have HSW := Lib.hid hsw
              clear hsw
              by_cases heq : I2 = J2
              · have hxy := HEQ.out heq
                subst hxy
                subst heq
                clear c2 z2 x2 HEQ HXY
                go_region
                all_goals
                  go_wp2_with fail
                  go_meet
                  exact ⟨HSW.out _ (show RwU (wc.drew) g cap dk from HRs.out), grow_tr HGs.out (grow_tr (grow_drewN _ 1 _) (grow_swap _ g _ _ _ _))⟩
              · have hj4 : ¬ J2 = I2 := fun h => heq h.symm
                go_region
                all_goals
                  go_wp2_with fail
                  go_meet
                  exact ⟨HSW.out _ (show RwU (wc.drew) g cap dk from HRs.out), grow_tr HGs.out (grow_tr (grow_drewN _ 1 _) (grow_swap _ g _ _ _ _))⟩
            case rest =>
              obtain ⟨rr, rg⟩ := hcut
              clear HRs HGs
              have HRs := Lib.hid rr
              have HGs := Lib.hid rg
              clear rr rg
              go_wp2_with fail
              go_roundg (J2 - 1 + 1 - (I2 + 1))
              case measure => omega
              case rel => exact ⟨I2 + 1, J2 - 1, dn, rfl, by go_num, by congr 1; omega, by omega, by omega, by omega, HSN.out, HRs.out, HGs.out, by rw [← HNEW.out]; exact HE.out⟩
end Go.Proofs.Ytkdjefnnhanhhaa
