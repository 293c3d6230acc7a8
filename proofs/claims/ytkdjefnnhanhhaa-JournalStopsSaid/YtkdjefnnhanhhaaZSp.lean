/- Walks over slices: partitionOrdered at numbers. (Printed by a program.) -/
import Derived.Test.YtkdjefnnhanhhaaZSo
import Derived.Deep.CutBlock
import Derived.Sort.WalkC4
set_option linter.unusedVariables false
namespace Go.Proofs.Ytkdjefnnhanhhaa
open Go Go.RowKit Go.Mem Go.Sort
set_option linter.unusedVariables false

set_option maxRecDepth 100000 in
set_option maxHeartbeats 12800000 in
theorem part_any (g cap a b pivot : Nat) (d : Array Nat) (w : World) (h : RwU w g cap d) (hap : a ≤ pivot) (hpb : pivot < b) (hb : b ≤ d.size) (hsz : d.size ≤ 1000000000) :
    Calls Try.prog 69 #[.slice (some ⟨g, 0, none⟩) d.size cap, .int .i64 (a : Nat), .int .i64 (b : Nat), .int .i64 (pivot : Nat)] w fun e w' => e = .returned (.tuple #[.int .i64 ((partition ltN d a b pivot).1 : Nat), .bool (partition ltN d a b pivot).2.1]) ∧ RwU w' g cap (partition ltN d a b pivot).2.2 ∧ w.grownBy w' (some g) := by
  obtain ⟨N, hN⟩ : ∃ N, d.size = N := ⟨_, rfl⟩
  have hca : N ≤ cap ∧ cap ≤ maxLen := by obtain ⟨_, _, _, h1, h2, _⟩ := h; exact ⟨by omega, h2⟩
  have hc1 : (N : Int) ≤ (cap : Int) := by omega
  have hc2 : (cap : Int) ≤ 9223372036854775807 := by have := hca.2; unfold maxLen at this; omega
  have HRs := Lib.hid h
  have HGs := Lib.hid (show w.grownBy w (some g) from ((Below.refl w.heap.size w)).toGrown _)
  have HN := Lib.hid hN
  rw [hN] at hb hsz ⊢
  clear h hN hca
  obtain ⟨R, hR⟩ : ∃ R, partition ltN d a b pivot = R := ⟨_, rfl⟩
  rw [hR]
  have HRES := Lib.hid hR
  clear hR
  go_enter Try.func69, Try.ntmps69
  go_wp2_with fail
  obtain ⟨dk, hnew⟩ : ∃ D, swp d a pivot = D := ⟨_, rfl⟩
  have HNEW := Lib.hid hnew
  have HSN := Lib.hid (show dk.size = N from by rw [← hnew, swp_size]; exact HN.out)
  clear hnew
  go_cut [] from 12 to 25 (fun wx => RwU wx g cap dk ∧ w.grownBy wx (some g))
  case first =>
    have m1 : a < d.size := by rw [HN.out]; omega
    have m2 : pivot < d.size := by rw [HN.out]; omega
    have x1 : (a : Int) < (N : Int) := by omega
    have x2 : (pivot : Int) < (N : Int) := by omega
    have M12 := Lib.hid (And.intro m1 m2)
    have c1 := HRs.out.cell (j := a) m1
    have c2 := HRs.out.cell (j := pivot) m2
    have z1 := HRs.out.free a
    have z2 := HRs.out.free pivot
    clear m1 m2
    obtain ⟨x, hx⟩ : ∃ x, d[a]! = x := ⟨_, rfl⟩
    obtain ⟨y, hy⟩ : ∃ y, d[pivot]! = y := ⟨_, rfl⟩
    have HXY := Lib.hid (And.intro hx hy)
    rw [hx] at c1
    rw [hy] at c2
    have HEQ := Lib.hid (show a = pivot → x = y from fun h => by rw [← hx, ← hy, h])
    clear hx hy
    have hsw := fun wx (hwx : RwU wx g cap d) => RwU.swap hwx (j := a) (k := pivot) M12.out.1 M12.out.2
    rw [HXY.out.1, HXY.out.2, HNEW.out] at hsw
    have HSW := Lib.hid hsw
    clear hsw
    by_cases heq : a = pivot
    · have hxy := HEQ.out heq
      subst hxy
      subst heq
      clear c2 z2 x2 HEQ HXY
      go_region
      all_goals
        go_wp2_with fail
        go_meet
        exact ⟨HSW.out _ (show RwU (w.drew) g cap d from HRs.out), grow_tr HGs.out (grow_tr (grow_drewN _ 1 _) (grow_swap _ g _ _ _ _))⟩
    · have hj4 : ¬ pivot = a := fun h => heq h.symm
      go_region
      all_goals
        go_wp2_with fail
        go_meet
        exact ⟨HSW.out _ (show RwU (w.drew) g cap d from HRs.out), grow_tr HGs.out (grow_tr (grow_drewN _ 1 _) (grow_swap _ g _ _ _ _))⟩
  case rest =>
    have HSK := HSN
    have HDK := HNEW
    clear HSN HNEW
    obtain ⟨rr, rg⟩ := hcut
    clear HRs HGs
    have HRs := Lib.hid rr
    have HGs := Lib.hid rg
    clear rr rg
    obtain ⟨i, hi⟩ : ∃ i, a + 1 = i := ⟨_, rfl⟩
    obtain ⟨j, hj⟩ : ∃ j, b - 1 = j := ⟨_, rfl⟩
    have hi1 : (a : Int) + 1 = (i : Nat) := by omega
    have hj1 : (b : Int) - 1 = (j : Nat) := by omega
    obtain ⟨pv, hpv⟩ : ∃ x, dk[a]! = x := ⟨_, rfl⟩
    have HPV := Lib.hid hpv
    have ij : i ≤ j + 1 := by omega
    have HIJ := Lib.hid (And.intro hi.symm hj.symm)
    have ai : a < i ∧ j < b := by omega
    clear hi hj hpv
    go_upto_block 0 with fail
    obtain ⟨I2, hI2⟩ : ∃ I2, scanUp (fun x => ltN x dk[a]!) dk j i = I2 := ⟨_, rfl⟩
    have b1 : i ≤ I2 ∧ I2 ≤ j + 1 := by rw [← hI2]; exact ⟨scanUp_ge _ _ _ _, (scanUp_spec _ _ _ _ _ rfl).2.1 ij⟩
    have HI2 := Lib.hid hI2
    clear hI2
    go_cut [10] from 30 to 45 (fun vi wx => vi = .int .i64 (I2 : Nat) ∧ RwU wx g cap dk ∧ w.grownBy wx (some g))
    case first =>
      go_wp2_with fail
      go_loopg [10] (j + 1 - i) (fun gk vi wr => ∃ i2 : Nat, gk = j + 1 - i2 ∧ i ≤ i2 ∧ i2 ≤ j + 1 ∧ vi = .int .i64 (i2 : Nat) ∧ RwU wr g cap dk ∧ w.grownBy wr (some g) ∧ scanUp (fun x => ltN x dk[a]!) dk j i2 = I2)
      case atStart => exact ⟨i, rfl, Nat.le_refl _, ij, rfl, HRs.out, HGs.out, HI2.out⟩
      case round =>
        obtain ⟨i2, rfl, r1, r2, rfl, rr, rg, rs⟩ := hrel
        have HRR := Lib.hid rr
        have HRG := Lib.hid rg
        have RS := Lib.hid rs
        clear rr rg rs
        by_cases hle : i2 ≤ j
        · have x1 : (i2 : Int) ≤ (j : Int) := by omega
          have x2 : (i2 : Int) < (N : Int) := by omega
          have x3 : (a : Int) < (N : Int) := by omega
          have c1 := HRR.out.cell (j := i2) (by rw [HSK.out]; omega)
          have c2 := HRR.out.cell (j := a) (by rw [HSK.out]; omega)
          have z1 := HRR.out.free i2
          have z2 := HRR.out.free a
          obtain ⟨x, hx⟩ : ∃ x, dk[i2]! = x := ⟨_, rfl⟩
          have HXX := Lib.hid hx
          rw [hx] at c1
          rw [HPV.out] at c2
          have HL := Lib.hid (fun q => less_any x pv (wr.drewN q))
          clear hx
          cases hl : ltN x pv with
          | true =>
            have HL2 := Lib.hid (fun q => by have := HL.out q; rw [hl] at this; exact this)
            have HLT := Lib.hid hl
            clear HL hl
            go_wp2_with fail
            go_quiet ((go_at_call 67; exact quiet_eq (HL2.out _)))
            go_wp2_with fail
            go_roundg (j + 1 - (i2 + 1))
            case measure => omega
            case rel => exact ⟨i2 + 1, rfl, by omega, by omega, by go_num, HRR.out, grow_tr HRG.out (grow_drewN _ _ _), (scanUp_go (fun x => ltN x dk[a]!) dk j i2 hle (by show (ltN dk[i2]! dk[a]!) = true; rw [HXX.out, HPV.out, HLT.out])).symm.trans RS.out⟩
          | false =>
            have HL2 := Lib.hid (fun q => by have := HL.out q; rw [hl] at this; exact this)
            have HLT := Lib.hid hl
            clear HL hl
            go_wp2_with fail
            go_quiet ((go_at_call 67; exact quiet_eq (HL2.out _)))
            go_wp2_with fail
            go_meet
            have e := (scanUp_end (fun x => ltN x dk[a]!) dk j i2 (Or.inr (by show (ltN dk[i2]! dk[a]!) = false; rw [HXX.out, HPV.out, HLT.out]))).symm.trans RS.out
            exact ⟨by rw [e], HRR.out, grow_tr HRG.out (grow_drewN _ _ _)⟩
        · have x1 : ¬ (i2 : Int) ≤ (j : Int) := by omega
          go_wp2_with fail
          go_quiet (fail)
          go_wp2_with fail
          go_meet
          have e := (scanUp_end (fun x => ltN x dk[a]!) dk j i2 (Or.inl hle)).symm.trans RS.out
          exact ⟨by rw [e], HRR.out, grow_tr HRG.out (grow_drewN _ _ _)⟩
    case rest =>
      obtain ⟨rfl, rr, rg⟩ := hcut
      clear HRs HGs
      have HRs := Lib.hid rr
      have HGs := Lib.hid rg
      clear rr rg
      go_upto_block 2 with fail
      obtain ⟨J2, hJ2⟩ : ∃ J2, scanDown (fun x => !ltN x dk[a]!) dk I2 j = J2 := ⟨_, rfl⟩
      have b2 : J2 ≤ j ∧ I2 ≤ J2 + 1 := by rw [← hJ2]; exact ⟨scanDown_le _ _ _ _, (scanDown_spec _ _ _ _).2.1 b1.2⟩
      have HJ2 := Lib.hid hJ2
      clear hJ2
      go_cut [11] from 46 to 62 (fun vi wx => vi = .int .i64 (J2 : Nat) ∧ RwU wx g cap dk ∧ w.grownBy wx (some g))
      case first =>
        go_wp2_with fail
        go_loopg [11] j (fun gk vi wr => ∃ j2 : Nat, j2 = gk ∧ j2 ≤ j ∧ I2 ≤ j2 + 1 ∧ vi = .int .i64 (j2 : Nat) ∧ RwU wr g cap dk ∧ w.grownBy wr (some g) ∧ scanDown (fun x => !ltN x dk[a]!) dk I2 j2 = J2)
        case atStart => exact ⟨j, rfl, Nat.le_refl _, b1.2, rfl, HRs.out, HGs.out, HJ2.out⟩
        case round =>
          obtain ⟨j2, rfl, r1, r2, rfl, rr, rg, rs⟩ := hrel
          have HRR := Lib.hid rr
          have HRG := Lib.hid rg
          have RS := Lib.hid rs
          clear rr rg rs
          by_cases hle : I2 ≤ j2
          · have x1 : (I2 : Int) ≤ (j2 : Int) := by omega
            have x2 : (j2 : Int) < (N : Int) := by omega
            have x3 : (a : Int) < (N : Int) := by omega
            have c1 := HRR.out.cell (j := j2) (by rw [HSK.out]; omega)
            have c2 := HRR.out.cell (j := a) (by rw [HSK.out]; omega)
            have z1 := HRR.out.free j2
            have z2 := HRR.out.free a
            obtain ⟨x, hx⟩ : ∃ x, dk[j2]! = x := ⟨_, rfl⟩
            have HXX := Lib.hid hx
            rw [hx] at c1
            rw [HPV.out] at c2
            have HL := Lib.hid (fun q => less_any x pv (wr.drewN q))
            clear hx
            cases hl : ltN x pv with
            | false =>
              have HL2 := Lib.hid (fun q => by have := HL.out q; rw [hl] at this; exact this)
              have HLT := Lib.hid hl
              clear HL hl
              go_wp2_with fail
              go_quiet ((go_at_call 67; exact quiet_eq (HL2.out _)))
              go_wp2_with fail
              go_roundg (j2 - 1)
              case measure => omega
              case rel => exact ⟨j2 - 1, rfl, by omega, by omega, by congr 1; omega, HRR.out, grow_tr HRG.out (grow_drewN _ _ _), (scanDown_go (fun x => !ltN x dk[a]!) dk I2 j2 hle (by omega) (by show (!ltN dk[j2]! dk[a]!) = true; rw [HXX.out, HPV.out, HLT.out]; rfl)).symm.trans RS.out⟩
            | true =>
              have HL2 := Lib.hid (fun q => by have := HL.out q; rw [hl] at this; exact this)
              have HLT := Lib.hid hl
              clear HL hl
              go_wp2_with fail
              go_quiet ((go_at_call 67; exact quiet_eq (HL2.out _)))
              go_wp2_with fail
              go_meet
              have e := (scanDown_end (fun x => !ltN x dk[a]!) dk I2 j2 (Or.inr (by show (!ltN dk[j2]! dk[a]!) = false; rw [HXX.out, HPV.out, HLT.out]; rfl))).symm.trans RS.out
              exact ⟨by rw [e], HRR.out, grow_tr HRG.out (grow_drewN _ _ _)⟩
          · have x1 : ¬ (I2 : Int) ≤ (j2 : Int) := by omega
            go_wp2_with fail
            go_quiet (fail)
            go_wp2_with fail
            go_meet
            have e := (scanDown_end (fun x => !ltN x dk[a]!) dk I2 j2 (Or.inl hle)).symm.trans RS.out
            exact ⟨by rw [e], HRR.out, grow_tr HRG.out (grow_drewN _ _ _)⟩
      case rest =>
        obtain ⟨rfl, rr, rg⟩ := hcut
        clear HRs HGs
        have HRs := Lib.hid rr
        have HGs := Lib.hid rg
        clear rr rg
        by_cases hbr : J2 < I2
        · have y1 : (J2 : Int) < (I2 : Int) := by omega
          have HFB := Lib.hid (part_first_break ltN d a b pivot (dk := dk) HIJ.out.1 HIJ.out.2 HDK.out.symm HI2.out.symm HJ2.out.symm hbr)
          have b3 : J2 < N := by omega
          go_wp2_with fail
          obtain ⟨dn, hnew⟩ : ∃ D, swp dk J2 a = D := ⟨_, rfl⟩
          have HNEW := Lib.hid hnew
          have HSN := Lib.hid (show dn.size = N from by rw [← hnew, swp_size]; exact HSK.out)
          clear hnew
          go_cut [] from 66 to 79 (fun wx => RwU wx g cap dn ∧ w.grownBy wx (some g))
          case first =>
            have m1 : J2 < dk.size := by rw [HSK.out]; omega
            have m2 : a < dk.size := by rw [HSK.out]; omega
            have x1 : (J2 : Int) < (N : Int) := by omega
            have x2 : (a : Int) < (N : Int) := by omega
            have M12 := Lib.hid (And.intro m1 m2)
            have c1 := HRs.out.cell (j := J2) m1
            have c2 := HRs.out.cell (j := a) m2
            have z1 := HRs.out.free J2
            have z2 := HRs.out.free a
            clear m1 m2
            obtain ⟨x, hx⟩ : ∃ x, dk[J2]! = x := ⟨_, rfl⟩
            obtain ⟨y, hy⟩ : ∃ y, dk[a]! = y := ⟨_, rfl⟩
            have HXY := Lib.hid (And.intro hx hy)
            rw [hx] at c1
            rw [hy] at c2
            have HEQ := Lib.hid (show J2 = a → x = y from fun h => by rw [← hx, ← hy, h])
            clear hx hy
            have hsw := fun wx (hwx : RwU wx g cap dk) => RwU.swap hwx (j := J2) (k := a) M12.out.1 M12.out.2
            rw [HXY.out.1, HXY.out.2, HNEW.out] at hsw
            have HSW := Lib.hid hsw
            clear hsw
            by_cases heq : J2 = a
            · have hxy := HEQ.out heq
              subst hxy
              subst heq
              clear c2 z2 x2 HEQ HXY
              go_region
              all_goals
                go_wp2_with fail
                go_meet
                exact ⟨HSW.out _ (show RwU (wc.drew) g cap dk from HRs.out), grow_tr HGs.out (grow_tr (grow_drewN _ 1 _) (grow_swap _ g _ _ _ _))⟩
            · have hj4 : ¬ a = J2 := fun h => heq h.symm
              go_region
              all_goals
                go_wp2_with fail
                go_meet
                exact ⟨HSW.out _ (show RwU (wc.drew) g cap dk from HRs.out), grow_tr HGs.out (grow_tr (grow_drewN _ 1 _) (grow_swap _ g _ _ _ _))⟩
          case rest =>
            obtain ⟨rr, rg⟩ := hcut
            clear HRs HGs
            have HRs := Lib.hid rr
            have HGs := Lib.hid rg
            clear rr rg
            go_wp2_with fail
            rw [← HRES.out, HFB.out]
            exact bodyPost_ret (v := .tuple #[.int .i64 (J2 : Nat), .bool true]) (by simp [results, Try.results69, go_sem]) rfl ⟨rfl, by rw [HNEW.out]; exact HRs.out, HGs.out⟩
        · have y1 : ¬ (J2 : Int) < (I2 : Int) := by omega
          have HFG := Lib.hid (part_first_go ltN d a b pivot (dk := dk) HIJ.out.1 HIJ.out.2 HDK.out.symm HI2.out.symm HJ2.out.symm (by omega))
          have hlt2 := part_scans_lt ltN a i j dk (by omega) HI2.out.symm HJ2.out.symm (by omega)
          have b3 : J2 < N ∧ I2 < N := by omega
          go_wp2_with fail
          obtain ⟨dn, hnew⟩ : ∃ D, swp dk I2 J2 = D := ⟨_, rfl⟩
          have HNEW := Lib.hid hnew
          have HSN := Lib.hid (show dn.size = N from by rw [← hnew, swp_size]; exact HSK.out)
          clear hnew
          go_cut [] from 81 to 94 (fun wx => RwU wx g cap dn ∧ w.grownBy wx (some g))
          case first =>
            have m1 : I2 < dk.size := by rw [HSK.out]; omega
            have m2 : J2 < dk.size := by rw [HSK.out]; omega
            have x1 : (I2 : Int) < (N : Int) := by omega
            have x2 : (J2 : Int) < (N : Int) := by omega
            have M12 := Lib.hid (And.intro m1 m2)
            have c1 := HRs.out.cell (j := I2) m1
            have c2 := HRs.out.cell (j := J2) m2
            have z1 := HRs.out.free I2
            have z2 := HRs.out.free J2
            clear m1 m2
            obtain ⟨x, hx⟩ : ∃ x, dk[I2]! = x := ⟨_, rfl⟩
            obtain ⟨y, hy⟩ : ∃ y, dk[J2]! = y := ⟨_, rfl⟩
            have HXY := Lib.hid (And.intro hx hy)
            rw [hx] at c1
            rw [hy] at c2
            have HEQ := Lib.hid (show I2 = J2 → x = y from fun h => by rw [← hx, ← hy, h])
            clear hx hy
            have hsw := fun wx (hwx : RwU wx g cap dk) => RwU.swap hwx (j := I2) (k := J2) M12.out.1 M12.out.2
            rw [HXY.out.1, HXY.out.2, HNEW.out] at hsw
            have HSW := Lib.hid hsw
            clear hsw
            by_cases heq : I2 = J2
            · have hxy := HEQ.out heq
              subst hxy
              subst heq
              clear c2 z2 x2 HEQ HXY
              go_region
              all_goals
                go_wp2_with fail
                go_meet
                exact ⟨HSW.out _ (show RwU (wc.drew) g cap dk from HRs.out), grow_tr HGs.out (grow_tr (grow_drewN _ 1 _) (grow_swap _ g _ _ _ _))⟩
            · have hj4 : ¬ J2 = I2 := fun h => heq h.symm
              go_region
              all_goals
                go_wp2_with fail
                go_meet
                exact ⟨HSW.out _ (show RwU (wc.drew) g cap dk from HRs.out), grow_tr HGs.out (grow_tr (grow_drewN _ 1 _) (grow_swap _ g _ _ _ _))⟩
          case rest =>
            obtain ⟨rr, rg⟩ := hcut
            clear HRs HGs
            have HRs := Lib.hid rr
            have HGs := Lib.hid rg
            clear rr rg
            go_upto_block 4 with fail
            obtain ⟨R2, hR2⟩ : ∃ R2, partLoop ltN a (I2 + 1) (J2 - 1) dn = R2 := ⟨_, rfl⟩
            have HR2 := Lib.hid hR2
            have HRR2 := Lib.hid (show R = (R2.1, false, swp R2.2 R2.1 a) from by rw [← HRES.out, HFG.out, HNEW.out, hR2])
            clear hR2
            obtain ⟨wz, hwz⟩ : ∃ wz : World, wz = wc := ⟨_, rfl⟩
            go_cut [11] from 99 to 152 (fun vj wx => ∃ (J3 : Nat) (dz : Array Nat), vj = .int .i64 (J3 : Nat) ∧ RwU wx g cap dz ∧ w.grownBy wx (some g) ∧ dz.size = N ∧ a ≤ J3 ∧ J3 < b ∧ (J3, dz) = R2)
            case first =>
              go_wp2_with fail
              go_loopg [10, 11] (J2 - 1 + 1 - (I2 + 1)) (fun gk vi vj wr => ∃ (i j : Nat) (dk : Array Nat), gk = j + 1 - i ∧ vi = .int .i64 (i : Nat) ∧ vj = .int .i64 (j : Nat) ∧ a < i ∧ i ≤ j + 1 ∧ j < b ∧ dk.size = N ∧ RwU wr g cap dk ∧ w.grownBy wr (some g) ∧ partLoop ltN a i j dk = R2)
              case atStart =>
                exact ⟨I2 + 1, J2 - 1, dn, rfl, by go_num, by congr 1; omega, by omega, by omega, by omega, HSN.out, HRs.out, HGs.out, HR2.out⟩
              case round =>
                obtain ⟨V, hV⟩ : ∃ V, V = gk := ⟨_, rfl⟩
                clear HI2 HJ2 HIJ HPV HDK HSK HNEW HSN HFG HR2 b1 b2 hbr y1 hlt2 b3 ij ai hi1 hj1 hwz wz
                clear HRs HGs
                obtain ⟨i, j, dk, hgk, rfl, rfl, ai, ij, jb, hsk, rr, rg, hO⟩ := hrel
                have HSK := Lib.hid hsk
                have HRs := Lib.hid rr
                have HGs := Lib.hid rg
                have HO := Lib.hid hO
                obtain ⟨pv, hpv⟩ : ∃ x, dk[a]! = x := ⟨_, rfl⟩
                have HPV := Lib.hid hpv
                clear hsk rr rg hO hpv
                have hgk' := hgk
                go_upto_block 6 with fail
                obtain ⟨I2, hI2⟩ : ∃ I2, scanUp (fun x => ltN x dk[a]!) dk j i = I2 := ⟨_, rfl⟩
                have b1 : i ≤ I2 ∧ I2 ≤ j + 1 := by rw [← hI2]; exact ⟨scanUp_ge _ _ _ _, (scanUp_spec _ _ _ _ _ rfl).2.1 ij⟩
                have HI2 := Lib.hid hI2
                clear hI2
                go_cut [10] from 99 to 114 (fun vi wx => vi = .int .i64 (I2 : Nat) ∧ RwU wx g cap dk ∧ w.grownBy wx (some g))
                case first =>
                  go_wp2_with fail
                  go_loopg [10] (j + 1 - i) (fun gk vi wr => ∃ i2 : Nat, gk = j + 1 - i2 ∧ i ≤ i2 ∧ i2 ≤ j + 1 ∧ vi = .int .i64 (i2 : Nat) ∧ RwU wr g cap dk ∧ w.grownBy wr (some g) ∧ scanUp (fun x => ltN x dk[a]!) dk j i2 = I2)
                  case atStart => exact ⟨i, rfl, Nat.le_refl _, ij, rfl, HRs.out, HGs.out, HI2.out⟩
                  case round =>
                    obtain ⟨i2, rfl, r1, r2, rfl, rr, rg, rs⟩ := hrel
                    have HRR := Lib.hid rr
                    have HRG := Lib.hid rg
                    have RS := Lib.hid rs
                    clear rr rg rs
                    by_cases hle : i2 ≤ j
                    · have x1 : (i2 : Int) ≤ (j : Int) := by omega
                      have x2 : (i2 : Int) < (N : Int) := by omega
                      have x3 : (a : Int) < (N : Int) := by omega
                      have c1 := HRR.out.cell (j := i2) (by rw [HSK.out]; omega)
                      have c2 := HRR.out.cell (j := a) (by rw [HSK.out]; omega)
                      have z1 := HRR.out.free i2
                      have z2 := HRR.out.free a
                      obtain ⟨x, hx⟩ : ∃ x, dk[i2]! = x := ⟨_, rfl⟩
                      have HXX := Lib.hid hx
                      rw [hx] at c1
                      rw [HPV.out] at c2
                      have HL := Lib.hid (fun q => less_any x pv (wr.drewN q))
                      clear hx
                      cases hl : ltN x pv with
                      | true =>
                        have HL2 := Lib.hid (fun q => by have := HL.out q; rw [hl] at this; exact this)
                        have HLT := Lib.hid hl
                        clear HL hl
                        go_wp2_with fail
                        go_quiet ((go_at_call 67; exact quiet_eq (HL2.out _)))
                        go_wp2_with fail
                        go_roundg (j + 1 - (i2 + 1))
                        case measure => omega
                        case rel => exact ⟨i2 + 1, rfl, by omega, by omega, by go_num, HRR.out, grow_tr HRG.out (grow_drewN _ _ _), (scanUp_go (fun x => ltN x dk[a]!) dk j i2 hle (by show (ltN dk[i2]! dk[a]!) = true; rw [HXX.out, HPV.out, HLT.out])).symm.trans RS.out⟩
                      | false =>
                        have HL2 := Lib.hid (fun q => by have := HL.out q; rw [hl] at this; exact this)
                        have HLT := Lib.hid hl
                        clear HL hl
                        go_wp2_with fail
                        go_quiet ((go_at_call 67; exact quiet_eq (HL2.out _)))
                        go_wp2_with fail
                        go_meet
                        have e := (scanUp_end (fun x => ltN x dk[a]!) dk j i2 (Or.inr (by show (ltN dk[i2]! dk[a]!) = false; rw [HXX.out, HPV.out, HLT.out]))).symm.trans RS.out
                        exact ⟨by rw [e], HRR.out, grow_tr HRG.out (grow_drewN _ _ _)⟩
                    · have x1 : ¬ (i2 : Int) ≤ (j : Int) := by omega
                      go_wp2_with fail
                      go_quiet (fail)
                      go_wp2_with fail
                      go_meet
                      have e := (scanUp_end (fun x => ltN x dk[a]!) dk j i2 (Or.inl hle)).symm.trans RS.out
                      exact ⟨by rw [e], HRR.out, grow_tr HRG.out (grow_drewN _ _ _)⟩
                case rest =>
                  obtain ⟨rfl, rr, rg⟩ := hcut
                  clear HRs HGs
                  have HRs := Lib.hid rr
                  have HGs := Lib.hid rg
                  clear rr rg
                  go_upto_block 8 with fail
                  obtain ⟨J2, hJ2⟩ : ∃ J2, scanDown (fun x => !ltN x dk[a]!) dk I2 j = J2 := ⟨_, rfl⟩
                  have b2 : J2 ≤ j ∧ I2 ≤ J2 + 1 := by rw [← hJ2]; exact ⟨scanDown_le _ _ _ _, (scanDown_spec _ _ _ _).2.1 b1.2⟩
                  have HJ2 := Lib.hid hJ2
                  clear hJ2
                  go_cut [11] from 115 to 131 (fun vi wx => vi = .int .i64 (J2 : Nat) ∧ RwU wx g cap dk ∧ w.grownBy wx (some g))
                  case first =>
                    go_wp2_with fail
                    go_loopg [11] j (fun gk vi wr => ∃ j2 : Nat, j2 = gk ∧ j2 ≤ j ∧ I2 ≤ j2 + 1 ∧ vi = .int .i64 (j2 : Nat) ∧ RwU wr g cap dk ∧ w.grownBy wr (some g) ∧ scanDown (fun x => !ltN x dk[a]!) dk I2 j2 = J2)
                    case atStart => exact ⟨j, rfl, Nat.le_refl _, b1.2, rfl, HRs.out, HGs.out, HJ2.out⟩
                    case round =>
                      obtain ⟨j2, rfl, r1, r2, rfl, rr, rg, rs⟩ := hrel
                      have HRR := Lib.hid rr
                      have HRG := Lib.hid rg
                      have RS := Lib.hid rs
                      clear rr rg rs
                      by_cases hle : I2 ≤ j2
                      · have x1 : (I2 : Int) ≤ (j2 : Int) := by omega
                        have x2 : (j2 : Int) < (N : Int) := by omega
                        have x3 : (a : Int) < (N : Int) := by omega
                        have c1 := HRR.out.cell (j := j2) (by rw [HSK.out]; omega)
                        have c2 := HRR.out.cell (j := a) (by rw [HSK.out]; omega)
                        have z1 := HRR.out.free j2
                        have z2 := HRR.out.free a
                        obtain ⟨x, hx⟩ : ∃ x, dk[j2]! = x := ⟨_, rfl⟩
                        have HXX := Lib.hid hx
                        rw [hx] at c1
                        rw [HPV.out] at c2
                        have HL := Lib.hid (fun q => less_any x pv (wr.drewN q))
                        clear hx
                        cases hl : ltN x pv with
                        | false =>
                          have HL2 := Lib.hid (fun q => by have := HL.out q; rw [hl] at this; exact this)
                          have HLT := Lib.hid hl
                          clear HL hl
                          go_wp2_with fail
                          go_quiet ((go_at_call 67; exact quiet_eq (HL2.out _)))
                          go_wp2_with fail
                          go_roundg (j2 - 1)
                          case measure => omega
                          case rel => exact ⟨j2 - 1, rfl, by omega, by omega, by congr 1; omega, HRR.out, grow_tr HRG.out (grow_drewN _ _ _), (scanDown_go (fun x => !ltN x dk[a]!) dk I2 j2 hle (by omega) (by show (!ltN dk[j2]! dk[a]!) = true; rw [HXX.out, HPV.out, HLT.out]; rfl)).symm.trans RS.out⟩
                        | true =>
                          have HL2 := Lib.hid (fun q => by have := HL.out q; rw [hl] at this; exact this)
                          have HLT := Lib.hid hl
                          clear HL hl
                          go_wp2_with fail
                          go_quiet ((go_at_call 67; exact quiet_eq (HL2.out _)))
                          go_wp2_with fail
                          go_meet
                          have e := (scanDown_end (fun x => !ltN x dk[a]!) dk I2 j2 (Or.inr (by show (!ltN dk[j2]! dk[a]!) = false; rw [HXX.out, HPV.out, HLT.out]; rfl))).symm.trans RS.out
                          exact ⟨by rw [e], HRR.out, grow_tr HRG.out (grow_drewN _ _ _)⟩
                      · have x1 : ¬ (I2 : Int) ≤ (j2 : Int) := by omega
                        go_wp2_with fail
                        go_quiet (fail)
                        go_wp2_with fail
                        go_meet
                        have e := (scanDown_end (fun x => !ltN x dk[a]!) dk I2 j2 (Or.inl hle)).symm.trans RS.out
                        exact ⟨by rw [e], HRR.out, grow_tr HRG.out (grow_drewN _ _ _)⟩
                  case rest =>
                    obtain ⟨rfl, rr, rg⟩ := hcut
                    clear HRs HGs
                    have HRs := Lib.hid rr
                    have HGs := Lib.hid rg
                    clear rr rg
                    by_cases hbr : J2 < I2
                    · have y1 : (J2 : Int) < (I2 : Int) := by omega
                      have e := part_break ltN a i j dk HI2.out.symm HJ2.out.symm hbr
                      have HE := Lib.hid (e.symm.trans HO.out)
                      clear e
                      go_wp2_with fail
                      go_meet
                      exact ⟨J2, dk, rfl, HRs.out, HGs.out, HSK.out, by omega, by omega, HE.out⟩
                    · have y1 : ¬ (J2 : Int) < (I2 : Int) := by omega
                      have HE := Lib.hid ((part_go ltN a i j dk HI2.out.symm HJ2.out.symm (by omega)).symm.trans HO.out)
                      have hlt2 := part_scans_lt ltN a i j dk (by omega) HI2.out.symm HJ2.out.symm (by omega)
                      have b3 : J2 < N ∧ I2 < N := by omega
                      go_wp2_with fail
                      obtain ⟨dn, hnew⟩ : ∃ D, swp dk I2 J2 = D := ⟨_, rfl⟩
                      have HNEW := Lib.hid hnew
                      have HSN := Lib.hid (show dn.size = N from by rw [← hnew, swp_size]; exact HSK.out)
                      clear hnew
                      go_cut [] from 135 to 148 (fun wx => RwU wx g cap dn ∧ w.grownBy wx (some g))
                      case first =>
                        have m1 : I2 < dk.size := by rw [HSK.out]; omega
                        have m2 : J2 < dk.size := by rw [HSK.out]; omega
                        have x1 : (I2 : Int) < (N : Int) := by omega
                        have x2 : (J2 : Int) < (N : Int) := by omega
                        have M12 := Lib.hid (And.intro m1 m2)
                        have c1 := HRs.out.cell (j := I2) m1
                        have c2 := HRs.out.cell (j := J2) m2
                        have z1 := HRs.out.free I2
                        have z2 := HRs.out.free J2
                        clear m1 m2
                        obtain ⟨x, hx⟩ : ∃ x, dk[I2]! = x := ⟨_, rfl⟩
                        obtain ⟨y, hy⟩ : ∃ y, dk[J2]! = y := ⟨_, rfl⟩
                        have HXY := Lib.hid (And.intro hx hy)
                        rw [hx] at c1
                        rw [hy] at c2
                        have HEQ := Lib.hid (show I2 = J2 → x = y from fun h => by rw [← hx, ← hy, h])
                        clear hx hy
                        have hsw := fun wx (hwx : RwU wx g cap dk) => RwU.swap hwx (j := I2) (k := J2) M12.out.1 M12.out.2
                        rw [HXY.out.1, HXY.out.2, HNEW.out] at hsw
                        have HSW := Lib.hid hsw
                        clear hsw
                        by_cases heq : I2 = J2
                        · have hxy := HEQ.out heq
                          subst hxy
                          subst heq
                          clear c2 z2 x2 HEQ HXY
                          go_region
                          all_goals
                            go_wp2_with fail
                            go_meet
                            exact ⟨HSW.out _ (show RwU (wc.drew) g cap dk from HRs.out), grow_tr HGs.out (grow_tr (grow_drewN _ 1 _) (grow_swap _ g _ _ _ _))⟩
                        · have hj4 : ¬ J2 = I2 := fun h => heq h.symm
                          go_region
                          all_goals
                            go_wp2_with fail
                            go_meet
                            exact ⟨HSW.out _ (show RwU (wc.drew) g cap dk from HRs.out), grow_tr HGs.out (grow_tr (grow_drewN _ 1 _) (grow_swap _ g _ _ _ _))⟩
                      case rest =>
                        obtain ⟨rr, rg⟩ := hcut
                        clear HRs HGs
                        have HRs := Lib.hid rr
                        have HGs := Lib.hid rg
                        clear rr rg
                        go_wp2_with fail
                        go_roundg (J2 - 1 + 1 - (I2 + 1))
                        case measure => omega
                        case rel => exact ⟨I2 + 1, J2 - 1, dn, rfl, by go_num, by congr 1; omega, by omega, by omega, by omega, HSN.out, HRs.out, HGs.out, by rw [← HNEW.out]; exact HE.out⟩
            case rest =>
              obtain ⟨J3, dz, rfl, rr, rg, sz, j1, j2, hz⟩ := hcut
              clear HI2 HJ2 HIJ HPV HDK HSK HNEW HSN HFG HR2 b1 b2 hbr y1 hlt2 b3 ij ai hi1 hj1 hwz wz
              clear HRs HGs
              have HRs := Lib.hid rr
              have HGs := Lib.hid rg
              have HSZ := Lib.hid sz
              have HZ := Lib.hid hz
              clear rr rg sz hz
              have b3 : J3 < N := by omega
              go_wp2_with fail
              obtain ⟨dn, hnew⟩ : ∃ D, swp dz J3 a = D := ⟨_, rfl⟩
              have HNEW := Lib.hid hnew
              have HSN := Lib.hid (show dn.size = N from by rw [← hnew, swp_size]; exact HSZ.out)
              clear hnew
              go_cut [] from 153 to 166 (fun wx => RwU wx g cap dn ∧ w.grownBy wx (some g))
              case first =>
                have m1 : J3 < dz.size := by rw [HSZ.out]; omega
                have m2 : a < dz.size := by rw [HSZ.out]; omega
                have x1 : (J3 : Int) < (N : Int) := by omega
                have x2 : (a : Int) < (N : Int) := by omega
                have M12 := Lib.hid (And.intro m1 m2)
                have c1 := HRs.out.cell (j := J3) m1
                have c2 := HRs.out.cell (j := a) m2
                have z1 := HRs.out.free J3
                have z2 := HRs.out.free a
                clear m1 m2
                obtain ⟨x, hx⟩ : ∃ x, dz[J3]! = x := ⟨_, rfl⟩
                obtain ⟨y, hy⟩ : ∃ y, dz[a]! = y := ⟨_, rfl⟩
                have HXY := Lib.hid (And.intro hx hy)
                rw [hx] at c1
                rw [hy] at c2
                have HEQ := Lib.hid (show J3 = a → x = y from fun h => by rw [← hx, ← hy, h])
                clear hx hy
                have hsw := fun wx (hwx : RwU wx g cap dz) => RwU.swap hwx (j := J3) (k := a) M12.out.1 M12.out.2
                rw [HXY.out.1, HXY.out.2, HNEW.out] at hsw
                have HSW := Lib.hid hsw
                clear hsw
                by_cases heq : J3 = a
                · have hxy := HEQ.out heq
                  subst hxy
                  subst heq
                  clear c2 z2 x2 HEQ HXY
                  go_region
                  all_goals
                    go_wp2_with fail
                    go_meet
                    exact ⟨HSW.out _ (show RwU (wc.drew) g cap dz from HRs.out), grow_tr HGs.out (grow_tr (grow_drewN _ 1 _) (grow_swap _ g _ _ _ _))⟩
                · have hj4 : ¬ a = J3 := fun h => heq h.symm
                  go_region
                  all_goals
                    go_wp2_with fail
                    go_meet
                    exact ⟨HSW.out _ (show RwU (wc.drew) g cap dz from HRs.out), grow_tr HGs.out (grow_tr (grow_drewN _ 1 _) (grow_swap _ g _ _ _ _))⟩
              case rest =>
                obtain ⟨rr, rg⟩ := hcut
                clear HRs HGs
                have HRs := Lib.hid rr
                have HGs := Lib.hid rg
                clear rr rg
                go_wp2_with fail
                rw [HRR2.out, ← HZ.out]
                exact bodyPost_ret (v := .tuple #[.int .i64 (J3 : Nat), .bool false]) (by simp [results, Try.results69, go_sem]) rfl ⟨rfl, by rw [HNEW.out]; exact HRs.out, HGs.out⟩
end Go.Proofs.Ytkdjefnnhanhhaa
