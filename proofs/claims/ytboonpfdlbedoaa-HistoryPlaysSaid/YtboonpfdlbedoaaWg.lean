/- Walks over firkinlaw19: HistoryPlays. (Printed by a program.) -/
import Derived.Test.YtboonpfdlbedoaaWf
namespace Go.Proofs.Ytboonpfdlbedoaa.Qv
open Go Go.RowKit Go.Mem Go.Hs Go.Proofs Go.Proofs.Ytboonpfdlbedoaa
set_option linter.unusedVariables false

/-- No set is empty. -/
def NE (n : Nat) (V R : Nat → List Nat) : Prop := ∀ i, i < n → V i ≠ [] ∧ R i ≠ []
section
variable {n i v : Nat} {V R : Nat → List Nat}
theorem ins_ne (v : Nat) (S : List Nat) : ins v S ≠ [] := fun e => by
  have h : v ∈ ins v S := mem_ins.2 (.inl rfl)
  rw [e] at h
  cases h
theorem ne_updf {S : List Nat} (h : ∀ i, i < n → V i ≠ []) (hS : S ≠ []) : ∀ j, j < n → updf V i S j ≠ [] := fun j hj => by
  unfold updf
  split
  · exact hS
  · exact h j hj
theorem ne_write (h : NE n V R) (fc : Bool) : NE n (updf V i [v]) (Rw fc R i v) := fun j hj => by
  refine ⟨ne_updf (fun j hj => (h j hj).1) (by simp) j hj, ?_⟩
  unfold Rw
  split
  · exact ne_updf (fun j hj => (h j hj).2) (by simp) j hj
  · exact ne_updf (fun j hj => (h j hj).2) (ins_ne _ _) j hj
theorem ne_begin (h : NE n V R) : NE n (updf V i (ins v (V i))) (updf R i (ins v (R i))) := fun j hj =>
  ⟨ne_updf (fun j hj => (h j hj).1) (ins_ne _ _) j hj, ne_updf (fun j hj => (h j hj).2) (ins_ne _ _) j hj⟩
theorem ne_read (h : NE n V R) : NE n (rdV V i v) R := fun j hj => by
  refine ⟨?_, (h j hj).2⟩
  unfold rdV
  split
  · exact ne_updf (fun j hj => (h j hj).1) (by simp) j hj
  · exact (h j hj).1
end
theorem rd_nil (w : World) : Rd .u64 w (.slice none 0 0) [] := ⟨none, 0, rfl, Nat.le_refl _, by unfold maxLen; omega, fun j hj => absurd hj (Nat.not_lt_zero j)⟩

set_option maxRecDepth 100000 in
set_option maxHeartbeats 25600000 in
theorem plays_any (z : Int) (a : Option Addr) (len cap : Nat) (l : List HOp) (w : World) (hzw : (Lit.int .i64 z).wf = true) (h : OpR w a len cap l) :
    Calls Try.prog 3 #[.int .i64 z, .slice a len cap] w fun e w' => e = .returned (.bool true) ∧ Below w.heap.size w w' := by
  have l0 : (len : Int) ≤ 9223372036854775807 := by have := h.2.1; have := h.2.2.1; unfold maxLen at this; omega
  have l1 : (len : Int) ≤ (cap : Int) := by have := h.2.1; omega
  have l2 : (cap : Int) ≤ 9223372036854775807 := by have := h.2.2.1; unfold maxLen at this; omega
  have HR := Lib.hid h
  clear h hzw
  by_cases hbad : z < 1 ∨ 4096 < z
  · have HN := Lib.hid (fun w => hnew_bad z w hbad)
    have HQ := Lib.hid (fun w => rnew_bad z w hbad)
    clear hbad
    go_enter Try.func3, Try.ntmps3
    go_wp2_with fail
    refine (awakeH_any _).mono ?_
    rintro e w1 ⟨rfl, b1⟩
    have B1 := Lib.hid b1
    clear b1
    go_wp2_with fail
    refine (HN.out _).mono ?_
    rintro e w2 ⟨rfl, rfl⟩
    go_wp2_with fail
    refine (HQ.out _).mono ?_
    rintro e w2 ⟨rfl, rfl⟩
    go_wp2_with fail
    go_ret
    exact ⟨by simp, B1.out⟩
  · obtain ⟨n, rfl⟩ : ∃ n : Nat, z = (n : Nat) := ⟨z.toNat, by omega⟩
    have hn1 : 1 ≤ n := by omega
    have hn2 : n ≤ 4096 := by omega
    clear hbad
    go_enter Try.func3, Try.ntmps3
    go_wp2_with fail
    refine (awakeH_any _).mono ?_
    rintro e w1 ⟨rfl, b1⟩
    have B1 := Lib.hid b1
    have hb1 : w.heap.size ≤ w1.heap.size := b1.size
    clear b1
    go_wp2_with fail
    refine (new_any n w1 hn1 hn2).mono ?_
    rintro e w2 ⟨rfl, ⟨gl, gcap, bv, br, m2⟩, b2⟩
    have M2 := Lib.hid m2
    have B2 := Lib.hid b2
    clear m2 b2
    go_wp2_with fail
    refine (rnew_any n w2 hn1 hn2).mono ?_
    rintro e w3 ⟨rfl, ⟨sv, sr, vv, rr, m3⟩, b3⟩
    obtain ⟨gv, cv, gr, cr, hrf⟩ := m3.done (Q := fun j => w2.heap.size ≤ j) hn1 (fun j hj => hj)
    have j3 := Joint.start M2.out b3 (Nat.le_refl _) hrf
    obtain ⟨p, hp⟩ : ∃ p, w1.heap.size = p := ⟨_, rfl⟩
    obtain ⟨q, hq⟩ : ∃ q, w2.heap.size = q := ⟨_, rfl⟩
    have BW := Lib.hid (B1.out.trans ((B2.out.mono hb1).trans (b3.mono (Nat.le_trans hb1 B2.out.size))))
    rw [hp] at j3 hb1 ⊢
    rw [hq] at j3 ⊢
    obtain ⟨X, hX⟩ : ∃ X : Nat → Prop, X = fun j => p ≤ j := ⟨_, rfl⟩
    have HXN := Lib.hid (show ∀ j, j < w.heap.size → ¬ X j from fun j hj hx => by rw [hX] at hx; have hx' : p ≤ j := hx; omega)
    have HXU := Lib.hid (show ∀ j, p ≤ j → X j from fun j hj => by rw [hX]; exact hj)
    have hps : p ≤ w3.heap.size := by have := B2.out.size; have := b3.size; omega
    have J3 := Lib.hid (show Joint X w3 p q n 1 (fun _ => [0]) (fun _ => [0]) (fun _ => [0]) (fun _ => [0]) from by rw [hX]; exact j3)
    clear j3 hX hrf m3 b3 B1 B2 M2 hp hq
    go_wp2_with fail
    go_loopg [10] 150 (fun gk x wr => ∃ (I : Nat) (V R : Nat → List Nat), I + gk = 150 ∧ x = .int .i64 (I : Nat) ∧ NE n V R ∧ Joint X wr p q n (1 + I) V R V R ∧ Off X w3 wr)
    case atStart => exact ⟨0, _, _, rfl, rfl, fun i _ => ⟨by simp, by simp⟩, J3.out, Off.refl _ _⟩
    case round =>
      clear J3
      obtain ⟨I, V, R, hI, rfl, hne, hj, ho⟩ := hrel
      have HNE := Lib.hid hne
      have HJ := Lib.hid hj
      have HO := Lib.hid ho
      clear hne hj ho
      obtain ⟨gk0, rfl⟩ : ∃ V, V = gk := ⟨_, rfl⟩
      obtain ⟨wo, rfl⟩ : ∃ W, W = wr := ⟨_, rfl⟩
      by_cases hlt : I < len ∧ I < 150
      · obtain ⟨hl1, hl2⟩ := hlt
        have i1 : (I : Int) < (len : Int) := by omega
        have i2 : (I : Int) < 150 := by omega
        have i0 : (0 : Int) ≤ (I : Int) := by omega
        obtain ⟨g, o, rfl, x1, x2, x3⟩ := ((HR.out.below (BW.out.trans (HO.out.below BW.out.size HXN.out))).2.2.2.2 I hl1)
        obtain ⟨k0, s0, v0, hk, hs, hvv⟩ : ∃ k s v, (l.getD I HOp.zero).kind = k ∧ (l.getD I HOp.zero).sector = s ∧ (l.getD I HOp.zero).value = v := ⟨_, _, _, rfl, rfl, rfl⟩
        rw [hk] at x1
        rw [hs] at x2
        rw [hvv] at x3
        have hfit := fitR HR.out hl1
        unfold HOp.Fit at hfit
        rw [hk, hs, hvv] at hfit
        have HFK := Lib.hid hfit.1
        have hfv := hfit.2.2
        have hle1 := absH_le hfit.1
        clear hvv hk hs hfit
        obtain ⟨wa, hwa⟩ : ∃ W, wo.alloc (.cells #[.int .i64 k0, .int .i64 s0, .int .u64 (v0 : Nat)] 33) = W := ⟨_, rfl⟩
        have hbl : Below wo.heap.size wo wa := by rw [← hwa]; exact (Below.refl _ _).alloc (Nat.le_refl _) _
        have hbx : wa.heap[wo.heap.size]? = some (.cells #[.int .i64 k0, .int .i64 s0, .int .u64 (v0 : Nat)] 33 (0, 0)) := by rw [← hwa]; exact alloc_new wo _
        obtain ⟨bx, hbxe⟩ : ∃ b, wo.heap.size = b := ⟨_, rfl⟩
        have HBE := Lib.hid hbxe
        rw [hbxe] at hbx
        have hbs : bx < wa.heap.size := lt_at hbx
        obtain ⟨X', hX'⟩ : ∃ X' : Nat → Prop, X' = fun j => X j ∧ j ≠ bx := ⟨_, rfl⟩
        have HX1 := Lib.hid (show ∀ j, X' j → X j from fun j hj => by rw [hX'] at hj; exact hj.1)
        have HXB := Lib.hid (show ¬ X' bx from fun hj => by rw [hX'] at hj; exact hj.2 rfl)
        have JA := Lib.hid (show Joint X' wa p q n (1 + I) V R V R from HJ.out.imp hbl (fun j h1 h2 => by rw [hX']; exact ⟨h2, by omega⟩) (fun j hj => by rw [hX']; exact ⟨HJ.out.up j (by have := hbl.size; omega), by omega⟩))
        have OA := Lib.hid (HO.out.trans (Off.of_below hbl))
        have HBX := Lib.hid hbx
        have HWA := Lib.hid hwa
        clear hwa hbx hbl hbxe hX' HJ HO
        obtain ⟨ka, hka⟩ : ∃ ka, absH k0 = ka := ⟨_, rfl⟩
        rw [hka] at hle1
        have HKA := Lib.hid hka
        clear hka
        go_wp2_with (fail)
        rw [HWA.out]
        try rw [HBE.out]
        refine (absH_any k0 wa HFK.out).mono ?_
        rintro e wq ⟨rfl, rfl⟩
        rw [HKA.out]
        have y2 := cell_at HBX.out 2
        clear HWA HBE x1 x2 x3
        have JD := Lib.hid (JA.out.below ((Below.refl wa.heap.size wa).drew))
        have OD := Lib.hid ((Off.refl X' wa).drew)
        by_cases hrng : 0 ≤ s0 ∧ s0 < (n : Int)
        · obtain ⟨i, rfl⟩ : ∃ i : Nat, s0 = (i : Nat) := ⟨s0.toNat, by omega⟩
          have hi : i < n := by omega
          obtain ⟨⟨q1, q2⟩, q3, q4⟩ := JA.out.sets hi
          have HSV := Lib.hid (And.intro q1 (show (V i).length ≤ 100000 by omega))
          have HSR := Lib.hid (And.intro q3 (show (R i).length ≤ 100000 by omega))
          clear q1 q2 q3 q4 hrng
          go_upto_block 2 with (fail)
          go_cut [13] from 65 to 128 (fun v13 wx => v13 = .bool true ∧ ∃ V' R' : Nat → List Nat, NE n V' R' ∧ Joint X' wx p q n (1 + (I + 1)) V' R' V' R' ∧ Off X' wa wx)
          case first =>
            have h9 : (ka : Int) % 9 = 0 ∨ (ka : Int) % 9 = 1 ∨ (ka : Int) % 9 = 2 ∨ (ka : Int) % 9 = 3 ∨ (ka : Int) % 9 = 4 ∨ (ka : Int) % 9 = 5 ∨ (ka : Int) % 9 = 6 ∨ (ka : Int) % 9 = 7 ∨ (ka : Int) % 9 = 8 := by omega
            rcases h9 with h9 | h9 | h9 | h9 | h9 | h9 | h9 | h9 | h9
            · go_wp2_with (fail)
              go_region_held3 (fun w' => w'.cell? ⟨bx, 2, none⟩ = some (.int .u64 (v0 : Nat)))
                (first | exact y2 | exact u2 | exact t2)
                (first
                | (go_at_call 11; refine (jm_write JD.out hi hfv (by omega) false).mono ?_; rintro e w5 ⟨rfl, j5, o5⟩; have J5 := Lib.hid j5; have O5 := Lib.hid (OD.out.trans o5); have hb5 : bx < w5.heap.size := Nat.lt_of_lt_of_le hbs o5.size; have u2 : w5.cell? ⟨bx, 2, none⟩ = some (.int .u64 (v0 : Nat)) := (o5.cell (p := ⟨bx, 2, none⟩) hbs HXB.out).trans y2; clear j5 o5)
                | (go_at_call 12; refine (jr_write J5.out hi hfv HSR.out.1 HSR.out.2 false).mono ?_; rintro e w6 ⟨rfl, j6, o6⟩; have J6 := Lib.hid j6; have O6 := Lib.hid (O5.out.trans o6); have t2 : w6.cell? ⟨bx, 2, none⟩ = some (.int .u64 (v0 : Nat)) := (o6.cell (p := ⟨bx, 2, none⟩) hb5 HXB.out).trans u2; clear j6 o6)
                | fail)
              all_goals
                go_wp2_with (fail)
                go_meet
                exact ⟨by simp, _, _, ne_write HNE.out false, J6.out.more (by omega), O6.out⟩
            · go_wp2_with (fail)
              go_region_held3 (fun w' => w'.cell? ⟨bx, 2, none⟩ = some (.int .u64 (v0 : Nat)))
                (first | exact y2 | exact u2 | exact t2)
                (first
                | (go_at_call 11; refine (jm_write JD.out hi hfv (by omega) false).mono ?_; rintro e w5 ⟨rfl, j5, o5⟩; have J5 := Lib.hid j5; have O5 := Lib.hid (OD.out.trans o5); have hb5 : bx < w5.heap.size := Nat.lt_of_lt_of_le hbs o5.size; have u2 : w5.cell? ⟨bx, 2, none⟩ = some (.int .u64 (v0 : Nat)) := (o5.cell (p := ⟨bx, 2, none⟩) hbs HXB.out).trans y2; clear j5 o5)
                | (go_at_call 12; refine (jr_write J5.out hi hfv HSR.out.1 HSR.out.2 false).mono ?_; rintro e w6 ⟨rfl, j6, o6⟩; have J6 := Lib.hid j6; have O6 := Lib.hid (O5.out.trans o6); have t2 : w6.cell? ⟨bx, 2, none⟩ = some (.int .u64 (v0 : Nat)) := (o6.cell (p := ⟨bx, 2, none⟩) hb5 HXB.out).trans u2; clear j6 o6)
                | fail)
              all_goals
                go_wp2_with (fail)
                go_meet
                exact ⟨by simp, _, _, ne_write HNE.out false, J6.out.more (by omega), O6.out⟩
            · go_wp2_with (fail)
              go_region_held3 (fun w' => w'.cell? ⟨bx, 2, none⟩ = some (.int .u64 (v0 : Nat)))
                (first | exact y2 | exact u2 | exact t2)
                (first
                | (go_at_call 11; refine (jm_write JD.out hi hfv (by omega) true).mono ?_; rintro e w5 ⟨rfl, j5, o5⟩; have J5 := Lib.hid j5; have O5 := Lib.hid (OD.out.trans o5); have hb5 : bx < w5.heap.size := Nat.lt_of_lt_of_le hbs o5.size; have u2 : w5.cell? ⟨bx, 2, none⟩ = some (.int .u64 (v0 : Nat)) := (o5.cell (p := ⟨bx, 2, none⟩) hbs HXB.out).trans y2; clear j5 o5)
                | (go_at_call 12; refine (jr_write J5.out hi hfv HSR.out.1 HSR.out.2 true).mono ?_; rintro e w6 ⟨rfl, j6, o6⟩; have J6 := Lib.hid j6; have O6 := Lib.hid (O5.out.trans o6); have t2 : w6.cell? ⟨bx, 2, none⟩ = some (.int .u64 (v0 : Nat)) := (o6.cell (p := ⟨bx, 2, none⟩) hb5 HXB.out).trans u2; clear j6 o6)
                | fail)
              all_goals
                go_wp2_with (fail)
                go_meet
                exact ⟨by simp, _, _, ne_write HNE.out true, J6.out.more (by omega), O6.out⟩
            · go_wp2_with (fail)
              go_region_held3 (fun w' => w'.cell? ⟨bx, 2, none⟩ = some (.int .u64 (v0 : Nat)))
                (first | exact y2 | exact u2 | exact t2)
                (first
                | (go_at_call 13; refine (jm_begin JD.out hi hfv (by omega)).mono ?_; rintro e w5 ⟨rfl, j5, o5⟩; have J5 := Lib.hid j5; have O5 := Lib.hid (OD.out.trans o5); have hb5 : bx < w5.heap.size := Nat.lt_of_lt_of_le hbs o5.size; have u2 : w5.cell? ⟨bx, 2, none⟩ = some (.int .u64 (v0 : Nat)) := (o5.cell (p := ⟨bx, 2, none⟩) hbs HXB.out).trans y2; clear j5 o5)
                | (go_at_call 14; refine (jr_begin J5.out hi hfv HSV.out.1 HSR.out.1 HSV.out.2 HSR.out.2).mono ?_; rintro e w6 ⟨rfl, j6, o6⟩; have J6 := Lib.hid j6; have O6 := Lib.hid (O5.out.trans o6); have t2 : w6.cell? ⟨bx, 2, none⟩ = some (.int .u64 (v0 : Nat)) := (o6.cell (p := ⟨bx, 2, none⟩) hb5 HXB.out).trans u2; clear j6 o6)
                | fail)
              all_goals
                go_wp2_with (fail)
                go_meet
                exact ⟨by simp, _, _, ne_begin HNE.out, J6.out.more (by omega), O6.out⟩
            · go_wp2_with (fail)
              refine (jm_sync JA.out).mono ?_
              rintro e w5 ⟨rfl, j5, o5⟩
              have J5 := Lib.hid j5
              have O5 := Lib.hid o5
              clear j5 o5
              go_wp2_with (fail)
              refine (jr_sync J5.out).mono ?_
              rintro e w6 ⟨rfl, j6, o6⟩
              have J6 := Lib.hid j6
              have O6 := Lib.hid (O5.out.trans o6)
              clear j6 o6
              go_wp2_with (fail)
              go_meet
              exact ⟨rfl, _, _, fun i hi => ⟨(HNE.out i hi).1, (HNE.out i hi).1⟩, J6.out.more (by omega), O6.out⟩
            · go_wp2_with (fail)
              refine (jm_cut JA.out).mono ?_
              rintro e w5 ⟨rfl, j5, o5⟩
              have J5 := Lib.hid j5
              have O5 := Lib.hid o5
              clear j5 o5
              go_wp2_with (fail)
              refine (jr_cut J5.out).mono ?_
              rintro e w6 ⟨rfl, j6, o6⟩
              have J6 := Lib.hid j6
              have O6 := Lib.hid (O5.out.trans o6)
              clear j6 o6
              go_wp2_with (fail)
              go_meet
              exact ⟨rfl, _, _, fun i hi => ⟨(HNE.out i hi).2, (HNE.out i hi).2⟩, J6.out.more (by omega), O6.out⟩
            · go_wp2_with (fail)
              go_region_held3 (fun w' => w'.cell? ⟨bx, 2, none⟩ = some (.int .u64 (v0 : Nat)))
                (first | exact y2 | exact u2 | exact t2)
                (first
                | (go_at_call 19; refine (jm_read JD.out hi hfv (by omega)).mono ?_; rintro e w5 ⟨rfl, j5, o5⟩; have J5 := Lib.hid j5; have O5 := Lib.hid (OD.out.trans o5); have hb5 : bx < w5.heap.size := Nat.lt_of_lt_of_le hbs o5.size; have u2 : w5.cell? ⟨bx, 2, none⟩ = some (.int .u64 (v0 : Nat)) := (o5.cell (p := ⟨bx, 2, none⟩) hbs HXB.out).trans y2; clear j5 o5)
                | (go_at_call 20; refine (jr_read J5.out hi hfv).mono ?_; rintro e w6 ⟨rfl, j6, o6⟩; have J6 := Lib.hid j6; have O6 := Lib.hid (O5.out.trans o6); have t2 : w6.cell? ⟨bx, 2, none⟩ = some (.int .u64 (v0 : Nat)) := (o6.cell (p := ⟨bx, 2, none⟩) hb5 HXB.out).trans u2; clear j6 o6)
                | fail)
              all_goals
                go_wp2_with (fail)
                go_meet
                exact ⟨by simp, _, _, ne_read HNE.out, J6.out.more (by omega), O6.out⟩
            · go_wp2_with (fail)
              go_region_held3 (fun w' => w'.cell? ⟨bx, 2, none⟩ = some (.int .u64 (v0 : Nat)))
                (first | exact y2 | exact u2 | exact t2)
                (first
                | (go_at_call 19; refine (jm_read JD.out hi hfv (by omega)).mono ?_; rintro e w5 ⟨rfl, j5, o5⟩; have J5 := Lib.hid j5; have O5 := Lib.hid (OD.out.trans o5); have hb5 : bx < w5.heap.size := Nat.lt_of_lt_of_le hbs o5.size; have u2 : w5.cell? ⟨bx, 2, none⟩ = some (.int .u64 (v0 : Nat)) := (o5.cell (p := ⟨bx, 2, none⟩) hbs HXB.out).trans y2; clear j5 o5)
                | (go_at_call 20; refine (jr_read J5.out hi hfv).mono ?_; rintro e w6 ⟨rfl, j6, o6⟩; have J6 := Lib.hid j6; have O6 := Lib.hid (O5.out.trans o6); have t2 : w6.cell? ⟨bx, 2, none⟩ = some (.int .u64 (v0 : Nat)) := (o6.cell (p := ⟨bx, 2, none⟩) hb5 HXB.out).trans u2; clear j6 o6)
                | fail)
              all_goals
                go_wp2_with (fail)
                go_meet
                exact ⟨by simp, _, _, ne_read HNE.out, J6.out.more (by omega), O6.out⟩
            · go_wp2_with (fail)
              go_region_held3 (fun w' => w'.cell? ⟨bx, 2, none⟩ = some (.int .u64 (v0 : Nat)))
                (first | exact y2 | exact u2 | exact t2)
                (first
                | (go_at_call 19; refine (jm_read JD.out hi hfv (by omega)).mono ?_; rintro e w5 ⟨rfl, j5, o5⟩; have J5 := Lib.hid j5; have O5 := Lib.hid (OD.out.trans o5); have hb5 : bx < w5.heap.size := Nat.lt_of_lt_of_le hbs o5.size; have u2 : w5.cell? ⟨bx, 2, none⟩ = some (.int .u64 (v0 : Nat)) := (o5.cell (p := ⟨bx, 2, none⟩) hbs HXB.out).trans y2; clear j5 o5)
                | (go_at_call 20; refine (jr_read J5.out hi hfv).mono ?_; rintro e w6 ⟨rfl, j6, o6⟩; have J6 := Lib.hid j6; have O6 := Lib.hid (O5.out.trans o6); have t2 : w6.cell? ⟨bx, 2, none⟩ = some (.int .u64 (v0 : Nat)) := (o6.cell (p := ⟨bx, 2, none⟩) hb5 HXB.out).trans u2; clear j6 o6)
                | fail)
              all_goals
                go_wp2_with (fail)
                go_meet
                exact ⟨by simp, _, _, ne_read HNE.out, J6.out.more (by omega), O6.out⟩
          case rest =>
            obtain ⟨rfl, V2, R2, hne, hj, ho⟩ := hcut
            obtain ⟨w7, rfl⟩ : ∃ W, W = wc := ⟨_, rfl⟩
            have HN2 := Lib.hid hne
            have J7 := Lib.hid hj
            have O7 := Lib.hid ho
            clear hne hj ho JA JD OD HNE
            have FIN := Lib.hid (show ∀ wr : World, Below w7.heap.size w7 wr → ∃ (I' : Nat) (V R : Nat → List Nat), I' + (gk0 - 1) = 150 ∧ Value.int .i64 ((I : Int) + 1) = .int .i64 (I' : Nat) ∧ NE n V R ∧ Joint X wr p q n (1 + I') V R V R ∧ Off X w3 wr from fun wr hb => ⟨I + 1, V2, R2, by omega, by go_num, HN2.out, J7.out.imp hb (fun j _ h => HX1.out j h) (fun j hj => HXU.out j (by have := hb.size; have := O7.out.size; have := OA.out.size; omega)), OA.out.trans ((O7.out.imp (fun j _ h => HX1.out j h)).trans (Off.of_below hb))⟩)
            clear HSV HSR
            obtain ⟨gv2, cv2, sa, sl, sc, c0, ⟨k1, k2⟩, d0, rdw⟩ := jr_view J7.out hi
            have k3 : (n : Int) ≤ (cv2 : Int) := by omega
            have k4 : (cv2 : Int) ≤ 9223372036854775807 := by unfold maxLen at k2; omega
            have k5 : (i : Int) < (n : Int) := by omega
            have k6 : (0 : Int) ≤ (i : Int) := by omega
            have RDW := Lib.hid rdw
            obtain ⟨S, hS⟩ : ∃ S, V2 i = S := ⟨_, rfl⟩
            have MAY := Lib.hid (jm_may J7.out hi (HN2.out i hi).1 (by omega))
            have INY := Lib.hid (jr_in J7.out hi)
            rw [hS] at MAY RDW
            obtain ⟨n0, hn0⟩ : ∃ n, S.length = n := ⟨_, rfl⟩
            rw [hn0] at MAY
            have HN0 := Lib.hid hn0
            clear k2 rdw hS hn0
            go_wp2_with (fail)
            refine INY.out.mono ?_
            rintro e wq ⟨rfl, rfl⟩
            go_wp2_with (fail)
            refine MAY.out.mono ?_
            rintro e w8 ⟨g8, cp, rfl, hg, how, hb8⟩
            have hcp : n0 ≤ cp ∧ cp ≤ maxLen := by obtain ⟨_, _, _, h1, h2, _⟩ := how; exact ⟨h1, h2⟩
            have k7 : (n0 : Int) ≤ (cp : Int) := by omega
            have k8 : (cp : Int) ≤ 9223372036854775807 := by have := hcp.2; unfold maxLen at this; omega
            have rd1 := how.rd
            rw [← HN0.out, map_getD, HN0.out] at rd1
            have RD1 := Lib.hid (And.intro rd1 (RDW.out.below hb8))
            have HOW := Lib.hid how
            have HB8 := Lib.hid hb8
            have HG := Lib.hid hg
            clear rd1 how hb8 hg hcp c0 d0
            go_wp2_with (fail)
            refine (rows_same _ _ S w8 RD1.out.1 RD1.out.2).mono ?_
            rintro e w9 ⟨rfl, hb9⟩
            have OW9 := Lib.hid (HOW.out.same (hb9.block g8 HOW.out.lt))
            have B79 := Lib.hid (HB8.out.trans (hb9.mono HB8.out.size))
            clear hb9
            go_wp2_with (fail)
            go_loopg [18] n0 (fun gk vk wr => ∃ (k : Nat) (f : Nat → Nat), k + gk = n0 ∧ vk = .int .i64 (k : Nat) ∧ Ow .u64 31 wr g8 n0 cp f ∧ Below w7.heap.size w7 wr)
            case atStart => exact ⟨0, _, by omega, rfl, OW9.out, B79.out⟩
            case round =>
              obtain ⟨k, f, hk, rfl, how, hb⟩ := hrel
              have HOW := Lib.hid how
              have HB := Lib.hid hb
              clear how hb
              by_cases hkn : k < n0
              · have e1 : (k : Int) < (n0 : Int) := by omega
                have e0 : (0 : Int) ≤ (k : Int) := by omega
                have x1 := HOW.out.cell hkn
                have z1 := HOW.out.free k
                go_wp2_with (fail)
                go_roundg (gk - 1)
                case measure => omega
                case rel => exact ⟨k + 1, _, by omega, by go_num, HOW.out.set k 99, HB.out.setCell (p := ⟨g8, k, none⟩) HG.out _⟩
              · have e1 : ¬ (k : Int) < (n0 : Int) := by omega
                go_wp2_with (fail)
                go_roundg (gk0 - 1)
                case measure => omega
                case rel => exact FIN.out _ HB.out
        · have hz : s0 < 0 ∨ (n : Int) ≤ s0 := by omega
          have HZ := Lib.hid hz
          clear hrng
          go_upto_block 2 with (fail)
          go_cut [13] from 65 to 128 (fun v13 wx => v13 = .bool true ∧ ∃ V' R' : Nat → List Nat, NE n V' R' ∧ Joint X' wx p q n (1 + (I + 1)) V' R' V' R' ∧ Off X' wa wx)
          case first =>
            have h9 : (ka : Int) % 9 = 0 ∨ (ka : Int) % 9 = 1 ∨ (ka : Int) % 9 = 2 ∨ (ka : Int) % 9 = 3 ∨ (ka : Int) % 9 = 4 ∨ (ka : Int) % 9 = 5 ∨ (ka : Int) % 9 = 6 ∨ (ka : Int) % 9 = 7 ∨ (ka : Int) % 9 = 8 := by omega
            rcases h9 with h9 | h9 | h9 | h9 | h9 | h9 | h9 | h9 | h9
            · go_wp2_with (fail)
              go_region_held3 (fun w' => w'.cell? ⟨bx, 2, none⟩ = some (.int .u64 (v0 : Nat)))
                (first | exact y2 | exact u2 | exact t2)
                (first
                | (go_at_call 11; refine ((jm_out JD.out hz _ _).1).mono ?_; rintro e w5 ⟨rfl, rfl⟩)
                | (go_at_call 12; refine ((jr_out JD.out hz _ _).1).mono ?_; rintro e w5 ⟨rfl, rfl⟩)
                | fail)
              all_goals
                go_wp2_with (fail)
                go_meet
                exact ⟨by simp, _, _, HNE.out, JD.out.more (by omega), OD.out⟩
            · go_wp2_with (fail)
              go_region_held3 (fun w' => w'.cell? ⟨bx, 2, none⟩ = some (.int .u64 (v0 : Nat)))
                (first | exact y2 | exact u2 | exact t2)
                (first
                | (go_at_call 11; refine ((jm_out JD.out hz _ _).1).mono ?_; rintro e w5 ⟨rfl, rfl⟩)
                | (go_at_call 12; refine ((jr_out JD.out hz _ _).1).mono ?_; rintro e w5 ⟨rfl, rfl⟩)
                | fail)
              all_goals
                go_wp2_with (fail)
                go_meet
                exact ⟨by simp, _, _, HNE.out, JD.out.more (by omega), OD.out⟩
            · go_wp2_with (fail)
              go_region_held3 (fun w' => w'.cell? ⟨bx, 2, none⟩ = some (.int .u64 (v0 : Nat)))
                (first | exact y2 | exact u2 | exact t2)
                (first
                | (go_at_call 11; refine ((jm_out JD.out hz _ _).1).mono ?_; rintro e w5 ⟨rfl, rfl⟩)
                | (go_at_call 12; refine ((jr_out JD.out hz _ _).1).mono ?_; rintro e w5 ⟨rfl, rfl⟩)
                | fail)
              all_goals
                go_wp2_with (fail)
                go_meet
                exact ⟨by simp, _, _, HNE.out, JD.out.more (by omega), OD.out⟩
            · go_wp2_with (fail)
              go_region_held3 (fun w' => w'.cell? ⟨bx, 2, none⟩ = some (.int .u64 (v0 : Nat)))
                (first | exact y2 | exact u2 | exact t2)
                (first
                | (go_at_call 13; refine ((jm_out JD.out hz _ (.bool true)).2.1).mono ?_; rintro e w5 ⟨rfl, rfl⟩)
                | (go_at_call 14; refine ((jr_out JD.out hz _ (.bool true)).2.1).mono ?_; rintro e w5 ⟨rfl, rfl⟩)
                | fail)
              all_goals
                go_wp2_with (fail)
                go_meet
                exact ⟨by simp, _, _, HNE.out, JD.out.more (by omega), OD.out⟩
            · go_wp2_with (fail)
              refine (jm_sync JA.out).mono ?_
              rintro e w5 ⟨rfl, j5, o5⟩
              have J5 := Lib.hid j5
              have O5 := Lib.hid o5
              clear j5 o5
              go_wp2_with (fail)
              refine (jr_sync J5.out).mono ?_
              rintro e w6 ⟨rfl, j6, o6⟩
              have J6 := Lib.hid j6
              have O6 := Lib.hid (O5.out.trans o6)
              clear j6 o6
              go_wp2_with (fail)
              go_meet
              exact ⟨rfl, _, _, fun i hi => ⟨(HNE.out i hi).1, (HNE.out i hi).1⟩, J6.out.more (by omega), O6.out⟩
            · go_wp2_with (fail)
              refine (jm_cut JA.out).mono ?_
              rintro e w5 ⟨rfl, j5, o5⟩
              have J5 := Lib.hid j5
              have O5 := Lib.hid o5
              clear j5 o5
              go_wp2_with (fail)
              refine (jr_cut J5.out).mono ?_
              rintro e w6 ⟨rfl, j6, o6⟩
              have J6 := Lib.hid j6
              have O6 := Lib.hid (O5.out.trans o6)
              clear j6 o6
              go_wp2_with (fail)
              go_meet
              exact ⟨rfl, _, _, fun i hi => ⟨(HNE.out i hi).2, (HNE.out i hi).2⟩, J6.out.more (by omega), O6.out⟩
            · go_wp2_with (fail)
              go_region_held3 (fun w' => w'.cell? ⟨bx, 2, none⟩ = some (.int .u64 (v0 : Nat)))
                (first | exact y2 | exact u2 | exact t2)
                (first
                | (go_at_call 19; refine ((jm_out JD.out hz _ (.bool true)).2.2.1).mono ?_; rintro e w5 ⟨rfl, rfl⟩)
                | (go_at_call 20; refine ((jr_out JD.out hz _ (.bool true)).2.2.1).mono ?_; rintro e w5 ⟨rfl, rfl⟩)
                | fail)
              all_goals
                go_wp2_with (fail)
                go_meet
                exact ⟨by simp, _, _, HNE.out, JD.out.more (by omega), OD.out⟩
            · go_wp2_with (fail)
              go_region_held3 (fun w' => w'.cell? ⟨bx, 2, none⟩ = some (.int .u64 (v0 : Nat)))
                (first | exact y2 | exact u2 | exact t2)
                (first
                | (go_at_call 19; refine ((jm_out JD.out hz _ (.bool true)).2.2.1).mono ?_; rintro e w5 ⟨rfl, rfl⟩)
                | (go_at_call 20; refine ((jr_out JD.out hz _ (.bool true)).2.2.1).mono ?_; rintro e w5 ⟨rfl, rfl⟩)
                | fail)
              all_goals
                go_wp2_with (fail)
                go_meet
                exact ⟨by simp, _, _, HNE.out, JD.out.more (by omega), OD.out⟩
            · go_wp2_with (fail)
              go_region_held3 (fun w' => w'.cell? ⟨bx, 2, none⟩ = some (.int .u64 (v0 : Nat)))
                (first | exact y2 | exact u2 | exact t2)
                (first
                | (go_at_call 19; refine ((jm_out JD.out hz _ (.bool true)).2.2.1).mono ?_; rintro e w5 ⟨rfl, rfl⟩)
                | (go_at_call 20; refine ((jr_out JD.out hz _ (.bool true)).2.2.1).mono ?_; rintro e w5 ⟨rfl, rfl⟩)
                | fail)
              all_goals
                go_wp2_with (fail)
                go_meet
                exact ⟨by simp, _, _, HNE.out, JD.out.more (by omega), OD.out⟩
          case rest =>
            obtain ⟨rfl, V2, R2, hne, hj, ho⟩ := hcut
            obtain ⟨w7, rfl⟩ : ∃ W, W = wc := ⟨_, rfl⟩
            have HN2 := Lib.hid hne
            have J7 := Lib.hid hj
            have O7 := Lib.hid ho
            clear hne hj ho JA JD OD HNE
            have FIN := Lib.hid (show ∀ wr : World, Below w7.heap.size w7 wr → ∃ (I' : Nat) (V R : Nat → List Nat), I' + (gk0 - 1) = 150 ∧ Value.int .i64 ((I : Int) + 1) = .int .i64 (I' : Nat) ∧ NE n V R ∧ Joint X wr p q n (1 + I') V R V R ∧ Off X w3 wr from fun wr hb => ⟨I + 1, V2, R2, by omega, by go_num, HN2.out, J7.out.imp hb (fun j _ h => HX1.out j h) (fun j hj => HXU.out j (by have := hb.size; have := O7.out.size; have := OA.out.size; omega)), OA.out.trans ((O7.out.imp (fun j _ h => HX1.out j h)).trans (Off.of_below hb))⟩)
            have MAY := Lib.hid ((jm_out J7.out HZ.out (.bool true) (.bool true)).2.2.2)
            have INY := Lib.hid ((jr_out J7.out HZ.out (.bool true) (.bool true)).2.2.2)
            clear hz
            go_wp2_with (fail)
            refine INY.out.mono ?_
            rintro e wq ⟨rfl, rfl⟩
            go_wp2_with (fail)
            refine MAY.out.mono ?_
            rintro e wq ⟨rfl, rfl⟩
            go_wp2_with (fail)
            refine (rows_same _ _ [] w7 (rd_nil _) (rd_nil _)).mono ?_
            rintro e w9 ⟨rfl, hb9⟩
            have B79 := Lib.hid hb9
            clear hb9
            go_wp2_with (fail)
            go_loopg [18] 0 (fun gk vk wr => vk = .int .i64 0 ∧ Below w7.heap.size w7 wr)
            case atStart => exact ⟨rfl, B79.out⟩
            case round =>
              obtain ⟨rfl, hb⟩ := hrel
              have HB := Lib.hid hb
              clear hb
              go_wp2_with (fail)
              go_roundg (gk0 - 1)
              case measure => omega
              case rel => exact FIN.out _ HB.out
      · have BF := Lib.hid (BW.out.trans (HO.out.below BW.out.size HXN.out))
        have hd : ¬ I < 150 ∨ ¬ I < len := by omega
        rcases hd with hd | hd
        · have i2 : ¬ (I : Int) < 150 := by omega
          by_cases hd2 : I < len
          · have i3 : (I : Int) < (len : Int) := by omega
            go_wp2_with (fail)
            go_ret
            exact ⟨rfl, BF.out⟩
          · have i3 : ¬ (I : Int) < (len : Int) := by omega
            go_wp2_with (fail)
            go_ret
            exact ⟨rfl, BF.out⟩
        · have i3 : ¬ (I : Int) < (len : Int) := by omega
          go_wp2_with (fail)
          go_ret
          exact ⟨rfl, BF.out⟩
end Go.Proofs.Ytboonpfdlbedoaa.Qv
