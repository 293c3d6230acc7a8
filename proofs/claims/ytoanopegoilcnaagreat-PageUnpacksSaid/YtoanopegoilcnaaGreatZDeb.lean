/- Walks over firkinref02: solve. -/
import Derived.Test.YtoanopegoilcnaaGreatJt
set_option linter.unusedVariables false
namespace Go.Proofs.YtoanopegoilcnaaGreat
open Go.RowKit Go.Mem

/-- Rows of numbers: block ga holds n slices; row r lies in block g r, is N long and reads as A r. -/
structure Mat (w : World) (ga n N : Nat) (g c : Nat → Nat) (A : Nat → Nat → Nat) : Prop where
  hd : ∃ cur, w.heap[ga]? = some (.cells cur 31 (0, 0)) ∧ ∀ r, r < n → cur[r]? = some (.slice (some ⟨g r, 0, none⟩) N (c r))
  row : ∀ r, r < n → Ow .i64 3 w (g r) N (c r) (A r)
  inj : ∀ r s, r < n → s < n → g r = g s → r = s
  ne : ∀ r, r < n → g r ≠ ga

section
variable {w : World} {ga n N : Nat} {g c : Nat → Nat} {A : Nat → Nat → Nat}
theorem Mat.hcell (h : Mat w ga n N g c A) {r : Nat} (hr : r < n) : w.cell? ⟨ga, r, none⟩ = some (.slice (some ⟨g r, 0, none⟩) N (c r)) := by
  obtain ⟨cur, h1, h2⟩ := h.hd
  rw [cell_at h1]; exact h2 r hr
theorem Mat.hfree (h : Mat w ga n N g c A) (r : Nat) : w.frozen? ⟨ga, r, none⟩ = false := by
  obtain ⟨cur, h1, _⟩ := h.hd
  exact free_at h1 r
theorem Mat.cell (h : Mat w ga n N g c A) {r j : Nat} (hr : r < n) (hj : j < N) : w.cell? ⟨g r, j, none⟩ = some (.int .i64 (A r j : Nat)) := (h.row r hr).cell hj
theorem Mat.free (h : Mat w ga n N g c A) {r : Nat} (hr : r < n) (j : Nat) : w.frozen? ⟨g r, j, none⟩ = false := (h.row r hr).free j
theorem Mat.drewN (h : Mat w ga n N g c A) (k : Nat) : Mat (w.drewN k) ga n N g c A := ⟨h.hd, h.row, h.inj, h.ne⟩
theorem Mat.congr {A' : Nat → Nat → Nat} (h : Mat w ga n N g c A) (he : ∀ r, r < n → ∀ j, j < N → A r j = A' r j) : Mat w ga n N g c A' := ⟨h.hd, fun r hr => (h.row r hr).congr (he r hr), h.inj, h.ne⟩
theorem Mat.set (h : Mat w ga n N g c A) {r : Nat} (hr : r < n) (j x : Nat) : Mat (w.setCell ⟨g r, j, none⟩ (.int .i64 (x : Nat))) ga n N g c (fun s => if s = r then upd (A r) j x else A s) := by
  refine ⟨?_, fun s hs => ?_, h.inj, h.ne⟩
  · obtain ⟨cur, h1, h2⟩ := h.hd
    exact ⟨cur, (set_other (Ne.symm (h.ne r hr))).trans h1, h2⟩
  · by_cases e : s = r
    · subst e; rw [if_pos rfl]; exact (h.row s hs).set j x
    · rw [if_neg e]; exact (h.row s hs).same (set_other (fun he => e (h.inj s r hs hr he)))
def swf {α : Type} (f : Nat → α) (i k : Nat) : Nat → α := fun r => if r = i then f k else if r = k then f i else f r
theorem Mat.swap (h : Mat w ga n N g c A) {i k : Nat} (hi : i < n) (hk : k < n) :
    Mat ((w.setCell ⟨ga, i, none⟩ (.slice (some ⟨g k, 0, none⟩) N (c k))).setCell ⟨ga, k, none⟩ (.slice (some ⟨g i, 0, none⟩) N (c i))) ga n N (swf g i k) (swf c i k) (Gf.sw A i k) := by
  have hsw : ∀ r, r < n → ∃ s, s < n ∧ swf g i k r = g s ∧ swf c i k r = c s ∧ Gf.sw A i k r = A s ∧ s = (if r = i then k else if r = k then i else r) := fun r hr => by
    unfold swf Gf.sw
    by_cases e1 : r = i
    · exact ⟨k, hk, by rw [if_pos e1], by rw [if_pos e1], by rw [if_pos e1], by rw [if_pos e1]⟩
    · by_cases e2 : r = k
      · exact ⟨i, hi, by rw [if_neg e1, if_pos e2], by rw [if_neg e1, if_pos e2], by rw [if_neg e1, if_pos e2], by rw [if_neg e1, if_pos e2]⟩
      · exact ⟨r, hr, by rw [if_neg e1, if_neg e2], by rw [if_neg e1, if_neg e2], by rw [if_neg e1, if_neg e2], by rw [if_neg e1, if_neg e2]⟩
  refine ⟨?_, fun r hr => ?_, fun r s hr hs he => ?_, fun r hr => ?_⟩
  · obtain ⟨cur, h1, h2⟩ := h.hd
    refine ⟨_, set_at (set_at h1 i _) k _, fun r hr => ?_⟩
    have hsz : ∀ s, s < n → s < cur.size := fun s hs => by
      have := h2 s hs
      exact (Array.getElem?_eq_some_iff.1 this).1
    unfold swf
    by_cases e2 : r = k
    · subst e2
      rw [Array.getElem?_setIfInBounds_self, if_pos (by simpa using hsz r hr)]
      by_cases e1 : r = i
      · subst e1; rw [if_pos rfl, if_pos rfl]
      · rw [if_neg e1, if_pos rfl, if_neg e1, if_pos rfl]
    · rw [Array.getElem?_setIfInBounds_ne (by omega)]
      by_cases e1 : r = i
      · subst e1
        rw [Array.getElem?_setIfInBounds_self, if_pos (hsz r hr), if_pos rfl, if_pos rfl]
      · rw [Array.getElem?_setIfInBounds_ne (by omega), if_neg e1, if_neg e2, if_neg e1, if_neg e2]
        exact h2 r hr
  · obtain ⟨s, hs, e1, e2, e3, _⟩ := hsw r hr
    rw [e1, e2, e3]
    exact ((h.row s hs).same (set_other (h.ne s hs))).same (set_other (h.ne s hs))
  · obtain ⟨r', hr', e1, _, _, er⟩ := hsw r hr
    obtain ⟨s', hs', e2, _, _, es⟩ := hsw s hs
    rw [e1, e2] at he
    have := h.inj r' s' hr' hs' he
    rw [er, es] at this
    split at this <;> split at this <;> (try split at this) <;> (try split at this) <;> omega
  · obtain ⟨s, hs, e1, _⟩ := hsw r hr
    rw [e1]; exact h.ne s hs
theorem Mat.below {w' : World} (h : Mat w ga n N g c A) (hb : Below w.heap.size w w') : Mat w' ga n N g c A := by
  refine ⟨?_, fun r hr => (h.row r hr).same (hb.block _ (h.row r hr).lt), h.inj, h.ne⟩
  obtain ⟨cur, h1, h2⟩ := h.hd
  exact ⟨cur, (hb.block _ (lt_at h1)).trans h1, h2⟩
theorem swf_le {B i k n : Nat} (h : ∀ r, r < n → B ≤ g r) (hi : i < n) (hk : k < n) : ∀ r, r < n → B ≤ swf g i k r := fun r hr => by
  unfold swf
  split
  · exact h k hk
  · split
    · exact h i hi
    · exact h r hr
end

theorem gs_stop {m n I : Nat} {A A' : Nat → Nat → Nat} (h : Gf.gs m n A I = some A') (hp : ¬ Gf.pr A' I n < n) : ∀ J, I < J → Gf.gs m n A J = none := fun J hJ => by
  induction J with
  | zero => omega
  | succ J ih =>
    rw [Gf.gs]
    by_cases e : J = I
    · subst e; rw [h]; simp only; rw [if_neg hp]
    · rw [ih (by omega)]
/-- The pivot's row, divided in its first J columns. -/
def scJ (m : Nat) (A : Nat → Nat → Nat) (I J : Nat) : Nat → Nat → Nat := fun r j => if r = I ∧ j < J then Gf.mul m (A I j) (Gf.inv m (A I I)) else A r j
/-- The first R rows, and row R's first J columns, without the unknown. -/
def elJ (m : Nat) (A : Nat → Nat → Nat) (I R J : Nat) : Nat → Nat → Nat := fun r j => if r < R then Gf.el m A I r j else if r = R ∧ j < J then A R j ^^^ Gf.mul m (A R I) (A I j) else A r j
theorem scJ_zero (m : Nat) (A : Nat → Nat → Nat) (I : Nat) : scJ m A I 0 = A := by funext r j; unfold scJ; rw [if_neg (by omega)]
theorem scJ_succ (m : Nat) (A : Nat → Nat → Nat) (I J : Nat) : (fun s => if s = I then upd (scJ m A I J I) J (Gf.mul m (A I J) (Gf.inv m (A I I))) else scJ m A I J s) = scJ m A I (J+1) := by
  funext r j
  by_cases e : r = I
  · subst e
    simp only [if_true]
    show (if j = J then _ else scJ m A r J r j) = _
    unfold scJ
    by_cases e2 : j = J
    · subst e2; rw [if_pos rfl, if_pos ⟨rfl, Nat.lt_succ_self _⟩]
    · rw [if_neg e2]
      by_cases e3 : j < J
      · rw [if_pos ⟨rfl, e3⟩, if_pos ⟨rfl, Nat.lt_succ_of_lt e3⟩]
      · rw [if_neg (fun h => e3 h.2), if_neg (fun h => by have := h.2; omega)]
  · rw [if_neg e]; unfold scJ; rw [if_neg (fun h => e h.1), if_neg (fun h => e h.1)]
theorem scJ_end {m N : Nat} (A : Nat → Nat → Nat) (I : Nat) : ∀ r j, j < N → scJ m A I N r j = Gf.sc m A I r j := fun r j hj => by
  unfold scJ Gf.sc
  by_cases e : r = I
  · rw [if_pos ⟨e, hj⟩, if_pos e]
  · rw [if_neg (fun h => e h.1), if_neg e]
theorem scJ_at (m : Nat) (A : Nat → Nat → Nat) (I J : Nat) : scJ m A I J I J = A I J := by unfold scJ; rw [if_neg (by omega)]
theorem elJ_zero (m : Nat) (A : Nat → Nat → Nat) (I : Nat) : elJ m A I 0 0 = A := by funext r j; unfold elJ; rw [if_neg (by omega), if_neg (by omega)]
theorem elJ_own (m : Nat) (A : Nat → Nat → Nat) (I R J j : Nat) (h : R ≠ I) : elJ m A I R J I j = A I j := by
  unfold elJ Gf.el
  by_cases e : I < R
  · rw [if_pos e, if_pos rfl]
  · rw [if_neg e, if_neg (fun h' => h h'.1.symm)]
theorem elJ_row (m : Nat) (A : Nat → Nat → Nat) (I R J j : Nat) (h : J ≤ j) : elJ m A I R J R j = A R j := by
  unfold elJ; rw [if_neg (by omega), if_neg (by omega)]
theorem elJ_succ (m : Nat) (A : Nat → Nat → Nat) (I R J : Nat) : (fun s => if s = R then upd (elJ m A I R J R) J (A R J ^^^ Gf.mul m (A R I) (A I J)) else elJ m A I R J s) = elJ m A I R (J+1) := by
  funext r j
  by_cases e : r = R
  · subst e
    simp only [if_true]
    show (if j = J then _ else elJ m A I r J r j) = _
    unfold elJ
    rw [if_neg (Nat.lt_irrefl _), if_neg (Nat.lt_irrefl _)]
    by_cases e2 : j = J
    · subst e2; rw [if_pos rfl, if_pos ⟨rfl, Nat.lt_succ_self _⟩]
    · rw [if_neg e2]
      by_cases e3 : j < J
      · rw [if_pos ⟨rfl, e3⟩, if_pos ⟨rfl, Nat.lt_succ_of_lt e3⟩]
      · rw [if_neg (fun h => e3 h.2), if_neg (fun h => by have := h.2; omega)]
  · rw [if_neg e]; unfold elJ
    split
    · rfl
    · rw [if_neg (fun h => e h.1), if_neg (fun h => e h.1)]
theorem elJ_next {m N : Nat} (A : Nat → Nat → Nat) (I R : Nat) (h : R ≠ I) : ∀ r j, j < N → elJ m A I R N r j = elJ m A I (R+1) 0 r j := fun r j hj => by
  unfold elJ
  by_cases e : r < R
  · rw [if_pos e, if_pos (by omega)]
  · rw [if_neg e]
    by_cases e2 : r = R
    · subst e2
      rw [if_pos ⟨rfl, hj⟩, if_pos (by omega)]
      unfold Gf.el; rw [if_neg h]
    · rw [if_neg (fun h => e2 h.1), if_neg (by omega), if_neg (by omega)]
theorem elJ_skip {m : Nat} (A : Nat → Nat → Nat) (I R : Nat) (h : R = I ∨ A R I = 0) : elJ m A I R 0 = elJ m A I (R+1) 0 := by
  funext r j
  unfold elJ
  by_cases e : r < R
  · rw [if_pos e, if_pos (by omega)]
  · rw [if_neg e, if_neg (by omega)]
    by_cases e2 : r = R
    · subst e2
      rw [if_pos (by omega)]
      unfold Gf.el
      rcases h with h | h
      · rw [if_pos h]
      · rw [h, Gf.zero_mul, Nat.xor_zero]; split <;> rfl
    · rw [if_neg (by omega), if_neg (by omega)]
theorem elJ_end {m n : Nat} (A : Nat → Nat → Nat) (I : Nat) : ∀ r, r < n → ∀ j, elJ m A I n 0 r j = Gf.el m A I r j := fun r hr j => by unfold elJ; rw [if_pos hr]

set_option maxRecDepth 100000 in
set_option maxHeartbeats 3200000 in
theorem rsolve_any (m n N cap ga B : Nat) (g c : Nat → Nat) (A : Nat → Nat → Nat) (w : World) (hm : Gf.Ok m) (hA : Gf.Fits m n A) (hn1 : 1 ≤ n) (hn8 : n ≤ 8) (hN : n + 1 = N) (hcap : n ≤ cap) (_hcap2 : cap ≤ 9223372036854775807) (hB : B ≤ ga) (hBg : ∀ r, r < n → B ≤ g r) (hmat : Mat w ga n N g c A) :
    Calls Tryz.prog 100 #[.int .i64 m, .slice (some ⟨ga, 0, none⟩) n cap] w fun e w' => ((Gf.gs m n A n = none ∧ e = .returned (.tuple #[.slice none 0 0, .bool false])) ∨
      ∃ B' v, Gf.gs m n A n = some B' ∧ e = .returned (.tuple #[v, .bool true]) ∧ Own .i64 3 B w' v ((List.range n).map fun j => B' j n)) ∧ Below B w w' := by
  have HM := hid hmat
  have HBG := hid hBg
  have HA := hid hA
  have hBw : B ≤ w.heap.size := by obtain ⟨cur, h1, _⟩ := hmat.hd; have := lt_at h1; omega
  have HBW := hid hBw
  have HN := hid hN
  have h13 : 2^m ≤ 2^13 := Nat.pow_le_pow_right (by decide) hm.2
  have H13 := hid h13
  have HB := hid hB
  clear hmat hBg hA hBw h13 hB hN
  go_enter Tryz.func100, Tryz.ntmps100
  go_wp2_with fail
  go_loopg [7] n (fun gk i wr => ∃ (I : Nat) (A' : Nat → Nat → Nat) (g c : Nat → Nat), I + gk = n ∧ i = .int .i64 I ∧ Gf.gs m n A I = some A' ∧ Gf.Fits m n A' ∧ Mat wr ga n N g c A' ∧ (∀ r, r < n → B ≤ g r) ∧ Below B w wr)
  case atStart => exact ⟨0, A, g, c, by omega, rfl, rfl, HA.out, HM.out, HBG.out, Below.refl _ _⟩
  case round =>
    clear HM HBG HA
    obtain ⟨I, A', g', c', hI, rfl, hgs, hfit, hmat, hbg, hb⟩ := hrel
    have HGS := hid hgs
    have HF := hid hfit
    have HM := hid hmat
    have HBG := hid hbg
    have HBL := hid hb
    clear hgs hfit hmat hbg hb
    by_cases hlt : I < n
    · go_wp2_with fail
      go_loopg [8] (n - I) (fun gk k wr2 => ∃ K : Nat, K + gk = n ∧ I ≤ K ∧ k = .int .i64 K ∧ Gf.pv A' I n gk K = Gf.pr A' I n ∧ wr2 = wr)
      case atStart => exact ⟨I, by omega, by omega, rfl, rfl, rfl⟩
      case round =>
        obtain ⟨K, hK, hIK, rfl, hpv, rfl⟩ := hrel
        by_cases hk : K < n
        · obtain ⟨gk', rfl⟩ : ∃ x, gk = x + 1 := ⟨gk - 1, by omega⟩
          have hIN : I < N := by have := HN.out; omega
          have hKz : (K : Int) < (n : Int) := by omega
          have hINz : (I : Int) < (N : Int) := by omega
          have ch := HM.out.hcell hk
          have cc := HM.out.cell hk hIN
          rw [Gf.pv] at hpv
          obtain ⟨x, hx⟩ : ∃ x, A' K I = x := ⟨_, rfl⟩
          rw [hx] at cc
          have HX := hid hx
          by_cases h0 : x = 0
          · rw [if_pos ⟨hk, hx.trans h0⟩] at hpv
            subst h0
            have HPV := hid hpv
            clear hpv hx
            go_wp2_with fail
            go_roundg gk'
            case measure => omega
            case rel => exact ⟨K + 1, by omega, by omega, by go_num, HPV.out, rfl⟩
          · rw [if_neg (fun h => h0 (by rw [← hx]; exact h.2))] at hpv
            have HPV := hid hpv
            have hxz : ((x : Int) == 0) = false := beq_eq_false_iff_ne.2 (by omega)
            have hkn : ((K : Int) == (n : Int)) = false := beq_eq_false_iff_ne.2 (by omega)
            have chI := HM.out.hcell hlt
            have frI := HM.out.hfree I
            have frK := HM.out.hfree K
            clear hpv hx
            have hIz : (I : Int) < (n : Int) := by omega
            go_upto_region 10 with fail
            go_cut [] (fun wx => Mat wx ga n N (swf g' I K) (swf c' I K) (Gf.sw A' I K) ∧ Below B w wx)
            case first =>
              have hsw := fun q => (HM.out.drewN q).swap hlt hk
              have hbl := fun q => (((HBL.out.drewN q).setCell (p := ⟨ga, I, none⟩) HB.out (.slice (some ⟨g' K, 0, none⟩) N (c' K))).setCell (p := ⟨ga, K, none⟩) HB.out (.slice (some ⟨g' I, 0, none⟩) N (c' I)))
              have HSW := hid hsw
              have HBS := hid hbl
              clear hsw hbl
              by_cases hIK : I = K
              · subst hIK
                go_region
                all_goals
                  go_wp2_with fail
                  go_meet
                  first
                    | exact ⟨HSW.out 1, HBS.out 1⟩
                    | exact ⟨(HSW.out 0).drewN 1, (HBS.out 0).drewN 1⟩
              · have hKI : ¬ K = I := fun h => hIK h.symm
                go_region
                all_goals
                  go_wp2_with fail
                  go_meet
                  first
                    | exact ⟨HSW.out 1, HBS.out 1⟩
                    | exact ⟨(HSW.out 0).drewN 1, (HBS.out 0).drewN 1⟩
            case rest =>
              obtain ⟨hm2, hb2⟩ := hcut
              have hf2 := Gf.sw_fits HF.out hlt hk
              have hbg2 := swf_le HBG.out hlt hk
              have hpi : Gf.sw A' I K I I = x := by unfold Gf.sw; rw [if_pos rfl]; exact HX.out
              have hgst : Gf.gstep m n A' I = Gf.el m (Gf.sc m (Gf.sw A' I K) I) I := by unfold Gf.gstep; rw [← HPV.out]
              have hpr : Gf.pr A' I n < n := by rw [← HPV.out]; exact hk
              have hxl : x < 2^m := by rw [← HX.out]; exact HF.out K hk I
              have HGST := hid hgst
              have HPR := hid hpr
              generalize Gf.sw A' I K = A2 at *
              generalize swf g' I K = g2 at *
              generalize swf c' I K = c2 at *
              have HM2 := hid hm2
              have HB2 := hid hb2
              have HF2 := hid hf2
              have HBG2 := hid hbg2
              have HPI := hid hpi
              have HXL := hid hxl
              clear hm2 hb2 hf2 hbg2 hpi hxl hgst hpr HM HBL HF HBG ch cc chI frI frK HX HPV
              have ch := HM2.out.hcell hlt
              have cc := HM2.out.cell hlt hIN
              rw [HPI.out] at cc
              go_wp2_with fail
              refine (rinv_any m x _ hm HXL.out h0).mono ?_
              rintro e w' ⟨rfl, rfl⟩
              have hbyl := Gf.inv_lt hm x
              obtain ⟨by_, hby⟩ : ∃ y, Gf.inv m x = y := ⟨_, rfl⟩
              rw [hby] at hbyl ⊢
              have HBY := hid hby
              have HBYL := hid hbyl
              clear hby hbyl cc
              go_wp2_with fail
              go_loopg [10] N (fun gk j wr2 => ∃ J : Nat, J + gk = N ∧ j = .int .i64 J ∧ Mat wr2 ga n N g2 c2 (scJ m A2 I J) ∧ Below B w wr2)
              case atStart => exact ⟨0, by omega, rfl, by rw [scJ_zero]; exact HM2.out, HB2.out⟩
              case round =>
                clear HM2 HB2 ch
                obtain ⟨J, hJ, rfl, hmj, hbj⟩ := hrel
                have HMJ := hid hmj
                have HBJ := hid hbj
                clear hmj hbj
                by_cases hltJ : J < N
                · have ch := HMJ.out.hcell hlt
                  have cc := HMJ.out.cell hlt hltJ
                  have fc := HMJ.out.free hlt J
                  rw [scJ_at] at cc
                  have hjn : (J : Int) ≤ (n : Int) := by have := HN.out; omega
                  have hjN : (J : Int) < (N : Int) := by omega
                  have hzl := HF2.out I hlt J
                  have hset := HMJ.out.set hlt J (Gf.mul m (A2 I J) by_)
                  rw [← HBY.out, ← HPI.out, scJ_succ, HPI.out, HBY.out] at hset
                  obtain ⟨z, hz⟩ : ∃ z, A2 I J = z := ⟨_, rfl⟩
                  rw [hz] at cc hzl hset
                  have HZL := hid hzl
                  have HSET := hid hset
                  clear hzl hset hz
                  have hgI := HBG2.out I hlt
                  go_wp2_with fail
                  refine wp_region_quiet_tail 16 (by kernel_rfl) (by kernel_rfl) ?_
                  simp only [List.take_succ_cons, List.take_zero, List.drop_succ_cons, List.drop_zero]
                  repeat (go_big_quiet_step ((go_at_call 99; exact quiet_eq (rmul_any m _ _ _ hm HZL.out HBYL.out))))
                  refine wpQuiet_nil ?_
                  intro _ hw'
                  obtain ⟨nq, hw''⟩ := hw'
                  subst hw''
                  go_wp2_with fail
                  go_roundg (gk - 1)
                  case measure => omega
                  case rel =>
                    refine ⟨J + 1, by omega, by go_num, HSET.out.drewN nq, ?_⟩
                    exact (HBJ.out.drewN nq).setCell hgI _
                · obtain rfl : N = J := by omega
                  have hnn : ¬ (N : Int) ≤ (n : Int) := by have := HN.out; omega
                  have hm3 := HMJ.out.congr (fun r _ j hj => scJ_end A2 I r j hj)
                  have hf3 := Gf.sc_fits hm (i := I) HF2.out
                  have hgst := HGST.out
                  clear HGST
                  generalize Gf.sc m A2 I = A3 at *
                  have HM3 := hid hm3
                  have HF3 := hid hf3
                  have HGST := hid hgst
                  clear hm3 hf3 hgst HMJ HF2 HPI HBY HBYL HXL
                  go_wp2_with fail
                  go_loopg [11] n (fun gk r wr2 => ∃ R : Nat, R + gk = n ∧ r = .int .i64 R ∧ Mat wr2 ga n N g2 c2 (elJ m A3 I R 0) ∧ Below B w wr2)
                  case atStart => exact ⟨0, by omega, rfl, by rw [elJ_zero]; exact HM3.out, HBJ.out⟩
                  case round =>
                    clear HM3 HBJ
                    obtain ⟨R, hR, rfl, hmr, hbr⟩ := hrel
                    have HMR := hid hmr
                    have HBR := hid hbr
                    clear hmr hbr
                    by_cases hltR : R < n
                    · have hRz : (R : Int) < (n : Int) := by omega
                      by_cases hRI : R = I
                      · have hri : ((R : Int) == (I : Int)) = true := beq_iff_eq.2 (by omega)
                        have hsk := elJ_skip (m := m) A3 I R (.inl hRI)
                        have HSK := hid hsk
                        clear hsk
                        go_wp2_with fail
                        go_roundg (gk - 1)
                        case measure => omega
                        case rel => exact ⟨R + 1, by omega, by go_num, by rw [← HSK.out]; exact HMR.out, HBR.out⟩
                      · have hri : ((R : Int) == (I : Int)) = false := beq_eq_false_iff_ne.2 (by omega)
                        have chR := HMR.out.hcell hltR
                        have cf := HMR.out.cell hltR hIN
                        rw [elJ_row _ _ _ _ _ _ (Nat.zero_le _)] at cf
                        have hfl := HF3.out R hltR I
                        obtain ⟨f, hf⟩ : ∃ f, A3 R I = f := ⟨_, rfl⟩
                        rw [hf] at cf hfl
                        by_cases hf0 : f = 0
                        · have hsk := elJ_skip (m := m) A3 I R (.inr (hf.trans hf0))
                          have HSK := hid hsk
                          subst hf0
                          clear hsk hf hfl
                          go_wp2_with fail
                          go_roundg (gk - 1)
                          case measure => omega
                          case rel => exact ⟨R + 1, by omega, by go_num, by rw [← HSK.out]; exact HMR.out, HBR.out⟩
                        · have hfz : ((f : Int) == 0) = false := beq_eq_false_iff_ne.2 (by omega)
                          have HFE := hid hf
                          have HFL := hid hfl
                          clear hf hfl
                          go_wp2_with fail
                          go_loopg [13] N (fun gk j wr2 => ∃ J : Nat, J + gk = N ∧ j = .int .i64 J ∧ Mat wr2 ga n N g2 c2 (elJ m A3 I R J) ∧ Below B w wr2)
                          case atStart => exact ⟨0, by omega, rfl, HMR.out, HBR.out⟩
                          case round =>
                            clear HMR HBR chR cf
                            obtain ⟨J, hJ, rfl, hmj, hbj⟩ := hrel
                            have HMJ := hid hmj
                            have HBJ := hid hbj
                            clear hmj hbj
                            by_cases hltJ : J < N
                            · have chR := HMJ.out.hcell hltR
                              have chI := HMJ.out.hcell hlt
                              have cR := HMJ.out.cell hltR hltJ
                              have cI := HMJ.out.cell hlt hltJ
                              have fR := HMJ.out.free hltR J
                              rw [elJ_row _ _ _ _ _ _ (Nat.le_refl _)] at cR
                              rw [elJ_own _ _ _ _ _ _ hRI] at cI
                              have hjn : (J : Int) ≤ (n : Int) := by have := HN.out; omega
                              have hjN : (J : Int) < (N : Int) := by omega
                              have hset := HMJ.out.set hltR J (A3 R J ^^^ Gf.mul m (A3 R I) (A3 I J))
                              rw [elJ_succ, HFE.out] at hset
                              have hzl := HF3.out R hltR J
                              have hyl := HF3.out I hlt J
                              generalize A3 R J = z at *
                              generalize A3 I J = y at *
                              have hml := Gf.mul_lt hm f y
                              have h13 := H13.out
                              have ex := xor_i64 z (Gf.mul m f y) (by omega) (by omega)
                              have HYL := hid hyl
                              have HSET := hid hset
                              have hgR := HBG2.out R hltR
                              clear hzl hyl hset hml h13
                              go_wp2_with fail
                              refine wp_region_quiet_tail 24 (by kernel_rfl) (by kernel_rfl) ?_
                              simp only [List.take_succ_cons, List.take_zero, List.drop_succ_cons, List.drop_zero]
                              repeat (go_big_quiet_step ((go_at_call 99; exact quiet_eq (rmul_any m _ _ _ hm HFL.out HYL.out))))
                              refine wpQuiet_nil ?_
                              intro _ hw'
                              obtain ⟨nq, hw''⟩ := hw'
                              subst hw''
                              go_wp2_with fail
                              go_roundg (gk - 1)
                              case measure => omega
                              case rel =>
                                refine ⟨J + 1, by omega, by go_num, HSET.out.drewN nq, ?_⟩
                                exact (HBJ.out.drewN nq).setCell hgR _
                            · obtain rfl : N = J := by omega
                              have hnn : ¬ (N : Int) ≤ (n : Int) := by have := HN.out; omega
                              have hm4 := HMJ.out.congr (fun r _ j hj => elJ_next A3 I R hRI r j hj)
                              have HM4 := hid hm4
                              clear hm4
                              go_wp2_with fail
                              go_roundg (n - (R + 1))
                              case measure => omega
                              case rel => exact ⟨R + 1, by omega, by go_num, HM4.out, HBJ.out⟩
                    · obtain rfl : n = R := by omega
                      have hm4 := HMR.out.congr (fun r hr j _ => elJ_end A3 I r hr j)
                      have hf4 := Gf.el_fits hm (i := I) HF3.out
                      rw [← HGST.out] at hm4 hf4
                      have HM4 := hid hm4
                      have HF4 := hid hf4
                      clear hm4 hf4
                      go_wp2_with fail
                      go_roundg (n - (I + 1))
                      case measure => omega
                      case rel =>
                        refine ⟨I + 1, _, g2, c2, by omega, by go_num, ?_, HF4.out, HM4.out, HBG2.out, HBR.out⟩
                        rw [Gf.gs, HGS.out]
                        simp only
                        rw [if_pos HPR.out]
        · obtain rfl : K = n := by omega
          obtain rfl : gk = 0 := by omega
          have hkn : ¬ (K : Int) < (K : Int) := by omega
          have hno := gs_stop HGS.out (show ¬ Gf.pr A' I K < K by rw [← hpv]; exact Nat.lt_irrefl K) K (by omega)
          have HNO := hid hno
          clear hpv hno
          go_wp2_with fail
          go_ret2
          exact ⟨.inl ⟨HNO.out, rfl⟩, HBL.out⟩
    · obtain rfl : I = n := by omega
      go_wp2_with fail
      obtain ⟨wo, rfl⟩ : ∃ wo : World, wo = wr := ⟨_, rfl⟩
      have hbs : B ≤ wo.heap.size := by have := HBL.out.size; have := HBW.out; omega
      have HBS := hid hbs
      clear hbs
      go_loopg [15, 14] I (fun gk i o wr2 => ∃ J : Nat, J + gk = I ∧ i = .int .i64 J ∧ Own .i64 3 wo.heap.size wr2 o ((List.range J).map fun j => A' j I) ∧ Below wo.heap.size wo wr2)
      case atStart => exact ⟨0, by omega, rfl, Own.nil _ _ _ _, Below.refl _ _⟩
      case round =>
        obtain ⟨J, hJ, rfl, ho, hb2⟩ := hrel
        have HO := hid ho
        have HB2 := hid hb2
        have hm2 := HM.out.below hb2
        clear ho hb2
        by_cases hltJ : J < I
        · have ch := hm2.hcell hltJ
          have cc := hm2.cell hltJ (show I < N by have := HN.out; omega)
          have hIN : (I : Int) < (N : Int) := by have := HN.out; omega
          have hJz : (J : Int) < (I : Int) := by omega
          have hlen : ((List.range J).map fun j => A' j I).length = J := by simp
          have hsn : ((List.range (J+1)).map fun j => A' j I) = ((List.range J).map fun j => A' j I) ++ [A' J I] := by rw [List.range_succ, List.map_append]; rfl
          generalize ((List.range J).map fun j => A' j I) = X at *
          have HSN := hid hsn
          have HLEN := hid hlen
          clear hsn hlen hm2
          go_wp2_with (at_builtin; refine app_one el_int rfl _ _ rfl wo.heap.size _ X rfl (HO.out.alloc _) ⟨wr.heap.size, 0, none⟩ 1 (A' J I) rfl (new_cell _ _ _) (by rw [HLEN.out]; omega) (by have := HB2.out.size; simp; omega) ?_; rw [HLEN.out]; intro g3 cap3 w3 hown hgrow hat)
          go_roundg (gk - 1)
          case measure => omega
          case rel =>
            refine ⟨J + 1, by omega, by go_num, by rw [HSN.out]; exact hown, ?_⟩
            exact grow_below (HB2.out.alloc HB2.out.size _) (by have := HB2.out.size; simp; omega) hgrow (fun g hg => (HO.out.blk g hg).1)
        · obtain rfl : I = J := by omega
          go_wp2_with fail
          go_ret2
          exact ⟨.inr ⟨A', _, HGS.out, rfl, HO.out.mono HBS.out⟩, HBL.out.trans (HB2.out.mono HBS.out)⟩
end Go.Proofs.YtoanopegoilcnaaGreat
