/- Walks over firkinref19: with, Has. -/
import Derived.Test.YtboonpfdlbedoaaVg
import Derived.Test.YtboonpfdlbedoaaWa
namespace Go.Proofs.Ytboonpfdlbedoaa.Qv
open Go Go.RowKit Go.Mem Go.Hs Go.Proofs Go.Proofs.Ytboonpfdlbedoaa
set_option linter.unusedVariables false

theorem el_u64 : ElT Try.prog 37 31 .u64 8 := ⟨Try.underlying37, by kernel_rfl, by decide⟩
theorem taken_all {S : List Nat} {I : Nat} (h : I = S.length) : S.take I = S := by rw [h]; exact List.take_length


set_option maxRecDepth 100000 in
set_option maxHeartbeats 12800000 in
theorem with_any (a : Value) (S : List Nat) (v : Nat) (w : World) (h : Rd .u64 w a S) (hS : Rising S) (hl : S.length ≤ 100000) (hv : v < 18446744073709551616) :
    Calls Try.prog 26 #[a, .int .u64 (v : Nat)] w fun e w' => (∃ o, e = .returned o ∧ Own .u64 31 w.heap.size w' o (ins v S)) ∧ Below w.heap.size w w' := by
  obtain ⟨p, cap, rfl, h1, h2, h3⟩ := h
  obtain ⟨B, hB⟩ : ∃ B, w.heap.size = B := ⟨_, rfl⟩
  rw [hB]
  have HBE := Lib.hid hB
  have C := Lib.hid h3
  have HS := Lib.hid hS
  obtain ⟨N, hN⟩ : ∃ N, S.length = N := ⟨_, rfl⟩
  have HN := Lib.hid hN
  rw [hN] at h1 hl ⊢
  have l1 : (N : Int) ≤ (cap : Int) := by omega
  have l2 : (cap : Int) ≤ 9223372036854775807 := by unfold maxLen at h2; omega
  have HNL := Lib.hid hl
  clear h3 h2 hN hS hB hl
  go_enter Try.func26, Try.ntmps26
  go_wp2_with fail
  go_loopg [5, 6, 7] N (fun gk vo vd vi wr => ∃ (I : Nat) (ov : Value), I + gk = N ∧ ov = vo ∧ vd = .bool (inB v (S.take I)) ∧ vi = .int .i64 (I : Nat) ∧ Own .u64 31 B wr ov (wst v (S.take I)) ∧ Below B w wr)
  case atStart => exact ⟨0, _, by omega, rfl, rfl, rfl, Own.nil _ _ _ _, Below.refl _ _⟩
  case round =>
    obtain ⟨I, ov, hI, rfl, rfl, rfl, ho, hb⟩ := hrel
    have HO := Lib.hid ho
    have HB := Lib.hid hb
    have HBS := Lib.hid (show B ≤ wr.heap.size from by rw [← HBE.out]; exact hb.size)
    have hxl : (wst v (S.take I)).length ≤ 100002 := by have := wst_len v (S.take I); have h9 : (S.take I).length ≤ I := by simp; omega
                                                        have := HNL.out; omega
    have HXL := Lib.hid hxl
    clear ho hb hxl
    by_cases hlt : I < N
    · have i1 : (I : Int) < (N : Int) := by omega
      have i0 : (0 : Int) ≤ (I : Int) := by omega
      have HIS := Lib.hid (show I < S.length from by rw [HN.out]; exact hlt)
      obtain ⟨g, o, rfl, x1⟩ := C.out I (by rw [HN.out]; exact hlt)
      have y1 : wr.cell? ⟨g, o + I, none⟩ = some (.int .u64 ((S.getD I 0 : Nat) : Int)) := by rw [HB.out.cell (by rw [← HBE.out]; exact World.block_lt_of_cell? _ _ x1)]; exact x1
      obtain ⟨x, hx⟩ : ∃ x, S.getD I 0 = x := ⟨_, rfl⟩
      have HX := Lib.hid hx
      rw [hx] at y1
      have HGW := Lib.hid (show g < w.heap.size from World.block_lt_of_cell? _ _ x1)
      clear x1 hx
      rcases Nat.lt_trichotomy x v with hxv | hxv | hxv
      · obtain ⟨q1, q2, q3⟩ := wst_lo (v := v) HS.out HIS.out (by rw [HX.out]; exact hxv)
        rw [HX.out] at q3
        have HST := Lib.hid (And.intro q2 q3)
        have e1 : ((x : Int) == (v : Int)) = false := beq_eq_false_iff_ne.2 (by omega)
        have e2 : ¬ (v : Int) < (x : Int) := by omega
        obtain ⟨X, hX⟩ : ∃ X, wst v (S.take I) = X := ⟨_, rfl⟩
        rw [hX] at HO HXL HST
        rw [q1]
        clear q1 q2 q3 hX hxv
        go_wp2_with (at_builtin; refine app_one el_u64 rfl _ _ rfl B _ X rfl (HO.out.alloc _) ⟨wr.heap.size, 0, none⟩ 1 x rfl (new_cell _ _ _) (by have := HXL.out; omega) (by have := HBS.out; simp; omega) ?_; intro g3 cap3 w3 hown hgrow hat)
        go_roundg (gk - 1)
        case measure => omega
        case rel => exact ⟨I + 1, _, by omega, rfl, by rw [HST.out.1], by go_num, by rw [HST.out.2]; exact hown, grow_below (HB.out.alloc HBS.out _) (by have := HBS.out; simp; omega) hgrow (fun q hq => (HO.out.blk q hq).1)⟩
      · obtain ⟨q1, q2, q3⟩ := wst_eq (v := v) HS.out HIS.out (by rw [HX.out]; exact hxv)
        rw [HX.out] at q3
        have HST := Lib.hid (And.intro q2 q3)
        have e1 : ((x : Int) == (v : Int)) = true := beq_iff_eq.2 (by omega)
        have e2 : ¬ (v : Int) < (x : Int) := by omega
        obtain ⟨X, hX⟩ : ∃ X, wst v (S.take I) = X := ⟨_, rfl⟩
        rw [hX] at HO HXL HST
        rw [q1]
        clear q1 q2 q3 hX hxv
        go_wp2_with (at_builtin; refine app_one el_u64 rfl _ _ rfl B _ X rfl (HO.out.alloc _) ⟨wr.heap.size, 0, none⟩ 1 x rfl (new_cell _ _ _) (by have := HXL.out; omega) (by have := HBS.out; simp; omega) ?_; intro g3 cap3 w3 hown hgrow hat)
        go_roundg (gk - 1)
        case measure => omega
        case rel => exact ⟨I + 1, _, by omega, rfl, by rw [HST.out.1], by go_num, by rw [HST.out.2]; exact hown, grow_below (HB.out.alloc HBS.out _) (by have := HBS.out; simp; omega) hgrow (fun q hq => (HO.out.blk q hq).1)⟩
      · have e1 : ((x : Int) == (v : Int)) = false := beq_eq_false_iff_ne.2 (by omega)
        have e2 : (v : Int) < (x : Int) := by omega
        cases hb : inB v (S.take I) with
        | true =>
          obtain ⟨q2, q3⟩ := wst_hi HIS.out hb
          rw [HX.out] at q3
          have HST := Lib.hid (And.intro q2 q3)
          obtain ⟨X, hX⟩ : ∃ X, wst v (S.take I) = X := ⟨_, rfl⟩
          rw [hX] at HO HXL HST
          clear q2 q3 hX hxv hb
          go_wp2_with (at_builtin; refine app_one el_u64 rfl _ _ rfl B _ X rfl (HO.out.alloc _) ⟨wr.heap.size, 0, none⟩ 1 x rfl (new_cell _ _ _) (by have := HXL.out; omega) (by have := HBS.out; simp; omega) ?_; intro g3 cap3 w3 hown hgrow hat)
          go_roundg (gk - 1)
          case measure => omega
          case rel => exact ⟨I + 1, _, by omega, rfl, by rw [HST.out.1], by go_num, by rw [HST.out.2]; exact hown, grow_below (HB.out.alloc HBS.out _) (by have := HBS.out; simp; omega) hgrow (fun q hq => (HO.out.blk q hq).1)⟩
        | false =>
          obtain ⟨q2, q3⟩ := wst_in (v := v) HIS.out (by rw [HX.out]; exact hxv) hb
          rw [HX.out] at q3
          have HST := Lib.hid (And.intro q2 q3)
          obtain ⟨X, hX⟩ : ∃ X, wst v (S.take I) = X := ⟨_, rfl⟩
          rw [hX] at HO HXL HST
          clear q2 q3 hX hxv hb
          go_wp2_with (first
            | (at_builtin; refine app_one el_u64 rfl _ _ rfl B _ X rfl (HO.out.alloc _) ⟨wr.heap.size, 0, none⟩ 1 v rfl (new_cell _ _ _) (by have := HXL.out; omega) (by have := HBS.out; simp; omega) ?_; intro g3 cap3 w3 hown hgrow hat
               have HO3 := Lib.hid hown
               have hb3 := grow_below (HB.out.alloc HBS.out _) (by have := HBS.out; simp; omega) hgrow (fun q hq => (HO.out.blk q hq).1)
               have HB3 := Lib.hid hb3
               have HBS3 := Lib.hid (show B ≤ w3.heap.size from by rw [← HBE.out]; exact hb3.size)
               have y3 : w3.cell? ⟨g, o + I, none⟩ = some (.int .u64 (x : Nat)) := by
                 have h9 := (HB3.out.cell (p := ⟨g, o + I, none⟩) (by rw [← HBE.out]; exact HGW.out)).trans (HB.out.cell (p := ⟨g, o + I, none⟩) (by rw [← HBE.out]; exact HGW.out)).symm
                 rw [h9]; exact y1
               clear hown hb3 hgrow hat)
            | (at_builtin; refine app_one el_u64 rfl _ _ rfl B _ (X ++ [v]) rfl (HO3.out.alloc _) ⟨w3.heap.size, 0, none⟩ 1 x rfl (new_cell _ _ _) (by have := HXL.out; simp; omega) (by have := HBS3.out; simp; omega) ?_; intro g4 cap4 w4 hown4 hgrow4 hat4))
          go_roundg (gk - 1)
          case measure => omega
          case rel => exact ⟨I + 1, _, by omega, rfl, by rw [HST.out.1], by go_num, by rw [HST.out.2]; simpa using hown4, grow_below (HB3.out.alloc HBS3.out _) (by have := HBS3.out; simp; omega) hgrow4 (fun q hq => (HO3.out.blk q hq).1)⟩
    · have i1 : ¬ (I : Int) < (N : Int) := by omega
      have hT := taken_all (S := S) (I := I) (by rw [HN.out]; omega)
      have HE := Lib.hid (wst_end v S)
      rw [hT] at HO HXL ⊢
      cases hb : inB v S with
      | true =>
        have HE2 := Lib.hid (show ins v S = wst v S from by rw [HE.out, hb]; rfl)
        clear hb hT
        go_wp2_with fail
        go_ret
        exact ⟨⟨_, rfl, by rw [HE2.out]; exact HO.out⟩, HB.out⟩
      | false =>
        have HE2 := Lib.hid (show ins v S = wst v S ++ [v] from by rw [HE.out, hb]; rfl)
        obtain ⟨X, hX⟩ : ∃ X, wst v S = X := ⟨_, rfl⟩
        rw [hX] at HO HXL HE2
        clear hb hT hX
        go_wp2_with (at_builtin; refine app_one el_u64 rfl _ _ rfl B _ X rfl (HO.out.alloc _) ⟨wr.heap.size, 0, none⟩ 1 v rfl (new_cell _ _ _) (by have := HXL.out; omega) (by have := HBS.out; simp; omega) ?_; intro g3 cap3 w3 hown hgrow hat)
        go_ret
        exact ⟨⟨_, rfl, by rw [HE2.out]; simpa using hown⟩, grow_below (HB.out.alloc HBS.out _) (by have := HBS.out; simp; omega) hgrow (fun q hq => (HO.out.blk q hq).1)⟩

set_option maxRecDepth 100000 in
set_option maxHeartbeats 3200000 in
theorem has_any (a : Value) (S : List Nat) (v : Nat) (w : World) (h : Rd .u64 w a S) (hv : v < 18446744073709551616) :
    Calls Try.prog 28 #[a, .int .u64 (v : Nat)] w fun e w' => e = .returned (.bool (decide (v ∈ S))) ∧ w = w' := by
  obtain ⟨p, cap, rfl, h1, h2, h3⟩ := h
  have C := Lib.hid h3
  obtain ⟨N, hN⟩ : ∃ N, S.length = N := ⟨_, rfl⟩
  have HN := Lib.hid hN
  rw [hN] at h1 ⊢
  have l1 : (N : Int) ≤ (cap : Int) := by omega
  have l2 : (cap : Int) ≤ 9223372036854775807 := by unfold maxLen at h2; omega
  obtain ⟨R, hR⟩ : ∃ R, decide (v ∈ S) = R := ⟨_, rfl⟩
  rw [hR]
  have HR := Lib.hid hR
  clear h3 h2 hN hR
  go_enter Try.func28, Try.ntmps28
  go_wp2_with fail
  go_loopg [5] N (fun gk vi wr => ∃ (I : Nat), I + gk = N ∧ vi = .int .i64 (I : Nat) ∧ (∀ y ∈ S.take I, y ≠ v) ∧ w = wr)
  case atStart => exact ⟨0, by omega, rfl, fun y hy => by simp at hy, rfl⟩
  case round =>
    obtain ⟨I, hI, rfl, hn, rfl⟩ := hrel
    have HNO := Lib.hid hn
    clear hn
    by_cases hlt : I < N
    · have i1 : (I : Int) < (N : Int) := by omega
      have i0 : (0 : Int) ≤ (I : Int) := by omega
      have HIS := Lib.hid (show I < S.length from by rw [HN.out]; exact hlt)
      obtain ⟨g, o, rfl, x1⟩ := C.out I (by rw [HN.out]; exact hlt)
      obtain ⟨x, hx⟩ : ∃ x, S.getD I 0 = x := ⟨_, rfl⟩
      have HX := Lib.hid hx
      rw [hx] at x1
      clear hx
      by_cases hxv : x = v
      · have e1 : ((x : Int) == (v : Int)) = true := beq_iff_eq.2 (by omega)
        have HRT := Lib.hid (show true = R from by rw [← HR.out, decide_eq_true]; rw [← hxv, ← HX.out]; exact getD_mem HIS.out)
        clear hxv
        go_wp2_with fail
        rw [← HRT.out]
        go_ret
        exact ⟨rfl, rfl⟩
      · have e1 : ((x : Int) == (v : Int)) = false := beq_eq_false_iff_ne.2 (by omega)
        have HXV := Lib.hid hxv
        clear hxv
        go_wp2_with fail
        go_roundg (gk - 1)
        case measure => omega
        case rel => exact ⟨I + 1, by omega, by go_num, fun y hy => by
          rw [take_snoc HIS.out, HX.out] at hy
          rcases List.mem_append.1 hy with hy | hy
          · exact HNO.out y hy
          · simp at hy; rw [hy]; exact HXV.out, rfl⟩
    · have i1 : ¬ (I : Int) < (N : Int) := by omega
      have hT := taken_all (S := S) (I := I) (by rw [HN.out]; omega)
      have HRF := Lib.hid (show false = R from by rw [← HR.out]; exact (decide_eq_false (fun hm => HNO.out v (by rw [hT]; exact hm) rfl)).symm)
      clear hT
      go_wp2_with fail
      rw [← HRF.out]
      go_ret
      exact ⟨rfl, rfl⟩
end Go.Proofs.Ytboonpfdlbedoaa.Qv
