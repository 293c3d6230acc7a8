/- Walks over firkinlaw02: BchMakes. -/
import Derived.Test.YtjompiihdnaogaaLab
import Derived.Deep.RegionHeld3
namespace Go.Proofs.Ytjompiihdnaogaa
open Go.RowKit Go.Mem

set_option maxRecDepth 100000 in
set_option maxHeartbeats 800000 in
theorem bchnew_bad (x y : Int) (w : World) (h : x < 1 ∨ 512 < x ∨ y < 1 ∨ 8 < y) :
    Calls Try.prog 13 #[.int .i64 x, .int .i64 y] w fun e w' => e = .returned (.tuple #[.pointer none, .int .i64 1]) ∧ w = w' := by
  by_cases h1 : x < 1
  · go_enter Try.func13, Try.ntmps13
    go_wp2_with fail
    go_ret2
    exact ⟨rfl, rfl⟩
  · by_cases h2 : 512 < x
    · go_enter Try.func13, Try.ntmps13
      go_wp2_with fail
      go_ret2
      exact ⟨rfl, rfl⟩
    · by_cases h3 : y < 1
      · go_enter Try.func13, Try.ntmps13
        go_wp2_with fail
        go_ret2
        exact ⟨rfl, rfl⟩
      · have h4 : 8 < y := by omega
        go_enter Try.func13, Try.ntmps13
        go_wp2_with fail
        go_ret2
        exact ⟨rfl, rfl⟩

set_option maxRecDepth 100000 in
set_option maxHeartbeats 800000 in
theorem rnew_bad (x y : Int) (w : World) (h : x < 1 ∨ 512 < x ∨ y < 1 ∨ 8 < y) :
    Calls Try.prog 14 #[.int .i64 x, .int .i64 y] w fun e w' => e = .returned (.tuple #[.agg #[.int .i64 0, .int .i64 0, .int .i64 0, .slice none 0 0], .bool false]) ∧ Below w.heap.size w w' := by
  by_cases h1 : x < 1
  · go_enter Try.func14, Try.ntmps14
    go_wp2_with fail
    refine bodyPost_ret (v := .tuple #[.agg #[.int .i64 0, .int .i64 0, .int .i64 0, .slice none 0 0], .bool false]) (by simp [results, Try.results14, go_sem]) rfl ⟨rfl, ?_⟩
    exact (Below.refl _ _).alloc (Nat.le_refl _) _
  · by_cases h2 : 512 < x
    · go_enter Try.func14, Try.ntmps14
      go_wp2_with fail
      refine bodyPost_ret (v := .tuple #[.agg #[.int .i64 0, .int .i64 0, .int .i64 0, .slice none 0 0], .bool false]) (by simp [results, Try.results14, go_sem]) rfl ⟨rfl, ?_⟩
      exact (Below.refl _ _).alloc (Nat.le_refl _) _
    · by_cases h3 : y < 1
      · go_enter Try.func14, Try.ntmps14
        go_wp2_with fail
        refine bodyPost_ret (v := .tuple #[.agg #[.int .i64 0, .int .i64 0, .int .i64 0, .slice none 0 0], .bool false]) (by simp [results, Try.results14, go_sem]) rfl ⟨rfl, ?_⟩
        exact (Below.refl _ _).alloc (Nat.le_refl _) _
      · have h4 : 8 < y := by omega
        go_enter Try.func14, Try.ntmps14
        go_wp2_with fail
        refine bodyPost_ret (v := .tuple #[.agg #[.int .i64 0, .int .i64 0, .int .i64 0, .slice none 0 0], .bool false]) (by simp [results, Try.results14, go_sem]) rfl ⟨rfl, ?_⟩
        exact (Below.refl _ _).alloc (Nat.le_refl _) _

theorem nil_RC {w : World} {v : Value} {bytes t m : Nat} (h : RC w v bytes t m) : ∃ ga L gcap, v = .agg #[.int .i64 m, .int .i64 bytes, .int .i64 t, .slice ga L gcap] := by
  obtain ⟨gv, rfl, a, cap, rfl, _⟩ := h
  exact ⟨a, _, cap, rfl⟩

set_option maxRecDepth 100000 in
set_option maxHeartbeats 1600000 in
theorem bchMakes_bad (x y : Int) (w : World) (h : x < 1 ∨ 512 < x ∨ y < 1 ∨ 8 < y) :
    Calls Try.prog 3 #[.int .i64 x, .int .i64 y] w fun e w' => e = .returned (.bool true) ∧ Below w.heap.size w w' := by
  have H := hid h
  clear h
  go_enter Try.func3, Try.ntmps3
  go_wp2_with fail
  refine (awake_any _).mono ?_
  rintro e w1 ⟨rfl, hb1⟩
  have HB1 := hid hb1
  clear hb1
  go_wp2_with fail
  refine (bchnew_bad x y _ H.out).mono ?_
  rintro e w' ⟨rfl, rfl⟩
  go_wp2_with fail
  refine (rnew_bad x y _ H.out).mono ?_
  rintro e w2 ⟨rfl, hb2⟩
  have HB2 := hid (HB1.out.comp hb2)
  clear hb2
  go_wp2_with fail
  go_ret
  exact ⟨rfl, bl_alloc HB2.out _⟩

set_option maxRecDepth 100000 in
set_option maxHeartbeats 1600000 in
theorem bchMakes_good (n k m : Nat) (w : World) (hp : Par n k m) :
    Calls Try.prog 3 #[.int .i64 n, .int .i64 k] w fun e w' => e = .returned (.bool true) ∧ Below w.heap.size w w' := by
  have HP := hid hp
  go_enter Try.func3, Try.ntmps3
  go_wp2_with fail
  refine (awake_any _).mono ?_
  rintro e w1 ⟨rfl, hb1⟩
  have HB1 := hid hb1
  clear hb1
  go_wp2_with fail
  refine (bchnew_any n k m _ HP.out).mono ?_
  rintro e w2 ⟨⟨c, rfl, hc⟩, hb2⟩
  have HB2 := hid (HB1.out.comp hb2)
  have HC := hid hc
  clear hb2 hc
  go_wp2_with fail
  refine (rnew_any n k m _ HP.out).mono ?_
  rintro e w3 ⟨⟨rv, rfl, hrc⟩, hb3⟩
  have HC3 := hid (HC.out.below hb3)
  have HB3 := hid (HB2.out.comp hb3)
  obtain ⟨ga, L, gcap, rfl⟩ := nil_RC hrc
  have HRC := hid hrc
  clear hb3 hrc HC
  go_wp2_with fail
  obtain ⟨W0, hW0⟩ : ∃ W0, w3.alloc (.cells #[.int .i64 m, .int .i64 n, .int .i64 k, .slice ga L gcap] 29) = W0 := ⟨_, rfl⟩
  have hR : W0.heap[w3.heap.size]? = some (.cells #[.int .i64 m, .int .i64 n, .int .i64 k, .slice ga L gcap] 29 (0, 0)) := by rw [← hW0]; exact alloc_new w3 _
  have hb30 : Below w3.heap.size w3 W0 := by rw [← hW0]; exact (Below.refl _ _).alloc (Nat.le_refl _) _
  rw [hW0]
  have HC0 := hid (HC3.out.below hb30)
  have HRC0 := hid (HRC.out.below hb30)
  have HB0 := hid (HB3.out.comp hb30)
  have q0 : W0.cell? ⟨w3.heap.size, 0, none⟩ = some (.int .i64 m) := cell_at hR 0
  have q1 : W0.cell? ⟨w3.heap.size, 1, none⟩ = some (.int .i64 n) := cell_at hR 1
  have q2 : W0.cell? ⟨w3.heap.size, 2, none⟩ = some (.int .i64 k) := cell_at hR 2
  have q3 : W0.cell? ⟨w3.heap.size, 3, none⟩ = some (.slice ga L gcap) := cell_at hR 3
  have hWr : Below W0.heap.size W0 W0.drew := (Below.refl _ _).drew
  obtain ⟨R, hRe⟩ : ∃ R, w3.heap.size = R := ⟨_, rfl⟩
  rw [hRe] at q0 q1 q2 q3 ⊢
  clear hR hb30 hW0 HC3 HRC HB3 hRe
  go_region_held3 (fun w' => w'.cell? ⟨R, 0, none⟩ = some (.int .i64 m) ∧ w'.cell? ⟨R, 1, none⟩ = some (.int .i64 n) ∧ w'.cell? ⟨R, 2, none⟩ = some (.int .i64 k) ∧ w'.cell? ⟨R, 3, none⟩ = some (.slice ga L gcap) ∧ Below W0.heap.size W0 w')
    (first | assumption | (refine ⟨?_, ?_, ?_, ?_, ?_⟩ <;> assumption) | ((try go_split_ands); exact keep4 (by assumption) (by assumption) (by assumption) (by assumption) (by assumption) (by assumption)) | exact ⟨q0, q1, q2, q3, hWr⟩)
    (first | (go_at_call 15; go_split_ands; refine (codeM_any c n k m _ (HC0.out.below (by assumption))).mono ?_; rintro e w' ⟨rfl, rfl⟩) | (go_at_call 16; go_split_ands; refine (codeBits_any c n k m _ (HC0.out.below (by assumption)) HP.out).mono ?_; rintro e w' ⟨rfl, rfl⟩) | (go_at_call 18; go_split_ands; refine (codeParity_any c n k m _ (HC0.out.below (by assumption)) HP.out).mono ?_; rintro e w' ⟨rfl, rfl⟩) | (go_at_call 17; go_split_ands; refine (rR_any _ n k m _ HP.out (HRC0.out.below (by assumption))).mono ?_; rintro e w' ⟨rfl, hbr⟩) | (go_at_call 19; go_split_ands; refine (rParity_any _ n k m _ HP.out (HRC0.out.below (by assumption))).mono ?_; rintro e w' ⟨rfl, hbr2⟩))
  all_goals
    go_wp2_with fail
    go_ret
    (try go_split_ands)
    exact ⟨rfl, HB0.out.comp (by assumption)⟩

theorem bchMakes_walk (x y : Int) (w : World) : Calls Try.prog 3 #[.int .i64 x, .int .i64 y] w fun e w' => e = .returned (.bool true) ∧ Below w.heap.size w w' := by
  by_cases h : x < 1 ∨ 512 < x ∨ y < 1 ∨ 8 < y
  · exact bchMakes_bad x y w h
  · obtain ⟨n, rfl⟩ := Int.eq_ofNat_of_zero_le (show 0 ≤ x by omega)
    obtain ⟨k, rfl⟩ := Int.eq_ofNat_of_zero_le (show 0 ≤ y by omega)
    obtain ⟨m, hp⟩ := Par.ex n k (by omega) (by omega) (by omega) (by omega)
    exact bchMakes_good n k m w hp
end Go.Proofs.Ytjompiihdnaogaa
