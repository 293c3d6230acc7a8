/- Walks over firkinlaw02: bits turned of data alone. -/
import Derived.Test.YtjompiihdnaogaaLae
namespace Go.Proofs.Ytjompiihdnaogaa
open Go.RowKit Go.Mem

/-- What bent hands back of no parity. -/
def BentNil (w w' : World) (xs : List Nat) (n : Nat) (e : Ending) : Prop :=
  ∃ g1 c1 F1, w.heap.size ≤ g1 ∧ e = .returned (.tuple #[.slice (some ⟨g1, 0, none⟩) xs.length c1, .slice none 0 0]) ∧
    Ow .u8 5 w' g1 xs.length c1 F1 ∧ (∀ j, F1 j < 256) ∧ ub F1 (xs.getD · 0) xs.length ≤ min n 12

set_option maxRecDepth 100000 in
set_option maxHeartbeats 1600000 in
theorem bentn_any (v1 v3 : Value) (xs : List Nat) (zs : List Int) (w : World) (h1 : Rd .u8 w v1 xs) (h3 : RdI .i64 w v3 zs) (hx : ∀ y ∈ xs, y < 256) (hz : ∀ y ∈ zs, (Lit.int .i64 y).wf = true)
    (l1 : 0 < xs.length) (m1 : xs.length ≤ 1000) :
    Calls Try.prog 23 #[v1, .slice none 0 0, v3] w fun e w' => BentNil w w' xs zs.length e ∧ Below w.heap.size w w' := by
  have H1 := hid h1
  obtain ⟨a3, k3, rfl, c1, c2, hc3⟩ := h3
  have H3 := hid hc3
  have HZ := hid hz
  have hF1 : Hid (∀ j, (fun x => xs.getD x 0) j < 256) := hid fun j => Gf.getD_lt (m := 8) hx j
  have hzl : zs.length ≤ 9223372036854775807 := by unfold maxLen at c2; omega
  clear h1 hc3 hz hx c1 c2
  go_enter Try.func23, Try.ntmps23
  go_wp2_with (first | (at_builtin; refine app_row el_byte rfl _ _ rfl w.heap.size (.slice none 0 0) [] rfl (Own.nil _ _ _ _) xs (by exact H1.out) l1 (by simp; omega) (by simp) ?_; intro g1 cap1 w1 hown hgrow hat; have hb1 := grow_below (v := .slice none 0 0) (Below.refl w.heap.size w) (Nat.le_refl _) hgrow (by simp [Value.ownBlock]); have HOWN1 := hid hown; have HB1 := hid hb1; clear hown hgrow hat hb1) | (at_builtin; refine app_none el_byte rfl _ _ rfl w1.heap.size (.slice none 0 0) [] rfl (Own.nil _ _ _ _) rfl ?_))
  have ho1 := HOWN1.out
  simp only [List.length_nil, Nat.zero_add, List.nil_append] at ho1
  obtain ⟨g1', cap1', he, hg1, ho1⟩ := ho1.ow l1
  cases he
  have HO1 := hid ho1
  have HB := HB1
  clear ho1 HOWN1 HB1
  obtain ⟨N, hN⟩ : ∃ N, 8 * xs.length = N := ⟨_, rfl⟩
  have hNz : 8 * (xs.length : Int) = (N : Int) := by omega
  rw [hNz]
  have HN := hid hN
  have hN0 : (0 : Int) < (N : Int) := by omega
  clear hN hNz
  obtain ⟨M, hM⟩ : ∃ M, min zs.length 12 = M := ⟨_, rfl⟩
  have hM1 : M ≤ zs.length := by omega
  have hM2 : M ≤ 12 := by omega
  have HM := hid hM
  clear hM
  go_loopg [11] M (fun gk i wr => ∃ (I : Nat) (F1 : Nat → Nat), I + gk = M ∧ i = .int .i64 I ∧ Ow .u8 5 wr g1 xs.length cap1 F1 ∧ (∀ j, F1 j < 256) ∧
    ub F1 (xs.getD · 0) xs.length ≤ I ∧ Below w.heap.size w wr)
  case atStart => exact ⟨0, _, by omega, rfl, HO1.out, hF1.out, by rw [ub_self]; omega, HB.out⟩
  case round =>
    clear HO1 HB
    obtain ⟨I, F1, hI, rfl, ho1, hf1, hub, hb⟩ := hrel
    have HO1 := hid ho1
    have HF1 := hid hf1
    have HUB := hid hub
    have HB := hid hb
    clear ho1 hf1 hub hb
    by_cases hlt : I < M
    · obtain ⟨g3, o3, rfl, hx3⟩ := H3.out I (by omega)
      have cz : wr.cell? ⟨g3, o3 + I, none⟩ = some (.int .i64 (zs.getD I 0)) := by rw [HB.out.cell (World.block_lt_of_cell? _ _ hx3)]; exact hx3
      have hzw : (Lit.int .i64 (zs.getD I 0)).wf = true := HZ.out _ (by simp [List.getD, show I < zs.length by omega])
      have HX3 := hid hx3
      generalize zs.getD I 0 = z at *
      have hzb := bounds_i64 hzw
      have hzb1 := hzb.1
      have hzb2 := hzb.2
      have hi1 : (I : Int) < (zs.length : Int) := by omega
      have hi2 : (I : Int) < 12 := by omega
      obtain ⟨K, hK⟩ : ∃ K, plc z N = K := ⟨_, rfl⟩
      have hKN : K < N := by
        rw [← hK]; unfold plc
        have := Int.emod_lt_of_pos (if z < 0 then -(z + 1) else z) (show (0 : Int) < (N : Int) by omega)
        have := Int.emod_nonneg (if z < 0 then -(z + 1) else z) (show (N : Int) ≠ 0 by omega)
        omega
      have hKz : (if z < 0 then -(z + 1) else z) % (N : Int) = (K : Int) := by
        rw [← hK]; unfold plc
        have := Int.emod_nonneg (if z < 0 then -(z + 1) else z) (show (N : Int) ≠ 0 by omega)
        omega
      clear hx3 hzw hzb hK
      have hcase : (z < 0 ∧ -(z + 1).tmod (N : Int) = (K : Int)) ∨ (0 ≤ z ∧ z % (N : Int) = (K : Int)) := by
        by_cases h0 : z < 0
        · rw [if_pos h0] at hKz
          refine .inl ⟨h0, ?_⟩
          rw [← Int.neg_tmod, Int.tmod_eq_emod_of_nonneg (by omega)]; exact hKz
        · rw [if_neg h0] at hKz; exact .inr ⟨by omega, hKz⟩
      clear hKz
      have hd : K < 8 * xs.length := by have := HN.out; omega
      · have hd' : (K : Int) < 8 * (xs.length : Int) := by omega
        have hd8 : (K : Int) / 8 < (xs.length : Int) := by omega
        have c1 : wr.cell? ⟨g1, K / 8, none⟩ = some (.int .u8 ((F1 (K / 8) : Nat) : Int)) := HO1.out.cell (by omega)
        have f1 : wr.frozen? ⟨g1, K / 8, none⟩ = false := HO1.out.free _
        have hxl := xor_lob (F1 (K / 8)) K (HF1.out _)
        have HXL := hid hxl
        clear hxl
        rcases hcase with ⟨h0, hkk⟩ | ⟨h0, hkk⟩
        all_goals
          go_wp2_with fail
          go_roundg (gk - 1)
          case measure => omega
          case rel =>
            refine ⟨I + 1, tb F1 (lob K), by omega, by go_num, ?_, tb_lt HF1.out _, ?_, HB.out.setCell hg1 _⟩
            · rw [HXL.out, tb_lob]
              exact HO1.out.set _ _
            · have := ub_tb F1 (xs.getD · 0) (lob K) xs.length
              have := HUB.out
              omega
    · obtain rfl : I = M := by omega
      by_cases hz1 : I < zs.length
      · have hi2 : ¬ (I : Int) < 12 := by have := HM.out; omega
        have hi1 : (I : Int) < (zs.length : Int) := by omega
        go_wp2_with fail
        go_ret2
        exact ⟨⟨g1, cap1, F1, hg1, rfl, HO1.out, HF1.out, by rw [HM.out]; exact HUB.out⟩, HB.out⟩
      · have hi1 : ¬ (I : Int) < (zs.length : Int) := by omega
        go_wp2_with fail
        go_ret2
        exact ⟨⟨g1, cap1, F1, hg1, rfl, HO1.out, HF1.out, by rw [HM.out]; exact HUB.out⟩, HB.out⟩
end Go.Proofs.Ytjompiihdnaogaa
