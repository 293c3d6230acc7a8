/- Walks over firkinlaw02: how many bits differ; bits turned at raw places. -/
import Derived.Test.YtjompiihdnaogaaUb
import Derived.Test.YtjompiihdnaogaaLab
import Derived.Test.YtjompiihdnaogaaRow
namespace Go.Proofs.Ytjompiihdnaogaa
open Go.RowKit Go.Mem

set_option maxRecDepth 100000 in
set_option maxHeartbeats 1600000 in
theorem unlike_any (v1 v2 : Value) (xs ys : List Nat) (w : World) (h1 : Rd .u8 w v1 xs) (h2 : Rd .u8 w v2 ys) (hx : ∀ y ∈ xs, y < 256) (hy : ∀ y ∈ ys, y < 256) (hl : xs.length = ys.length) (hm : xs.length ≤ 1000000) :
    Calls Try.prog 26 #[v1, v2] w fun e w' => e = .returned (.int .i64 (ub (xs.getD · 0) (ys.getD · 0) xs.length : Nat)) ∧ ∃ k, w' = w.drewN k := by
  obtain ⟨a1, k1, rfl, _, _, hc1⟩ := h1
  obtain ⟨a2, k2, rfl, _, _, hc2⟩ := h2
  have H1 := hid hc1
  have H2 := hid hc2
  have HX := hid hx
  have HY := hid hy
  rw [← us_ub, ← hl]
  have HL := hid hl
  clear hc1 hc2 hx hy hl
  go_enter Try.func26, Try.ntmps26
  go_wp2_with fail
  go_loopg [6, 5] xs.length (fun gk i n wr => ∃ I : Nat, I + gk = xs.length ∧ i = .int .i64 I ∧ n = .int .i64 (us (xs.getD · 0) (ys.getD · 0) I : Nat) ∧ ∃ k, wr = w.drewN k)
  case atStart => exact ⟨0, by omega, rfl, rfl, 0, rfl⟩
  case round =>
    obtain ⟨I, hI, rfl, rfl, kd, rfl⟩ := hrel
    have hstep : us (xs.getD · 0) (ys.getD · 0) (I+1) = us (xs.getD · 0) (ys.getD · 0) I + uk (xs.getD I 0 ^^^ ys.getD I 0) 8 := rfl
    have hus := us_le (xs.getD · 0) (ys.getD · 0) I
    generalize hU : us (xs.getD · 0) (ys.getD · 0) I = U at *
    have HST := hid hstep
    have HUU := hid hU
    clear hstep hU
    by_cases hlt : I < xs.length
    · obtain ⟨g1, o1, rfl, hx1⟩ := H1.out I hlt
      obtain ⟨g2, o2, rfl, hx2⟩ := H2.out I (by have := HL.out; omega)
      have hxl := HX.out _ (getD_mem hlt)
      have hyl := HY.out _ (getD_mem (show I < ys.length by have := HL.out; omega))
      generalize xs.getD I 0 = x at *
      generalize ys.getD I 0 = y at *
      have HX1 := hid hx1
      have HX2 := hid hx2
      have hIz : (I : Int) < (xs.length : Int) := by omega
      clear hx1 hx2
      go_wp2_with fail
      go_loopg [7, 5] 8 (fun gk k n wr => ∃ K : Nat, K + gk = 8 ∧ k = .int .i64 K ∧ n = .int .i64 (U + uk (x ^^^ y) K : Nat) ∧ ∃ k, wr = w.drewN k)
      case atStart => exact ⟨0, by omega, rfl, rfl, kd, rfl⟩
      case round =>
        obtain ⟨K, hK, rfl, rfl, kd2, rfl⟩ := hrel
        have hs2 : uk (x ^^^ y) (K+1) = uk (x ^^^ y) K + ((x ^^^ y).testBit K).toNat := rfl
        have hle := uk_le (x ^^^ y) K
        generalize hu : uk (x ^^^ y) K = u at *
        have HS2 := hid hs2
        have HU := hid hu
        clear hs2 hu
        by_cases hlt2 : K < 8
        · have c1 : (w.drewN kd2).cell? ⟨g1, o1 + I, none⟩ = some (.int .u8 (x : Int)) := HX1.out
          have c2 : (w.drewN kd2).cell? ⟨g2, o2 + I, none⟩ = some (.int .u8 (y : Int)) := HX2.out
          have ex : bits .xor .u8 (x : Int) (y : Int) = ((x ^^^ y : Nat) : Int) := bits_xor_nat .u8 8 (by decide) wraps_u8 _ _ hxl hyl
          have hxy : x ^^^ y < 256 := Nat.xor_lt_two_pow (n := 8) hxl hyl
          generalize x ^^^ y = z at *
          have ea : bits .and .u8 ((z : Int) / 2 ^ K) 1 = (((z.testBit K).toNat : Nat) : Int) := by
            have e : ((z : Int) / 2 ^ K) = ((z / 2 ^ K : Nat) : Int) := by simp
            rw [e]
            refine ((bits_nat .u8 8 (by decide) (fun n h0 h1 => wraps_u8 n h0 h1) (z / 2^K) 1 (Nat.lt_of_le_of_lt (Nat.div_le_self _ _) hxy) (by decide)).1).trans ?_
            rw [Nat.and_one_is_mod, Nat.testBit_eq_decide_div_mod_eq]
            have := Nat.mod_two_eq_zero_or_one (z / 2^K)
            rcases this with h | h <;> simp [h]
          have hbl : (z.testBit K).toNat ≤ 1 := by cases z.testBit K <;> simp
          generalize (z.testBit K).toNat = b at *
          generalize hwd : w.drewN kd2 = wd at *
          have HWD := hid hwd
          clear hwd hxl hyl
          go_wp2_with fail
          go_quiet (fail)
          go_wp2_with fail
          go_roundg (8 - (K + 1))
          case measure => omega
          case rel => exact ⟨K + 1, by omega, by go_num, by rw [HS2.out]; go_num, kd2 + nq, by rw [← HWD.out, drewN_add]⟩
        · obtain rfl : K = 8 := by omega
          go_wp2_with fail
          go_roundg (xs.length - (I + 1))
          case measure => omega
          case rel => exact ⟨I + 1, by omega, by go_num, by rw [HST.out, HU.out], kd2, rfl⟩
    · obtain rfl : I = xs.length := by omega
      go_wp2_with fail
      go_ret
      exact ⟨by rw [HUU.out]; rfl, kd, rfl⟩

/-- A number's place among n. -/
def plc (z : Int) (n : Nat) : Nat := ((if z < 0 then -(z + 1) else z) % (n : Int)).toNat
/-- The bit that 1 << (k % 8) turns in byte k / 8. -/
def lob (k : Nat) : Nat := 8 * (k / 8) + (7 - k % 8)
theorem lob_shr (a : Nat) (h : a < 8) : 128 >>> (7 - a) = 2 ^ a := by
  have : ∀ a : Fin 8, 128 >>> (7 - a.val) = 2 ^ a.val := by decide
  exact this ⟨a, h⟩
theorem tb_lob (f : Nat → Nat) (k : Nat) : tb f (lob k) = upd f (k / 8) (f (k / 8) ^^^ 2 ^ (k % 8)) := by
  unfold tb lob
  rw [show (8 * (k / 8) + (7 - k % 8)) / 8 = k / 8 by omega, show (8 * (k / 8) + (7 - k % 8)) % 8 = 7 - k % 8 by omega, lob_shr _ (Nat.mod_lt _ (by decide))]

theorem xor_lob (x k : Nat) (hx : x < 256) : bits .xor .u8 (x : Int) ((2 : Int) ^ (k % 8) % 256) = ((x ^^^ 2 ^ (k % 8) : Nat) : Int) := by
  have h2 : 2 ^ (k % 8) < 256 := Nat.lt_of_le_of_lt (Nat.pow_le_pow_right (by decide) (show k % 8 ≤ 7 by omega)) (by decide)
  have e : ((2 : Int) ^ (k % 8) % 256) = ((2 ^ (k % 8) : Nat) : Int) := by
    have : ((2 ^ (k % 8) : Nat) : Int) = (2 : Int) ^ (k % 8) := by simp
    rw [← this]
    generalize 2 ^ (k % 8) = q at *
    omega
  rw [e]
  exact bits_xor_nat .u8 8 (by decide) wraps_u8 _ _ hx h2

/-- What bent hands back. -/
def BentRet (w w' : World) (xs ys : List Nat) (n : Nat) (e : Ending) : Prop :=
  ∃ g1 c1 g2 c2 F1 F2, w.heap.size ≤ g1 ∧ w.heap.size ≤ g2 ∧ e = .returned (.tuple #[.slice (some ⟨g1, 0, none⟩) xs.length c1, .slice (some ⟨g2, 0, none⟩) ys.length c2]) ∧
    Ow .u8 5 w' g1 xs.length c1 F1 ∧ Ow .u8 5 w' g2 ys.length c2 F2 ∧ (∀ j, F1 j < 256) ∧ (∀ j, F2 j < 256) ∧ ub F1 (xs.getD · 0) xs.length + ub F2 (ys.getD · 0) ys.length ≤ min n 12

set_option maxRecDepth 100000 in
set_option maxHeartbeats 1600000 in
theorem bent_any (v1 v2 v3 : Value) (xs ys : List Nat) (zs : List Int) (w : World) (h1 : Rd .u8 w v1 xs) (h2 : Rd .u8 w v2 ys) (h3 : RdI .i64 w v3 zs) (hx : ∀ y ∈ xs, y < 256) (hy : ∀ y ∈ ys, y < 256) (hz : ∀ y ∈ zs, (Lit.int .i64 y).wf = true)
    (l1 : 0 < xs.length) (l2 : 0 < ys.length) (m1 : xs.length ≤ 1000) (m2 : ys.length ≤ 1000) :
    Calls Try.prog 23 #[v1, v2, v3] w fun e w' => BentRet w w' xs ys zs.length e ∧ Below w.heap.size w w' := by
  have H1 := hid h1
  have H2 := hid h2
  obtain ⟨a3, k3, rfl, c1, c2, hc3⟩ := h3
  have H3 := hid hc3
  have HZ := hid hz
  have hF1 : Hid (∀ j, (fun x => xs.getD x 0) j < 256) := hid fun j => Gf.getD_lt (m := 8) hx j
  have hF2 : Hid (∀ j, (fun x => ys.getD x 0) j < 256) := hid fun j => Gf.getD_lt (m := 8) hy j
  have hzl : zs.length ≤ 9223372036854775807 := by unfold maxLen at c2; omega
  clear h1 h2 hc3 hz hx hy c1 c2
  go_enter Try.func23, Try.ntmps23
  go_wp2_with (first | (at_builtin; refine app_row el_byte rfl _ _ rfl w.heap.size (.slice none 0 0) [] rfl (Own.nil _ _ _ _) xs (by exact H1.out) l1 (by simp; omega) (by simp) ?_; intro g1 cap1 w1 hown hgrow hat; have hb1 := grow_below (v := .slice none 0 0) (Below.refl w.heap.size w) (Nat.le_refl _) hgrow (by simp [Value.ownBlock]); have HOWN1 := hid hown; have HB1 := hid hb1; clear hown hgrow hat hb1) | (at_builtin; refine app_row el_byte rfl _ _ rfl w1.heap.size (.slice none 0 0) [] rfl (Own.nil _ _ _ _) ys (by exact H2.out.below HB1.out) l2 (by simp; omega) (by simp) ?_; intro g2 cap2 w2 hown hgrow hat; have hb2 := grow_below (v := .slice none 0 0) (Below.refl w1.heap.size w1) (Nat.le_refl _) hgrow (by simp [Value.ownBlock]); have HOWN2 := hid hown; have HB2 := hid hb2; clear hown hgrow hat hb2))
  have ho1 := HOWN1.out
  simp only [List.length_nil, Nat.zero_add, List.nil_append] at ho1
  obtain ⟨g1', cap1', he, hg1, ho1⟩ := ho1.ow l1
  cases he
  have ho2 := HOWN2.out
  simp only [List.length_nil, Nat.zero_add, List.nil_append] at ho2
  obtain ⟨g2', cap2', he, hg2, ho2⟩ := ho2.ow l2
  cases he
  have hg12 : g1 ≠ g2 := by have := ho1.lt; omega
  have hg2' : w.heap.size ≤ g2 := by have := HB1.out.size; omega
  have HO1 : Hid (Ow .u8 5 w2 g1 xs.length cap1 (xs.getD · 0)) := hid (ho1.same (HB2.out.block _ ho1.lt))
  have HO2 := hid ho2
  have HB := hid (HB1.out.comp HB2.out)
  clear ho1 ho2 HOWN1 HOWN2 HB1 HB2 hg2
  obtain ⟨N, hN⟩ : ∃ N, 8 * (xs.length + ys.length) = N := ⟨_, rfl⟩
  have hNz : 8 * ((xs.length : Int) + ys.length) = (N : Int) := by omega
  rw [hNz]
  have HN := hid hN
  have hN0 : (0 : Int) < (N : Int) := by omega
  clear hN hNz
  obtain ⟨M, hM⟩ : ∃ M, min zs.length 12 = M := ⟨_, rfl⟩
  have hM1 : M ≤ zs.length := by omega
  have hM2 : M ≤ 12 := by omega
  have HM := hid hM
  clear hM
  go_loopg [11] M (fun gk i wr => ∃ (I : Nat) (F1 F2 : Nat → Nat), I + gk = M ∧ i = .int .i64 I ∧ Ow .u8 5 wr g1 xs.length cap1 F1 ∧ Ow .u8 5 wr g2 ys.length cap2 F2 ∧ (∀ j, F1 j < 256) ∧ (∀ j, F2 j < 256) ∧
    ub F1 (xs.getD · 0) xs.length + ub F2 (ys.getD · 0) ys.length ≤ I ∧ Below w.heap.size w wr)
  case atStart => exact ⟨0, _, _, by omega, rfl, HO1.out, HO2.out, hF1.out, hF2.out, by rw [ub_self, ub_self]; omega, HB.out⟩
  case round =>
    clear HO1 HO2 HB
    obtain ⟨I, F1, F2, hI, rfl, ho1, ho2, hf1, hf2, hub, hb⟩ := hrel
    have HO1 := hid ho1
    have HO2 := hid ho2
    have HF1 := hid hf1
    have HF2 := hid hf2
    have HUB := hid hub
    have HB := hid hb
    clear ho1 ho2 hf1 hf2 hub hb
    by_cases hlt : I < M
    · obtain ⟨g3, o3, rfl, hx3⟩ := H3.out I (by omega)
      have cz : wr.cell? ⟨g3, o3 + I, none⟩ = some (.int .i64 (zs.getD I 0)) := by rw [HB.out.cell (World.block_lt_of_cell? _ _ hx3)]; exact hx3
      have hzw : (Lit.int .i64 (zs.getD I 0)).wf = true := HZ.out _ (by simp [List.getD, show I < zs.length by omega])
      have HX3 := hid hx3
      generalize zs.getD I 0 = z at *
      have hzb := bounds_i64 hzw
      have hzb1 := hzb.1
      have hzb2 := hzb.2
      have hi1 : (I : Int) < (zs.length : Int) := by omega
      have hi2 : (I : Int) < 12 := by omega
      obtain ⟨K, hK⟩ : ∃ K, plc z N = K := ⟨_, rfl⟩
      have hKN : K < N := by
        rw [← hK]; unfold plc
        have := Int.emod_lt_of_pos (if z < 0 then -(z + 1) else z) (show (0 : Int) < (N : Int) by omega)
        have := Int.emod_nonneg (if z < 0 then -(z + 1) else z) (show (N : Int) ≠ 0 by omega)
        omega
      have hKz : (if z < 0 then -(z + 1) else z) % (N : Int) = (K : Int) := by
        rw [← hK]; unfold plc
        have := Int.emod_nonneg (if z < 0 then -(z + 1) else z) (show (N : Int) ≠ 0 by omega)
        omega
      clear hx3 hzw hzb hK
      have hcase : (z < 0 ∧ -(z + 1).tmod (N : Int) = (K : Int)) ∨ (0 ≤ z ∧ z % (N : Int) = (K : Int)) := by
        by_cases h0 : z < 0
        · rw [if_pos h0] at hKz
          refine .inl ⟨h0, ?_⟩
          rw [← Int.neg_tmod, Int.tmod_eq_emod_of_nonneg (by omega)]; exact hKz
        · rw [if_neg h0] at hKz; exact .inr ⟨by omega, hKz⟩
      clear hKz
      by_cases hd : K < 8 * xs.length
      · have hd' : (K : Int) < 8 * (xs.length : Int) := by omega
        have hd8 : (K : Int) / 8 < (xs.length : Int) := by omega
        have c1 : wr.cell? ⟨g1, K / 8, none⟩ = some (.int .u8 ((F1 (K / 8) : Nat) : Int)) := HO1.out.cell (by omega)
        have f1 : wr.frozen? ⟨g1, K / 8, none⟩ = false := HO1.out.free _
        have hxl := xor_lob (F1 (K / 8)) K (HF1.out _)
        have HXL := hid hxl
        clear hxl
        rcases hcase with ⟨h0, hkk⟩ | ⟨h0, hkk⟩
        all_goals
          go_wp2_with fail
          go_roundg (gk - 1)
          case measure => omega
          case rel =>
            refine ⟨I + 1, tb F1 (lob K), F2, by omega, by go_num, ?_, ?_, tb_lt HF1.out _, HF2.out, ?_, HB.out.setCell hg1 _⟩
            · rw [HXL.out, tb_lob]
              exact HO1.out.set _ _
            · exact HO2.out.same (set_other (Ne.symm hg12))
            · have := ub_tb F1 (xs.getD · 0) (lob K) xs.length
              have := HUB.out
              omega
      · have hd' : ¬ (K : Int) < 8 * (xs.length : Int) := by omega
        obtain ⟨K2, hK2⟩ : ∃ K2, K - 8 * xs.length = K2 := ⟨_, rfl⟩
        have hK2z : (K : Int) - 8 * (xs.length : Int) = (K2 : Int) := by omega
        have hK2l : K2 < 8 * ys.length := by have := HN.out; omega
        have hd8 : (K2 : Int) / 8 < (ys.length : Int) := by omega
        have c1 : wr.cell? ⟨g2, K2 / 8, none⟩ = some (.int .u8 ((F2 (K2 / 8) : Nat) : Int)) := HO2.out.cell (by omega)
        have f1 : wr.frozen? ⟨g2, K2 / 8, none⟩ = false := HO2.out.free _
        have hxl := xor_lob (F2 (K2 / 8)) K2 (HF2.out _)
        have HXL := hid hxl
        clear hxl hK2
        rcases hcase with ⟨h0, hkk⟩ | ⟨h0, hkk⟩
        all_goals
          go_wp2_with fail
          go_roundg (gk - 1)
          case measure => omega
          case rel =>
            refine ⟨I + 1, F1, tb F2 (lob K2), by omega, by go_num, ?_, ?_, HF1.out, tb_lt HF2.out _, ?_, HB.out.setCell hg2' _⟩
            · exact HO1.out.same (set_other hg12)
            · rw [HXL.out, tb_lob]
              exact HO2.out.set _ _
            · have := ub_tb F2 (ys.getD · 0) (lob K2) ys.length
              have := HUB.out
              omega
    · obtain rfl : I = M := by omega
      by_cases hz1 : I < zs.length
      · have hi2 : ¬ (I : Int) < 12 := by have := HM.out; omega
        have hi1 : (I : Int) < (zs.length : Int) := by omega
        go_wp2_with fail
        go_ret2
        exact ⟨⟨g1, cap1, g2, cap2, F1, F2, hg1, hg2', rfl, HO1.out, HO2.out, HF1.out, HF2.out, by rw [HM.out]; exact HUB.out⟩, HB.out⟩
      · have hi1 : ¬ (I : Int) < (zs.length : Int) := by omega
        go_wp2_with fail
        go_ret2
        exact ⟨⟨g1, cap1, g2, cap2, F1, F2, hg1, hg2', rfl, HO1.out, HO2.out, HF1.out, HF2.out, by rw [HM.out]; exact HUB.out⟩, HB.out⟩
end Go.Proofs.Ytjompiihdnaogaa
