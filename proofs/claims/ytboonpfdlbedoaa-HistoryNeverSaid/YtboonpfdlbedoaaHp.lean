/- Walks over firkinlaw19: HistoryNever. -/
import Derived.Test.YtboonpfdlbedoaaHn
namespace Go.Proofs.Ytboonpfdlbedoaa
open Go Go.RowKit Go.Mem Go.Hs
set_option linter.unusedVariables false


def nvP (value : Nat) : Nat → List Nat → Prop := fun _ S => value ≠ 0 → ¬ value ∈ S
theorem nvP_nx {value v : Nat} (h : v ≠ value) (i : Nat) : Nx (nvP value) i v := by
  refine ⟨fun h0 hm => ?_, fun S hS h0 hm => ?_⟩
  · simp at hm; exact h hm.symm
  · rcases mem_ins.1 hm with hm | hm
    · exact h hm.symm
    · exact hS h0 hm


set_option maxRecDepth 100000 in
set_option maxHeartbeats 12800000 in
theorem never_any (a : Option Addr) (len cap : Nat) (l : List HOp) (value : Nat) (w : World) (h : OpR w a len cap l) (hv : value < 18446744073709551616) :
    Calls Try.prog 5 #[.slice a len cap, .int .u64 (value : Nat)] w fun e w' => e = .returned (.bool true) ∧ Below w.heap.size w w' := by
  have hv' : (value : Int) < 18446744073709551616 := by omega
  have l0 : (len : Int) ≤ 9223372036854775807 := by have := h.2.1; have := h.2.2.1; unfold maxLen at this; omega
  have l1 : (len : Int) ≤ (cap : Int) := by have := h.2.1; omega
  have l2 : (cap : Int) ≤ 9223372036854775807 := by have := h.2.2.1; unfold maxLen at this; omega
  have HR := Lib.hid h
  clear h
  go_enter Try.func5, Try.ntmps5
  go_wp2_with fail
  refine (awakeH_any _).mono ?_
  rintro e w1 ⟨rfl, b1⟩
  have B1 := Lib.hid b1
  have hb1 : w.heap.size ≤ w1.heap.size := b1.size
  clear b1
  go_wp2_with fail
  refine (mdp_new (nvP value) 3 w1 (by omega) (by omega) (fun i _ h0 hm => h0 (by simpa using hm))).mono ?_
  rintro e w2 ⟨rfl, m2, b2⟩
  have M2 := Lib.hid m2
  have B2 := Lib.hid b2
  clear m2 b2
  obtain ⟨p, hp⟩ : ∃ p, w1.heap.size = p := ⟨_, rfl⟩
  have HP := Lib.hid hp
  rw [hp] at M2
  rw [hp]
  clear hp
  go_wp2_with fail
  go_loopg [8] 100 (fun gk x wr => ∃ (I : Nat), I + gk = 100 ∧ x = .int .i64 I ∧ MdP (nvP value) p wr p 3 (I + 1) ∧ Below p w1 wr)
  case atStart => exact ⟨0, rfl, rfl, M2.out, HP.out ▸ B2.out⟩
  case round =>
    obtain ⟨I, hI, rfl, hm, hb⟩ := hrel
    have HM := Lib.hid hm
    have HB := Lib.hid hb
    clear hm hb
    obtain ⟨wo, rfl⟩ : ∃ wo : World, wo = wr := ⟨_, rfl⟩
    obtain ⟨gk0, rfl⟩ : ∃ V, V = gk := ⟨_, rfl⟩
    by_cases hlt : I < len ∧ I < 100
    · obtain ⟨hl1, hl2⟩ := hlt
      have i1 : (I : Int) < (len : Int) := by omega
      have i2 : (I : Int) < 100 := by omega
      have i0 : (0 : Int) ≤ (I : Int) := by omega
      obtain ⟨g, o, rfl, x1, x2, x3⟩ := ((HR.out.below ((B1.out.trans (HB.out.mono (HP.out ▸ hb1))))).2.2.2.2 I hl1)
      obtain ⟨k0, s0, v0, hk, hs, hvv⟩ : ∃ k s v, (l.getD I HOp.zero).kind = k ∧ (l.getD I HOp.zero).sector = s ∧ (l.getD I HOp.zero).value = v := ⟨_, _, _, rfl, rfl, rfl⟩
      rw [hk] at x1
      rw [hs] at x2
      rw [hvv] at x3
      have hfit : (Lit.int .i64 k0).wf = true ∧ (Lit.int .i64 s0).wf = true ∧ v0 < 18446744073709551616 := by
        have := HR.out.2.2.2.1 (l.getD I HOp.zero) (by rw [List.getD_eq_getElem?_getD, List.getElem?_eq_getElem (by rw [HR.out.1]; exact hl1)]; exact List.getElem_mem _)
        rw [← hk, ← hs, ← hvv]; exact this
      have HR2 := Lib.hid HR.out
      have HFK := Lib.hid hfit.1
      have HFS := Lib.hid hfit.2.1
      have hfv := hfit.2.2
      have hle1 := absH_le hfit.1
      have hle2 := absH_le hfit.2.1
      clear hvv hk hs HR M2 hfit
      obtain ⟨wa, hwa⟩ : ∃ W, wo.alloc (.cells #[.int .i64 k0, .int .i64 s0, .int .u64 (v0 : Nat)] 33) = W := ⟨_, rfl⟩
      have hbl : Below wo.heap.size wo wa := by rw [← hwa]; exact (Below.refl _ _).alloc (Nat.le_refl _) _
      have hbx : wa.heap[wo.heap.size]? = some (.cells #[.int .i64 k0, .int .i64 s0, .int .u64 (v0 : Nat)] 33 (0, 0)) := by rw [← hwa]; exact alloc_new wo _
      have HMA := Lib.hid (HM.out.below hbl)
      have HBA := Lib.hid (HB.out.trans (hbl.mono HM.out.base))
      have HBX := Lib.hid hbx
      have HWA := Lib.hid hwa
      obtain ⟨b, hb⟩ : ∃ b, wo.heap.size = b := ⟨_, rfl⟩
      have HBE := Lib.hid hb
      clear hwa hbx hbl
      go_wp2_with (fail)
      rw [HWA.out]
      rw [HBE.out] at HBX
      refine (absH_any s0 wa HFS.out).mono ?_
      rintro e wq ⟨rfl, rfl⟩
      have y0 := cell_at HBX.out 0
      have y1 := cell_at HBX.out 1
      have y2 := cell_at HBX.out 2
      obtain ⟨ka, hka⟩ : ∃ ka, absH k0 = ka := ⟨_, rfl⟩
      obtain ⟨sa, hsa⟩ : ∃ sa, absH s0 = sa := ⟨_, rfl⟩
      rw [hka] at hle1
      rw [hsa] at hle2 ⊢
      have HKA := Lib.hid hka
      clear hka hsa hb HWA HBE x1 x2 x3
      go_upto_region 12 with (fail)
      obtain ⟨n, hn⟩ : ∃ n, sa % 3 = n := ⟨_, rfl⟩
      have hni : (sa : Int) % 3 = (n : Nat) := by omega
      have hn3 : n < 3 := by omega
      rw [hni]
      clear hni hn
      by_cases hvv : value = v0
      · subst hvv
        by_cases hvt : value = 18446744073709551615
        · have hw : IntKind.u64.wrap ((value : Int) + 1) = 0 := by rw [hvt]; rfl
          have HNX := Lib.hid (nvP_nx (value := value) (v := 0) (by omega) n)
          clear hvt
          go_upto_region 15 with (fail)
          have hfw : 0 < 18446744073709551616 := by omega
          clear hw
          go_wp2_with (fail)
          refine (absH_any k0 wa HFK.out).mono ?_
          rintro e wq ⟨rfl, rfl⟩
          rw [HKA.out]
          go_upto_region 16 with (fail)
          have h4 : (ka : Int) % 4 = 0 ∨ (ka : Int) % 4 = 1 ∨ (ka : Int) % 4 = 2 ∨ (ka : Int) % 4 = 3 := by omega
          rcases h4 with h4 | h4 | h4 | h4
          · go_wp2_with (fail)
            refine (absH_any k0 wa HFK.out).mono ?_
            rintro e wq ⟨rfl, rfl⟩
            rw [HKA.out]
            obtain ⟨fc, hfc⟩ : ∃ fc : Bool, ((ka : Int) % 3 == 0) = fc := ⟨_, rfl⟩
            go_wp2_with (fail)
            refine (mdp_write (v := 0) HMA.out hn3 hfw (by omega) HNX.out fc).mono ?_
            rintro e w5 ⟨rfl, m5, b5⟩
            have M5 := Lib.hid m5
            have B5 := Lib.hid (HBA.out.trans b5)
            clear m5 b5 y0 y1 y2
            go_wp2_with (fail)
            refine (mdp_read M5.out hn3 hv (by omega) (fun S hS hm h0 => absurd hm (hS h0))).mono ?_
            rintro e w6 ⟨r, rfl, hr, m6, b6⟩
            have M6 := Lib.hid m6
            have B6 := Lib.hid (B5.out.trans b6)
            clear m6 b6
            rcases hr with ⟨rfl, _⟩ | ⟨rfl, S, hS, hmS⟩
            · by_cases hv0 : value = 0
              · subst hv0
                go_wp2_with (fail)
                go_roundg (gk0 - 1)
                case measure => omega
                case rel => exact ⟨I + 1, by omega, by go_num, M6.out.more (by omega), B6.out⟩
              · have hv1 : ((value : Int) != 0) = true := bne_iff_ne.2 (by omega)
                clear hv0
                go_wp2_with (fail)
                go_roundg (gk0 - 1)
                case measure => omega
                case rel => exact ⟨I + 1, by omega, by go_num, M6.out.more (by omega), B6.out⟩
            · obtain rfl : value = 0 := Classical.byContradiction fun h0 => hS h0 hmS
              clear hS hmS
              go_wp2_with (fail)
              go_roundg (gk0 - 1)
              case measure => omega
              case rel => exact ⟨I + 1, by omega, by go_num, M6.out.more (by omega), B6.out⟩
          · go_wp2_with (fail)
            refine (mdp_begin (v := 0) HMA.out hn3 hfw (by omega) HNX.out).mono ?_
            rintro e w5 ⟨rfl, m5, b5⟩
            have M5 := Lib.hid m5
            have B5 := Lib.hid (HBA.out.trans b5)
            clear m5 b5 y0 y1 y2
            go_wp2_with (fail)
            refine (mdp_read M5.out hn3 hv (by omega) (fun S hS hm h0 => absurd hm (hS h0))).mono ?_
            rintro e w6 ⟨r, rfl, hr, m6, b6⟩
            have M6 := Lib.hid m6
            have B6 := Lib.hid (B5.out.trans b6)
            clear m6 b6
            rcases hr with ⟨rfl, _⟩ | ⟨rfl, S, hS, hmS⟩
            · by_cases hv0 : value = 0
              · subst hv0
                go_wp2_with (fail)
                go_roundg (gk0 - 1)
                case measure => omega
                case rel => exact ⟨I + 1, by omega, by go_num, M6.out.more (by omega), B6.out⟩
              · have hv1 : ((value : Int) != 0) = true := bne_iff_ne.2 (by omega)
                clear hv0
                go_wp2_with (fail)
                go_roundg (gk0 - 1)
                case measure => omega
                case rel => exact ⟨I + 1, by omega, by go_num, M6.out.more (by omega), B6.out⟩
            · obtain rfl : value = 0 := Classical.byContradiction fun h0 => hS h0 hmS
              clear hS hmS
              go_wp2_with (fail)
              go_roundg (gk0 - 1)
              case measure => omega
              case rel => exact ⟨I + 1, by omega, by go_num, M6.out.more (by omega), B6.out⟩
          · go_wp2_with (fail)
            refine (mdp_cut HMA.out).mono ?_
            rintro e w5 ⟨rfl, m5, b5⟩
            have M5 := Lib.hid m5
            have B5 := Lib.hid (HBA.out.trans b5)
            clear m5 b5 y0 y1 y2
            go_wp2_with (fail)
            refine (mdp_read M5.out hn3 hv (by omega) (fun S hS hm h0 => absurd hm (hS h0))).mono ?_
            rintro e w6 ⟨r, rfl, hr, m6, b6⟩
            have M6 := Lib.hid m6
            have B6 := Lib.hid (B5.out.trans b6)
            clear m6 b6
            rcases hr with ⟨rfl, _⟩ | ⟨rfl, S, hS, hmS⟩
            · by_cases hv0 : value = 0
              · subst hv0
                go_wp2_with (fail)
                go_roundg (gk0 - 1)
                case measure => omega
                case rel => exact ⟨I + 1, by omega, by go_num, M6.out.more (by omega), B6.out⟩
              · have hv1 : ((value : Int) != 0) = true := bne_iff_ne.2 (by omega)
                clear hv0
                go_wp2_with (fail)
                go_roundg (gk0 - 1)
                case measure => omega
                case rel => exact ⟨I + 1, by omega, by go_num, M6.out.more (by omega), B6.out⟩
            · obtain rfl : value = 0 := Classical.byContradiction fun h0 => hS h0 hmS
              clear hS hmS
              go_wp2_with (fail)
              go_roundg (gk0 - 1)
              case measure => omega
              case rel => exact ⟨I + 1, by omega, by go_num, M6.out.more (by omega), B6.out⟩
          · go_wp2_with (fail)
            refine (mdp_sync HMA.out).mono ?_
            rintro e w5 ⟨rfl, m5, b5⟩
            have M5 := Lib.hid m5
            have B5 := Lib.hid (HBA.out.trans b5)
            clear m5 b5 y0 y1 y2
            go_wp2_with (fail)
            refine (mdp_read M5.out hn3 hv (by omega) (fun S hS hm h0 => absurd hm (hS h0))).mono ?_
            rintro e w6 ⟨r, rfl, hr, m6, b6⟩
            have M6 := Lib.hid m6
            have B6 := Lib.hid (B5.out.trans b6)
            clear m6 b6
            rcases hr with ⟨rfl, _⟩ | ⟨rfl, S, hS, hmS⟩
            · by_cases hv0 : value = 0
              · subst hv0
                go_wp2_with (fail)
                go_roundg (gk0 - 1)
                case measure => omega
                case rel => exact ⟨I + 1, by omega, by go_num, M6.out.more (by omega), B6.out⟩
              · have hv1 : ((value : Int) != 0) = true := bne_iff_ne.2 (by omega)
                clear hv0
                go_wp2_with (fail)
                go_roundg (gk0 - 1)
                case measure => omega
                case rel => exact ⟨I + 1, by omega, by go_num, M6.out.more (by omega), B6.out⟩
            · obtain rfl : value = 0 := Classical.byContradiction fun h0 => hS h0 hmS
              clear hS hmS
              go_wp2_with (fail)
              go_roundg (gk0 - 1)
              case measure => omega
              case rel => exact ⟨I + 1, by omega, by go_num, M6.out.more (by omega), B6.out⟩
        · have t1 : (value : Int) + 1 < 18446744073709551616 := by omega
          have t0 : (0 : Int) ≤ (value : Int) + 1 := by omega
          go_upto_region 15 with (fail)
          have hfw : value + 1 < 18446744073709551616 := by omega
          have HNX := Lib.hid (nvP_nx (value := value) (v := value + 1) (by omega) n)
          go_wp2_with (fail)
          refine (absH_any k0 wa HFK.out).mono ?_
          rintro e wq ⟨rfl, rfl⟩
          rw [HKA.out]
          go_upto_region 16 with (fail)
          have h4 : (ka : Int) % 4 = 0 ∨ (ka : Int) % 4 = 1 ∨ (ka : Int) % 4 = 2 ∨ (ka : Int) % 4 = 3 := by omega
          rcases h4 with h4 | h4 | h4 | h4
          · go_wp2_with (fail)
            refine (absH_any k0 wa HFK.out).mono ?_
            rintro e wq ⟨rfl, rfl⟩
            rw [HKA.out]
            obtain ⟨fc, hfc⟩ : ∃ fc : Bool, ((ka : Int) % 3 == 0) = fc := ⟨_, rfl⟩
            go_wp2_with (fail)
            refine (mdp_write (v := (value + 1)) HMA.out hn3 hfw (by omega) HNX.out fc).mono ?_
            rintro e w5 ⟨rfl, m5, b5⟩
            have M5 := Lib.hid m5
            have B5 := Lib.hid (HBA.out.trans b5)
            clear m5 b5 y0 y1 y2
            go_wp2_with (fail)
            refine (mdp_read M5.out hn3 hv (by omega) (fun S hS hm h0 => absurd hm (hS h0))).mono ?_
            rintro e w6 ⟨r, rfl, hr, m6, b6⟩
            have M6 := Lib.hid m6
            have B6 := Lib.hid (B5.out.trans b6)
            clear m6 b6
            rcases hr with ⟨rfl, _⟩ | ⟨rfl, S, hS, hmS⟩
            · by_cases hv0 : value = 0
              · subst hv0
                go_wp2_with (fail)
                go_roundg (gk0 - 1)
                case measure => omega
                case rel => exact ⟨I + 1, by omega, by go_num, M6.out.more (by omega), B6.out⟩
              · have hv1 : ((value : Int) != 0) = true := bne_iff_ne.2 (by omega)
                clear hv0
                go_wp2_with (fail)
                go_roundg (gk0 - 1)
                case measure => omega
                case rel => exact ⟨I + 1, by omega, by go_num, M6.out.more (by omega), B6.out⟩
            · obtain rfl : value = 0 := Classical.byContradiction fun h0 => hS h0 hmS
              clear hS hmS
              go_wp2_with (fail)
              go_roundg (gk0 - 1)
              case measure => omega
              case rel => exact ⟨I + 1, by omega, by go_num, M6.out.more (by omega), B6.out⟩
          · go_wp2_with (fail)
            refine (mdp_begin (v := (value + 1)) HMA.out hn3 hfw (by omega) HNX.out).mono ?_
            rintro e w5 ⟨rfl, m5, b5⟩
            have M5 := Lib.hid m5
            have B5 := Lib.hid (HBA.out.trans b5)
            clear m5 b5 y0 y1 y2
            go_wp2_with (fail)
            refine (mdp_read M5.out hn3 hv (by omega) (fun S hS hm h0 => absurd hm (hS h0))).mono ?_
            rintro e w6 ⟨r, rfl, hr, m6, b6⟩
            have M6 := Lib.hid m6
            have B6 := Lib.hid (B5.out.trans b6)
            clear m6 b6
            rcases hr with ⟨rfl, _⟩ | ⟨rfl, S, hS, hmS⟩
            · by_cases hv0 : value = 0
              · subst hv0
                go_wp2_with (fail)
                go_roundg (gk0 - 1)
                case measure => omega
                case rel => exact ⟨I + 1, by omega, by go_num, M6.out.more (by omega), B6.out⟩
              · have hv1 : ((value : Int) != 0) = true := bne_iff_ne.2 (by omega)
                clear hv0
                go_wp2_with (fail)
                go_roundg (gk0 - 1)
                case measure => omega
                case rel => exact ⟨I + 1, by omega, by go_num, M6.out.more (by omega), B6.out⟩
            · obtain rfl : value = 0 := Classical.byContradiction fun h0 => hS h0 hmS
              clear hS hmS
              go_wp2_with (fail)
              go_roundg (gk0 - 1)
              case measure => omega
              case rel => exact ⟨I + 1, by omega, by go_num, M6.out.more (by omega), B6.out⟩
          · go_wp2_with (fail)
            refine (mdp_cut HMA.out).mono ?_
            rintro e w5 ⟨rfl, m5, b5⟩
            have M5 := Lib.hid m5
            have B5 := Lib.hid (HBA.out.trans b5)
            clear m5 b5 y0 y1 y2
            go_wp2_with (fail)
            refine (mdp_read M5.out hn3 hv (by omega) (fun S hS hm h0 => absurd hm (hS h0))).mono ?_
            rintro e w6 ⟨r, rfl, hr, m6, b6⟩
            have M6 := Lib.hid m6
            have B6 := Lib.hid (B5.out.trans b6)
            clear m6 b6
            rcases hr with ⟨rfl, _⟩ | ⟨rfl, S, hS, hmS⟩
            · by_cases hv0 : value = 0
              · subst hv0
                go_wp2_with (fail)
                go_roundg (gk0 - 1)
                case measure => omega
                case rel => exact ⟨I + 1, by omega, by go_num, M6.out.more (by omega), B6.out⟩
              · have hv1 : ((value : Int) != 0) = true := bne_iff_ne.2 (by omega)
                clear hv0
                go_wp2_with (fail)
                go_roundg (gk0 - 1)
                case measure => omega
                case rel => exact ⟨I + 1, by omega, by go_num, M6.out.more (by omega), B6.out⟩
            · obtain rfl : value = 0 := Classical.byContradiction fun h0 => hS h0 hmS
              clear hS hmS
              go_wp2_with (fail)
              go_roundg (gk0 - 1)
              case measure => omega
              case rel => exact ⟨I + 1, by omega, by go_num, M6.out.more (by omega), B6.out⟩
          · go_wp2_with (fail)
            refine (mdp_sync HMA.out).mono ?_
            rintro e w5 ⟨rfl, m5, b5⟩
            have M5 := Lib.hid m5
            have B5 := Lib.hid (HBA.out.trans b5)
            clear m5 b5 y0 y1 y2
            go_wp2_with (fail)
            refine (mdp_read M5.out hn3 hv (by omega) (fun S hS hm h0 => absurd hm (hS h0))).mono ?_
            rintro e w6 ⟨r, rfl, hr, m6, b6⟩
            have M6 := Lib.hid m6
            have B6 := Lib.hid (B5.out.trans b6)
            clear m6 b6
            rcases hr with ⟨rfl, _⟩ | ⟨rfl, S, hS, hmS⟩
            · by_cases hv0 : value = 0
              · subst hv0
                go_wp2_with (fail)
                go_roundg (gk0 - 1)
                case measure => omega
                case rel => exact ⟨I + 1, by omega, by go_num, M6.out.more (by omega), B6.out⟩
              · have hv1 : ((value : Int) != 0) = true := bne_iff_ne.2 (by omega)
                clear hv0
                go_wp2_with (fail)
                go_roundg (gk0 - 1)
                case measure => omega
                case rel => exact ⟨I + 1, by omega, by go_num, M6.out.more (by omega), B6.out⟩
            · obtain rfl : value = 0 := Classical.byContradiction fun h0 => hS h0 hmS
              clear hS hmS
              go_wp2_with (fail)
              go_roundg (gk0 - 1)
              case measure => omega
              case rel => exact ⟨I + 1, by omega, by go_num, M6.out.more (by omega), B6.out⟩
      · have hne : ((v0 : Int) == (value : Int)) = false := beq_eq_false_iff_ne.2 (by omega)
        have HNX := Lib.hid (nvP_nx (value := value) (v := v0) (fun e => hvv e.symm) n)
        clear hvv
        have hfw := hfv
        go_upto_region 15 with (fail)
        go_wp2_with (fail)
        refine (absH_any k0 wa HFK.out).mono ?_
        rintro e wq ⟨rfl, rfl⟩
        rw [HKA.out]
        go_upto_region 16 with (fail)
        have h4 : (ka : Int) % 4 = 0 ∨ (ka : Int) % 4 = 1 ∨ (ka : Int) % 4 = 2 ∨ (ka : Int) % 4 = 3 := by omega
        rcases h4 with h4 | h4 | h4 | h4
        · go_wp2_with (fail)
          refine (absH_any k0 wa HFK.out).mono ?_
          rintro e wq ⟨rfl, rfl⟩
          rw [HKA.out]
          obtain ⟨fc, hfc⟩ : ∃ fc : Bool, ((ka : Int) % 3 == 0) = fc := ⟨_, rfl⟩
          go_wp2_with (fail)
          refine (mdp_write (v := v0) HMA.out hn3 hfw (by omega) HNX.out fc).mono ?_
          rintro e w5 ⟨rfl, m5, b5⟩
          have M5 := Lib.hid m5
          have B5 := Lib.hid (HBA.out.trans b5)
          clear m5 b5 y0 y1 y2
          go_wp2_with (fail)
          refine (mdp_read M5.out hn3 hv (by omega) (fun S hS hm h0 => absurd hm (hS h0))).mono ?_
          rintro e w6 ⟨r, rfl, hr, m6, b6⟩
          have M6 := Lib.hid m6
          have B6 := Lib.hid (B5.out.trans b6)
          clear m6 b6
          rcases hr with ⟨rfl, _⟩ | ⟨rfl, S, hS, hmS⟩
          · by_cases hv0 : value = 0
            · subst hv0
              go_wp2_with (fail)
              go_roundg (gk0 - 1)
              case measure => omega
              case rel => exact ⟨I + 1, by omega, by go_num, M6.out.more (by omega), B6.out⟩
            · have hv1 : ((value : Int) != 0) = true := bne_iff_ne.2 (by omega)
              clear hv0
              go_wp2_with (fail)
              go_roundg (gk0 - 1)
              case measure => omega
              case rel => exact ⟨I + 1, by omega, by go_num, M6.out.more (by omega), B6.out⟩
          · obtain rfl : value = 0 := Classical.byContradiction fun h0 => hS h0 hmS
            clear hS hmS
            go_wp2_with (fail)
            go_roundg (gk0 - 1)
            case measure => omega
            case rel => exact ⟨I + 1, by omega, by go_num, M6.out.more (by omega), B6.out⟩
        · go_wp2_with (fail)
          refine (mdp_begin (v := v0) HMA.out hn3 hfw (by omega) HNX.out).mono ?_
          rintro e w5 ⟨rfl, m5, b5⟩
          have M5 := Lib.hid m5
          have B5 := Lib.hid (HBA.out.trans b5)
          clear m5 b5 y0 y1 y2
          go_wp2_with (fail)
          refine (mdp_read M5.out hn3 hv (by omega) (fun S hS hm h0 => absurd hm (hS h0))).mono ?_
          rintro e w6 ⟨r, rfl, hr, m6, b6⟩
          have M6 := Lib.hid m6
          have B6 := Lib.hid (B5.out.trans b6)
          clear m6 b6
          rcases hr with ⟨rfl, _⟩ | ⟨rfl, S, hS, hmS⟩
          · by_cases hv0 : value = 0
            · subst hv0
              go_wp2_with (fail)
              go_roundg (gk0 - 1)
              case measure => omega
              case rel => exact ⟨I + 1, by omega, by go_num, M6.out.more (by omega), B6.out⟩
            · have hv1 : ((value : Int) != 0) = true := bne_iff_ne.2 (by omega)
              clear hv0
              go_wp2_with (fail)
              go_roundg (gk0 - 1)
              case measure => omega
              case rel => exact ⟨I + 1, by omega, by go_num, M6.out.more (by omega), B6.out⟩
          · obtain rfl : value = 0 := Classical.byContradiction fun h0 => hS h0 hmS
            clear hS hmS
            go_wp2_with (fail)
            go_roundg (gk0 - 1)
            case measure => omega
            case rel => exact ⟨I + 1, by omega, by go_num, M6.out.more (by omega), B6.out⟩
        · go_wp2_with (fail)
          refine (mdp_cut HMA.out).mono ?_
          rintro e w5 ⟨rfl, m5, b5⟩
          have M5 := Lib.hid m5
          have B5 := Lib.hid (HBA.out.trans b5)
          clear m5 b5 y0 y1 y2
          go_wp2_with (fail)
          refine (mdp_read M5.out hn3 hv (by omega) (fun S hS hm h0 => absurd hm (hS h0))).mono ?_
          rintro e w6 ⟨r, rfl, hr, m6, b6⟩
          have M6 := Lib.hid m6
          have B6 := Lib.hid (B5.out.trans b6)
          clear m6 b6
          rcases hr with ⟨rfl, _⟩ | ⟨rfl, S, hS, hmS⟩
          · by_cases hv0 : value = 0
            · subst hv0
              go_wp2_with (fail)
              go_roundg (gk0 - 1)
              case measure => omega
              case rel => exact ⟨I + 1, by omega, by go_num, M6.out.more (by omega), B6.out⟩
            · have hv1 : ((value : Int) != 0) = true := bne_iff_ne.2 (by omega)
              clear hv0
              go_wp2_with (fail)
              go_roundg (gk0 - 1)
              case measure => omega
              case rel => exact ⟨I + 1, by omega, by go_num, M6.out.more (by omega), B6.out⟩
          · obtain rfl : value = 0 := Classical.byContradiction fun h0 => hS h0 hmS
            clear hS hmS
            go_wp2_with (fail)
            go_roundg (gk0 - 1)
            case measure => omega
            case rel => exact ⟨I + 1, by omega, by go_num, M6.out.more (by omega), B6.out⟩
        · go_wp2_with (fail)
          refine (mdp_sync HMA.out).mono ?_
          rintro e w5 ⟨rfl, m5, b5⟩
          have M5 := Lib.hid m5
          have B5 := Lib.hid (HBA.out.trans b5)
          clear m5 b5 y0 y1 y2
          go_wp2_with (fail)
          refine (mdp_read M5.out hn3 hv (by omega) (fun S hS hm h0 => absurd hm (hS h0))).mono ?_
          rintro e w6 ⟨r, rfl, hr, m6, b6⟩
          have M6 := Lib.hid m6
          have B6 := Lib.hid (B5.out.trans b6)
          clear m6 b6
          rcases hr with ⟨rfl, _⟩ | ⟨rfl, S, hS, hmS⟩
          · by_cases hv0 : value = 0
            · subst hv0
              go_wp2_with (fail)
              go_roundg (gk0 - 1)
              case measure => omega
              case rel => exact ⟨I + 1, by omega, by go_num, M6.out.more (by omega), B6.out⟩
            · have hv1 : ((value : Int) != 0) = true := bne_iff_ne.2 (by omega)
              clear hv0
              go_wp2_with (fail)
              go_roundg (gk0 - 1)
              case measure => omega
              case rel => exact ⟨I + 1, by omega, by go_num, M6.out.more (by omega), B6.out⟩
          · obtain rfl : value = 0 := Classical.byContradiction fun h0 => hS h0 hmS
            clear hS hmS
            go_wp2_with (fail)
            go_roundg (gk0 - 1)
            case measure => omega
            case rel => exact ⟨I + 1, by omega, by go_num, M6.out.more (by omega), B6.out⟩
    · have hd : ¬ I < 100 ∨ ¬ I < len := by omega
      have HO := Lib.hid (HR.out)
      rcases hd with hd | hd
      · have i2 : ¬ (I : Int) < 100 := by omega
        by_cases hd2 : I < len
        · have i3 : (I : Int) < (len : Int) := by omega
          go_wp2_with (fail)
          go_ret
          exact ⟨rfl, B1.out.trans (HB.out.mono (HP.out ▸ hb1))⟩
        · have i3 : ¬ (I : Int) < (len : Int) := by omega
          go_wp2_with (fail)
          go_ret
          exact ⟨rfl, B1.out.trans (HB.out.mono (HP.out ▸ hb1))⟩
      · have i3 : ¬ (I : Int) < (len : Int) := by omega
        go_wp2_with (fail)
        go_ret
        exact ⟨rfl, B1.out.trans (HB.out.mono (HP.out ▸ hb1))⟩
end Go.Proofs.Ytboonpfdlbedoaa
