/- Walks over firkinlaw19: run. -/
import Derived.Test.YtboonpfdlbedoaaHn
namespace Go.Proofs.Ytboonpfdlbedoaa
open Go Go.RowKit Go.Mem Go.Hs
set_option linter.unusedVariables false

theorem fitR {w : World} {a : Option Addr} {len cap : Nat} {l : List HOp} (h : OpR w a len cap l) {j : Nat} (hj : j < len) : (l.getD j HOp.zero).Fit :=
  h.2.2.2.1 (l.getD j HOp.zero) (by rw [List.getD_eq_getElem?_getD, List.getElem?_eq_getElem (by rw [h.1]; exact hj)]; exact List.getElem_mem _)


set_option maxRecDepth 100000 in
set_option maxHeartbeats 12800000 in
theorem run_any {P : Nat → List Nat → Prop} {B p K : Nat} (a : Option Addr) (len cap : Nat) (l : List HOp) (but : Int) (w0 w : World) (h : OpR w0 a len cap l) (hb0 : Below w0.heap.size w0 w) (hs0 : w0.heap.size ≤ B) (hm : MdP P B w p 4 K) (hK1 : 1 ≤ K) (hK : K + 60 ≤ 1000)
    (hP : ∀ i : Nat, i < 4 → (i : Int) ≠ but → ∀ j, j < len → j < 60 → Nx P i (l.getD j HOp.zero).value) :
    Calls Try.prog 24 #[.pointer (some ⟨p, 0, none⟩), .slice a len cap, .int .i64 but] w fun e w' => e = .returned (.tuple #[]) ∧ MdP P B w' p 4 (K + 60) ∧ Below B w w' := by
  have l0 : (len : Int) ≤ 9223372036854775807 := by have := h.2.1; have := h.2.2.1; unfold maxLen at this; omega
  have l1 : (len : Int) ≤ (cap : Int) := by have := h.2.1; omega
  have l2 : (cap : Int) ≤ 9223372036854775807 := by have := h.2.2.1; unfold maxLen at this; omega
  have HR := Lib.hid h
  have HM0 := Lib.hid hm
  have HB0 := Lib.hid hb0
  have HPP := Lib.hid hP
  clear h hm hb0 hP
  go_enter Try.func24, Try.ntmps24
  go_wp2_with fail
  go_loopg [6] 60 (fun gk x wr => ∃ (I : Nat), I + gk = 60 ∧ x = .int .i64 I ∧ MdP P B wr p 4 (K + I) ∧ Below B w wr)
  case atStart => exact ⟨0, rfl, rfl, HM0.out, Below.refl _ _⟩
  case round =>
    obtain ⟨I, hI, rfl, hm, hb⟩ := hrel
    have HM := Lib.hid hm
    have HB := Lib.hid hb
    clear hm hb
    obtain ⟨wo, rfl⟩ : ∃ wo : World, wo = wr := ⟨_, rfl⟩
    obtain ⟨gk0, rfl⟩ : ∃ V, V = gk := ⟨_, rfl⟩
    by_cases hlt : I < len ∧ I < 60
    · obtain ⟨hl1, hl2⟩ := hlt
      have i1 : (I : Int) < (len : Int) := by omega
      have i2 : (I : Int) < 60 := by omega
      have i0 : (0 : Int) ≤ (I : Int) := by omega
      obtain ⟨g, o, rfl, x1, x2, x3⟩ := ((HR.out.below (HB0.out.trans (HB.out.mono hs0))).2.2.2.2 I hl1)
      have hgl : g < w0.heap.size := by obtain ⟨g', o', e, q1, _⟩ := HR.out.2.2.2.2 I hl1; cases e; exact World.block_lt_of_cell? _ _ q1
      have hgB : g < B := by omega
      obtain ⟨k0, s0, v0, hk, hs, hvv⟩ : ∃ k s v, (l.getD I HOp.zero).kind = k ∧ (l.getD I HOp.zero).sector = s ∧ (l.getD I HOp.zero).value = v := ⟨_, _, _, rfl, rfl, rfl⟩
      rw [hk] at x1
      rw [hs] at x2
      rw [hvv] at x3
      have hfit := fitR HR.out hl1
      unfold HOp.Fit at hfit
      rw [hk, hs, hvv] at hfit
      have HFK := Lib.hid hfit.1
      have HFS := Lib.hid hfit.2.1
      have hfv := hfit.2.2
      have hle1 := absH_le hfit.1
      have hle2 := absH_le hfit.2.1
      have HPI : Hid (∀ i : Nat, i < 4 → (i : Int) ≠ but → Nx P i v0) := Lib.hid fun i h1 h2 => hvv ▸ HPP.out i h1 h2 I hl1 hl2
      clear hvv hk hs hfit hgl
      obtain ⟨ka, hka⟩ : ∃ ka, absH k0 = ka := ⟨_, rfl⟩
      obtain ⟨sa, hsa⟩ : ∃ sa, absH s0 = sa := ⟨_, rfl⟩
      rw [hka] at hle1
      rw [hsa] at hle2
      have HKA := Lib.hid hka
      have HSA := Lib.hid hsa
      clear hka hsa
      go_wp2_with (fail)
      refine (absH_any s0 wo HFS.out).mono ?_
      rintro e wq ⟨rfl, rfl⟩
      rw [HSA.out]
      go_upto_region 4 with (fail)
      obtain ⟨n, hn⟩ : ∃ n, sa % 4 = n := ⟨_, rfl⟩
      have hni : (sa : Int) % 4 = (n : Nat) := by omega
      have hn4 : n < 4 := by omega
      rw [hni]
      clear hni hn x2
      by_cases hnb : (n : Int) = but
      · have hne : ((n : Int) == but) = true := beq_iff_eq.2 hnb
        have M5 := HM
        have B5 := HB
        clear hnb
        go_wp2_with (fail)
        go_roundg (gk0 - 1)
        case measure => omega
        case rel => exact ⟨I + 1, by omega, by go_num, M5.out.more (by omega), B5.out⟩
      · have hne : ((n : Int) == but) = false := beq_eq_false_iff_ne.2 hnb
        have HNX := Lib.hid (HPI.out n hn4 hnb)
        clear hnb
        go_wp2_with (fail)
        refine (absH_any k0 wo HFK.out).mono ?_
        rintro e wq ⟨rfl, rfl⟩
        rw [HKA.out]
        go_upto_region 6 with (fail)
        have h5 : (ka : Int) % 5 = 0 ∨ (ka : Int) % 5 = 1 ∨ (ka : Int) % 5 = 2 ∨ (ka : Int) % 5 = 3 ∨ (ka : Int) % 5 = 4 := by omega
        rcases h5 with h5 | h5 | h5 | h5 | h5
        · go_upto_region 7 with (fail)
          obtain ⟨fc, hfc⟩ : ∃ fc : Bool, ((ka : Int) % 2 == 0) = fc := ⟨_, rfl⟩
          have HMD := Lib.hid (HM.out.below ((Below.refl _ _).drew))
          go_region_held3 (fun w' => w'.cell? ⟨g, o + I * 3, none⟩ = some (.int .i64 k0) ∧ w'.cell? ⟨g, o + I * 3 + 2, none⟩ = some (.int .u64 (v0 : Nat)))
            (first | exact ⟨x1, x3⟩ | exact ⟨z1, z3⟩)
            (first
            | (go_at_call 10; refine (absH_any k0 _ HFK.out).mono ?_; rintro e wq ⟨rfl, rfl⟩; rw [HKA.out])
            | (go_at_call 11; refine (mdp_write (v := v0) HMD.out hn4 hfv (by omega) HNX.out _).mono ?_; rintro e w5 ⟨rfl, m5, b5⟩; have M5 := Lib.hid m5; have B5 := Lib.hid (HB.out.trans (((Below.refl B wo).drew).trans b5)); have z1 := (b5.cell (p := ⟨g, o + I * 3, none⟩) hgB).trans x1; have z3 := (b5.cell (p := ⟨g, o + I * 3 + 2, none⟩) hgB).trans x3; clear m5 b5)
            | fail)
          all_goals
            go_wp2_with (fail)
            go_roundg (gk0 - 1)
            case measure => omega
            case rel => exact ⟨I + 1, by omega, by go_num, M5.out.more (by omega), B5.out⟩
        · go_wp2_with (fail)
          refine (mdp_begin (v := v0) HM.out hn4 hfv (by omega) HNX.out).mono ?_
          rintro e w5 ⟨rfl, m5, b5⟩
          have M5 := Lib.hid m5
          have B5 := Lib.hid (HB.out.trans b5)
          clear m5 b5
          go_wp2_with (fail)
          go_roundg (gk0 - 1)
          case measure => omega
          case rel => exact ⟨I + 1, by omega, by go_num, M5.out.more (by omega), B5.out⟩
        · go_wp2_with (fail)
          refine (mdp_cut HM.out).mono ?_
          rintro e w5 ⟨rfl, m5, b5⟩
          have M5 := Lib.hid m5
          have B5 := Lib.hid (HB.out.trans b5)
          clear m5 b5
          go_wp2_with (fail)
          go_roundg (gk0 - 1)
          case measure => omega
          case rel => exact ⟨I + 1, by omega, by go_num, M5.out.more (by omega), B5.out⟩
        · go_wp2_with (fail)
          refine (mdp_read (v := v0) HM.out hn4 hfv (by omega) (fun _ _ _ => HNX.out.1)).mono ?_
          rintro e w5 ⟨r, rfl, _, m5, b5⟩
          have M5 := Lib.hid m5
          have B5 := Lib.hid (HB.out.trans b5)
          clear m5 b5
          go_wp2_with (fail)
          go_roundg (gk0 - 1)
          case measure => omega
          case rel => exact ⟨I + 1, by omega, by go_num, M5.out.more (by omega), B5.out⟩
        · have M5 := HM
          have B5 := HB
          go_wp2_with (fail)
          go_roundg (gk0 - 1)
          case measure => omega
          case rel => exact ⟨I + 1, by omega, by go_num, M5.out.more (by omega), B5.out⟩
    · have hd : ¬ I < 60 ∨ ¬ I < len := by omega
      rcases hd with hd | hd
      · have i2 : ¬ (I : Int) < 60 := by omega
        by_cases hd2 : I < len
        · have i3 : (I : Int) < (len : Int) := by omega
          go_wp2_with (fail)
          go_end0
          exact ⟨rfl, HM.out.more (by omega), HB.out⟩
        · have i3 : ¬ (I : Int) < (len : Int) := by omega
          go_wp2_with (fail)
          go_end0
          exact ⟨rfl, HM.out.more (by omega), HB.out⟩
      · have i3 : ¬ (I : Int) < (len : Int) := by omega
        go_wp2_with (fail)
        go_end0
        exact ⟨rfl, HM.out.more (by omega), HB.out⟩
end Go.Proofs.Ytboonpfdlbedoaa
