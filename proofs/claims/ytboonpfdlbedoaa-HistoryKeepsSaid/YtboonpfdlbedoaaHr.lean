/- Walks over firkinlaw19: HistoryKeeps. -/
import Derived.Test.YtboonpfdlbedoaaHq
namespace Go.Proofs.Ytboonpfdlbedoaa
open Go Go.RowKit Go.Mem Go.Hs
set_option linter.unusedVariables false

/-- Of sector s just v is read. -/
def ksP (s v : Nat) : Nat → List Nat → Prop := fun i S => i = s → S = [v]
theorem ksP_nx {s v i x : Nat} (h : i ≠ s) : Nx (ksP s v) i x := ⟨fun e => absurd e h, fun _ _ e => absurd e h⟩
def anyP : Nat → List Nat → Prop := fun _ _ => True
section
variable {B : Nat} {w : World} {p K s v : Nat}
theorem keep_forced (h : MdP anyP B w p 4 K) (hs : s < 4) (hv : v < 18446744073709551616) (hK : K ≤ 1000) :
    Calls Try.prog 11 #[.pointer (some ⟨p, 0, none⟩), .int .i64 (s : Nat), .int .u64 (v : Nat), .bool true] w fun e w' => e = .returned (.int .i64 0) ∧ MdP (ksP s v) B w' p 4 (K + 1) ∧ Below B w w' := by
  obtain ⟨gl, cap, bv, br, V, R, h1, _⟩ := h
  exact (write_forced h1 hs hv hK).mono fun e w' ⟨he, ⟨bv', hm⟩, hb⟩ => ⟨he, ⟨_, _, _, _, _, _, hm, fun j hj => ⟨fun e => by subst e; exact updf_same _ _ _, fun e => by subst e; exact updf_same _ _ _⟩⟩, hb⟩
/-- What may be read of s is just v; what is left of s may be more. -/
def HlfP (B : Nat) (w : World) (p K s v : Nat) : Prop := ∃ gl cap bv br V R, MdAt B w p 4 K gl cap bv br V R ∧ V s = [v]
theorem keep_plain (h : MdP anyP B w p 4 K) (hs : s < 4) (hv : v < 18446744073709551616) (hK : K ≤ 1000) :
    Calls Try.prog 11 #[.pointer (some ⟨p, 0, none⟩), .int .i64 (s : Nat), .int .u64 (v : Nat), .bool false] w fun e w' => e = .returned (.int .i64 0) ∧ HlfP B w' p (K + 1) s v ∧ Below B w w' := by
  obtain ⟨gl, cap, bv, br, V, R, h1, _⟩ := h
  exact (write_plain h1 hs hv hK).mono fun e w' ⟨he, ⟨bv', hm⟩, hb⟩ => ⟨he, ⟨_, _, _, _, _, _, hm, updf_same _ _ _⟩, hb⟩
theorem keep_sync (h : HlfP B w p K s v) :
    Calls Try.prog 15 #[.pointer (some ⟨p, 0, none⟩)] w fun e w' => e = .returned (.tuple #[]) ∧ MdP (ksP s v) B w' p 4 K ∧ Below B w w' := by
  obtain ⟨gl, cap, bv, br, V, R, h1, h2⟩ := h
  exact (sync_any h1).mono fun e w' ⟨he, ⟨b', hm⟩, hb⟩ => ⟨he, ⟨_, _, _, _, _, _, hm, fun j hj => ⟨fun e => e ▸ h2, fun e => e ▸ h2⟩⟩, hb⟩
theorem keep_may (h : MdP (ksP s v) B w p 4 K) (hs : s < 4) :
    Calls Try.prog 22 #[.pointer (some ⟨p, 0, none⟩), .int .i64 (s : Nat)] w fun e w' => (∃ g cp, e = .returned (.slice (some ⟨g, 0, none⟩) 1 cp) ∧ 1 ≤ cp ∧ w'.cell? ⟨g, 0, none⟩ = some (.int .u64 (v : Nat))) ∧ MdP (ksP s v) B w' p 4 K ∧ Below B w w' := by
  obtain ⟨gl, cap, bv, br, V, R, h1, h2⟩ := h
  have e0 := (h2 s hs).1 rfl
  refine (may_in 12 sort12 (by omega) h1 hs (by rw [e0]; simp) (by rw [e0]; simp)).mono ?_
  rintro e w' ⟨⟨u, rfl, hu⟩, hb⟩
  rw [e0] at hu
  obtain ⟨g, cp, rfl, _, how⟩ := hu.ow (by simp)
  have c0 : w'.cell? ⟨g, 0, none⟩ = some (.int .u64 (v : Nat)) := how.cell (j := 0) (by simp)
  have hcp : 1 ≤ cp := by obtain ⟨_, _, _, h, _⟩ := how; simpa using h
  exact ⟨⟨g, cp, rfl, hcp, c0⟩, ⟨gl, cap, bv, br, V, R, h1.below hb, h2⟩, hb.mono h1.base⟩
theorem keep_read (h : MdP (ksP s v) B w p 4 K) (hs : s < 4) (hv : v < 18446744073709551616) (hK : 1 ≤ K) :
    Calls Try.prog 19 #[.pointer (some ⟨p, 0, none⟩), .int .i64 (s : Nat), .int .u64 (v : Nat)] w fun e w' => e = .returned (.int .i64 0) ∧ MdP (ksP s v) B w' p 4 K ∧ Below B w w' := by
  refine (mdp_read h hs hv hK (fun _ _ _ _ => rfl)).mono ?_
  rintro e w' ⟨r, rfl, hr, hm, hb⟩
  rcases hr with ⟨rfl, S, hS, hn⟩ | ⟨rfl, _⟩
  · rw [hS rfl] at hn; simp at hn
  · exact ⟨rfl, hm, hb⟩
theorem keep_other {x : Nat} (h : MdP (ksP s v) B w p 4 K) (hs : s < 4) (hx : x < 18446744073709551616) (hne : x ≠ v) :
    Calls Try.prog 19 #[.pointer (some ⟨p, 0, none⟩), .int .i64 (s : Nat), .int .u64 (x : Nat)] w fun e w' => e = .returned (.int .i64 190) ∧ w = w' := by
  obtain ⟨gl, cap, bv, br, V, R, h1, h2⟩ := h
  have e0 := (h2 s hs).1 rfl
  exact read_no h1 hs hx (by rw [e0]; simpa using hne)
end


set_option maxRecDepth 100000 in
set_option maxHeartbeats 12800000 in
theorem keeps_any (a : Option Addr) (len cap : Nat) (l : List HOp) (sector : Int) (value : Nat) (forced : Bool) (cuts : Int) (w : World) (h : OpR w a len cap l) (hS : (Lit.int .i64 sector).wf = true) (hv : value < 18446744073709551616) (hC : (Lit.int .i64 cuts).wf = true) :
    Calls Try.prog 4 #[.slice a len cap, .int .i64 sector, .int .u64 (value : Nat), .bool forced, .int .i64 cuts] w fun e w' => e = .returned (.bool true) ∧ Below w.heap.size w w' := by
  have hv' : (value : Int) < 18446744073709551616 := by omega
  have HR := Lib.hid h
  have HFC := Lib.hid hC
  have HFS := Lib.hid hS
  have hle1 := absH_le hC
  have hle2 := absH_le hS
  obtain ⟨ca, hca⟩ : ∃ ca, absH cuts = ca := ⟨_, rfl⟩
  obtain ⟨sa, hsa⟩ : ∃ sa, absH sector = sa := ⟨_, rfl⟩
  rw [hca] at hle1
  rw [hsa] at hle2
  have HCA := Lib.hid hca
  have HSA := Lib.hid hsa
  clear h hC hS hca hsa
  go_enter Try.func4, Try.ntmps4
  go_wp2_with fail
  refine (awakeH_any _).mono ?_
  rintro e w1 ⟨rfl, b1⟩
  have B1 := Lib.hid b1
  have hb1 : w.heap.size ≤ w1.heap.size := b1.size
  clear b1
  go_wp2_with fail
  refine (mdp_new anyP 4 w1 (by omega) (by omega) (fun i _ => trivial)).mono ?_
  rintro e w2 ⟨rfl, m2, b2⟩
  have M2 := Lib.hid m2
  have B2 := Lib.hid b2
  clear m2 b2
  obtain ⟨p, hp⟩ : ∃ p, w1.heap.size = p := ⟨_, rfl⟩
  have HP := Lib.hid hp
  rw [hp] at M2 B2
  rw [hp]
  clear hp
  go_wp2_with fail
  refine (absH_any sector _ HFS.out).mono ?_
  rintro e wq ⟨rfl, rfl⟩
  rw [HSA.out]
  go_upto_region 8 with (fail)
  obtain ⟨s, hn⟩ : ∃ s, sa % 4 = s := ⟨_, rfl⟩
  have hni : (sa : Int) % 4 = (s : Nat) := by omega
  have hs4 : s < 4 := by omega
  rw [hni]
  clear hni hn
  go_wp2_with fail
  refine (run_any a len cap l (-1) w w2 HR.out (B1.out.trans (B2.out.mono (HP.out ▸ hb1))) (HP.out ▸ hb1) M2.out (by omega) (by omega) (fun i _ _ j _ _ => ⟨trivial, fun _ _ => trivial⟩)).mono ?_
  rintro e w3 ⟨rfl, m3, b3⟩
  have M3 := Lib.hid m3
  have B3 := Lib.hid (B2.out.trans b3)
  clear m3 b3
  go_wp2_with fail
  cases forced with
  | true =>
    refine (keep_forced M3.out hs4 hv (by omega)).mono ?_
    rintro e w5 ⟨rfl, m5, b5⟩
    have M5 := Lib.hid m5
    have B5 := Lib.hid (B3.out.trans b5)
    clear m5 b5
    go_wp2_with (fail)
    obtain ⟨C, hCC⟩ : ∃ C, 1 + ca % 4 = C := ⟨_, rfl⟩
    have hCi : 1 + (ca : Int) % 4 = (C : Nat) := by omega
    have hC4 : C ≤ 4 := by omega
    clear hCC
    go_loopg [16] C (fun gk x wr => ∃ (I : Nat), I + gk = C ∧ x = .int .i64 I ∧ MdP (ksP s value) p wr p 4 (62 + 60 * I) ∧ Below p w1 wr)
    case atStart => exact ⟨0, by omega, rfl, M5.out, B5.out⟩
    case round =>
      obtain ⟨I, hI, rfl, hm, hb⟩ := hrel
      have HM := Lib.hid hm
      have HB := Lib.hid hb
      clear hm hb
      obtain ⟨wo, rfl⟩ : ∃ wo : World, wo = wr := ⟨_, rfl⟩
      obtain ⟨gk0, rfl⟩ : ∃ V, V = gk := ⟨_, rfl⟩
      go_wp2_with (fail)
      refine (absH_any cuts wo HFC.out).mono ?_
      rintro e wq ⟨rfl, rfl⟩
      rw [HCA.out]
      by_cases hlt : I < C
      · have i1 : (I : Int) < (C : Int) := by omega
        go_wp2_with (fail)
        refine (run_any a len cap l (s : Nat) w wo HR.out (B1.out.trans (HB.out.mono (HP.out ▸ hb1))) (HP.out ▸ hb1) HM.out (by omega) (by omega) (fun i _ hne j _ _ => ksP_nx (fun e => hne (by rw [e])))).mono ?_
        rintro e w6 ⟨rfl, m6, b6⟩
        have M6 := Lib.hid m6
        have B6 := Lib.hid (HB.out.trans b6)
        clear m6 b6
        go_wp2_with (fail)
        refine (mdp_cut M6.out).mono ?_
        rintro e w7 ⟨rfl, m7, b7⟩
        have M7 := Lib.hid m7
        have B7 := Lib.hid (B6.out.trans b7)
        clear m7 b7
        go_wp2_with (fail)
        go_roundg (gk0 - 1)
        case measure => omega
        case rel => exact ⟨I + 1, by omega, by go_num, M7.out.more (by omega), B7.out⟩
      · obtain rfl : I = C := by omega
        clear hlt hI
        go_upto_region 17 with (fail)
        by_cases hvt : value = 18446744073709551615
        · have hw : IntKind.u64.wrap ((value : Int) + 1) = 0 := by rw [hvt]; rfl
          have hx9 : 0 < 18446744073709551616 := by omega
          have hnv : 0 ≠ value := by omega
          clear hvt
          go_wp2_with (fail)
          refine (keep_may HM.out hs4).mono ?_
          rintro e w8 ⟨⟨g8, cp8, rfl, hc8, z8⟩, m8, b8⟩
          have M8 := Lib.hid m8
          have B8 := Lib.hid (HB.out.trans b8)
          have hc9 : (1 : Int) ≤ (cp8 : Int) := by omega
          clear m8 b8
          go_wp2_with (fail)
          refine (keep_read M8.out hs4 hv (by omega)).mono ?_
          rintro e w9 ⟨rfl, m9, b9⟩
          have M9 := Lib.hid m9
          have B9 := Lib.hid (B8.out.trans b9)
          clear m9 b9
          go_wp2_with (fail)
          refine (keep_other (x := 0) M9.out hs4 hx9 hnv).mono ?_
          rintro e w10 ⟨rfl, rfl⟩
          go_wp2_with (fail)
          go_ret
          exact ⟨rfl, B1.out.trans (B9.out.mono (HP.out ▸ hb1))⟩
        · have t1 : (value : Int) + 1 < 18446744073709551616 := by omega
          have t0 : (0 : Int) ≤ (value : Int) + 1 := by omega
          have hx9 : value + 1 < 18446744073709551616 := by omega
          have hnv : value + 1 ≠ value := by omega
          clear hvt
          go_wp2_with (fail)
          refine (keep_may HM.out hs4).mono ?_
          rintro e w8 ⟨⟨g8, cp8, rfl, hc8, z8⟩, m8, b8⟩
          have M8 := Lib.hid m8
          have B8 := Lib.hid (HB.out.trans b8)
          have hc9 : (1 : Int) ≤ (cp8 : Int) := by omega
          clear m8 b8
          go_wp2_with (fail)
          refine (keep_read M8.out hs4 hv (by omega)).mono ?_
          rintro e w9 ⟨rfl, m9, b9⟩
          have M9 := Lib.hid m9
          have B9 := Lib.hid (B8.out.trans b9)
          clear m9 b9
          go_wp2_with (fail)
          refine (keep_other (x := (value + 1)) M9.out hs4 hx9 hnv).mono ?_
          rintro e w10 ⟨rfl, rfl⟩
          go_wp2_with (fail)
          go_ret
          exact ⟨rfl, B1.out.trans (B9.out.mono (HP.out ▸ hb1))⟩
  | false =>
    refine (keep_plain M3.out hs4 hv (by omega)).mono ?_
    rintro e w4 ⟨rfl, m4, b4⟩
    have M4 := Lib.hid m4
    have B4 := Lib.hid (B3.out.trans b4)
    clear m4 b4
    go_wp2_with fail
    refine (keep_sync M4.out).mono ?_
    rintro e w5 ⟨rfl, m5, b5⟩
    have M5 := Lib.hid m5
    have B5 := Lib.hid (B4.out.trans b5)
    clear m5 b5
    go_wp2_with (fail)
    obtain ⟨C, hCC⟩ : ∃ C, 1 + ca % 4 = C := ⟨_, rfl⟩
    have hCi : 1 + (ca : Int) % 4 = (C : Nat) := by omega
    have hC4 : C ≤ 4 := by omega
    clear hCC
    go_loopg [16] C (fun gk x wr => ∃ (I : Nat), I + gk = C ∧ x = .int .i64 I ∧ MdP (ksP s value) p wr p 4 (62 + 60 * I) ∧ Below p w1 wr)
    case atStart => exact ⟨0, by omega, rfl, M5.out, B5.out⟩
    case round =>
      obtain ⟨I, hI, rfl, hm, hb⟩ := hrel
      have HM := Lib.hid hm
      have HB := Lib.hid hb
      clear hm hb
      obtain ⟨wo, rfl⟩ : ∃ wo : World, wo = wr := ⟨_, rfl⟩
      obtain ⟨gk0, rfl⟩ : ∃ V, V = gk := ⟨_, rfl⟩
      go_wp2_with (fail)
      refine (absH_any cuts wo HFC.out).mono ?_
      rintro e wq ⟨rfl, rfl⟩
      rw [HCA.out]
      by_cases hlt : I < C
      · have i1 : (I : Int) < (C : Int) := by omega
        go_wp2_with (fail)
        refine (run_any a len cap l (s : Nat) w wo HR.out (B1.out.trans (HB.out.mono (HP.out ▸ hb1))) (HP.out ▸ hb1) HM.out (by omega) (by omega) (fun i _ hne j _ _ => ksP_nx (fun e => hne (by rw [e])))).mono ?_
        rintro e w6 ⟨rfl, m6, b6⟩
        have M6 := Lib.hid m6
        have B6 := Lib.hid (HB.out.trans b6)
        clear m6 b6
        go_wp2_with (fail)
        refine (mdp_cut M6.out).mono ?_
        rintro e w7 ⟨rfl, m7, b7⟩
        have M7 := Lib.hid m7
        have B7 := Lib.hid (B6.out.trans b7)
        clear m7 b7
        go_wp2_with (fail)
        go_roundg (gk0 - 1)
        case measure => omega
        case rel => exact ⟨I + 1, by omega, by go_num, M7.out.more (by omega), B7.out⟩
      · obtain rfl : I = C := by omega
        clear hlt hI
        go_upto_region 17 with (fail)
        by_cases hvt : value = 18446744073709551615
        · have hw : IntKind.u64.wrap ((value : Int) + 1) = 0 := by rw [hvt]; rfl
          have hx9 : 0 < 18446744073709551616 := by omega
          have hnv : 0 ≠ value := by omega
          clear hvt
          go_wp2_with (fail)
          refine (keep_may HM.out hs4).mono ?_
          rintro e w8 ⟨⟨g8, cp8, rfl, hc8, z8⟩, m8, b8⟩
          have M8 := Lib.hid m8
          have B8 := Lib.hid (HB.out.trans b8)
          have hc9 : (1 : Int) ≤ (cp8 : Int) := by omega
          clear m8 b8
          go_wp2_with (fail)
          refine (keep_read M8.out hs4 hv (by omega)).mono ?_
          rintro e w9 ⟨rfl, m9, b9⟩
          have M9 := Lib.hid m9
          have B9 := Lib.hid (B8.out.trans b9)
          clear m9 b9
          go_wp2_with (fail)
          refine (keep_other (x := 0) M9.out hs4 hx9 hnv).mono ?_
          rintro e w10 ⟨rfl, rfl⟩
          go_wp2_with (fail)
          go_ret
          exact ⟨rfl, B1.out.trans (B9.out.mono (HP.out ▸ hb1))⟩
        · have t1 : (value : Int) + 1 < 18446744073709551616 := by omega
          have t0 : (0 : Int) ≤ (value : Int) + 1 := by omega
          have hx9 : value + 1 < 18446744073709551616 := by omega
          have hnv : value + 1 ≠ value := by omega
          clear hvt
          go_wp2_with (fail)
          refine (keep_may HM.out hs4).mono ?_
          rintro e w8 ⟨⟨g8, cp8, rfl, hc8, z8⟩, m8, b8⟩
          have M8 := Lib.hid m8
          have B8 := Lib.hid (HB.out.trans b8)
          have hc9 : (1 : Int) ≤ (cp8 : Int) := by omega
          clear m8 b8
          go_wp2_with (fail)
          refine (keep_read M8.out hs4 hv (by omega)).mono ?_
          rintro e w9 ⟨rfl, m9, b9⟩
          have M9 := Lib.hid m9
          have B9 := Lib.hid (B8.out.trans b9)
          clear m9 b9
          go_wp2_with (fail)
          refine (keep_other (x := (value + 1)) M9.out hs4 hx9 hnv).mono ?_
          rintro e w10 ⟨rfl, rfl⟩
          go_wp2_with (fail)
          go_ret
          exact ⟨rfl, B1.out.trans (B9.out.mono (HP.out ▸ hb1))⟩
end Go.Proofs.Ytboonpfdlbedoaa
