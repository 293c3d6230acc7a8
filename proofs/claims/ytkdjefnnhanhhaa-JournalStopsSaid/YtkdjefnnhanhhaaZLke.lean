/- Walks over the journal's laws: JournalLong. -/
import Derived.Test.YtkdjefnnhanhhaaZLkd
set_option linter.unusedVariables false
namespace Go.Proofs.Ytkdjefnnhanhhaa
open Go Go.RowKit Go.Mem Go.Jn
set_option linter.unusedVariables false

theorem room_of {s t : Tp} (h1 : s.nb = t.nb) (h2 : s.size = t.size) : s.room = t.room := by
  unfold Tp.room Tp.sz Tp.per; rw [h1, h2]
/-- JournalLong's journal behind I steps. -/
structure Lg (w wr : World) (J T : Nat) (s : JS) (nb most n I : Nat) : Prop where
  g : Gd (fun j => T ≤ j) wr J T s nb 150 n
  m : s.j.m = longM most I
  r : s.t.room = most
  b : Below w.heap.size w wr
set_option maxRecDepth 100000 in
set_option maxHeartbeats 6400000 in
theorem journalLong_walk (a b c : Int) (w : World) (h1 : (Lit.int .i64 a).wf = true) (h2 : (Lit.int .i64 b).wf = true) (h3 : (Lit.int .i64 c).wf = true) :
    Calls Try.prog 4 #[.int .i64 a, .int .i64 b, .int .i64 c] w fun e w' => e = .returned (.bool true) ∧ Below w.heap.size w w' := by
  have A1 := hid (labs_any a · h1)
  have A2 := hid (labs_any b · h2)
  have A3 := hid (labs_any c · h3)
  obtain ⟨a0, ha0⟩ : ∃ n, absN' a = n := ⟨_, rfl⟩
  obtain ⟨b0, hb0⟩ : ∃ n, absN' b = n := ⟨_, rfl⟩
  obtain ⟨c0, hc0⟩ : ∃ n, absN' c = n := ⟨_, rfl⟩
  rw [ha0] at A1
  rw [hb0] at A2
  rw [hc0] at A3
  obtain ⟨a1, ha1⟩ : ∃ n, a0 % 10 = n := ⟨_, rfl⟩
  obtain ⟨b1, hb1⟩ : ∃ n, b0 % 300 = n := ⟨_, rfl⟩
  obtain ⟨c1, hc1⟩ : ∃ n, c0 % 40 = n := ⟨_, rfl⟩
  have m1 : (a0 : Int) % 10 = (a1 : Int) := by omega
  have m2 : (b0 : Int) % 300 = (b1 : Int) := by omega
  have m3 : (c0 : Int) % 40 = (c1 : Int) := by omega
  have m1' : (a0 : Int).tmod 10 = (a1 : Int) := by rw [← ha1]; rfl
  have m2' : (b0 : Int).tmod 300 = (b1 : Int) := by rw [← hb1]; rfl
  have m3' : (c0 : Int).tmod 40 = (c1 : Int) := by rw [← hc1]; rfl
  obtain ⟨nb, hnb⟩ : ∃ n, 8 + a1 = n := ⟨_, rfl⟩
  obtain ⟨N, hN⟩ : ∃ n, 50 + b1 = n := ⟨_, rfl⟩
  obtain ⟨ev, hev⟩ : ∃ n, 1 + c1 = n := ⟨_, rfl⟩
  have x1 : IntKind.i64.wrap (8 + (a1 : Int)) = (nb : Int) := by rw [IntWalk.i64_in _ ⟨by omega, by omega⟩]; omega
  have x2 : IntKind.i64.wrap (50 + (b1 : Int)) = (N : Int) := by rw [IntWalk.i64_in _ ⟨by omega, by omega⟩]; omega
  have x3 : IntKind.i64.wrap (1 + (c1 : Int)) = (ev : Int) := by rw [IntWalk.i64_in _ ⟨by omega, by omega⟩]; omega
  have hnl : 8 ≤ nb ∧ nb < 18 := by omega
  have hNl : 50 ≤ N ∧ N < 350 := by omega
  have hel : 1 ≤ ev ∧ ev ≤ 40 := by omega
  have ev0 : ¬ (ev : Int) = 0 := by omega
  clear ha0 hb0 hc0 ha1 hb1 hc1 hnb hN hev h1 h2 h3
  go_enter Try.func4, Try.ntmps4
  go_wp2_with fail
  refine (jawake_any w).mono ?_
  rintro e w1 ⟨rfl, hb1⟩
  have HB1 := hid hb1
  clear hb1
  go_wp2_with fail
  refine (A1.out w1).mono ?_
  rintro e w2 ⟨rfl, rfl⟩
  go_wp2_with fail
  refine (tnew_any nb 150 (by omega) (by omega) w1).mono ?_
  rintro e w2 ⟨rfl, hT, hb2⟩
  have HOP := hid (Gd.new (nb := nb) (size := 150) (by omega) (by omega) (by omega) (by omega) hT)
  obtain ⟨T, hTe⟩ : ∃ T, w1.heap.size = T := ⟨_, rfl⟩
  have HB2 := hid (HB1.out.trans (hb2.mono HB1.out.size))
  have hTw : w.heap.size ≤ T := by rw [← hTe]; exact HB1.out.size
  rw [hTe] at HOP ⊢
  clear hT hb2
  go_wp2_with fail
  refine HOP.out.mono ?_
  rintro e w3 ⟨J, s, rfl, hJ, hG, hF, hm⟩
  have HB3 := hid (HB2.out.trans (hF.below (B := w.heap.size) HB2.out.size (fun j hj h => by omega)))
  have HG := hid hG
  have HM := hid hm
  clear hG hF hm hJ HOP HB1
  go_wp2_with fail
  refine (A2.out w3).mono ?_
  rintro e w4 ⟨rfl, rfl⟩
  go_wp2_with fail
  refine HG.out.room.mono ?_
  rintro e w4 ⟨rfl, nd, rfl⟩
  obtain ⟨most, hmost⟩ : ∃ n, s.t.room = n := ⟨_, rfl⟩
  have hml : 0 < most ∧ most ≤ 7000 := by
    obtain ⟨A, k, hi, hk⟩ := HG.out.inv
    have z1 := room2 hi.tok
    have z2 := room_le hi.tok
    omega
  have H0 := hid (show Lg w (w3.drewN nd) J T s nb most 1 0 from ⟨HG.out.below ((Below.refl _ _).drewN nd), HM.out, hmost, HB3.out.drewN nd⟩)
  have mo0 : ¬ (most : Int) = 0 := by omega
  rw [hmost]
  clear HG HM HB3 HB2 hmost hTe
  go_wp2_with fail
  go_loopg [13] N (fun gk vi wr => ∃ (I : Nat) (s : JS), I + gk = N ∧ vi = .int .i64 (I : Nat) ∧ Lg w wr J T s nb most (2 * I + 1) I)
  case atStart => exact ⟨0, s, by omega, rfl, H0.out⟩
  case round =>
    obtain ⟨I, s1, hI, rfl, hL⟩ := hrel
    have HL := hid hL
    clear hL H0
    by_cases hlt : I < N
    · have i1 : (I : Int) < (N : Int) := by omega
      have hkm := Nat.mod_lt I hml.1
      obtain ⟨km, hkme⟩ : ∃ n, I % most = n := ⟨_, rfl⟩
      have y1 : (I : Int).tmod (most : Int) = (km : Int) := by rw [← hkme]; rfl
      have y2 : (I : Int) % (most : Int) = (km : Int) := by rw [← hkme]; rfl
      have u1 : IntKind.u64.wrap (km : Int) = (km : Int) := by rw [IntKind.wrap_u64]; omega
      have u2 : IntKind.u64.wrap (I : Int) = (I : Int) := by rw [IntKind.wrap_u64]; omega
      have HKM := hid hkme
      have HS := hid (HL.out.g.set (by omega) km I (by omega) (by omega))
      clear hkme
      go_wp2_with fail
      refine HS.out.mono ?_
      rintro e w5 ⟨s2, hF, ⟨rfl, hG, hm, _⟩ | ⟨_, _, _, hn, hr⟩⟩
      · have hwl : w.heap.size ≤ wr.heap.size := HL.out.b.size
        have HL2 := hid (show Lg w w5 J T s2 nb most (2 * I + 1 + 1) (I + 1) from ⟨hG, by rw [hm, HL.out.m, ← HKM.out]; rfl, by rw [← HL.out.r]; exact room_of (hG.nb.trans HL.out.g.nb.symm) (hG.size.trans HL.out.g.size.symm), HL.out.b.trans (hF.below (B := w.heap.size) hwl (fun j hj h => by omega))⟩)
        clear HL hG hm hF HS
        obtain ⟨re, hre⟩ : ∃ n, I % ev = n := ⟨_, rfl⟩
        have y3 : (I : Int).tmod (ev : Int) = (re : Int) := by rw [← hre]; rfl
        have y4 : (I : Int) % (ev : Int) = (re : Int) := by rw [← hre]; rfl
        have w1 : IntKind.i64.wrap ((I : Int) + 1) = (I : Int) + 1 := IntWalk.i64_in _ ⟨by omega, by omega⟩
        clear hre
        go_wp2_with fail
        refine (A3.out w5).mono ?_
        rintro e w6 ⟨rfl, rfl⟩
        by_cases hz : re = 0
        · subst hz
          have HS2 := hid (HL2.out.g.sync (by omega))
          go_wp2_with fail
          refine HS2.out.mono ?_
          rintro e w7 ⟨s3, hF, rfl, hG, hm, _, _⟩
          have hwl : w.heap.size ≤ w5.heap.size := HL2.out.b.size
          have HL3 := hid (show Lg w w7 J T s3 nb most (2 * (I + 1) + 1) (I + 1) from ⟨hG, by rw [hm]; exact HL2.out.m, by rw [← HL2.out.r]; exact room_of (hG.nb.trans HL2.out.g.nb.symm) (hG.size.trans HL2.out.g.size.symm), HL2.out.b.trans (hF.below (B := w.heap.size) hwl (fun j hj h => by omega))⟩)
          clear hG hF hm HL2
          go_wp2_with fail
          go_roundg (gk - 1)
          case measure => omega
          case rel => exact ⟨I + 1, s3, by omega, by go_num, HL3.out⟩
        · have rz : ¬ (re : Int) = 0 := by omega
          go_wp2_with fail
          go_roundg (gk - 1)
          case measure => omega
          case rel => exact ⟨I + 1, s2, by omega, by go_num, ⟨HL2.out.g.more (by omega), HL2.out.m, HL2.out.r, HL2.out.b⟩⟩
      · exfalso
        rw [HL.out.m, ← HKM.out] at hn
        rw [HL.out.m, HL.out.r] at hr
        have := room_longM hml.1 hn
        omega
    · obtain rfl : I = N := by omega
      have i1 : ¬ (I : Int) < (I : Int) := by omega
      obtain ⟨wA, rfl⟩ : ∃ V, V = wr := ⟨_, rfl⟩
      have HS2 := hid (HL.out.g.sync (by omega))
      go_wp2_with fail
      refine HS2.out.mono ?_
      rintro e w7 ⟨s3, hF, rfl, hG, hm, hC, k9, hI9, hk9⟩
      have hwl : w.heap.size ≤ wA.heap.size := HL.out.b.size
      have HB7 := hid (HL.out.b.trans (hF.below (B := w.heap.size) hwl (fun j hj h => by omega)))
      have HM7 := hid (hm.trans HL.out.m)
      have HOA := hid (hG.again hC (by rw [hm]; exact hI9) hk9 (by omega))
      clear hF hG hm hC hI9 hk9 HL HS2
      go_wp2_with fail
      refine HOA.out.mono ?_
      rintro e w8 ⟨K, s4, rfl, hK, hG8, hF8, hm8, _, _⟩
      have hwl7 : w.heap.size ≤ w7.heap.size := HB7.out.size
      have HB8 := hid (HB7.out.trans (hF8.below (B := w.heap.size) hwl7 (fun j hj h => by omega)))
      have HM8 := hid (hm8.trans HM7.out)
      have HG8 := hid hG8
      clear hG8 hF8 hm8 HOA HB7 HM7
      go_wp2_with fail
      go_loopg [16] most (fun gk vk wr => ∃ k : Nat, k + gk = most ∧ vk = .int .i64 (k : Nat) ∧ wr = w8)
      case atStart => exact ⟨0, by omega, rfl, rfl⟩
      case round =>
        obtain ⟨k, hk, rfl, rfl⟩ := hrel
        by_cases hlt2 : k < most ∧ k < I
        · have k1 : (k : Int) < (most : Int) := by omega
          have k2 : (k : Int) < (I : Int) := by omega
          obtain ⟨n1, hn1⟩ : ∃ n, I - 1 = n := ⟨_, rfl⟩
          obtain ⟨d, hd⟩ : ∃ n, n1 - k = n := ⟨_, rfl⟩
          have hrl := Nat.mod_le d most
          obtain ⟨r, hr⟩ : ∃ n, d % most = n := ⟨_, rfl⟩
          obtain ⟨q, hq⟩ : ∃ n, n1 - r = n := ⟨_, rfl⟩
          have y1 : (d : Int).tmod (most : Int) = (r : Int) := by rw [← hr]; rfl
          have y2 : (d : Int) % (most : Int) = (r : Int) := by rw [← hr]; rfl
          have HGT := hid (HG8.out.get k (by omega))
          rw [HM8.out, get_longM hml.1 hlt2.1 I, if_pos hlt2.2, hn1, hd, hr, hq] at HGT
          simp only [Option.getD_some, Option.isSome_some] at HGT
          have z1 : IntKind.i64.wrap ((I : Int) - 1) = (n1 : Int) := by rw [IntWalk.i64_in _ ⟨by omega, by omega⟩]; omega
          have z2 : IntKind.i64.wrap ((n1 : Int) - (k : Int)) = (d : Int) := by rw [IntWalk.i64_in _ ⟨by omega, by omega⟩]; omega
          have z3 : IntKind.i64.wrap ((n1 : Int) - (r : Int)) = (q : Int) := by rw [IntWalk.i64_in _ ⟨by omega, by omega⟩]; omega
          have z4 : IntKind.i64.wrap ((k : Int) + 1) = (k : Int) + 1 := IntWalk.i64_in _ ⟨by omega, by omega⟩
          have u1 : IntKind.u64.wrap (k : Int) = (k : Int) := by rw [IntKind.wrap_u64]; omega
          have u2 : IntKind.u64.wrap (q : Int) = (q : Int) := by rw [IntKind.wrap_u64]; omega
          clear hn1 hd hr hq hrl
          go_wp2_with fail
          refine HGT.out.mono ?_
          rintro e w9 ⟨rfl, rfl⟩
          go_wp2_with fail
          go_roundg (gk - 1)
          case measure => omega
          case rel => exact ⟨k + 1, by omega, by go_num, rfl⟩
        · by_cases hks : k < most
          · have k1 : (k : Int) < (most : Int) := by omega
            have k2 : ¬ (k : Int) < (I : Int) := by omega
            go_wp2_with fail
            go_ret
            exact ⟨rfl, HB8.out⟩
          · have k1 : ¬ (k : Int) < (most : Int) := by omega
            go_wp2_with fail
            go_ret
            exact ⟨rfl, HB8.out⟩
end Go.Proofs.Ytkdjefnnhanhhaa
