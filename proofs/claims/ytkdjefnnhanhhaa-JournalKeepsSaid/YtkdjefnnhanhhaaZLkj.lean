/- Walks over the journal's laws: JournalAgain. -/
import Derived.Test.YtkdjefnnhanhhaaZLki
set_option linter.unusedVariables false
namespace Go.Proofs.Ytkdjefnnhanhhaa
open Go Go.RowKit Go.Mem Go.Jn
set_option linter.unusedVariables false

set_option maxRecDepth 100000 in
set_option maxHeartbeats 6400000 in
theorem journalAgain_walk (sp : Option Addr) (len cap : Nat) (l : List HOp) (zp : Option Addr) (zlen zcap : Nat) (zs : List Int) (c : Int) (sy : Bool) (w : World) (h1 : OpR w sp len cap l) (hz : RdI .i64 w (.slice zp zlen zcap) zs) (hzl : zs.length = zlen) (hzw : ∀ y ∈ zs, (Lit.int .i64 y).wf = true) (h3 : (Lit.int .i64 c).wf = true) :
    Calls Try.prog 8 #[.slice sp len cap, .slice zp zlen zcap, .int .i64 c, .bool sy] w fun e w' => e = .returned (.bool true) ∧ Below w.heap.size w w' := by
  have hmm := @run_makeMap Try.prog
  have A1 := hid (labs_any c · h3)
  obtain ⟨c0, hc0⟩ : ∃ n, absN' c = n := ⟨_, rfl⟩
  rw [hc0] at A1
  obtain ⟨c1, hc1⟩ : ∃ n, c0 % 6 = n := ⟨_, rfl⟩
  have m1 : (c0 : Int) % 6 = (c1 : Int) := by omega
  have m1' : (c0 : Int).tmod 6 = (c1 : Int) := by rw [← hc1]; rfl
  obtain ⟨tm, htm⟩ : ∃ n, 1 + c1 = n := ⟨_, rfl⟩
  have x1 : IntKind.i64.wrap (1 + (c1 : Int)) = (tm : Int) := by rw [IntWalk.i64_in _ ⟨by omega, by omega⟩]; omega
  have htl : tm ≤ 6 := by omega
  have HOR := hid h1
  have HZ := hid hz
  have HZW := hid hzw
  have hlen : len ≤ cap ∧ cap ≤ maxLen := ⟨h1.2.1, h1.2.2.1⟩
  have hlenb : (len : Int) ≤ 9223372036854775807 := by have := hlen.2; have := hlen.1; unfold maxLen at *; omega
  clear hc0 hc1 htm h1 hz hzl hzw h3 hlen
  go_enter Try.func8, Try.ntmps8
  go_wp2_with fail
  refine (jawake_any w).mono ?_
  rintro e w1 ⟨rfl, hb1⟩
  have HB1 := hid hb1
  clear hb1
  go_wp2_with fail
  refine (tnew_any 20 200 (by omega) (by omega) w1).mono ?_
  rintro e w2 ⟨rfl, hT, hb2⟩
  have HOP := hid (Gd.new (nb := 20) (size := 200) (by omega) (by omega) (by omega) (by omega) hT)
  obtain ⟨T, hTe⟩ : ∃ T, w1.heap.size = T := ⟨_, rfl⟩
  have HB2 := hid (HB1.out.trans (hb2.mono HB1.out.size))
  have hTw : w.heap.size ≤ T := by rw [← hTe]; exact HB1.out.size
  rw [hTe] at HOP ⊢
  clear hT hb2
  go_wp2_with fail
  refine HOP.out.mono ?_
  rintro e w3 ⟨J, s, rfl, hJ, hG, hF, hm⟩
  have HB3 := HB2.out.trans (hF.below (B := w.heap.size) HB2.out.size (fun j hj h => by omega))
  obtain ⟨most, hmost⟩ : ∃ n, s.t.room = n := ⟨_, rfl⟩
  have hml : 0 < most ∧ most ≤ 7000 := by
    obtain ⟨A, k, hi, hk⟩ := hG.inv
    have z1 := room2 hi.tok
    have z2 := room_le hi.tok
    omega
  have HMO := hid hmost
  have HP := hid (Pl.made (w := w) hG HB3 hTw hm)
  obtain ⟨mb, hmb⟩ : ∃ m, w3.heap.size = m := ⟨_, rfl⟩
  rw [hmb] at HP
  clear hG hF hm hJ HOP HB1 hmost HB3 HB2
  go_wp2_with fail
  go_loopg [14] 100 (fun gk vi wr => ∃ (I : Nat) (s : JS), I + gk = 100 ∧ vi = .int .i64 (I : Nat) ∧ Pl w wr J T mb s 20 200 (I + 1) ∧ s.t.room = most)
  case atStart => exact ⟨0, s, by omega, rfl, HP.out, HMO.out⟩
  case round =>
    obtain ⟨I, s1, hI, rfl, hP, hmo⟩ := hrel
    have HP1 := hid hP
    have HMO1 := hid hmo
    clear hP hmo HP HMO
    by_cases hlt : I < len ∧ I < 100
    · have i1 : (I : Int) < (len : Int) := by omega
      have i2 : (I : Int) < 100 := by omega
      obtain ⟨ll, _, _, hfit, hcell⟩ := HOR.out.below HP1.out.b
      obtain ⟨g9, o9, e8, c1, c2, c3⟩ := hcell I hlt.1
      subst e8
      have hg9 : g9 < w.heap.size := by
        obtain ⟨_, _, _, _, hc⟩ := HOR.out
        obtain ⟨g8, o8, e7, d1, _, _⟩ := hc I hlt.1
        cases e7
        exact World.block_lt_of_cell? _ _ d1
      obtain ⟨o, hoe⟩ : ∃ o, l.getD I HOp.zero = o := ⟨_, rfl⟩
      have hof : o.Fit := by rw [← hoe]; exact hfit _ (mem_getD' _ _ (by omega))
      rw [hoe] at c1 c2 c3
      obtain ⟨kk, hkk⟩ : ∃ k, most + 2 = k := ⟨_, rfl⟩
      have z1 : IntKind.i64.wrap ((most : Int) + 2) = (kk : Int) := by rw [IntWalk.i64_in _ ⟨by omega, by omega⟩]; omega
      have z2 : IntKind.i64.wrap ((I : Int) + 1) = (I : Int) + 1 := IntWalk.i64_in _ ⟨by omega, by omega⟩
      have HRO := hid (fun (W : World) (hb : Below wr.heap.size wr W) => by
        have := (HP1.out.below hb).room
        rw [HMO1.out] at this
        exact this)
      have HDO := hid (fun (W : World) (hb : Below wr.heap.size wr W) => (HP1.out.below hb).doo (by omega) o hof kk (by omega))
      have hOF := hid hof
      clear hoe hkk hcell hfit
      go_wp2_with fail
      go_region_held3 (fun w' => w'.cell? ⟨g9, o9 + I * 3, none⟩ = some (.int .i64 o.kind) ∧ w'.cell? ⟨g9, o9 + I * 3 + 1, none⟩ = some (.int .i64 o.sector) ∧ w'.cell? ⟨g9, o9 + I * 3 + 2, none⟩ = some (.int .u64 (o.value : Nat)))
        (first | exact ⟨c1, c2, c3⟩ | exact ⟨k1, k2, k3⟩)
        (first
        | (go_at_call 13; refine (HRO.out _ (by first | exact Below.refl _ _ | exact (Below.refl _ _).drewN _ | exact (Below.refl _ _).drew)).mono ?_; rintro e w5 ⟨rfl, nd5, rfl⟩)
        | (go_at_call 18; refine (HDO.out _ (by first | exact Below.refl _ _ | exact (Below.refl _ _).drewN _ | exact (Below.refl _ _).drew | exact ((Below.refl _ _).drewN _).drewN _)).mono ?_; rintro e w6 ⟨cd, s6, rfl, hcd, hP6, hF6⟩; have kb := hF6.block g9 (Nat.lt_of_lt_of_le hg9 HP1.out.b.size) (fun h => by have h' : w.heap.size ≤ g9 := h; omega); have k1 := (World.cell?_of_block (a := ⟨g9, o9 + I * 3, none⟩) kb).trans c1; have k2 := (World.cell?_of_block (a := ⟨g9, o9 + I * 3 + 1, none⟩) kb).trans c2; have k3 := (World.cell?_of_block (a := ⟨g9, o9 + I * 3 + 2, none⟩) kb).trans c3; clear kb)
        | fail)
      have HP6 := hid hP6
      have HMO6 := hid (show s6.t.room = most from by rw [← HMO1.out]; exact room_of (hP6.g.nb.trans HP1.out.g.nb.symm) (hP6.g.size.trans HP1.out.g.size.symm))
      clear hP6 hF6 k1 k2 k3 c1 c2 c3
      go_wp2_with fail
      go_roundg (gk - 1)
      case measure => omega
      case rel => exact ⟨I + 1, s6, by omega, by go_num, HP6.out, HMO6.out⟩
    · have hh : (¬ (I : Int) < (len : Int)) ∨ ((I : Int) < (len : Int) ∧ ¬ (I : Int) < 100) := by omega
      obtain ⟨wA, rfl⟩ : ∃ V, V = wr := ⟨_, rfl⟩
      have HSY := hid (HP1.out.sync (by omega))
      clear hlt
      rcases hh with hh | ⟨hh, hh3⟩
      all_goals (
        go_wp2_with fail
        refine HSY.out.mono ?_
        rintro e w6 ⟨s6, rfl, hP6, hC6, hI6, _⟩
        have HQ0 := hid ((hP6.toPq hC6 (by obtain ⟨k, k1, k2⟩ := hI6; exact ⟨k, k1, k2⟩)))
        obtain ⟨M, hM⟩ : ∃ M, s6.j.m = M := ⟨_, rfl⟩
        rw [hM] at HQ0
        clear hP6 hC6 hI6 hM
        go_wp2_with fail
        go_loopg [15] tm (fun gk vi wr => ∃ (k : Nat) (t : Tp), k + gk = tm ∧ vi = .int .i64 (k : Nat) ∧ Pq w wr T mb t M 20 200 (102 + 2 * k))
        case atStart => exact ⟨0, s6.t, by omega, rfl, by have := HQ0.out; exact ⟨this.tp, this.q.more (by omega), this.m, this.b, this.h⟩⟩
        case round =>
          obtain ⟨k, t, hk, rfl, hQ⟩ := hrel
          have HQ := hid hQ
          clear hQ HQ0
          by_cases hkt : k < tm
          · have k1 : (k : Int) < (tm : Int) := by omega
            have k2 : IntKind.i64.wrap ((k : Int) + 1) = (k : Int) + 1 := IntWalk.i64_in _ ⟨by omega, by omega⟩
            have HOPN := hid (HQ.out.open (by omega))
            go_wp2_with fail
            refine (A1.out wr).mono ?_
            rintro e w7 ⟨rfl, rfl⟩
            go_wp2_with fail
            refine HOPN.out.mono ?_
            rintro e w8 ⟨K, s8, rfl, hP8, hC8, hI8, hm8⟩
            have HP8 := hid hP8
            have HC8 := hid hC8
            have HI8 := hid hI8
            have HM8 := hid hm8
            clear hP8 hC8 hI8 hm8 HOPN HQ
            cases sy with
            | true =>
              have HSY8 := hid (HP8.out.sync (by omega))
              go_wp2_with fail
              refine HSY8.out.mono ?_
              rintro e w9 ⟨s9, rfl, hP9, hC9, hI9, hm9⟩
              have HHX := hid hP9.holds
              have HCX := hid hC9
              have HIX := hid hI9
              have HMX := hid (hm9.trans HM8.out)
              clear hP9 hC9 hI9 hm9 HSY8 HP8 HC8 HI8 HM8
              go_wp2_with fail
              refine HHX.out.mono ?_
              rintro e w10 ⟨rfl, hP10⟩
              have HLV := hid ((hP10.toPq HCX.out HIX.out).leave (.slice zp zlen zcap) zs HZ.out HZW.out (by omega))
              rw [HMX.out] at HLV
              clear hP10
              go_wp2_with fail
              refine HLV.out.mono ?_
              rintro e w11 ⟨⟨u, rfl⟩, hQ11⟩
              have HQ11 := hid hQ11
              clear hQ11
              go_wp2_with fail
              go_roundg (gk - 1)
              case measure => omega
              case rel => exact ⟨k + 1, _, by omega, by go_num, HQ11.out.tp, HQ11.out.q.more (by omega), HQ11.out.m, HQ11.out.b, HQ11.out.h⟩
            | false =>
              have HHX := hid HP8.out.holds
              have HCX := hid HC8.out
              have HIX := hid HI8.out
              have HMX := hid HM8.out
              clear HP8 HC8 HI8 HM8
              go_wp2_with fail
              refine HHX.out.mono ?_
              rintro e w10 ⟨rfl, hP10⟩
              have HLV := hid ((hP10.toPq HCX.out HIX.out).leave (.slice zp zlen zcap) zs HZ.out HZW.out (by omega))
              rw [HMX.out] at HLV
              clear hP10
              go_wp2_with fail
              refine HLV.out.mono ?_
              rintro e w11 ⟨⟨u, rfl⟩, hQ11⟩
              have HQ11 := hid hQ11
              clear hQ11
              go_wp2_with fail
              go_roundg (gk - 1)
              case measure => omega
              case rel => exact ⟨k + 1, _, by omega, by go_num, HQ11.out.tp, HQ11.out.q.more (by omega), HQ11.out.m, HQ11.out.b, HQ11.out.h⟩
          · have k1 : ¬ (k : Int) < (tm : Int) := by omega
            go_wp2_with fail
            refine (A1.out wr).mono ?_
            rintro e w7 ⟨rfl, rfl⟩
            go_wp2_with fail
            go_ret
            exact ⟨rfl, HQ.out.b⟩)
end Go.Proofs.Ytkdjefnnhanhhaa
