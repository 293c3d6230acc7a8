/- Walks over the journal's laws: JournalPlays. -/
import Derived.Test.YtkdjefnnhanhhaaZLkg
set_option linter.unusedVariables false
namespace Go.Proofs.Ytkdjefnnhanhhaa
open Go Go.RowKit Go.Mem Go.Jn
set_option linter.unusedVariables false

theorem room_lo {t : Tp} (h1 : 8 ≤ t.nb) (h2 : 128 ≤ t.size) : t.nb ≤ 4 * t.room + 3 := by
  have h3 : t.sz * 2 ≤ t.sz * t.per := Nat.mul_le_mul_left _ (by unfold Tp.per; omega)
  have h4 : t.sz = (t.nb - 2) / 2 := rfl
  unfold Tp.room
  omega
theorem mem_getD' {α : Type} (l : List α) (d : α) {j : Nat} (h : j < l.length) : l.getD j d ∈ l := by
  rw [List.getD, List.getElem?_eq_getElem h]; simp
set_option maxRecDepth 100000 in
set_option maxHeartbeats 6400000 in
theorem journalPlays_walk (a b : Int) (sp : Option Addr) (len cap : Nat) (l : List HOp) (w : World) (h1 : (Lit.int .i64 a).wf = true) (h2 : (Lit.int .i64 b).wf = true) (h3 : OpR w sp len cap l) :
    Calls Try.prog 6 #[.int .i64 a, .int .i64 b, .slice sp len cap] w fun e w' => e = .returned (.bool true) ∧ Below w.heap.size w w' := by
  have hmm := @run_makeMap Try.prog
  have A1 := hid (labs_any a · h1)
  have A2 := hid (labs_any b · h2)
  obtain ⟨a0, ha0⟩ : ∃ n, absN' a = n := ⟨_, rfl⟩
  obtain ⟨b0, hb0⟩ : ∃ n, absN' b = n := ⟨_, rfl⟩
  rw [ha0] at A1
  rw [hb0] at A2
  obtain ⟨a1, ha1⟩ : ∃ n, a0 % 20 = n := ⟨_, rfl⟩
  obtain ⟨b1, hb1⟩ : ∃ n, b0 % 300 = n := ⟨_, rfl⟩
  have m1 : (a0 : Int) % 20 = (a1 : Int) := by omega
  have m2 : (b0 : Int) % 300 = (b1 : Int) := by omega
  have m1' : (a0 : Int).tmod 20 = (a1 : Int) := by rw [← ha1]; rfl
  have m2' : (b0 : Int).tmod 300 = (b1 : Int) := by rw [← hb1]; rfl
  obtain ⟨nb, hnb⟩ : ∃ n, 8 + a1 = n := ⟨_, rfl⟩
  obtain ⟨sz, hsz⟩ : ∃ n, 128 + b1 = n := ⟨_, rfl⟩
  have x1 : IntKind.i64.wrap (8 + (a1 : Int)) = (nb : Int) := by rw [IntWalk.i64_in _ ⟨by omega, by omega⟩]; omega
  have x2 : IntKind.i64.wrap (128 + (b1 : Int)) = (sz : Int) := by rw [IntWalk.i64_in _ ⟨by omega, by omega⟩]; omega
  have hnl : 8 ≤ nb ∧ nb < 28 := by omega
  have hsl : 128 ≤ sz ∧ sz < 428 := by omega
  have HOR := hid h3
  have hlen : len ≤ cap ∧ cap ≤ maxLen := ⟨h3.2.1, h3.2.2.1⟩
  have hlenb : (len : Int) ≤ 9223372036854775807 := by have := hlen.2; have := hlen.1; unfold maxLen at *; omega
  clear ha0 hb0 ha1 hb1 hnb hsz h1 h2 h3 hlen
  go_enter Try.func6, Try.ntmps6
  go_wp2_with fail
  refine (jawake_any w).mono ?_
  rintro e w1 ⟨rfl, hb1⟩
  have HB1 := hid hb1
  clear hb1
  go_wp2_with fail
  refine (A1.out w1).mono ?_
  rintro e w2 ⟨rfl, rfl⟩
  go_wp2_with fail
  refine (A2.out w1).mono ?_
  rintro e w2 ⟨rfl, rfl⟩
  go_wp2_with fail
  refine (tnew_any nb sz (by omega) (by omega) w1).mono ?_
  rintro e w2 ⟨rfl, hT, hb2⟩
  have HOP := hid (Gd.new (nb := nb) (size := sz) (by omega) (by omega) (by omega) (by omega) hT)
  obtain ⟨T, hTe⟩ : ∃ T, w1.heap.size = T := ⟨_, rfl⟩
  have HB2 := hid (HB1.out.trans (hb2.mono HB1.out.size))
  have hTw : w.heap.size ≤ T := by rw [← hTe]; exact HB1.out.size
  rw [hTe] at HOP ⊢
  clear hT hb2
  go_wp2_with fail
  refine HOP.out.mono ?_
  rintro e w3 ⟨J, s, rfl, hJ, hG, hF, hm⟩
  have HB3 := hid (HB2.out.trans (hF.below (B := w.heap.size) HB2.out.size (fun j hj h => by omega)))
  have HG := hid hG
  have HM := hid hm
  obtain ⟨most, hmost⟩ : ∃ n, s.t.room = n := ⟨_, rfl⟩
  have hml : 0 < most ∧ most ≤ 7000 ∧ nb ≤ 4 * most + 3 := by
    obtain ⟨A, k, hi, hk⟩ := hG.inv
    have z1 := room2 hi.tok
    have z2 := room_le hi.tok
    have z3 := room_lo (t := s.t) (by rw [hG.nb]; omega) (by rw [hG.size]; omega)
    rw [hG.nb] at z3
    omega
  have HMO := hid hmost
  have HRO := hid hG.room
  rw [hmost] at HRO
  have y1 : IntKind.i64.wrap (4 * (most : Int)) = 4 * (most : Int) := IntWalk.i64_in _ ⟨by omega, by omega⟩
  have y2 : IntKind.i64.wrap ((nb : Int) - 3) = (nb : Int) - 3 := IntWalk.i64_in _ ⟨by omega, by omega⟩
  have y3 : ¬ 4 * (most : Int) < (nb : Int) - 3 := by omega
  clear hG hF hm hJ HOP HB1 hmost
  go_wp2_with fail
  refine HRO.out.mono ?_
  rintro e w4 ⟨rfl, nd, rfl⟩
  obtain ⟨W3, hW3⟩ : ∃ W, w3.drewN nd = W := ⟨_, rfl⟩
  have HP := hid (Pl.made (w := w) (HG.out.below ((Below.refl _ _).drewN nd)) (HB3.out.drewN nd) hTw HM.out)
  obtain ⟨mb, hmb⟩ : ∃ m, (w3.drewN nd).heap.size = m := ⟨_, rfl⟩
  rw [hmb] at HP
  have hmb' := hmb
  rw [hW3] at HP ⊢ hmb'
  clear HRO HG HM HB3 HB2 hmb hW3
  go_wp2_with fail
  go_loopg [13] 150 (fun gk vi wr => ∃ (I : Nat) (s : JS), I + gk = 150 ∧ vi = .int .i64 (I : Nat) ∧ Pl w wr J T mb s nb sz (I + 1) ∧ s.t.room = most)
  case atStart => exact ⟨0, s, by omega, rfl, HP.out, HMO.out⟩
  case round =>
    obtain ⟨I, s1, hI, rfl, hP, hmo⟩ := hrel
    have HP1 := hid hP
    have HMO1 := hid hmo
    clear hP hmo HP HMO
    by_cases hlt : I < len ∧ I < 150
    · have i1 : (I : Int) < (len : Int) := by omega
      have i2 : (I : Int) < 150 := by omega
      obtain ⟨ll, _, _, hfit, hcell⟩ := HOR.out.below HP1.out.b
      obtain ⟨g9, o9, e8, c1, c2, c3⟩ := hcell I hlt.1
      subst e8
      have hg9 : g9 < w.heap.size := by
        obtain ⟨_, _, _, _, hc⟩ := HOR.out
        obtain ⟨g8, o8, e7, d1, _, _⟩ := hc I hlt.1
        cases e7
        exact World.block_lt_of_cell? _ _ d1
      obtain ⟨o, hoe⟩ : ∃ o, l.getD I HOp.zero = o := ⟨_, rfl⟩
      have hof : o.Fit := by rw [← hoe]; exact hfit _ (mem_getD' _ _ (by omega))
      rw [hoe] at c1 c2 c3
      obtain ⟨kk, hkk⟩ : ∃ k, most + 2 = k := ⟨_, rfl⟩
      have z1 : IntKind.i64.wrap ((most : Int) + 2) = (kk : Int) := by rw [IntWalk.i64_in _ ⟨by omega, by omega⟩]; omega
      have z2 : IntKind.i64.wrap ((I : Int) + 1) = (I : Int) + 1 := IntWalk.i64_in _ ⟨by omega, by omega⟩
      have HRO := hid (fun (W : World) (hb : Below wr.heap.size wr W) => by
        have := (HP1.out.below hb).room
        rw [HMO1.out] at this
        exact this)
      have HDO := hid (fun (W : World) (hb : Below wr.heap.size wr W) => (HP1.out.below hb).doo (by omega) o hof kk (by omega))
      have hOF := hid hof
      clear hoe hkk hcell hfit
      go_wp2_with fail
      go_region_held3 (fun w' => w'.cell? ⟨g9, o9 + I * 3, none⟩ = some (.int .i64 o.kind) ∧ w'.cell? ⟨g9, o9 + I * 3 + 1, none⟩ = some (.int .i64 o.sector) ∧ w'.cell? ⟨g9, o9 + I * 3 + 2, none⟩ = some (.int .u64 (o.value : Nat)))
        (first | exact ⟨c1, c2, c3⟩ | exact ⟨k1, k2, k3⟩)
        (first
        | (go_at_call 13; refine (HRO.out _ (by first | exact Below.refl _ _ | exact (Below.refl _ _).drewN _ | exact (Below.refl _ _).drew)).mono ?_; rintro e w5 ⟨rfl, nd5, rfl⟩)
        | (go_at_call 18; refine (HDO.out _ (by first | exact Below.refl _ _ | exact (Below.refl _ _).drewN _ | exact (Below.refl _ _).drew | exact ((Below.refl _ _).drewN _).drewN _)).mono ?_; rintro e w6 ⟨cd, s6, rfl, hcd, hP6, hF6⟩; have kb := hF6.block g9 (Nat.lt_of_lt_of_le hg9 HP1.out.b.size) (fun h => by have h' : w.heap.size ≤ g9 := h; omega); have k1 := (World.cell?_of_block (a := ⟨g9, o9 + I * 3, none⟩) kb).trans c1; have k2 := (World.cell?_of_block (a := ⟨g9, o9 + I * 3 + 1, none⟩) kb).trans c2; have k3 := (World.cell?_of_block (a := ⟨g9, o9 + I * 3 + 2, none⟩) kb).trans c3; clear kb)
        | fail)
      have HP6 := hid hP6
      have HMO6 := hid (show s6.t.room = most from by rw [← HMO1.out]; exact room_of (hP6.g.nb.trans HP1.out.g.nb.symm) (hP6.g.size.trans HP1.out.g.size.symm))
      clear hP6 hF6 k1 k2 k3 c1 c2 c3
      rcases hcd with rfl | rfl | rfl
      all_goals (
        go_wp2_with fail
        go_roundg (gk - 1)
        case measure => omega
        case rel => exact ⟨I + 1, s6, by omega, by go_num, HP6.out, HMO6.out⟩)
    · have hh : (¬ (I : Int) < (len : Int)) ∨ ((I : Int) < (len : Int) ∧ ¬ (I : Int) < 150) := by omega
      obtain ⟨wA, rfl⟩ : ∃ V, V = wr := ⟨_, rfl⟩
      have HHO := hid HP1.out.holds
      clear hlt
      rcases hh with hh | ⟨hh, hh3⟩
      all_goals (
        go_wp2_with fail
        refine HHO.out.mono ?_
        rintro e w5 ⟨rfl, hP5⟩
        have HSY := hid (hP5.sync (by omega))
        clear hP5
        go_wp2_with fail
        refine HSY.out.mono ?_
        rintro e w6 ⟨s6, rfl, hP6, hC6, hI6, _⟩
        have HAG := hid (hP6.again (by omega) hC6 (by obtain ⟨k, k1, k2⟩ := hI6; exact ⟨k, k1, by omega⟩))
        clear hP6 hC6 hI6
        go_wp2_with fail
        refine HAG.out.mono ?_
        rintro e w7 ⟨K, s7, rfl, hP7, _, _⟩
        have HH7 := hid hP7.holds
        clear hP7
        go_wp2_with fail
        refine HH7.out.mono ?_
        rintro e w8 ⟨rfl, hP8⟩
        have HB8 := hid hP8.b
        clear hP8
        go_wp2_with fail
        go_ret
        exact ⟨rfl, HB8.out⟩)
end Go.Proofs.Ytkdjefnnhanhhaa
