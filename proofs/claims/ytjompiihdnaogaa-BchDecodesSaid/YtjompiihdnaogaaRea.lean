/- Walks over firkinref02: a code is made; its numbers. -/
import Derived.Test.YtjompiihdnaogaaEl
import Derived.Test.YtjompiihdnaogaaBci
import Derived.Deep.RegionLaw
import Derived.Deep.DeepCutAuto
namespace Go.Proofs.Ytjompiihdnaogaa
open Go.RowKit Go.Mem

/-- A code of the document's. -/
def RC (w : World) (v : Value) (bytes t m : Nat) : Prop := ∃ gv, v = .agg #[.int .i64 m, .int .i64 bytes, .int .i64 t, gv] ∧ Rd .i64 w gv (Gf.gen m t).reverse
theorem RC.below {w w' : World} {v : Value} {bytes t m : Nat} (h : RC w v bytes t m) (hb : Below w.heap.size w w') : RC w' v bytes t m := by
  obtain ⟨gv, hv, hr⟩ := h
  exact ⟨gv, hv, hr.below hb⟩

theorem rg_rev (G : List Nat) : (List.range G.length).map (G.reverse.getD · 0) = G.reverse := by have := rg_self G.reverse; rwa [List.length_reverse] at this
theorem rev_snoc (l : List Nat) (j : Nat) (h : j < l.length) : (l.reverse.take (j + 1)) = l.reverse.take j ++ [l.getD (l.length - 1 - j) 0] := by
  rw [List.take_succ_eq_append_getElem (by simpa using h)]
  congr 1
  rw [List.getElem_reverse]
  simp [List.getD, show l.length - 1 - j < l.length by omega]

set_option maxRecDepth 100000 in
set_option maxHeartbeats 1600000 in
theorem rnew_any (bytes t m : Nat) (w : World) (hp : Par bytes t m) :
    Calls Try.prog 14 #[.int .i64 bytes, .int .i64 t] w fun e w' => (∃ v, e = .returned (.tuple #[v, .bool true]) ∧ RC w' v bytes t m) ∧ Below w.heap.size w w' := by
  have b1 := hp.b1
  have b2 := hp.b2
  have t1 := hp.t1
  have t8 := hp.t8
  have m4 := hp.m4
  have m13 := hp.ok.2
  have HP := hid hp
  clear hp
  go_enter Try.func14, Try.ntmps14
  go_wp2
  go_loopg [6] (m - 4) (fun g k wr => ∃ q : Nat, 4 ≤ q ∧ q + g = m ∧ k = .int .i64 q ∧ wr = w.alloc (.cells #[.int .i64 0, .int .i64 0, .int .i64 0, .slice none 0 0] 29))
  case atStart => exact ⟨4, by omega, by omega, rfl, rfl⟩
  case round =>
    obtain ⟨q, hq4, hq, rfl, rfl⟩ := hrel
    have q1 := two_pow_pos' q
    have q2 := two_pow_le q (by omega)
    have n1 : q * t ≤ 13 * 8 := Nat.mul_le_mul (by omega) t8
    have n2 : (q : Int) * (t : Int) ≤ 104 := by exact_mod_cast n1
    have n3 : (0 : Int) ≤ (q : Int) * (t : Int) := by exact_mod_cast Nat.zero_le (q * t)
    have hsz := sz_cast q
    by_cases hlt : q < m
    · have hno := HP.out.least q hq4 hlt
      have hno2 : (2:Int)^q - 1 < 8 * (bytes : Int) + (q : Int) * (t : Int) := by
        have : ((8 * bytes + q * t : Nat) : Int) = 8 * (bytes : Int) + (q : Int) * (t : Int) := by simp
        omega
      clear hno hsz
      go_wp2
      go_roundg (gk - 1)
      case measure => omega
      case rel => exact ⟨q + 1, by omega, by omega, by go_num, rfl⟩
    · have eq : q = m := by omega
      subst eq
      have hyes := HP.out.fits
      have hyes2 : 8 * (bytes : Int) + (q : Int) * (t : Int) ≤ (2:Int)^q - 1 := by
        have : ((8 * bytes + q * t : Nat) : Int) = 8 * (bytes : Int) + (q : Int) * (t : Int) := by simp
        omega
      have h2t : 2 * t ≤ Gf.sz q := by
        have : 4 * t ≤ q * t := Nat.mul_le_mul_right t hq4
        omega
      have H2T := hid h2t
      clear hyes hsz h2t
      go_wp2_with fail
      refine (rgenerator_any q t _ HP.out.ok t1 t8 H2T.out).mono ?_
      rintro e w2 ⟨⟨v, rfl, hv⟩, hb⟩
      rw [Gf.genr_gen HP.out.ok] at hv
      obtain ⟨ga, gcap, rfl, v1, v2, v3⟩ := hv
      obtain ⟨G, hG⟩ : ∃ G, Gf.gen q t = G := ⟨_, rfl⟩
      rw [hG] at v1 v3 ⊢
      have hlen : G.length ≤ 105 := by rw [← hG]; have := HP.out.r; omega
      have HG := hid hG
      have HV3 := hid v3
      have HB := hid hb
      clear hG v3 hb
      obtain ⟨cb, hcb⟩ : ∃ cb, w2.heap.size = cb := ⟨_, rfl⟩
      have hcbw : w.heap.size + 1 ≤ cb := by have := HB.out.size; simp at this; omega
      go_wp2_with fail
      have hi0 : (G.length : Int) - 1 = ((G.length : Int) - 1 - (0 : Nat)) := by omega
      go_loopg [10] G.length (fun gk i wr => ∃ (J : Nat) (gv : Value), J + gk = G.length ∧ i = .int .i64 ((G.length : Int) - 1 - J) ∧ wr.heap[cb]? = some (.cells #[.int .i64 q, .int .i64 bytes, .int .i64 t, gv] 29 (0, 0)) ∧ Own .i64 3 (cb + 1) wr gv (G.reverse.take J) ∧ Below cb w2 wr)
      case atStart =>
        refine ⟨0, .slice none 0 0, by omega, by simp, ?_, Own.nil _ _ _ _, (Below.refl _ _).alloc (by omega) _⟩
        exact alloc_at hcb.symm
      case round =>
        obtain ⟨J, gv, hJ, rfl, hc, ho, hbx⟩ := hrel
        have HC := hid hc
        have HO := hid ho
        have HBX := hid hbx
        clear hc ho hbx hi0
        by_cases hlt2 : J < G.length
        · obtain ⟨g1, o1, rfl, hx1⟩ := HV3.out (G.length - 1 - J) (by omega)
          have hg1lt : g1 < cb := by have := World.block_lt_of_cell? _ _ hx1; simp at this; omega
          have hx2 : wr.cell? ⟨g1, o1 + (G.length - 1 - J), none⟩ = some (.int .i64 ((G.getD (G.length - 1 - J) 0 : Nat) : Int)) := by
            have := World.block_lt_of_cell? _ _ hx1
            rw [HBX.out.cell (by simp at this ⊢; omega)]; exact hx1
          obtain ⟨idx, hidx⟩ : ∃ idx, G.length - 1 - J = idx := ⟨_, rfl⟩
          have hidz : (G.length : Int) - 1 - J = (idx : Int) := by omega
          have hgl : (idx : Int) < (G.length : Int) := by omega
          rw [hidx] at hx2
          obtain ⟨x, hx⟩ : ∃ x, G.getD idx 0 = x := ⟨_, rfl⟩
          rw [hx] at hx2
          have hrev := rev_snoc G J hlt2
          rw [hidx, hx] at hrev
          have HREV := hid hrev
          have hc3 : wr.cell? ⟨cb, 3, none⟩ = some gv := cell_at HC.out 3
          have hcbl := lt_at HC.out
          rw [hidz]
          have HIDZ := hid hidz
          clear hx1 hidx hx hrev hidz
          have hl2 : (G.reverse.take J).length = J := by simp; omega
          generalize G.reverse.take J = X at *
          have hl1 : X.length ≤ 1000000000 := by omega
          have HL2 := hid hl2
          clear hl2
          have hne : some cb ≠ gv.ownBlock := fun he => by have := (HO.out.blk cb he.symm).1; omega
          have HNE := hid hne
          clear hne
          have fz3 : wr.frozen? ⟨cb, 3, none⟩ = false := free_at HC.out 3
          have hne2 : some g1 ≠ gv.ownBlock := fun he => by have := (HO.out.blk g1 he.symm).1; omega
          have HNE2 := hid hne2
          clear hne2
          have hx4 : ((wr.alloc (.cells #[.int .i64 (x : Int)] 3)).drew).cell? ⟨cb, 3, none⟩ = some gv := cl_alloc hc3
          go_wp2_with fail
          go_region_law (refine step_one el_int (by rfl) _ _ (by rfl) (cb + 1) gv X (by rfl) (by exact (HO.out.alloc _).drewN 1) ⟨wr.heap.size, 0, none⟩ 1 x (by rfl) (by exact new_cell _ _ _) hl1 (by simp; omega) ?_; intro g2 cap2 w3 hown hgrow hat; have hC3 := (hgrow.block cb (by simp; omega) HNE.out).trans ((alloc_old (by simpa using hcbl)).trans HC.out); have cz3 := cell_at hC3 3; have fz3 := free_at hC3 3; have HC3 := hid hC3; clear hC3)
          all_goals
            go_wp2_with fail
            go_roundg (gk - 1)
            case measure => omega
            case rel =>
              refine ⟨J + 1, _, by omega, by rw [← HIDZ.out]; go_num, set_at HC3.out 3 _, ?_, ?_⟩
              · rw [HREV.out]
                exact hown.kept (grown_set _ _ _ _) (.inr (fun he => by have := (hown.blk cb he).1; omega))
              · refine (grow_below ((HBX.out.alloc (by omega) (.cells #[.int .i64 (x : Int)] 3)).drew) (by simp; omega) hgrow (fun g hg => by have := (HO.out.blk g hg).1; omega)).setCell (Nat.le_refl _) _
        · obtain rfl : J = G.length := by omega
          have hG1 : 0 < G.length := by rw [← HG.out]; have := HP.out.r; omega
          have htk : G.reverse.take G.length = G.reverse := List.take_of_length_le (by simp)
          rw [htk] at HO
          clear htk
          obtain ⟨g4, cap4, rfl, hg4, ho4⟩ := HO.out.ow (by simpa using hG1)
          have HO4 := hid ho4
          clear ho4
          have cc0 : wr.cell? ⟨cb, 0, none⟩ = _ := cell_at HC.out 0
          have cc1 : wr.cell? ⟨cb, 1, none⟩ = _ := cell_at HC.out 1
          have cc2 : wr.cell? ⟨cb, 2, none⟩ = _ := cell_at HC.out 2
          have cc3 : wr.cell? ⟨cb, 3, none⟩ = _ := cell_at HC.out 3
          have hR0 : wr.heap[w.heap.size]? = some (.cells #[.int .i64 0, .int .i64 0, .int .i64 0, .slice none 0 0] 29 (0, 0)) :=
            (HBX.out.block _ (by omega)).trans ((HB.out.block _ (by simp)).trans (alloc_new _ _))
          have r0 : wr.cell? ⟨w.heap.size, 0, none⟩ = _ := cell_at hR0 0
          have r1 : wr.cell? ⟨w.heap.size, 1, none⟩ = _ := cell_at hR0 1
          have r2 : wr.cell? ⟨w.heap.size, 2, none⟩ = _ := cell_at hR0 2
          have r3 : wr.cell? ⟨w.heap.size, 3, none⟩ = _ := cell_at hR0 3
          have f0 : wr.frozen? ⟨w.heap.size, 0, none⟩ = false := free_at hR0 0
          have f1 : wr.frozen? ⟨w.heap.size, 1, none⟩ = false := free_at hR0 1
          have f2 : wr.frozen? ⟨w.heap.size, 2, none⟩ = false := free_at hR0 2
          have f3 : wr.frozen? ⟨w.heap.size, 3, none⟩ = false := free_at hR0 3
          go_wp2_with fail
          have s0 := set_at hR0 0 (.int .i64 (q : Int))
          have s1 := set_at s0 1 (.int .i64 (bytes : Int))
          have s2 := set_at s1 2 (.int .i64 (t : Int))
          have s3 := set_at s2 3 (.slice (some ⟨g4, 0, none⟩) G.reverse.length cap4)
          have z0 : ((wr.setCell ⟨w.heap.size, 0, none⟩ (.int .i64 (q : Int)))).cell? ⟨w.heap.size, 0, none⟩ = some (.int .i64 (q : Int)) := cell_at s0 0
          have z1 : (((wr.setCell ⟨w.heap.size, 0, none⟩ (.int .i64 (q : Int))).setCell ⟨w.heap.size, 1, none⟩ (.int .i64 (bytes : Int)))).cell? ⟨w.heap.size, 1, none⟩ = some (.int .i64 (bytes : Int)) := cell_at s1 1
          have z2 : ((((wr.setCell ⟨w.heap.size, 0, none⟩ (.int .i64 (q : Int))).setCell ⟨w.heap.size, 1, none⟩ (.int .i64 (bytes : Int)))).setCell ⟨w.heap.size, 2, none⟩ (.int .i64 (t : Int))).cell? ⟨w.heap.size, 2, none⟩ = some (.int .i64 (t : Int)) := cell_at s2 2
          have z3 : (((((wr.setCell ⟨w.heap.size, 0, none⟩ (.int .i64 (q : Int))).setCell ⟨w.heap.size, 1, none⟩ (.int .i64 (bytes : Int)))).setCell ⟨w.heap.size, 2, none⟩ (.int .i64 (t : Int))).setCell ⟨w.heap.size, 3, none⟩ (.slice (some ⟨g4, 0, none⟩) G.reverse.length cap4)).cell? ⟨w.heap.size, 3, none⟩ = some (.slice (some ⟨g4, 0, none⟩) G.reverse.length cap4) := cell_at s3 3
          rw [List.length_reverse] at *
          refine bodyPost_ret (v := .tuple #[.agg #[.int .i64 q, .int .i64 bytes, .int .i64 t, .slice (some ⟨g4, 0, none⟩) G.length cap4], .bool true]) (by simp [results, Try.results14, go_sem, z0, z1, z2, z3]) rfl ⟨⟨_, rfl, _, rfl, ?_⟩, ?_⟩
          · rw [HG.out]
            have hne : g4 ≠ w.heap.size := by omega
            have := (HO4.out.same (w' := (((wr.setCell ⟨w.heap.size, 0, none⟩ (.int .i64 (q : Int))).setCell ⟨w.heap.size, 1, none⟩ (.int .i64 (bytes : Int))).setCell ⟨w.heap.size, 2, none⟩ (.int .i64 (t : Int))).setCell ⟨w.heap.size, 3, none⟩ (.slice (some ⟨g4, 0, none⟩) G.length cap4)) ((set_other hne).trans ((set_other hne).trans ((set_other hne).trans (set_other hne))))).rd
            rwa [rg_rev] at this
          · have hb1 : Below w.heap.size w wr := (((Below.refl w.heap.size w).alloc (Nat.le_refl _) _).comp HB.out).trans (HBX.out.mono (by omega))
            exact (((hb1.setCell (Nat.le_refl _) _).setCell (Nat.le_refl _) _).setCell (Nat.le_refl _) _).setCell (Nat.le_refl _) _
end Go.Proofs.Ytjompiihdnaogaa
