/- Walks over firkinref02: a code is made; its numbers. -/
import Derived.Test.YtoanopegoilcnaaGreatJh
import Derived.Test.YtoanopegoilcnaaGreatZBci
import Derived.Deep.RegionLaw
import Derived.Deep.DeepCutAuto
set_option linter.unusedVariables false
namespace Go.Proofs.YtoanopegoilcnaaGreat
open Go.RowKit Go.Mem

/-- A code of the document's. -/
def RC (w : World) (v : Value) (bytes t m : Nat) : Prop := ∃ gv, v = .agg #[.int .i64 m, .int .i64 bytes, .int .i64 t, gv] ∧ Rd .i64 w gv (Gf.gen m t).reverse
theorem RC.below {w w' : World} {v : Value} {bytes t m : Nat} (h : RC w v bytes t m) (hb : Below w.heap.size w w') : RC w' v bytes t m := by
  obtain ⟨gv, hv, hr⟩ := h
  exact ⟨gv, hv, hr.below hb⟩

theorem rg_rev (G : List Nat) : (List.range G.length).map (G.reverse.getD · 0) = G.reverse := by have := rg_self G.reverse; rwa [List.length_reverse] at this
theorem rev_snoc (l : List Nat) (j : Nat) (h : j < l.length) : (l.reverse.take (j + 1)) = l.reverse.take j ++ [l.getD (l.length - 1 - j) 0] := by
  rw [List.take_succ_eq_append_getElem (by simpa using h)]
  congr 1
  rw [List.getElem_reverse]
  simp [List.getD, show l.length - 1 - j < l.length by omega]

set_option maxRecDepth 100000 in
set_option maxHeartbeats 1600000 in
theorem rnew_any (bytes t m : Nat) (w : World) (hp : Par bytes t m) :
    Calls Tryz.prog 46 #[.int .i64 bytes, .int .i64 t] w fun e w' => (∃ v, e = .returned (.tuple #[v, .bool true]) ∧ RC w' v bytes t m) ∧ Below w.heap.size w w' := by
  have b1 := hp.b1
  have b2 := hp.b2
  have t1 := hp.t1
  have t8 := hp.t8
  have m4 := hp.m4
  have m13 := hp.ok.2
  have HP := hid hp
  clear hp
  go_enter Tryz.func46, Tryz.ntmps46
  go_wp2
  go_loopg [6] (m - 4) (fun g k wr => ∃ q : Nat, 4 ≤ q ∧ q + g = m ∧ k = .int .i64 q ∧ wr = w.alloc (.cells #[.int .i64 0, .int .i64 0, .int .i64 0, .slice none 0 0] 33))
  case atStart => exact ⟨4, by omega, by omega, rfl, rfl⟩
  case round =>
    obtain ⟨q, hq4, hq, rfl, rfl⟩ := hrel
    have q1 := two_pow_pos' q
    have q2 := two_pow_le q (by omega)
    have n1 : q * t ≤ 13 * 8 := Nat.mul_le_mul (by omega) t8
    have n2 : (q : Int) * (t : Int) ≤ 104 := by exact_mod_cast n1
    have n3 : (0 : Int) ≤ (q : Int) * (t : Int) := by exact_mod_cast Nat.zero_le (q * t)
    have hsz := sz_cast q
    by_cases hlt : q < m
    · have hno := HP.out.least q hq4 hlt
      have hno2 : (2:Int)^q - 1 < 8 * (bytes : Int) + (q : Int) * (t : Int) := by
        have : ((8 * bytes + q * t : Nat) : Int) = 8 * (bytes : Int) + (q : Int) * (t : Int) := by simp
        omega
      clear hno hsz
      go_wp2
      go_roundg (gk - 1)
      case measure => omega
      case rel => exact ⟨q + 1, by omega, by omega, by go_num, rfl⟩
    · have eq : q = m := by omega
      subst eq
      have hyes := HP.out.fits
      have hyes2 : 8 * (bytes : Int) + (q : Int) * (t : Int) ≤ (2:Int)^q - 1 := by
        have : ((8 * bytes + q * t : Nat) : Int) = 8 * (bytes : Int) + (q : Int) * (t : Int) := by simp
        omega
      have h2t : 2 * t ≤ Gf.sz q := by
        have : 4 * t ≤ q * t := Nat.mul_le_mul_right t hq4
        omega
      have H2T := hid h2t
      clear hyes hsz h2t
      go_wp2_with fail
      refine (rgenerator_any q t _ HP.out.ok t1 t8 H2T.out).mono ?_
      rintro e w2 ⟨⟨v, rfl, hv⟩, hb⟩
      rw [Gf.genr_gen HP.out.ok] at hv
      obtain ⟨ga, gcap, rfl, v1, v2, v3⟩ := hv
      obtain ⟨G, hG⟩ : ∃ G, Gf.gen q t = G := ⟨_, rfl⟩
      rw [hG] at v1 v3 ⊢
      have hlen : G.length ≤ 105 := by rw [← hG]; have := HP.out.r; omega
      have HG := hid hG
      have HV3 := hid v3
      have HB := hid hb
      clear hG v3 hb
      obtain ⟨cb, hcb⟩ : ∃ cb, w2.heap.size = cb := ⟨_, rfl⟩
      have hcbw : w.heap.size + 1 ≤ cb := by have := HB.out.size; simp at this; omega
      go_wp2_with fail
      have hi0 : (G.length : Int) - 1 = ((G.length : Int) - 1 - (0 : Nat)) := by omega
      go_loopg [10] G.length (fun gk i wr => ∃ (J : Nat) (gv : Value), J + gk = G.length ∧ i = .int .i64 ((G.length : Int) - 1 - J) ∧ wr.heap[cb]? = some (.cells #[.int .i64 q, .int .i64 bytes, .int .i64 t, gv] 33 (0, 0)) ∧ Own .i64 3 (cb + 1) wr gv (G.reverse.take J) ∧ Below cb w2 wr)
      case atStart =>
        refine ⟨0, .slice none 0 0, by omega, by simp, ?_, Own.nil _ _ _ _, (Below.refl _ _).alloc (by omega) _⟩
        exact alloc_at hcb.symm
      case round =>
        obtain ⟨J, gv, hJ, rfl, hc, ho, hbx⟩ := hrel
        have HC := hid hc
        have HO := hid ho
        have HBX := hid hbx
        clear hc ho hbx hi0
        by_cases hlt2 : J < G.length
        · obtain ⟨g1, o1, rfl, hx1⟩ := HV3.out (G.length - 1 - J) (by omega)
          have hg1lt : g1 < cb := by have := World.block_lt_of_cell? _ _ hx1; simp at this; omega
          have hx2 : wr.cell? ⟨g1, o1 + (G.length - 1 - J), none⟩ = some (.int .i64 ((G.getD (G.length - 1 - J) 0 : Nat) : Int)) := by
            have := World.block_lt_of_cell? _ _ hx1
            rw [HBX.out.cell (by simp at this ⊢; omega)]; exact hx1
          obtain ⟨idx, hidx⟩ : ∃ idx, G.length - 1 - J = idx := ⟨_, rfl⟩
          have hidz : (G.length : Int) - 1 - J = (idx : Int) := by omega
          have hgl : (idx : Int) < (G.length : Int) := by omega
          rw [hidx] at hx2
          obtain ⟨x, hx⟩ : ∃ x, G.getD idx 0 = x := ⟨_, rfl⟩
          rw [hx] at hx2
          have hrev := rev_snoc G J hlt2
          rw [hidx, hx] at hrev
          have HREV := hid hrev
          have hc3 : wr.cell? ⟨cb, 3, none⟩ = some gv := cell_at HC.out 3
          have hcbl := lt_at HC.out
          rw [hidz]
          have HIDZ := hid hidz
          clear hx1 hidx hx hrev hidz
          have hl2 : (G.reverse.take J).length = J := by simp; omega
          generalize G.reverse.take J = X at *
          have hl1 : X.length ≤ 1000000000 := by omega
          have HL2 := hid hl2
          clear hl2
          have hne : some cb ≠ gv.ownBlock := fun he => by have := (HO.out.blk cb he.symm).1; omega
          have HNE := hid hne
          clear hne
          have fz3 : wr.frozen? ⟨cb, 3, none⟩ = false := free_at HC.out 3
          have hne2 : some g1 ≠ gv.ownBlock := fun he => by have := (HO.out.blk g1 he.symm).1; omega
          have HNE2 := hid hne2
          clear hne2
          have hx4 : ((wr.alloc (.cells #[.int .i64 (x : Int)] 3)).drew).cell? ⟨cb, 3, none⟩ = some gv := cl_alloc hc3
          go_wp2_with fail
          go_region_law (refine step_one el_int (by rfl) _ _ (by rfl) (cb + 1) gv X (by rfl) (by exact (HO.out.alloc _).drewN 1) ⟨wr.heap.size, 0, none⟩ 1 x (by rfl) (by exact new_cell _ _ _) hl1 (by simp; omega) ?_; intro g2 cap2 w3 hown hgrow hat; have hC3 := (hgrow.block cb (by simp; omega) HNE.out).trans ((alloc_old (by simpa using hcbl)).trans HC.out); have cz3 := cell_at hC3 3; have fz3 := free_at hC3 3; have HC3 := hid hC3; clear hC3)
          all_goals
            go_wp2_with fail
            go_roundg (gk - 1)
            case measure => omega
            case rel =>
              refine ⟨J + 1, _, by omega, by rw [← HIDZ.out]; go_num, set_at HC3.out 3 _, ?_, ?_⟩
              · rw [HREV.out]
                exact hown.kept (grown_set _ _ _ _) (.inr (fun he => by have := (hown.blk cb he).1; omega))
              · refine (grow_below ((HBX.out.alloc (by omega) (.cells #[.int .i64 (x : Int)] 3)).drew) (by simp; omega) hgrow (fun g hg => by have := (HO.out.blk g hg).1; omega)).setCell (Nat.le_refl _) _
        · obtain rfl : J = G.length := by omega
          have hG1 : 0 < G.length := by rw [← HG.out]; have := HP.out.r; omega
          have htk : G.reverse.take G.length = G.reverse := List.take_of_length_le (by simp)
          rw [htk] at HO
          clear htk
          obtain ⟨g4, cap4, rfl, hg4, ho4⟩ := HO.out.ow (by simpa using hG1)
          have HO4 := hid ho4
          clear ho4
          have cc0 : wr.cell? ⟨cb, 0, none⟩ = _ := cell_at HC.out 0
          have cc1 : wr.cell? ⟨cb, 1, none⟩ = _ := cell_at HC.out 1
          have cc2 : wr.cell? ⟨cb, 2, none⟩ = _ := cell_at HC.out 2
          have cc3 : wr.cell? ⟨cb, 3, none⟩ = _ := cell_at HC.out 3
          have hR0 : wr.heap[w.heap.size]? = some (.cells #[.int .i64 0, .int .i64 0, .int .i64 0, .slice none 0 0] 33 (0, 0)) :=
            (HBX.out.block _ (by omega)).trans ((HB.out.block _ (by simp)).trans (alloc_new _ _))
          have r0 : wr.cell? ⟨w.heap.size, 0, none⟩ = _ := cell_at hR0 0
          have r1 : wr.cell? ⟨w.heap.size, 1, none⟩ = _ := cell_at hR0 1
          have r2 : wr.cell? ⟨w.heap.size, 2, none⟩ = _ := cell_at hR0 2
          have r3 : wr.cell? ⟨w.heap.size, 3, none⟩ = _ := cell_at hR0 3
          have f0 : wr.frozen? ⟨w.heap.size, 0, none⟩ = false := free_at hR0 0
          have f1 : wr.frozen? ⟨w.heap.size, 1, none⟩ = false := free_at hR0 1
          have f2 : wr.frozen? ⟨w.heap.size, 2, none⟩ = false := free_at hR0 2
          have f3 : wr.frozen? ⟨w.heap.size, 3, none⟩ = false := free_at hR0 3
          go_wp2_with fail
          have s0 := set_at hR0 0 (.int .i64 (q : Int))
          have s1 := set_at s0 1 (.int .i64 (bytes : Int))
          have s2 := set_at s1 2 (.int .i64 (t : Int))
          have s3 := set_at s2 3 (.slice (some ⟨g4, 0, none⟩) G.reverse.length cap4)
          have z0 : ((wr.setCell ⟨w.heap.size, 0, none⟩ (.int .i64 (q : Int)))).cell? ⟨w.heap.size, 0, none⟩ = some (.int .i64 (q : Int)) := cell_at s0 0
          have z1 : (((wr.setCell ⟨w.heap.size, 0, none⟩ (.int .i64 (q : Int))).setCell ⟨w.heap.size, 1, none⟩ (.int .i64 (bytes : Int)))).cell? ⟨w.heap.size, 1, none⟩ = some (.int .i64 (bytes : Int)) := cell_at s1 1
          have z2 : ((((wr.setCell ⟨w.heap.size, 0, none⟩ (.int .i64 (q : Int))).setCell ⟨w.heap.size, 1, none⟩ (.int .i64 (bytes : Int)))).setCell ⟨w.heap.size, 2, none⟩ (.int .i64 (t : Int))).cell? ⟨w.heap.size, 2, none⟩ = some (.int .i64 (t : Int)) := cell_at s2 2
          have z3 : (((((wr.setCell ⟨w.heap.size, 0, none⟩ (.int .i64 (q : Int))).setCell ⟨w.heap.size, 1, none⟩ (.int .i64 (bytes : Int)))).setCell ⟨w.heap.size, 2, none⟩ (.int .i64 (t : Int))).setCell ⟨w.heap.size, 3, none⟩ (.slice (some ⟨g4, 0, none⟩) G.reverse.length cap4)).cell? ⟨w.heap.size, 3, none⟩ = some (.slice (some ⟨g4, 0, none⟩) G.reverse.length cap4) := cell_at s3 3
          rw [List.length_reverse] at *
          refine bodyPost_ret (v := .tuple #[.agg #[.int .i64 q, .int .i64 bytes, .int .i64 t, .slice (some ⟨g4, 0, none⟩) G.length cap4], .bool true]) (by simp [results, Tryz.results46, go_sem, z0, z1, z2, z3]) rfl ⟨⟨_, rfl, _, rfl, ?_⟩, ?_⟩
          · rw [HG.out]
            have hne : g4 ≠ w.heap.size := by omega
            have := (HO4.out.same (w' := (((wr.setCell ⟨w.heap.size, 0, none⟩ (.int .i64 (q : Int))).setCell ⟨w.heap.size, 1, none⟩ (.int .i64 (bytes : Int))).setCell ⟨w.heap.size, 2, none⟩ (.int .i64 (t : Int))).setCell ⟨w.heap.size, 3, none⟩ (.slice (some ⟨g4, 0, none⟩) G.length cap4)) ((set_other hne).trans ((set_other hne).trans ((set_other hne).trans (set_other hne))))).rd
            rwa [rg_rev] at this
          · have hb1 : Below w.heap.size w wr := (((Below.refl w.heap.size w).alloc (Nat.le_refl _) _).comp HB.out).trans (HBX.out.mono (by omega))
            exact (((hb1.setCell (Nat.le_refl _) _).setCell (Nat.le_refl _) _).setCell (Nat.le_refl _) _).setCell (Nat.le_refl _) _
end Go.Proofs.YtoanopegoilcnaaGreat
/- Walks over firkinref02: a code's numbers; bits of bytes and back. -/
namespace Go.Proofs.YtoanopegoilcnaaGreat
open Go.RowKit Go.Mem

set_option maxRecDepth 100000 in
set_option maxHeartbeats 400000 in
theorem rR_any (v : Value) (bytes t m : Nat) (w : World) (hp : Par bytes t m) (h : RC w v bytes t m) :
    Calls Tryz.prog 73 #[v] w fun e w' => e = .returned (.int .i64 (rr m t)) ∧ Below w.heap.size w w' := by
  obtain ⟨gv, rfl, a, cap, rfl, h4, h5, h6⟩ := h
  have hl := hp.r.1
  rw [List.length_reverse, hl] at *
  have ek : ((rr m t + 1 : Nat) : Int) - 1 = rr m t := by omega
  have hr := hp.r.2.2.2.1
  clear h4 h5 h6 hl
  go_enter Tryz.func73, Tryz.ntmps73
  go_wp2
  go_ret
  exact ⟨by simp, (Below.refl _ _).alloc (Nat.le_refl _) _⟩

set_option maxRecDepth 100000 in
set_option maxHeartbeats 400000 in
theorem rParity_any (v : Value) (bytes t m : Nat) (w : World) (hp : Par bytes t m) (h : RC w v bytes t m) :
    Calls Tryz.prog 65 #[v] w fun e w' => e = .returned (.int .i64 (((rr m t + 7) / 8 : Nat) : Int)) ∧ Below w.heap.size w w' := by
  obtain ⟨gv, rfl, a, cap, rfl, h4, h5, h6⟩ := h
  have hl := hp.r.1
  rw [List.length_reverse, hl] at *
  have hr := hp.r.2.2.2.1
  have ek : (((rr m t + 1 : Nat) : Int) + 6) / 8 = (((rr m t + 7) / 8 : Nat) : Int) := by omega
  have HEK := hid ek
  clear h4 h5 h6 hl ek
  go_enter Tryz.func65, Tryz.ntmps65
  go_wp2
  go_ret
  exact ⟨by have := HEK.out; simp at this ⊢; omega, (Below.refl _ _).alloc (Nat.le_refl _) _⟩

/-- The first J bits of bytes. -/
def bl (f : Nat → Nat) (J : Nat) : List Nat := (List.range J).map fun i => (bitAt f i).toNat
theorem bl_succ (f : Nat → Nat) (J : Nat) : bl f (J+1) = bl f J ++ [(bitAt f J).toNat] := by
  unfold bl; rw [List.range_succ, List.map_append]; rfl
theorem bl_len (f : Nat → Nat) (J : Nat) : (bl f J).length = J := by simp [bl]

set_option maxRecDepth 100000 in
set_option maxHeartbeats 800000 in
theorem rBits_any (v : Value) (xs : List Nat) (w : World) (hv : Rd .u8 w v xs) (hx : ∀ y ∈ xs, y < 256) (hl : xs.length ≤ 1000000) :
    Calls Tryz.prog 72 #[v] w fun e w' => ∃ v', e = .returned v' ∧ Own .i64 3 w.heap.size w' v' (bl (xs.getD · 0) (8 * xs.length)) ∧ Below w.heap.size w w' := by
  have HV := hid hv
  obtain ⟨a, cap, rfl, x1, x2, x3⟩ := hv
  have HX3 := hid x3
  have HX := hid hx
  clear x3 hx
  go_enter Tryz.func72, Tryz.ntmps72
  go_wp2
  go_loopg [4, 3] xs.length (fun gk i o wr => ∃ I : Nat, I + gk = xs.length ∧ i = .int .i64 I ∧ Own .i64 3 w.heap.size wr o (bl (xs.getD · 0) (8 * I)) ∧ Below w.heap.size w wr)
  case atStart => exact ⟨0, by omega, rfl, Own.nil _ _ _ _, Below.refl _ _⟩
  case round =>
    obtain ⟨I, hI, rfl, ho, hb⟩ := hrel
    have HO := hid ho
    have HB := hid hb
    clear ho hb
    by_cases hlt : I < xs.length
    · obtain ⟨g, o1, rfl, hx1⟩ := HX3.out I hlt
      obtain ⟨wo, rfl⟩ : ∃ wo : World, wo = wr := ⟨_, rfl⟩
      obtain ⟨x, hx⟩ : ∃ x, xs.getD I 0 = x := ⟨_, rfl⟩
      have hx256 : x < 256 := by rw [← hx]; exact HX.out _ (getD_mem hlt)
      rw [hx] at hx1
      have HX1 := hid hx1
      have HXE := hid hx
      clear hx1 hx
      go_wp2
      go_loopg [5, 3] 8 (fun gk k o wr => ∃ K : Nat, K + gk = 8 ∧ k = .int .i64 (7 - (K : Int)) ∧ Own .i64 3 w.heap.size wr o (bl (xs.getD · 0) (8 * I + K)) ∧ Below w.heap.size w wr)
      case atStart => exact ⟨0, by omega, rfl, HO.out, HB.out⟩
      case round =>
        clear HO HB
        obtain ⟨K, hK, rfl, ho, hb⟩ := hrel
        have HO := hid ho
        have HB := hid hb
        clear ho hb
        by_cases hlt2 : K < 8
        · have cx : wr.cell? ⟨g, o1 + I, none⟩ = some (.int .u8 (x : Int)) := by rw [HB.out.cell (World.block_lt_of_cell? _ _ HX1.out)]; exact HX1.out
          obtain ⟨q, hq⟩ : ∃ q : Nat, 7 - K = q := ⟨_, rfl⟩
          have hqz : (7 : Int) - K = (q : Int) := by omega
          have hq7 : (q : Int) ≤ 7 := by omega
          have hIz : (I : Int) < (xs.length : Int) := by omega
          rw [hqz]
          have HQZ := hid hqz
          have HQ := hid hq
          have hand : bits .and .i64 ((x : Int) / 2 ^ q) 1 = (((x.testBit q).toNat : Nat) : Int) := by rw [and1_i64 x q (by omega)]; cases x.testBit q <;> rfl
          have HAND := hid hand
          clear hqz hq hand
          go_wp2_with (at_builtin; refine app_one el_int rfl _ _ rfl w.heap.size _ (bl (xs.getD · 0) (8 * I + K)) rfl (HO.out.alloc _) ⟨wr.heap.size, 0, none⟩ 1 ((x.testBit q).toNat) rfl (by rw [new_cell, HAND.out]) (by rw [bl_len]; omega) (by simp; exact Nat.le_succ_of_le HB.out.size) ?_; intro g2 cap2 w3 hown hgrow hat)
          go_roundg (gk - 1)
          case measure => omega
          case rel =>
            refine ⟨K + 1, by omega, congrArg (Value.int .i64) (by have := HQZ.out; omega), ?_, ?_⟩
            · have e : (x.testBit q).toNat = (bitAt (xs.getD · 0) (8 * I + K)).toNat := by
                show _ = ((xs.getD ((8 * I + K) / 8) 0).testBit (7 - (8 * I + K) % 8)).toNat
                rw [show (8 * I + K) / 8 = I by omega, show 7 - (8 * I + K) % 8 = 7 - K by omega, HQ.out, HXE.out]
              rw [← Nat.add_assoc, bl_succ, ← e]
              exact hown
            · exact grow_below (HB.out.alloc HB.out.size _) (by simp; exact Nat.le_succ_of_le HB.out.size) hgrow (fun g hg => (HO.out.blk g hg).1)
        · obtain rfl : K = 8 := by omega
          go_wp2_with fail
          go_roundg (xs.length - (I + 1))
          case measure => omega
          case rel => exact ⟨I + 1, by omega, by go_num, HO.out, HB.out⟩
    · obtain rfl : I = xs.length := by omega
      go_wp2_with fail
      go_ret
      exact ⟨_, rfl, HO.out, HB.out⟩

/-- Bits as bytes, behind the first I of them. -/
def byI (l : List Nat) : Nat → Nat → Nat
  | 0 => fun _ => 0
  | I + 1 => if l.getD I 0 = 1 then upd (byI l I) (I / 8) (byI l I (I / 8) ||| (128 >>> (I % 8))) else byI l I
theorem byI_lt (l : List Nat) (I : Nat) : ∀ j, byI l I j < 256 := by
  induction I with
  | zero => intro j; simp [byI]
  | succ I ih =>
    intro j
    rw [byI]
    split
    · unfold upd
      split
      · exact Nat.or_lt_two_pow (n := 8) (ih _) (shr_lt _)
      · exact ih j
    · exact ih j
theorem bitAt_byI (l : List Nat) (I i : Nat) : bitAt (byI l I) i = (decide (i < I) && decide (l.getD i 0 = 1)) := by
  induction I with
  | zero => simp [byI, bitAt_zero]
  | succ I ih =>
    rw [byI]
    by_cases h1 : l.getD I 0 = 1
    · rw [if_pos h1]
      unfold bitAt at ih ⊢
      unfold upd
      by_cases e : i / 8 = I / 8
      · rw [if_pos e, Nat.testBit_or, shr_bit _ _ (Nat.mod_lt _ (by decide)) (Nat.mod_lt _ (by decide)), ← e, ih]
        by_cases ei : I = i
        · subst ei; simpa using h1
        · rw [decide_eq_false (show ¬ I % 8 = i % 8 by omega), Bool.or_false]
          congr 1; exact decide_eq_decide.2 (by omega)
      · rw [if_neg e, ih]
        congr 1; exact decide_eq_decide.2 (by omega)
    · rw [if_neg h1, ih]
      by_cases ei : I = i
      · subst ei; simpa using h1
      · congr 1; exact decide_eq_decide.2 (by omega)

theorem or_u8 (a b : Nat) (ha : a < 256) (hb : b < 256) : bits .or .u8 (a : Int) (b : Int) = ((a ||| b : Nat) : Int) :=
  (bits_nat .u8 8 (by decide) (fun n h0 h1 => wraps_u8 n h0 h1) a b ha hb).2

set_option maxRecDepth 100000 in
set_option maxHeartbeats 800000 in
theorem rbytes_any (v : Value) (l : List Nat) (w : World) (hv : Rd .i64 w v l) (hb : ∀ y ∈ l, y ≤ 1) (hl : l.length ≤ 1000000) :
    Calls Tryz.prog 74 #[v] w fun e w' => ∃ g n, w.heap.size ≤ g ∧ n = (l.length + 7) / 8 ∧ e = .returned (.slice (some ⟨g, 0, none⟩) n n) ∧ w'.heap[g]? = some (.cells (fa .u8 n (byI l l.length)) 5 (0, 0)) ∧ Below w.heap.size w w' := by
  have HV := hid hv
  obtain ⟨a, cap, rfl, x1, x2, x3⟩ := hv
  have HX3 := hid x3
  have HBB := hid hb
  obtain ⟨n, hn⟩ : ∃ n, (l.length + 7) / 8 = n := ⟨_, rfl⟩
  have hnz : ((l.length : Int) + 7) / 8 = (n : Int) := by omega
  have hmk : ∀ w, (Instr.makeSlice 39 (.int .i64 (n : Int)) (.int .i64 (n : Int))).run Tryz.prog w = .ok (.slice (some ⟨w.heap.size, 0, none⟩) n n) (w.alloc (.cells (fa .u8 n (fun _ => 0)) 5)) := fun w => mk_bytes _ (by omega) w
  have HN := hid hn
  clear x3 hb hn
  go_enter Tryz.func74, Tryz.ntmps74
  go_wp2_with fail
  clear hnz hmk
  go_loopg [4] l.length (fun gk i wr => ∃ I : Nat, I + gk = l.length ∧ i = .int .i64 I ∧ wr.heap[w.heap.size]? = some (.cells (fa .u8 n (byI l I)) 5 (0, 0)) ∧ Below w.heap.size w wr)
  case atStart => exact ⟨0, by omega, rfl, alloc_new _ _, (Below.refl _ _).alloc (Nat.le_refl _) _⟩
  case round =>
    obtain ⟨I, hI, rfl, hg, hb⟩ := hrel
    have HG := hid hg
    have HB := hid hb
    clear hg hb
    by_cases hlt : I < l.length
    · obtain ⟨g, o1, rfl, hx1⟩ := HX3.out I hlt
      have cx : wr.cell? ⟨g, o1 + I, none⟩ = some (.int .i64 ((l.getD I 0 : Nat) : Int)) := by rw [HB.out.cell (World.block_lt_of_cell? _ _ hx1)]; exact hx1
      have hstep : byI l (I+1) = if l.getD I 0 = 1 then upd (byI l I) (I / 8) (byI l I (I / 8) ||| (128 >>> (I % 8))) else byI l I := rfl
      generalize l.getD I 0 = x at *
      have HST := hid hstep
      have HX1 := hid hx1
      clear hstep hx1
      have hIz : (I : Int) < (l.length : Int) := by omega
      by_cases hx : x = 1
      · subst hx
        have hn8 : I / 8 < n := by have := HN.out; omega
        have hn8z : (I : Int) / 8 < (n : Int) := by omega
        have cz : wr.cell? ⟨w.heap.size, I / 8, none⟩ = some (.int .u8 ((byI l I (I / 8) : Nat) : Int)) := fa_cell HG.out hn8
        have fz : wr.frozen? ⟨w.heap.size, I / 8, none⟩ = false := free_at HG.out _
        have hy := byI_lt l I (I / 8)
        generalize byI l I (I / 8) = y at *
        have hor : bits .or .u8 (y : Int) ((128 : Int) / 2 ^ (I % 8)) = ((y ||| (128 >>> (I % 8)) : Nat) : Int) := by
          rw [shr128]; exact or_u8 _ _ hy (shr_lt _)
        have HOR := hid hor
        clear hy
        go_wp2_with fail
        go_roundg (gk - 1)
        case measure => omega
        case rel =>
          refine ⟨I + 1, by omega, by go_num, ?_, HB.out.setCell (Nat.le_refl _) _⟩
          rw [HST.out, if_pos (by first | rfl | trivial)]
          exact set_fa HG.out (I / 8) _
      · have hxb : ((x : Int) == 1) = false := beq_eq_false_iff_ne.2 (by omega)
        have HXN := hid hx
        clear hx
        go_wp2_with fail
        go_roundg (gk - 1)
        case measure => omega
        case rel => exact ⟨I + 1, by omega, by go_num, by rw [HST.out, if_neg HXN.out]; exact HG.out, HB.out⟩
    · obtain rfl : I = l.length := by omega
      go_wp2_with fail
      go_ret
      exact ⟨_, n, Nat.le_refl _, HN.out.symm, rfl, HG.out, HB.out⟩
end Go.Proofs.YtoanopegoilcnaaGreat
/- Walks over firkinref02: what is left of bits by the generator. -/
namespace Go.Proofs.YtoanopegoilcnaaGreat
open Go.RowKit Go.Mem

/-- The first K terms of the generator, the highest first, are taken off at I. -/
def dvk (G : List Nat) (f : Nat → Nat) (I K : Nat) (j : Nat) : Nat := if I ≤ j ∧ j - I < K then f j ^^^ G.getD (j - I) 0 else f j
/-- Behind I places. -/
def dv (G : List Nat) (f : Nat → Nat) : Nat → Nat → Nat
  | 0 => f
  | I + 1 => if dv G f I I = 1 then dvk G (dv G f I) I G.length else dv G f I
theorem dvk_zero (G : List Nat) (f : Nat → Nat) (I : Nat) : dvk G f I 0 = f := by funext j; simp [dvk]
theorem dvk_succ (G : List Nat) (f : Nat → Nat) (I K : Nat) (j : Nat) : upd (dvk G f I K) (I + K) (dvk G f I K (I + K) ^^^ G.getD K 0) j = dvk G f I (K + 1) j := by
  unfold upd dvk
  by_cases h : j = I + K
  · subst h
    rw [if_pos rfl, if_neg (by omega), if_pos (by omega), show I + K - I = K by omega]
  · rw [if_neg h]
    by_cases h2 : I ≤ j ∧ j - I < K
    · rw [if_pos h2, if_pos (by omega)]
    · rw [if_neg h2, if_neg (by omega)]
theorem dvk_le {G : List Nat} {f : Nat → Nat} (hG : ∀ i, G.getD i 0 ≤ 1) (hf : ∀ j, f j ≤ 1) (I K : Nat) : ∀ j, dvk G f I K j ≤ 1 := fun j => by
  unfold dvk
  split
  · have := Nat.xor_lt_two_pow (n := 1) (show f j < 2^1 by have := hf j; omega) (show G.getD (j - I) 0 < 2^1 by have := hG (j - I); omega)
    omega
  · exact hf j
theorem dv_le {G : List Nat} {f : Nat → Nat} (hG : ∀ i, G.getD i 0 ≤ 1) (hf : ∀ j, f j ≤ 1) (I : Nat) : ∀ j, dv G f I j ≤ 1 := by
  induction I with
  | zero => exact hf
  | succ I ih =>
    rw [dv]
    split
    · exact dvk_le hG ih _ _
    · exact ih

/-- What is left: the last r of the bits. -/
def rst (G : List Nat) (l : List Nat) (r : Nat) : List Nat := (List.range r).map fun i => dv G (l.getD · 0) (l.length - r) (l.length - r + i)

set_option maxRecDepth 100000 in
set_option maxHeartbeats 1600000 in
theorem rrest_any (v1 v2 : Value) (l : List Nat) (bytes t m : Nat) (w : World) (hp : Par bytes t m) (h : RC w v1 bytes t m) (hv : Rd .i64 w v2 l) (hb : ∀ y ∈ l, y ≤ 1) (hl : l.length ≤ 1000000) (hr : rr m t ≤ l.length) :
    Calls Tryz.prog 75 #[v1, v2] w fun e w' => ∃ v', e = .returned v' ∧ Rd .i64 w' v' (rst (Gf.gen m t).reverse l (rr m t)) ∧ Below w.heap.size w w' := by
  have HRC := hid h
  have HV := hid hv
  have HBB := hid hb
  have hl0 : 0 < l.length := by have := hp.r.2.1; omega
  obtain ⟨gv, rfl, ga, gcap, rfl, h4, h5, h6⟩ := h
  have hgl := hp.r.1
  obtain ⟨G, hG⟩ : ∃ G, (Gf.gen m t).reverse = G := ⟨_, rfl⟩
  have hGl : G.length = rr m t + 1 := by rw [← hG, List.length_reverse, hgl]
  have hG1 : ∀ i, G.getD i 0 ≤ 1 := fun i => by
    have : ∀ y ∈ G, y ≤ 1 := fun y hy => by
      rw [← hG] at hy
      rcases Gf.gen_bin hp.ok t y (by simpa using hy) with e | e <;> omega
    rcases Nat.lt_or_ge i G.length with hi | hi
    · exact this _ (getD_mem hi)
    · rw [Gf.getD_ge hi]; omega
  rw [hG] at h4 h6 ⊢
  have HG := hid hG
  have H6 := hid h6
  have r104 := hp.r.2.2.2.1
  obtain ⟨r, hrr⟩ : ∃ r, rr m t = r := ⟨_, rfl⟩
  have HRr : Hid (∀ v w', RC w' v bytes t m → Calls Tryz.prog 73 #[v] w' fun e w'' => e = .returned (.int .i64 (r : Nat)) ∧ Below w'.heap.size w' w'') := hid fun v w' h' => by rw [← hrr]; exact rR_any v bytes t m w' hp h'
  rw [hrr] at hGl r104 hr
  rw [hrr]
  have HRR := hid hrr
  have hGle := hid hG1
  have HGL := hid hGl
  clear h6 hv hb hG hgl hrr hG1 hGl
  obtain ⟨bx, hbx⟩ : ∃ bx, w.heap.size = bx := ⟨_, rfl⟩
  have HBX := hid hbx
  clear hbx
  go_enter Tryz.func75, Tryz.ntmps75
  go_wp2_with (at_builtin; refine app_row el_int rfl _ _ rfl w.heap.size (.slice none 0 0) [] rfl (Own.nil _ _ _ _) l (by exact HV.out.below ((Below.refl _ _).alloc (Nat.le_refl _) _)) hl0 (by simp; omega) (by simp) ?_; intro g1 cap1 w1 hown hgrow hat; have hC1 := (hgrow.block w.heap.size (by simp) (by simp [Value.ownBlock])).trans (alloc_new w _); have q0 := cell_at hC1 0; have q1 := cell_at hC1 1; have q2 := cell_at hC1 2; have q3 := cell_at hC1 3; have hbw := grow_below (v := .slice none 0 0) (((Below.refl w.heap.size w).alloc (Nat.le_refl _) _)) (by simp) hgrow (by simp [Value.ownBlock]); have hg1b : w.heap.size < g1 := (by rcases hat with hat | hat; simp [Value.ownBlock] at hat; simp at hat; omega); have HOWN := hid hown; have HBW := hid hbw; have HC1 := hid hC1; clear hown hbw hC1 hgrow hat)
  have HRC' : Hid (RC w (.agg #[.int .i64 m, .int .i64 bytes, .int .i64 t, .slice ga G.length gcap]) bytes t m) := hid (by rw [← HG.out]; exact HRC.out)
  refine (HRr.out _ _ (HRC'.out.below HBW.out)).mono ?_
  rintro e w2 ⟨rfl, hb2⟩
  have ho := HOWN.out
  simp only [List.length_nil, Nat.zero_add, List.nil_append] at ho
  obtain ⟨g1', cap1', he, hg1', ho1⟩ := ho.ow hl0
  cases he
  have HO2 : Hid (Ow .i64 3 w2 g1 l.length cap1 (dv G (l.getD · 0) 0)) := hid (ho1.same (hb2.block _ ho1.lt))
  have HC2 : Hid (w2.heap[w.heap.size]? = some (.cells #[.int .i64 m, .int .i64 bytes, .int .i64 t, .slice ga G.length gcap] 33 (0, 0))) := hid ((hb2.block _ (lt_at HC1.out)).trans HC1.out)
  have HB2 : Hid (Below w.heap.size w w2) := hid (HBW.out.comp hb2)
  clear q0 q1 q2 q3 ho ho1 hg1' hb2 HOWN HC1 HBW
  obtain ⟨M, hM⟩ : ∃ M, l.length - r = M := ⟨_, rfl⟩
  have hMz : l.length = M + r := by omega
  have HM := hid hMz
  have hlM : (l.length : Int) ≤ 1000000 := by omega
  have HF0 : Hid (∀ j, (fun x => l.getD x 0) j ≤ 1) := hid fun j => by
    show l.getD j 0 ≤ 1
    rcases Nat.lt_or_ge j l.length with hj | hj
    · exact HBB.out _ (getD_mem hj)
    · rw [Gf.getD_ge hj]; omega
  obtain ⟨f, hf⟩ : ∃ f, (fun x => l.getD x 0) = f := ⟨_, rfl⟩
  rw [hf] at HO2 HF0
  have HFE := hid hf
  clear hM hf hMz
  go_wp2_with fail
  go_loopg [7] M (fun gk i wr => ∃ I : Nat, I + gk = M ∧ i = .int .i64 I ∧ Ow .i64 3 wr g1 l.length cap1 (dv G f I) ∧ wr.heap[w.heap.size]? = some (.cells #[.int .i64 m, .int .i64 bytes, .int .i64 t, .slice ga G.length gcap] 33 (0, 0)) ∧ Below w.heap.size w wr)
  case atStart => exact ⟨0, by omega, rfl, HO2.out, HC2.out, HB2.out⟩
  case round =>
    clear HO2 HC2 HB2
    obtain ⟨I, hI, rfl, ho, hc, hb⟩ := hrel
    have HO := hid ho
    have HC := hid hc
    have HB := hid hb
    clear ho hc hb
    have hlen := HM.out
    by_cases hlt : I < M
    · have hltz : (I : Int) + r < (l.length : Int) := by omega
      have hIlt : (I : Int) < (l.length : Int) := by omega
      have cx : wr.cell? ⟨g1, I, none⟩ = some (.int .i64 ((dv G f I I : Nat) : Int)) := HO.out.cell (by omega)
      have hst : dv G f (I+1) = if dv G f I I = 1 then dvk G (dv G f I) I G.length else dv G f I := rfl
      obtain ⟨x, hx⟩ : ∃ x, dv G f I I = x := ⟨_, rfl⟩
      rw [hx] at cx hst
      have HST := hid hst
      have hfl := dv_le hGle.out HF0.out I
      obtain ⟨F, hF⟩ : ∃ F, dv G f I = F := ⟨_, rfl⟩
      rw [hF] at HST HO hfl
      have HFL := hid hfl
      have HLEN := hid hlen
      clear hst hx hF hfl hlen
      by_cases hx1 : x = 1
      · subst hx1
        obtain ⟨wo, rfl⟩ : ∃ wo : World, wo = wr := ⟨_, rfl⟩
        go_wp2_with fail
        clear cx
        go_loopg [8] G.length (fun gk i wr => ∃ K : Nat, K + gk = G.length ∧ i = .int .i64 K ∧ Ow .i64 3 wr g1 l.length cap1 (dvk G F I K) ∧ wr.heap[w.heap.size]? = some (.cells #[.int .i64 m, .int .i64 bytes, .int .i64 t, .slice ga G.length gcap] 33 (0, 0)) ∧ Below w.heap.size w wr)
        case atStart => exact ⟨0, by omega, rfl, by rw [dvk_zero]; exact HO.out, HC.out, HB.out⟩
        case round =>
          clear HO HC HB
          obtain ⟨K, hK, rfl, ho, hc, hb⟩ := hrel
          have HO := hid ho
          have HC := hid hc
          have HB := hid hb
          have cb3 : wr.cell? ⟨w.heap.size, 3, none⟩ = some (.slice ga G.length gcap) := cell_at hc 3
          clear ho hc hb
          by_cases hlt2 : K < G.length
          · obtain ⟨g2, o2, rfl, hy1⟩ := H6.out K hlt2
            have cy : wr.cell? ⟨g2, o2 + K, none⟩ = some (.int .i64 ((G.getD K 0 : Nat) : Int)) := by rw [HB.out.cell (World.block_lt_of_cell? _ _ hy1)]; exact hy1
            have HY1 := hid hy1
            have hGlen := HGL.out
            have hMl := HLEN.out
            have hIK : I + K < l.length := by omega
            have cz : wr.cell? ⟨g1, I + K, none⟩ = some (.int .i64 ((dvk G F I K (I + K) : Nat) : Int)) := HO.out.cell hIK
            have fz : wr.frozen? ⟨g1, I + K, none⟩ = false := HO.out.free _
            have es : IntKind.i64.wrap ((I : Int) + K) = ((I + K : Nat) : Int) := by rw [IntWalk.i64_in _ (by omega)]; simp
            have hb1 : ((I + K : Nat) : Int) < (l.length : Int) := by omega
            have hb2 : (K : Int) < (G.length : Int) := by omega
            have hv1 := dvk_le hGle.out HFL.out I K (I + K)
            have hv2 := hGle.out K
            have ex := xor_i64 (dvk G F I K (I + K)) (G.getD K 0) (by omega) (by omega)
            have hstep := dvk_succ G F I K
            have HSTEP := hid hstep
            clear hstep hGlen hMl hy1
            generalize dvk G F I K (I + K) = v0 at *
            generalize G.getD K 0 = z at *
            go_wp2_with fail
            refine wp_region_quiet_tail 17 (by kernel_rfl) (by kernel_rfl) ?_
            simp only [List.take_succ_cons, List.take_zero, List.drop_succ_cons, List.drop_zero]
            repeat (go_big_quiet_step (fail))
            refine wpQuiet_nil ?_
            intro _ hw'
            obtain ⟨nq, hw''⟩ := hw'
            subst hw''
            go_wp2_with fail
            go_roundg (G.length - (K + 1))
            case measure => omega
            case rel =>
              refine ⟨K + 1, by omega, by go_num, ?_, ?_, ?_⟩
              · refine Ow.congr (f := upd (dvk G F I K) (I + K) (v0 ^^^ z)) ?_ (fun j _ => HSTEP.out j)
                exact Ow.set (w := wr.drewN nq) HO.out _ _
              · exact (set_other (Nat.ne_of_lt hg1b)).trans HC.out
              · exact (HB.out.drewN nq).setCell (Nat.le_of_lt hg1b) _
          · obtain rfl : K = G.length := by omega
            go_wp2_with fail
            go_roundg (M - (I + 1))
            case measure => omega
            case rel => exact ⟨I + 1, by omega, by go_num, by rw [HST.out, if_pos (by first | rfl | trivial)]; exact HO.out, HC.out, HB.out⟩
      · have hxb : ((x : Int) == 1) = false := beq_eq_false_iff_ne.2 (by omega)
        have HX1 := hid hx1
        clear hx1
        go_wp2_with fail
        go_roundg (gk - 1)
        case measure => omega
        case rel => exact ⟨I + 1, by omega, by go_num, by rw [HST.out, if_neg HX1.out]; exact HO.out, HC.out, HB.out⟩
    · obtain rfl : I = M := by omega
      have hIr : (l.length : Int) - r = (I : Int) := by omega
      have r1 : 1 ≤ r := by have := HRR.out; have := hp.r.2.1; omega
      have hcap : l.length ≤ cap1 := by obtain ⟨_, _, _, h, _⟩ := HO.out; exact h
      have hIc : (I : Int) < (cap1 : Int) := by omega
      have hIl : (I : Int) ≤ (l.length : Int) := by omega
      have HLEN := hid hlen
      have HIR := hid hIr
      clear hlen
      go_wp2_with fail
      go_ret
      have hM := HM.out
      refine ⟨.slice (some ⟨g1, I, none⟩) (l.length - I) (cap1 - I), rfl, ⟨some ⟨g1, I, none⟩, cap1 - I, ?_, ?_, ?_, fun j hj => ⟨g1, I, rfl, ?_⟩⟩, HB.out⟩
      · rw [show (rst G l r).length = l.length - I by unfold rst; simp; omega]
      · unfold rst; simp; omega
      · obtain ⟨_, _, _, _, h, _⟩ := HO.out; omega
      · have hj' : j < r := by unfold rst at hj; simpa using hj
        rw [HO.out.cell (show I + j < l.length by omega)]
        unfold rst
        rw [rg_getD _ _ _ hj', HFE.out, show l.length - r = I by omega]
end Go.Proofs.YtoanopegoilcnaaGreat
/- Plain facts on the document's rest: what is left of bits has the bits' values at the generator's roots. -/
namespace Go.Proofs.YtoanopegoilcnaaGreat
open Go.RowKit Go.Mem

/-- Bits as a word: the highest power first. -/
def fw (f : Nat → Nat) (N p : Nat) : Bool := decide (f (N - 1 - p) = 1)
theorem le_one_xor {a b : Nat} (ha : a ≤ 1) (hb : b ≤ 1) : decide (a ^^^ b = 1) = (decide (a = 1) ^^ decide (b = 1)) := by
  rcases (show a = 0 ∨ a = 1 by omega) with rfl | rfl <;> rcases (show b = 0 ∨ b = 1 by omega) with rfl | rfl <;> decide

theorem dvk_syn {m t r : Nat} (h : Gf.Ok m) (hr : (Gf.gen m t).length = r + 1) {f : Nat → Nat} (hf : ∀ j, f j ≤ 1) (N I : Nat) (hI : I + r < N) (e : Nat) (he : e ∈ Gf.exs m t) :
    Gf.syn m (fw (dvk (Gf.gen m t).reverse f I (r + 1)) N) N e = Gf.syn m (fw f N) N e := by
  have hG : ∀ q, q ≤ r → (Gf.gen m t).reverse.getD (r - q) 0 = (Gf.gen m t).getD q 0 := fun q hq => by
    simp only [List.getD]
    rw [List.getElem?_reverse (by omega), hr, show r + 1 - 1 - (r - q) = q by omega]
  have hG1 : ∀ q, (Gf.gen m t).reverse.getD q 0 ≤ 1 := fun q => by
    by_cases hq : q ≤ r
    · have := hG (r - q) (by omega)
      rw [show r - (r - q) = q by omega] at this
      rw [this]
      rcases Gf.bin_getD (Gf.gen_bin h t) (r - q) with e | e <;> omega
    · rw [Gf.getD_ge (by rw [List.length_reverse]; omega)]; omega
  have e1 : ∀ p, p < N → fw (dvk (Gf.gen m t).reverse f I (r + 1)) N p = (fw f N p ^^ (decide (I ≤ N - 1 - p ∧ N - 1 - p - I < r + 1) && decide ((Gf.gen m t).reverse.getD (N - 1 - p - I) 0 = 1))) := fun p hp => by
    unfold fw dvk
    by_cases hc : I ≤ N - 1 - p ∧ N - 1 - p - I < r + 1
    · rw [if_pos hc, decide_eq_true hc, Bool.true_and, le_one_xor (hf _) (hG1 _)]
    · rw [if_neg hc, decide_eq_false hc, Bool.false_and, Bool.xor_false]
  rw [Gf.syn_congr e e1, Gf.syn_xor]
  have e2 : Gf.syn m (fun p => decide (I ≤ N - 1 - p ∧ N - 1 - p - I < r + 1) && decide ((Gf.gen m t).reverse.getD (N - 1 - p - I) 0 = 1)) N e = 0 := by
    obtain ⟨s, hs⟩ : ∃ s, N - 1 - I - r = s := ⟨_, rfl⟩
    unfold Gf.syn
    rw [Gf.sx_more _ (s + (r + 1)) N (by omega) (fun p h1 h2 => if_neg (fun hc => by simp only [Bool.and_eq_true, decide_eq_true_eq] at hc; omega)), Gf.sx_shift _ s (r + 1) (fun p hp => if_neg (fun hc => by simp only [Bool.and_eq_true, decide_eq_true_eq] at hc; omega))]
    have hev : Gf.ev m (Gf.gen m t) (Gf.pw m e) = 0 := (Gf.gen_root h t e).2 (by rw [Nat.mod_eq_of_lt (Gf.exs_lt h t e he)]; exact he)
    rw [Gf.ev_sx h _ _ (r+1) (Gf.pw_lt h e) (Gf.gen_lt h t) (fun i hi => Gf.getD_ge (by omega))] at hev
    have hm : Gf.mul m (Gf.pw m (s * e)) (Gf.sx (fun i => Gf.mul m ((Gf.gen m t).getD i 0) (Gf.xp m (Gf.pw m e) i)) (r+1)) = 0 := by rw [hev, Gf.mul_zero]
    rw [Gf.sx_mul h _ (Gf.pw_lt h _) _ _ (fun i _ => Gf.mul_lt h _ _)] at hm
    refine Eq.trans ?_ hm
    refine Gf.sx_congr _ (fun q hq => ?_)
    have hd : decide (I ≤ N - 1 - (s + q) ∧ r - q < r + 1) = true := decide_eq_true (by omega)
    have hgq := hG q (by omega)
    have hsub : N - 1 - (s + q) - I = r - q := by omega
    simp only [hsub, hgq, Gf.xp_pw h]
    rcases Gf.bin_getD (Gf.gen_bin h t) q with e3 | e3
    · simp only [e3, Gf.zero_mul, Gf.mul_zero, show decide ((0:Nat) = 1) = false from rfl, Bool.and_false, Bool.false_eq_true, if_false]
    · simp only [e3, hd, decide_true, Bool.and_true, if_true]
      rw [Gf.one_mul h (Gf.pw_lt h _), Gf.mul_pw h, Nat.add_mul, Nat.mul_comm q e]
  rw [e2, Nat.xor_zero]

theorem dv_syn {m t r : Nat} (h : Gf.Ok m) (hr : (Gf.gen m t).length = r + 1) {f : Nat → Nat} (hf : ∀ j, f j ≤ 1) (N : Nat) (e : Nat) (he : e ∈ Gf.exs m t) (I : Nat) (hI : I + r ≤ N) :
    Gf.syn m (fw (dv (Gf.gen m t).reverse f I) N) N e = Gf.syn m (fw f N) N e := by
  have hG1 : ∀ q, (Gf.gen m t).reverse.getD q 0 ≤ 1 := fun q => by
    rcases Nat.lt_or_ge q (Gf.gen m t).reverse.length with hq | hq
    · rcases Gf.gen_bin h t ((Gf.gen m t).reverse.getD q 0) (by simpa using getD_mem hq) with e | e <;> omega
    · rw [Gf.getD_ge hq]; omega
  induction I with
  | zero => rfl
  | succ I ih =>
    rw [dv]
    split
    · rw [List.length_reverse, hr, dvk_syn h hr (dv_le hG1 hf I) N I (by omega) e he]
      exact ih (by omega)
    · exact ih (by omega)
/-- The first places are 0. -/
theorem dv_zero {m t r : Nat} (h : Gf.Ok m) (hr : (Gf.gen m t).length = r + 1) {f : Nat → Nat} (hf : ∀ j, f j ≤ 1) (I : Nat) : ∀ j, j < I → dv (Gf.gen m t).reverse f I j = 0 := by
  have hG0 : (Gf.gen m t).reverse.getD 0 0 = 1 := by
    simp only [List.getD]
    rw [List.getElem?_reverse (by omega), hr]
    have := (Gf.gen_mon h t).1.2
    rwa [hr] at this
  have hG1 : ∀ q, (Gf.gen m t).reverse.getD q 0 ≤ 1 := fun q => by
    rcases Nat.lt_or_ge q (Gf.gen m t).reverse.length with hq | hq
    · rcases Gf.gen_bin h t ((Gf.gen m t).reverse.getD q 0) (by simpa using getD_mem hq) with e | e <;> omega
    · rw [Gf.getD_ge hq]; omega
  induction I with
  | zero => intro j hj; omega
  | succ I ih =>
    intro j hj
    have h1 := dv_le hG1 hf I I
    rw [dv]
    by_cases hji : j = I
    · subst hji
      split
      · rename_i he
        unfold dvk
        rw [if_pos (by rw [List.length_reverse, hr]; omega), he, Nat.sub_self, hG0]; rfl
      · rename_i he; omega
    · split
      · unfold dvk
        rw [if_neg (by omega)]
        exact ih j (by omega)
      · exact ih j (by omega)

theorem rst_syn {m t r : Nat} (h : Gf.Ok m) (hr : (Gf.gen m t).length = r + 1) (l : List Nat) (hl : ∀ y ∈ l, y ≤ 1) (hrl : r ≤ l.length) (e : Nat) (he : e ∈ Gf.exs m t) :
    Gf.syn m (fw ((rst (Gf.gen m t).reverse l r).getD · 0) r) r e = Gf.syn m (fw (l.getD · 0) l.length) l.length e := by
  have hf : ∀ j, (fun x => l.getD x 0) j ≤ 1 := fun j => by
    show l.getD j 0 ≤ 1
    rcases Nat.lt_or_ge j l.length with hj | hj
    · exact hl _ (getD_mem hj)
    · rw [Gf.getD_ge hj]; omega
  rw [← dv_syn h hr hf l.length e he (l.length - r) (by omega)]
  have hz := dv_zero h hr hf (l.length - r)
  unfold Gf.syn
  rw [Gf.sx_more _ r l.length hrl (fun p h1 h2 => if_neg (fun hc => by unfold fw at hc; rw [hz _ (by omega)] at hc; cases hc))]
  refine Gf.sx_congr _ (fun p hp => ?_)
  have : fw ((rst (Gf.gen m t).reverse l r).getD · 0) r p = fw (dv (Gf.gen m t).reverse (l.getD · 0) (l.length - r)) l.length p := by
    unfold fw rst
    show decide (((List.range r).map fun i => dv (Gf.gen m t).reverse (l.getD · 0) (l.length - r) (l.length - r + i)).getD (r - 1 - p) 0 = 1) = _
    rw [rg_getD _ _ _ (show r - 1 - p < r by omega), show l.length - r + (r - 1 - p) = l.length - 1 - p by omega]
  rw [this]

theorem rst_le {m t r : Nat} (h : Gf.Ok m) (l : List Nat) (hl : ∀ y ∈ l, y ≤ 1) : ∀ y ∈ rst (Gf.gen m t).reverse l r, y ≤ 1 := by
  intro y hy
  obtain ⟨j, _, rfl⟩ := List.mem_map.1 hy
  refine dv_le (fun q => ?_) (fun j => ?_) _ _
  · rcases Nat.lt_or_ge q (Gf.gen m t).reverse.length with hq | hq
    · rcases Gf.gen_bin h t ((Gf.gen m t).reverse.getD q 0) (by simpa using getD_mem hq) with e | e <;> omega
    · rw [Gf.getD_ge hq]; omega
  · rcases Nat.lt_or_ge j l.length with hj | hj
    · exact hl _ (getD_mem hj)
    · rw [Gf.getD_ge hj]; omega
theorem rst_len (G l : List Nat) (r : Nat) : (rst G l r).length = r := by simp [rst]

/-- Nothing is left of just the words. -/
theorem rst_whole {m t r : Nat} (h : Gf.Ok m) (hr : (Gf.gen m t).length = r + 1) (l : List Nat) (hl : ∀ y ∈ l, y ≤ 1) (hrl : r ≤ l.length) :
    (∀ i, i < r → (rst (Gf.gen m t).reverse l r).getD i 0 = 0) ↔ Gf.Cw m t (fw (l.getD · 0) l.length) l.length := by
  constructor
  · intro hz
    refine Gf.cw_of_exs h fun e he => ?_
    rw [← rst_syn h hr l hl hrl e he]
    unfold Gf.syn
    refine Eq.trans (Gf.sx_congr _ (fun p hp => ?_)) (Gf.sx_zero r)
    refine if_neg (fun hc => ?_)
    have hc' : (rst (Gf.gen m t).reverse l r).getD (r - 1 - p) 0 = 1 := of_decide_eq_true hc
    rw [hz _ (by omega)] at hc'; cases hc'
  · intro hc
    have hs := Gf.small_zero h hr (w := fw ((rst (Gf.gen m t).reverse l r).getD · 0) r) (fun e he => by rw [rst_syn h hr l hl hrl e he]; exact Gf.cw_exs h hc e he)
    intro i hi
    have := hs (r - 1 - i) (by omega)
    unfold fw at this
    rw [show r - 1 - (r - 1 - i) = i by omega] at this
    have hle := rst_le (t := t) (r := r) h l hl _ (getD_mem (by rw [rst_len]; exact hi : i < (rst (Gf.gen m t).reverse l r).length))
    have : ¬ (rst (Gf.gen m t).reverse l r).getD i 0 = 1 := of_decide_eq_false this
    omega
end Go.Proofs.YtoanopegoilcnaaGreat
/- Walks over firkinref02: parity is encoded; the law of two encoders. -/
namespace Go.Proofs.YtoanopegoilcnaaGreat
open Go.RowKit Go.Mem

theorem bl_getD (f : Nat → Nat) (J i : Nat) (h : i < J) : (bl f J).getD i 0 = (bitAt f i).toNat := rg_getD _ _ _ h
theorem toNat_one (b : Bool) : decide (b.toNat = 1) = b := by cases b <;> rfl
theorem bl_le (f : Nat → Nat) (J : Nat) : ∀ y ∈ bl f J, y ≤ 1 := by
  intro y hy
  obtain ⟨j, _, rfl⟩ := List.mem_map.1 hy
  cases bitAt f j <;> simp
theorem getD_app (a b : List Nat) (i : Nat) : (a ++ b).getD i 0 = if i < a.length then a.getD i 0 else b.getD (i - a.length) 0 := by
  simp only [List.getD]
  split
  · rw [List.getElem?_append_left (by assumption)]
  · rw [List.getElem?_append_right (by omega)]
theorem getD_rep (n i : Nat) : (List.replicate n 0).getD i 0 = 0 := by
  simp only [List.getD]
  by_cases h : i < n <;> simp [h]

/-- The document's parity is the program's. -/
theorem enc_same {bytes t m : Nat} (hp : Par bytes t m) (xs : List Nat) (hl : xs.length = bytes) (hx : ∀ y ∈ xs, y < 256) :
    ∀ j, j < (rr m t + 7) / 8 → byI (rst (Gf.gen m t).reverse (bl (xs.getD · 0) (8 * bytes) ++ List.replicate (rr m t) 0) (rr m t)) (rr m t) j = par m t xs j := by
  have hr := hp.r
  obtain ⟨l, hll⟩ : ∃ l, bl (xs.getD · 0) (8 * bytes) ++ List.replicate (rr m t) 0 = l := ⟨_, rfl⟩
  have hle : ∀ y ∈ l, y ≤ 1 := by
    intro y hy
    rw [← hll] at hy
    rcases List.mem_append.1 hy with h | h
    · exact bl_le _ _ y h
    · rw [(List.mem_replicate.1 h).2]; omega
  have hlen : l.length = 8 * bytes + rr m t := by rw [← hll]; simp [bl]
  have hlg : ∀ i, l.getD i 0 = if i < 8 * bytes then (bitAt (xs.getD · 0) i).toNat else 0 := fun i => by
    rw [← hll, getD_app, bl_len]
    split
    · rw [bl_getD _ _ _ (by assumption)]
    · rw [getD_rep]
  rw [hll]
  have hsyn := fun e he => rst_syn hp.ok hr.1 l hle (by omega) e he
  have hLle := rst_le (t := t) (r := rr m t) hp.ok l hle
  obtain ⟨L, hL⟩ : ∃ L, rst (Gf.gen m t).reverse l (rr m t) = L := ⟨_, rfl⟩
  rw [hL] at hsyn hLle ⊢
  have hd : ∀ j, (fun x => xs.getD x 0) j < 256 := fun j => Gf.getD_lt (m := 8) hx j
  have hcw : Gf.Cw m t (wd (8 * bytes) (rr m t) (xs.getD · 0) (byI L (rr m t))) (8 * bytes + rr m t) := by
    refine Gf.cw_of_exs hp.ok fun e he => ?_
    have hs := hsyn e he
    rw [hlen] at hs
    have e1 : Gf.syn m (wd (8 * bytes) (rr m t) (xs.getD · 0) (byI L (rr m t))) (8 * bytes + rr m t) e =
        Gf.syn m (fun p => fw (l.getD · 0) (8 * bytes + rr m t) p ^^ (decide (p < rr m t) && fw (L.getD · 0) (rr m t) p)) (8 * bytes + rr m t) e := by
      refine Gf.syn_congr e (fun p hp' => ?_)
      unfold fw
      show _ = (decide (l.getD (8 * bytes + rr m t - 1 - p) 0 = 1) ^^ (decide (p < rr m t) && decide (L.getD (rr m t - 1 - p) 0 = 1)))
      rw [hlg]
      by_cases hpr : p < rr m t
      · rw [wd_lo hpr, bitAt_byI, if_neg (by omega), decide_eq_true hpr, decide_eq_true (show rr m t - 1 - p < rr m t by omega)]
        simp
      · rw [wd_hi (by omega), if_pos (by omega), decide_eq_false hpr, toNat_one]
        simp
    rw [e1, Gf.syn_xor, ← hs]
    have e2 : Gf.syn m (fun p => decide (p < rr m t) && fw (L.getD · 0) (rr m t) p) (8 * bytes + rr m t) e = Gf.syn m (fw (L.getD · 0) (rr m t)) (rr m t) e := by
      unfold Gf.syn
      rw [Gf.sx_more _ (rr m t) (8 * bytes + rr m t) (by omega) (fun p h1 h2 => if_neg (fun hc => by simp only [Bool.and_eq_true, decide_eq_true_eq] at hc; omega))]
      refine Gf.sx_congr _ (fun p hp' => ?_)
      simp only [decide_eq_true hp', Bool.true_and]
    rw [e2, Nat.xor_self]
  have hpc := par_cw hp xs hl
  have hs := Gf.cw_same hp.ok hr.1 (by omega) hcw hpc (fun p h1 h2 => by rw [wd_hi h1, wd_hi h1])
  exact (wd_bytes (bytes := bytes) (P := (rr m t + 7) / 8) (by omega) hd (byI_lt _ _) hd (par_lt m t xs) hs (fun i h1 h2 => by
    rw [bitAt_byI, par_pad m t xs i h1, decide_eq_false (by omega), Bool.false_and])).2

theorem rep_snoc (n : Nat) : List.replicate (n + 1) 0 = List.replicate n 0 ++ [0] := List.replicate_succ'

set_option maxRecDepth 100000 in
set_option maxHeartbeats 1600000 in
theorem rencode_any (v1 v2 : Value) (xs : List Nat) (bytes t m : Nat) (w : World) (hp : Par bytes t m) (h : RC w v1 bytes t m) (hv : Rd .u8 w v2 xs) (hx : ∀ y ∈ xs, y < 256) (hl : xs.length = bytes) :
    Calls Tryz.prog 52 #[v1, v2] w fun e w' => ∃ p P, w.heap.size ≤ p ∧ P = (rr m t + 7) / 8 ∧ e = .returned (.tuple #[.slice (some ⟨p, 0, none⟩) P P, .int .i64 0]) ∧ w'.heap[p]? = some (.cells (fa .u8 P (par m t xs)) 5 (0, 0)) ∧ Below w.heap.size w w' := by
  have hsame := hid (enc_same hp xs hl hx)
  have HRC := hid h
  have HX := hid hx
  have b2 := hp.b2
  obtain ⟨gv, rfl, ga, gcap, rfl, h4, h5, h6⟩ := h
  obtain ⟨G, hG⟩ : ∃ G, (Gf.gen m t).reverse = G := ⟨_, rfl⟩
  have HRC' : Hid (RC w (.agg #[.int .i64 m, .int .i64 bytes, .int .i64 t, .slice ga G.length gcap]) bytes t m) := hid (by rw [← hG]; exact HRC.out)
  rw [hG]
  have HG := hid hG
  have HV : Hid (Rd .u8 w v2 xs) := hid hv
  have hr := hp.r
  have r104 := hr.2.2.2.1
  have r1 := hr.2.1
  have hRR := hid (rR_any)
  obtain ⟨xa, xcap, rfl, x1, x2, x3⟩ := hv
  have HL := hid hl
  have hne : ((xs.length : Int) != (bytes : Int)) = false := by simp [hl]
  clear h4 h5 h6 hG HRC x3 hx hl hr
  go_enter Tryz.func52, Tryz.ntmps52
  go_wp2_with fail
  refine (rBits_any _ xs _ (HV.out.below ((Below.refl _ w).alloc (Nat.le_refl _) _)) HX.out (by have := HL.out; omega)).mono ?_
  rintro e w1 ⟨o, rfl, ho, hb⟩
  have ho' : Own .i64 3 (w.heap.size + 1) w1 o (bl (xs.getD · 0) (8 * xs.length)) := by simpa using ho
  have hc1 : w1.heap[w.heap.size]? = some (.cells #[.int .i64 m, .int .i64 bytes, .int .i64 t, .slice ga G.length gcap] 33 (0, 0)) := (hb.block _ (by simp)).trans (alloc_new w _)
  have hb1 : Below w.heap.size w w1 := ((Below.refl _ w).alloc (Nat.le_refl _) _).comp hb
  have HO1 := hid ho'
  have HC1 := hid hc1
  have HB1 := hid hb1
  clear ho ho' hc1 hb1 hb hne
  obtain ⟨bs, hbs⟩ : ∃ bs, bl (xs.getD · 0) (8 * xs.length) = bs := ⟨_, rfl⟩
  have hbl : bs.length = 8 * xs.length := by rw [← hbs, bl_len]
  rw [hbs] at HO1
  have HBS := hid hbs
  have HBL := hid hbl
  clear hbs hbl
  go_wp2_with fail
  go_loopg [7, 6] (rr m t) (fun gk i o wr => ∃ I : Nat, I + gk = rr m t ∧ i = .int .i64 I ∧ Own .i64 3 (w.heap.size + 1) wr o (bs ++ List.replicate I 0) ∧ wr.heap[w.heap.size]? = some (.cells #[.int .i64 m, .int .i64 bytes, .int .i64 t, .slice ga G.length gcap] 33 (0, 0)) ∧ Below w.heap.size w wr)
  case atStart => exact ⟨0, by omega, rfl, by simpa using HO1.out, HC1.out, HB1.out⟩
  case round =>
    clear HO1 HC1 HB1
    obtain ⟨I, hI, rfl, ho, hc, hb⟩ := hrel
    have q0 := cell_at hc 0
    have q1 := cell_at hc 1
    have q2 := cell_at hc 2
    have q3 := cell_at hc 3
    have HO := hid ho
    have HC := hid hc
    have HB := hid hb
    clear ho hc hb
    go_wp2_with fail
    refine (rR_any _ bytes t m _ hp (HRC'.out.below HB.out)).mono ?_
    rintro e w2 ⟨rfl, hb2⟩
    have HO2 : Hid (Own .i64 3 (w.heap.size + 1) w2 _ (bs ++ List.replicate I 0)) := hid (HO.out.below hb2)
    have hC2 := (hb2.block _ (lt_at HC.out)).trans HC.out
    have HC2 := hid hC2
    have HB2 := hid (HB.out.comp hb2)
    clear q0 q1 q2 q3 HO HC HB
    by_cases hlt : I < rr m t
    · clear hb2 hC2
      have hlen : (bs ++ List.replicate I 0).length ≤ 1000000000 := by have := HBL.out; have := HL.out; simp; omega
      have HLEN := hid hlen
      have hw2 := lt_at HC2.out
      clear hlen
      go_wp2_with (at_builtin; refine app_one el_int rfl _ _ rfl (w.heap.size + 1) _ (bs ++ List.replicate I 0) rfl (HO2.out.alloc _) ⟨w2.heap.size, 0, none⟩ 1 0 rfl (new_cell _ _ _) HLEN.out (by simp; omega) ?_; intro g2 cap2 w3 hown hgrow hat)
      go_roundg (gk - 1)
      case measure => omega
      case rel =>
        refine ⟨I + 1, by omega, by go_num, ?_, ?_, ?_⟩
        · rw [rep_snoc, ← List.append_assoc]
          have := hown
          simp only [List.length_append, List.length_replicate] at this
          exact this
        · exact (hgrow.block _ (by simp; omega) (fun he => by have := (HO2.out.blk _ he.symm).1; omega)).trans ((alloc_old hw2).trans HC2.out)
        · exact grow_below (HB2.out.alloc (by omega) _) (by simp; omega) hgrow (fun g hg => by have := (HO2.out.blk g hg).1; omega)
    · obtain rfl : I = rr m t := by omega
      have q0 := cell_at hC2 0
      have q1 := cell_at hC2 1
      have q2 := cell_at hC2 2
      have q3 := cell_at hC2 3
      have hlen : (bs ++ List.replicate (rr m t) 0).length = 8 * bytes + rr m t := by have := HBL.out; have := HL.out; simp; omega
      have HLEN := hid hlen
      clear hb2 hC2 hlen
      go_wp2_with fail
      refine (rrest_any _ _ (bs ++ List.replicate (rr m t) 0) bytes t m _ hp (HRC'.out.below HB2.out) HO2.out.rd ?_ ?_ ?_).mono ?_
      · intro y hy
        rw [← HBS.out] at hy
        rcases List.mem_append.1 hy with h | h
        · exact bl_le _ _ y h
        · rw [(List.mem_replicate.1 h).2]; omega
      · rw [HLEN.out]; omega
      · rw [HLEN.out]; omega
      rintro e w4 ⟨v4, rfl, hr4, hb4⟩
      obtain ⟨L, hL⟩ : ∃ L, rst (Gf.gen m t).reverse (bs ++ List.replicate (rr m t) 0) (rr m t) = L := ⟨_, rfl⟩
      have hLl : L.length = rr m t := by rw [← hL, rst_len]
      have hLe : ∀ y ∈ L, y ≤ 1 := by
        rw [← hL]
        refine rst_le hp.ok _ (fun y hy => ?_)
        rw [← HBS.out] at hy
        rcases List.mem_append.1 hy with h | h
        · exact bl_le _ _ y h
        · rw [(List.mem_replicate.1 h).2]; omega
      rw [hL] at hr4
      have HLE := hid hLe
      have HLL := hid hLl
      have HLd := hid hL
      have HR4 := hid hr4
      have HB4 := hid (HB2.out.comp hb4)
      clear hL hLl hLe hr4 hb4 q0 q1 q2 q3
      go_wp2_with fail
      refine (rbytes_any _ L _ HR4.out HLE.out (by rw [HLL.out]; omega)).mono ?_
      rintro e w5 ⟨g5, n5, hg5, hn5', rfl, hc5, hb5⟩
      have HN5 := hid hn5'
      clear hn5'
      go_wp2_with fail
      go_ret2
      refine ⟨g5, n5, Nat.le_trans HB4.out.size hg5, by rw [HN5.out, HLL.out], rfl, ?_, HB4.out.comp hb5⟩
      refine hc5.trans ?_
      rw [fa_congr (fun j hj => ?_)]
      have := hsame.out j (by have := HN5.out; rw [HLL.out] at this; omega)
      rw [← this, HLL.out, ← HLd.out, ← HBS.out, HL.out]
end Go.Proofs.YtoanopegoilcnaaGreat
