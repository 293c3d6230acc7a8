/- Walks over firkinref02: a code's numbers; bits of bytes and back. -/
import Derived.Test.YtjompiihdnaogaaRea
namespace Go.Proofs.Ytjompiihdnaogaa
open Go.RowKit Go.Mem

set_option maxRecDepth 100000 in
set_option maxHeartbeats 400000 in
theorem rR_any (v : Value) (bytes t m : Nat) (w : World) (hp : Par bytes t m) (h : RC w v bytes t m) :
    Calls Try.prog 17 #[v] w fun e w' => e = .returned (.int .i64 (rr m t)) ∧ Below w.heap.size w w' := by
  obtain ⟨gv, rfl, a, cap, rfl, h4, h5, h6⟩ := h
  have hl := hp.r.1
  rw [List.length_reverse, hl] at *
  have ek : ((rr m t + 1 : Nat) : Int) - 1 = rr m t := by omega
  have hr := hp.r.2.2.2.1
  clear h4 h5 h6 hl
  go_enter Try.func17, Try.ntmps17
  go_wp2
  go_ret
  exact ⟨by simp, (Below.refl _ _).alloc (Nat.le_refl _) _⟩

set_option maxRecDepth 100000 in
set_option maxHeartbeats 400000 in
theorem rParity_any (v : Value) (bytes t m : Nat) (w : World) (hp : Par bytes t m) (h : RC w v bytes t m) :
    Calls Try.prog 19 #[v] w fun e w' => e = .returned (.int .i64 (((rr m t + 7) / 8 : Nat) : Int)) ∧ Below w.heap.size w w' := by
  obtain ⟨gv, rfl, a, cap, rfl, h4, h5, h6⟩ := h
  have hl := hp.r.1
  rw [List.length_reverse, hl] at *
  have hr := hp.r.2.2.2.1
  have ek : (((rr m t + 1 : Nat) : Int) + 6) / 8 = (((rr m t + 7) / 8 : Nat) : Int) := by omega
  have HEK := hid ek
  clear h4 h5 h6 hl ek
  go_enter Try.func19, Try.ntmps19
  go_wp2
  go_ret
  exact ⟨by have := HEK.out; simp at this ⊢; omega, (Below.refl _ _).alloc (Nat.le_refl _) _⟩

/-- The first J bits of bytes. -/
def bl (f : Nat → Nat) (J : Nat) : List Nat := (List.range J).map fun i => (bitAt f i).toNat
theorem bl_succ (f : Nat → Nat) (J : Nat) : bl f (J+1) = bl f J ++ [(bitAt f J).toNat] := by
  unfold bl; rw [List.range_succ, List.map_append]; rfl
theorem bl_len (f : Nat → Nat) (J : Nat) : (bl f J).length = J := by simp [bl]

set_option maxRecDepth 100000 in
set_option maxHeartbeats 800000 in
theorem rBits_any (v : Value) (xs : List Nat) (w : World) (hv : Rd .u8 w v xs) (hx : ∀ y ∈ xs, y < 256) (hl : xs.length ≤ 1000000) :
    Calls Try.prog 34 #[v] w fun e w' => ∃ v', e = .returned v' ∧ Own .i64 3 w.heap.size w' v' (bl (xs.getD · 0) (8 * xs.length)) ∧ Below w.heap.size w w' := by
  have HV := hid hv
  obtain ⟨a, cap, rfl, x1, x2, x3⟩ := hv
  have HX3 := hid x3
  have HX := hid hx
  clear x3 hx
  go_enter Try.func34, Try.ntmps34
  go_wp2
  go_loopg [4, 3] xs.length (fun gk i o wr => ∃ I : Nat, I + gk = xs.length ∧ i = .int .i64 I ∧ Own .i64 3 w.heap.size wr o (bl (xs.getD · 0) (8 * I)) ∧ Below w.heap.size w wr)
  case atStart => exact ⟨0, by omega, rfl, Own.nil _ _ _ _, Below.refl _ _⟩
  case round =>
    obtain ⟨I, hI, rfl, ho, hb⟩ := hrel
    have HO := hid ho
    have HB := hid hb
    clear ho hb
    by_cases hlt : I < xs.length
    · obtain ⟨g, o1, rfl, hx1⟩ := HX3.out I hlt
      obtain ⟨wo, rfl⟩ : ∃ wo : World, wo = wr := ⟨_, rfl⟩
      obtain ⟨x, hx⟩ : ∃ x, xs.getD I 0 = x := ⟨_, rfl⟩
      have hx256 : x < 256 := by rw [← hx]; exact HX.out _ (getD_mem hlt)
      rw [hx] at hx1
      have HX1 := hid hx1
      have HXE := hid hx
      clear hx1 hx
      go_wp2
      go_loopg [5, 3] 8 (fun gk k o wr => ∃ K : Nat, K + gk = 8 ∧ k = .int .i64 (7 - (K : Int)) ∧ Own .i64 3 w.heap.size wr o (bl (xs.getD · 0) (8 * I + K)) ∧ Below w.heap.size w wr)
      case atStart => exact ⟨0, by omega, rfl, HO.out, HB.out⟩
      case round =>
        clear HO HB
        obtain ⟨K, hK, rfl, ho, hb⟩ := hrel
        have HO := hid ho
        have HB := hid hb
        clear ho hb
        by_cases hlt2 : K < 8
        · have cx : wr.cell? ⟨g, o1 + I, none⟩ = some (.int .u8 (x : Int)) := by rw [HB.out.cell (World.block_lt_of_cell? _ _ HX1.out)]; exact HX1.out
          obtain ⟨q, hq⟩ : ∃ q : Nat, 7 - K = q := ⟨_, rfl⟩
          have hqz : (7 : Int) - K = (q : Int) := by omega
          have hq7 : (q : Int) ≤ 7 := by omega
          have hIz : (I : Int) < (xs.length : Int) := by omega
          rw [hqz]
          have HQZ := hid hqz
          have HQ := hid hq
          have hand : bits .and .i64 ((x : Int) / 2 ^ q) 1 = (((x.testBit q).toNat : Nat) : Int) := by rw [and1_i64 x q (by omega)]; cases x.testBit q <;> rfl
          have HAND := hid hand
          clear hqz hq hand
          go_wp2_with (at_builtin; refine app_one el_int rfl _ _ rfl w.heap.size _ (bl (xs.getD · 0) (8 * I + K)) rfl (HO.out.alloc _) ⟨wr.heap.size, 0, none⟩ 1 ((x.testBit q).toNat) rfl (by rw [new_cell, HAND.out]) (by rw [bl_len]; omega) (by simp; exact Nat.le_succ_of_le HB.out.size) ?_; intro g2 cap2 w3 hown hgrow hat)
          go_roundg (gk - 1)
          case measure => omega
          case rel =>
            refine ⟨K + 1, by omega, congrArg (Value.int .i64) (by have := HQZ.out; omega), ?_, ?_⟩
            · have e : (x.testBit q).toNat = (bitAt (xs.getD · 0) (8 * I + K)).toNat := by
                show _ = ((xs.getD ((8 * I + K) / 8) 0).testBit (7 - (8 * I + K) % 8)).toNat
                rw [show (8 * I + K) / 8 = I by omega, show 7 - (8 * I + K) % 8 = 7 - K by omega, HQ.out, HXE.out]
              rw [← Nat.add_assoc, bl_succ, ← e]
              exact hown
            · exact grow_below (HB.out.alloc HB.out.size _) (by simp; exact Nat.le_succ_of_le HB.out.size) hgrow (fun g hg => (HO.out.blk g hg).1)
        · obtain rfl : K = 8 := by omega
          go_wp2_with fail
          go_roundg (xs.length - (I + 1))
          case measure => omega
          case rel => exact ⟨I + 1, by omega, by go_num, HO.out, HB.out⟩
    · obtain rfl : I = xs.length := by omega
      go_wp2_with fail
      go_ret
      exact ⟨_, rfl, HO.out, HB.out⟩

/-- Bits as bytes, behind the first I of them. -/
def byI (l : List Nat) : Nat → Nat → Nat
  | 0 => fun _ => 0
  | I + 1 => if l.getD I 0 = 1 then upd (byI l I) (I / 8) (byI l I (I / 8) ||| (128 >>> (I % 8))) else byI l I
theorem byI_lt (l : List Nat) (I : Nat) : ∀ j, byI l I j < 256 := by
  induction I with
  | zero => intro j; simp [byI]
  | succ I ih =>
    intro j
    rw [byI]
    split
    · unfold upd
      split
      · exact Nat.or_lt_two_pow (n := 8) (ih _) (shr_lt _)
      · exact ih j
    · exact ih j
theorem bitAt_byI (l : List Nat) (I i : Nat) : bitAt (byI l I) i = (decide (i < I) && decide (l.getD i 0 = 1)) := by
  induction I with
  | zero => simp [byI, bitAt_zero]
  | succ I ih =>
    rw [byI]
    by_cases h1 : l.getD I 0 = 1
    · rw [if_pos h1]
      unfold bitAt at ih ⊢
      unfold upd
      by_cases e : i / 8 = I / 8
      · rw [if_pos e, Nat.testBit_or, shr_bit _ _ (Nat.mod_lt _ (by decide)) (Nat.mod_lt _ (by decide)), ← e, ih]
        by_cases ei : I = i
        · subst ei; simpa using h1
        · rw [decide_eq_false (show ¬ I % 8 = i % 8 by omega), Bool.or_false]
          congr 1; exact decide_eq_decide.2 (by omega)
      · rw [if_neg e, ih]
        congr 1; exact decide_eq_decide.2 (by omega)
    · rw [if_neg h1, ih]
      by_cases ei : I = i
      · subst ei; simpa using h1
      · congr 1; exact decide_eq_decide.2 (by omega)

theorem or_u8 (a b : Nat) (ha : a < 256) (hb : b < 256) : bits .or .u8 (a : Int) (b : Int) = ((a ||| b : Nat) : Int) :=
  (bits_nat .u8 8 (by decide) (fun n h0 h1 => wraps_u8 n h0 h1) a b ha hb).2

set_option maxRecDepth 100000 in
set_option maxHeartbeats 800000 in
theorem rbytes_any (v : Value) (l : List Nat) (w : World) (hv : Rd .i64 w v l) (hb : ∀ y ∈ l, y ≤ 1) (hl : l.length ≤ 1000000) :
    Calls Try.prog 35 #[v] w fun e w' => ∃ g n, w.heap.size ≤ g ∧ n = (l.length + 7) / 8 ∧ e = .returned (.slice (some ⟨g, 0, none⟩) n n) ∧ w'.heap[g]? = some (.cells (fa .u8 n (byI l l.length)) 5 (0, 0)) ∧ Below w.heap.size w w' := by
  have HV := hid hv
  obtain ⟨a, cap, rfl, x1, x2, x3⟩ := hv
  have HX3 := hid x3
  have HBB := hid hb
  obtain ⟨n, hn⟩ : ∃ n, (l.length + 7) / 8 = n := ⟨_, rfl⟩
  have hnz : ((l.length : Int) + 7) / 8 = (n : Int) := by omega
  have hmk : ∀ w, (Instr.makeSlice 35 (.int .i64 (n : Int)) (.int .i64 (n : Int))).run Try.prog w = .ok (.slice (some ⟨w.heap.size, 0, none⟩) n n) (w.alloc (.cells (fa .u8 n (fun _ => 0)) 5)) := fun w => mk_bytes _ (by omega) w
  have HN := hid hn
  clear x3 hb hn
  go_enter Try.func35, Try.ntmps35
  go_wp2_with fail
  clear hnz hmk
  go_loopg [4] l.length (fun gk i wr => ∃ I : Nat, I + gk = l.length ∧ i = .int .i64 I ∧ wr.heap[w.heap.size]? = some (.cells (fa .u8 n (byI l I)) 5 (0, 0)) ∧ Below w.heap.size w wr)
  case atStart => exact ⟨0, by omega, rfl, alloc_new _ _, (Below.refl _ _).alloc (Nat.le_refl _) _⟩
  case round =>
    obtain ⟨I, hI, rfl, hg, hb⟩ := hrel
    have HG := hid hg
    have HB := hid hb
    clear hg hb
    by_cases hlt : I < l.length
    · obtain ⟨g, o1, rfl, hx1⟩ := HX3.out I hlt
      have cx : wr.cell? ⟨g, o1 + I, none⟩ = some (.int .i64 ((l.getD I 0 : Nat) : Int)) := by rw [HB.out.cell (World.block_lt_of_cell? _ _ hx1)]; exact hx1
      have hstep : byI l (I+1) = if l.getD I 0 = 1 then upd (byI l I) (I / 8) (byI l I (I / 8) ||| (128 >>> (I % 8))) else byI l I := rfl
      generalize l.getD I 0 = x at *
      have HST := hid hstep
      have HX1 := hid hx1
      clear hstep hx1
      have hIz : (I : Int) < (l.length : Int) := by omega
      by_cases hx : x = 1
      · subst hx
        have hn8 : I / 8 < n := by have := HN.out; omega
        have hn8z : (I : Int) / 8 < (n : Int) := by omega
        have cz : wr.cell? ⟨w.heap.size, I / 8, none⟩ = some (.int .u8 ((byI l I (I / 8) : Nat) : Int)) := fa_cell HG.out hn8
        have fz : wr.frozen? ⟨w.heap.size, I / 8, none⟩ = false := free_at HG.out _
        have hy := byI_lt l I (I / 8)
        generalize byI l I (I / 8) = y at *
        have hor : bits .or .u8 (y : Int) ((128 : Int) / 2 ^ (I % 8)) = ((y ||| (128 >>> (I % 8)) : Nat) : Int) := by
          rw [shr128]; exact or_u8 _ _ hy (shr_lt _)
        have HOR := hid hor
        clear hy
        go_wp2_with fail
        go_roundg (gk - 1)
        case measure => omega
        case rel =>
          refine ⟨I + 1, by omega, by go_num, ?_, HB.out.setCell (Nat.le_refl _) _⟩
          rw [HST.out, if_pos (by first | rfl | trivial)]
          exact set_fa HG.out (I / 8) _
      · have hxb : ((x : Int) == 1) = false := beq_eq_false_iff_ne.2 (by omega)
        have HXN := hid hx
        clear hx
        go_wp2_with fail
        go_roundg (gk - 1)
        case measure => omega
        case rel => exact ⟨I + 1, by omega, by go_num, by rw [HST.out, if_neg HXN.out]; exact HG.out, HB.out⟩
    · obtain rfl : I = l.length := by omega
      go_wp2_with fail
      go_ret
      exact ⟨_, n, Nat.le_refl _, HN.out.symm, rfl, HG.out, HB.out⟩
end Go.Proofs.Ytjompiihdnaogaa
