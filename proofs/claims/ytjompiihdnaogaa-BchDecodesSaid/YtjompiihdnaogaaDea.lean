/- Walks over firkinref02: word, Whole, syndrome. -/
import Derived.Test.YtjompiihdnaogaaLah
import Derived.Test.YtjompiihdnaogaaGs
namespace Go.Proofs.Ytjompiihdnaogaa
open Go.RowKit Go.Mem

theorem _root_.Go.Mem.Rd.take {k : IntKind} {w : World} {a : Option Addr} {n cap : Nat} {xs : List Nat} (h : Rd k w (.slice a n cap) xs) (T : Nat) (hT : T ≤ xs.length) : Rd k w (.slice a T cap) (xs.take T) := by
  obtain ⟨a', c', he, h1, h2, hc⟩ := h
  injection he with e1 e2 e3
  subst e1 e3
  refine ⟨a, cap, by rw [List.length_take]; congr 1; omega, by rw [List.length_take]; omega, h2, fun j hj => ?_⟩
  have hj' : j < T := by rw [List.length_take] at hj; omega
  obtain ⟨g, o, ha, hx⟩ := hc j (by omega)
  refine ⟨g, o, ha, ?_⟩
  rw [hx]
  congr 2
  simp only [List.getD]
  rw [List.getElem?_take_of_lt hj']
theorem bl_take (f : Nat → Nat) {r J : Nat} (h : r ≤ J) : (bl f J).take r = bl f r := by
  unfold bl
  rw [← List.map_take, List.take_range, Nat.min_eq_left h]

set_option maxRecDepth 100000 in
set_option maxHeartbeats 1600000 in
theorem rword_any (v1 v2 v3 : Value) (xs ys : List Nat) (bytes t m P : Nat) (w : World) (hp : Par bytes t m) (h : RC w v1 bytes t m) (h2 : Rd .u8 w v2 xs) (h3 : Rd .u8 w v3 ys) (hx : ∀ y ∈ xs, y < 256) (hy : ∀ y ∈ ys, y < 256)
    (hl : xs.length = bytes) (hl2 : ys.length = P) (hr : rr m t ≤ 8 * P) (hP : P ≤ 1000) :
    Calls Try.prog 43 #[v1, v2, v3] w fun e w' => ∃ v', e = .returned v' ∧ Own .i64 3 w.heap.size w' v' (bl (xs.getD · 0) (8 * bytes) ++ bl (ys.getD · 0) (rr m t)) ∧ Below w.heap.size w w' := by
  obtain ⟨ga, L, gcap, rfl⟩ := nil_RC h
  have HRC := hid h
  have HV2 := hid h2
  have HV3 := hid h3
  have HX := hid hx
  have HY := hid hy
  have HL := hid hl
  have HL2 := hid hl2
  have b2 := hp.b2
  have r1 := hp.r.2.1
  have r104 := hp.r.2.2.2.1
  clear h h2 h3 hx hy hl hl2
  go_enter Try.func43, Try.ntmps43
  go_wp2_with fail
  refine (rBits_any _ xs _ (HV2.out.below ((Below.refl _ w).alloc (Nat.le_refl _) _)) HX.out (by have := HL.out; omega)).mono ?_
  rintro e w1 ⟨o1, rfl, ho1, hb1⟩
  rw [HL.out] at ho1
  have hc1 : w1.heap[w.heap.size]? = some (.cells #[.int .i64 m, .int .i64 bytes, .int .i64 t, .slice ga L gcap] 29 (0, 0)) := (hb1.block _ (by simp)).trans (alloc_new w _)
  have ho1' : Own .i64 3 (w.heap.size + 1) w1 o1 (bl (xs.getD · 0) (8 * bytes)) := by simpa using ho1
  have hbw : Below w.heap.size w w1 := ((Below.refl _ w).alloc (Nat.le_refl _) _).comp hb1
  have HO1 := hid ho1'
  have HC1 := hid hc1
  have HB1 := hid hbw
  clear ho1 ho1' hc1 hbw hb1
  go_wp2_with fail
  refine (rBits_any _ ys _ (HV3.out.below HB1.out) HY.out (by have := HL2.out; omega)).mono ?_
  rintro e w2 ⟨o2, rfl, ho2, hb2⟩
  rw [HL2.out] at ho2
  have hc2 := (hb2.block _ (lt_at HC1.out)).trans HC1.out
  have q0 := cell_at hc2 0
  have q1 := cell_at hc2 1
  have q2 := cell_at hc2 2
  have q3 := cell_at hc2 3
  have HC2 := hid hc2
  have HO1b := hid (HO1.out.below hb2)
  have HB2 := hid (HB1.out.comp hb2)
  obtain ⟨a2, k2, he, c1, c2, hcc⟩ := ho2.rd
  rw [bl_len] at he c1
  obtain ⟨g2, p2, ha2, _⟩ := hcc 0 (by rw [bl_len]; omega)
  rw [ha2] at he
  subst he
  have hrd2 := ho2.rd.take (rr m t) (by rw [bl_len]; exact hr)
  rw [bl_take _ hr] at hrd2
  have HRD2 := hid hrd2
  have hk2 : rr m t ≤ k2 := by omega
  have hk3 : (k2 : Int) ≤ 9223372036854775807 := by unfold maxLen at c2; omega
  clear hcc ha2 ho2 hrd2 hc2 hb2 c1 c2 HO1 HC1 HB1
  go_wp2_with fail
  refine (rR_any _ bytes t m _ hp (HRC.out.below HB2.out)).mono ?_
  rintro e w3 ⟨rfl, hb3⟩
  have HO3 := hid (HO1b.out.below hb3)
  have HB3 := hid (HB2.out.comp hb3)
  have HRD3 := hid (HRD2.out.below hb3)
  have hs3 : w.heap.size + 1 ≤ w3.heap.size := by have := lt_at HC2.out; have := hb3.size; omega
  clear hb3 q0 q1 q2 q3
  go_wp2_with (at_builtin; refine app_row el_int rfl _ _ rfl (w.heap.size + 1) _ (bl (xs.getD · 0) (8 * bytes)) rfl HO3.out (bl (ys.getD · 0) (rr m t)) (by exact HRD3.out) (by rw [bl_len]; omega) (by rw [bl_len, bl_len]; omega) hs3 ?_; intro g4 cap4 w4 hown hgrow hat)
  go_ret
  exact ⟨_, rfl, Own.mono hown (Nat.le_succ _), grow_below HB3.out (by omega) hgrow (fun g hg => by have := (HO3.out.blk g hg).1; omega)⟩

set_option maxRecDepth 100000 in
set_option maxHeartbeats 1600000 in
theorem rwhole_any (v1 v2 : Value) (l : List Nat) (bytes t m : Nat) (w : World) (hp : Par bytes t m) (h : RC w v1 bytes t m) (hv : Rd .i64 w v2 l) (hb : ∀ y ∈ l, y ≤ 1) (hl : l.length ≤ 1000000) (hr : rr m t ≤ l.length) :
    Calls Try.prog 44 #[v1, v2] w fun e w' => ∃ b : Bool, e = .returned (.bool b) ∧ (b = true ↔ Gf.Cw m t (fw (l.getD · 0) l.length) l.length) ∧ Below w.heap.size w w' := by
  obtain ⟨ga, L, gcap, rfl⟩ := nil_RC h
  have HW := hid (rst_whole hp.ok hp.r.1 l hb hr)
  have HRC := hid h
  have HV := hid hv
  have HBB := hid hb
  clear h hv hb
  go_enter Try.func44, Try.ntmps44
  go_wp2_with fail
  have hb0 : Below w.heap.size w (w.alloc (.cells #[.int .i64 m, .int .i64 bytes, .int .i64 t, .slice ga L gcap] 29)) := (Below.refl _ w).alloc (Nat.le_refl _) _
  refine (rrest_any _ _ l bytes t m _ hp (HRC.out.below hb0) (HV.out.below hb0) HBB.out hl hr).mono ?_
  rintro e w1 ⟨v4, rfl, hr4, hb4⟩
  have HB1 := hid (hb0.comp hb4)
  obtain ⟨R, hR⟩ : ∃ R, rst (Gf.gen m t).reverse l (rr m t) = R := ⟨_, rfl⟩
  have hRl : R.length = rr m t := by rw [← hR, rst_len]
  rw [hR] at hr4 HW
  obtain ⟨a4, k4, rfl, _, _, hcc⟩ := hr4
  have HCC := hid hcc
  rw [hRl]
  have r104 := hp.r.2.2.2.1
  generalize hrr : rr m t = r at *
  have HRL := hid hRl
  clear hcc hb0 hb4 hR hRl hrr
  go_wp2_with fail
  go_loopg [6] r (fun gk i wr => ∃ I : Nat, I + gk = r ∧ i = .int .i64 I ∧ (∀ j, j < I → R.getD j 0 = 0) ∧ wr = w1)
  case atStart => exact ⟨0, by omega, rfl, fun j hj => by omega, rfl⟩
  case round =>
    obtain ⟨I, hI, rfl, hz, rfl⟩ := hrel
    have HZ := hid hz
    clear hz
    by_cases hlt : I < r
    · obtain ⟨g1, o1, rfl, hx1⟩ := HCC.out I (by have := HRL.out; omega)
      obtain ⟨x, hx⟩ : ∃ x, R.getD I 0 = x := ⟨_, rfl⟩
      rw [hx] at hx1
      have HX := hid hx
      clear hx
      by_cases h0 : x = 0
      · subst h0
        go_wp2_with fail
        go_roundg (gk - 1)
        case measure => omega
        case rel =>
          refine ⟨I + 1, by omega, by go_num, fun j hj => ?_, rfl⟩
          rcases Nat.lt_or_ge j I with h1 | h1
          · exact HZ.out j h1
          · obtain rfl : j = I := by omega
            exact HX.out
      · have hne : ((x : Int) != 0) = true := bne_iff_ne.2 (by omega)
        go_wp2_with fail
        go_ret
        refine ⟨false, rfl, ⟨(fun hf => nomatch hf), fun hc => (h0 ?_).elim⟩, HB1.out⟩
        rw [← HX.out]; exact HW.out.2 hc I hlt
    · obtain rfl : I = r := by omega
      go_wp2_with fail
      go_ret
      exact ⟨true, rfl, ⟨fun _ => HW.out.1 HZ.out, fun _ => rfl⟩, HB1.out⟩

/-- Horner's rule over bits. -/
def hor (m x : Nat) (l : List Nat) : Nat → Nat
  | 0 => 0
  | I+1 => Gf.mul m (hor m x l I) x ^^^ l.getD I 0
theorem hor_lt {m : Nat} (h : Gf.Ok m) (x : Nat) (l : List Nat) (hl : ∀ y ∈ l, y ≤ 1) (I : Nat) : hor m x l I < 2^m := by
  have h16 : 2 ≤ 2^m := by have := h.1; exact Nat.le_trans (by decide) (Nat.pow_le_pow_right (n := 2) (i := 1) (by decide) (by omega))
  have hle : ∀ j, l.getD j 0 ≤ 1 := fun j => by
    rcases Nat.lt_or_ge j l.length with hj | hj
    · exact hl _ (getD_mem hj)
    · rw [Gf.getD_ge hj]; omega
  cases I with
  | zero => exact Nat.two_pow_pos m
  | succ I => exact Nat.xor_lt_two_pow (Gf.mul_lt h _ _) (by have := hle I; omega)
theorem hor_dsum {m : Nat} (h : Gf.Ok m) (e : Nat) (l : List Nat) (hl : ∀ y ∈ l, y ≤ 1) (I : Nat) : hor m (Gf.pw m e) l I = Gf.dsum m 0 e (fun i => decide (l.getD i 0 = 1)) I := by
  have hle : ∀ j, l.getD j 0 ≤ 1 := fun j => by
    rcases Nat.lt_or_ge j l.length with hj | hj
    · exact hl _ (getD_mem hj)
    · rw [Gf.getD_ge hj]; omega
  induction I with
  | zero => rfl
  | succ I ih =>
    rw [hor, Gf.dsum_succ h, ih, Gf.mul_comm]
    congr 1
    rcases (show l.getD I 0 = 0 ∨ l.getD I 0 = 1 by have := hle I; omega) with e | e <;> rw [e] <;> simp [Gf.pw, Gf.it]
theorem hor_syn {m : Nat} (h : Gf.Ok m) (e : Nat) (l : List Nat) (hl : ∀ y ∈ l, y ≤ 1) : hor m (Gf.pw m e) l l.length = Gf.syn m (fw (l.getD · 0) l.length) l.length e := by
  rw [hor_dsum h e l hl]
  unfold Gf.dsum Gf.syn
  rw [← Gf.sx_rev]
  refine Gf.sx_congr _ (fun p hp => ?_)
  unfold fw
  simp only [Nat.add_zero]
  rw [show l.length - 1 - (l.length - 1 - p) = p by omega]

set_option maxRecDepth 100000 in
set_option maxHeartbeats 1600000 in
theorem rsyndrome_any (v1 v2 : Value) (l : List Nat) (k bytes t m : Nat) (w : World) (hp : Par bytes t m) (h : RC w v1 bytes t m) (hv : Rd .i64 w v2 l) (hb : ∀ y ∈ l, y ≤ 1) (hl : l.length ≤ 1000000) (hk : k ≤ 1000) :
    Calls Try.prog 45 #[v1, v2, .int .i64 k] w fun e w' => e = .returned (.int .i64 (Gf.syn m (fw (l.getD · 0) l.length) l.length k : Nat)) ∧ Below w.heap.size w w' := by
  obtain ⟨ga, L, gcap, rfl⟩ := nil_RC h
  rw [← hor_syn hp.ok k l hb]
  obtain ⟨x, hx⟩ : ∃ x, Gf.pw m k = x := ⟨_, rfl⟩
  have hxl : x < 2^m := by rw [← hx]; exact Gf.pw_lt hp.ok k
  have hexp := fun w => rexp_any m (k : Nat) w hp.ok (by omega) (by omega)
  rw [turn_nat _ _ (Gf.sz_pos hp.ok), Gf.pw_mod hp.ok, hx] at hexp
  rw [hx]
  have HEXP := hid hexp
  have HXL := hid hxl
  have h13 : 2^m ≤ 2^13 := Nat.pow_le_pow_right (by decide) hp.ok.2
  have hhl := fun I => hor_lt hp.ok x l hb I
  have HHL := hid hhl
  obtain ⟨a2, k2, rfl, _, _, hcc⟩ := hv
  have HCC := hid hcc
  have HBB := hid hb
  clear h hb hx hexp hhl hcc hxl
  go_enter Try.func45, Try.ntmps45
  go_wp2_with fail
  refine (HEXP.out _).mono ?_
  rintro e w' ⟨rfl, rfl⟩
  obtain ⟨W, hW⟩ : ∃ W, w.alloc (.cells #[.int .i64 m, .int .i64 bytes, .int .i64 t, .slice ga L gcap] 29) = W := ⟨_, rfl⟩
  have hbW : Below w.heap.size w W := by rw [← hW]; exact (Below.refl _ w).alloc (Nat.le_refl _) _
  have q0 : W.cell? ⟨w.heap.size, 0, none⟩ = some (.int .i64 m) := by rw [← hW]; exact cell_at (alloc_new w _) 0
  rw [hW]
  obtain ⟨B, hB⟩ : ∃ B, w.heap.size = B := ⟨_, rfl⟩
  rw [hB] at q0 ⊢
  have HBW := hid hbW
  have HBE := hid hB
  have HQ0 := hid q0
  clear hW hbW hB q0
  go_wp2_with fail
  go_loopg [8, 9] l.length (fun gk y i wr => ∃ I : Nat, I + gk = l.length ∧ i = .int .i64 I ∧ y = .int .i64 (hor m x l I : Nat) ∧ ∃ k, wr = W.drewN k)
  case atStart => exact ⟨0, by omega, rfl, rfl, 0, rfl⟩
  case round =>
    obtain ⟨I, hI, rfl, rfl, kd, rfl⟩ := hrel
    by_cases hlt : I < l.length
    · obtain ⟨g1, o1, rfl, hx1⟩ := HCC.out I hlt
      have cx : (W.drewN kd).cell? ⟨g1, o1 + I, none⟩ = some (.int .i64 ((l.getD I 0 : Nat) : Int)) := (HBW.out.cell (World.block_lt_of_cell? _ _ hx1)).trans hx1
      have cm : (W.drewN kd).cell? ⟨B, 0, none⟩ = some (.int .i64 m) := HQ0.out
      have hst : hor m x l (I+1) = Gf.mul m (hor m x l I) x ^^^ l.getD I 0 := rfl
      have hy := HHL.out I
      have hbit := HBB.out _ (getD_mem hlt)
      have h4 := Gf.mul_lt hp.ok (hor m x l I) x
      generalize l.getD I 0 = b at *
      generalize hor m x l I = y at *
      have ex := xor_i64 (Gf.mul m y x) b (by omega) (by omega)
      have HST := hid hst
      have hIz : (I : Int) < (l.length : Int) := by omega
      have HY := hid hy
      generalize hwd : W.drewN kd = wd at *
      have HWD := hid hwd
      have hmul := rmul_any m y x
      have HMUL := hid hmul
      clear hwd hx1 hst hy hbit h4 hmul
      go_wp2_with fail
      go_quiet ((go_at_call 62; exact quiet_eq (HMUL.out _ hp.ok HY.out HXL.out)))
      go_wp2_with fail
      go_roundg (gk - 1)
      case measure => omega
      case rel => exact ⟨I + 1, by omega, by go_num, by rw [HST.out], kd + nq, by rw [← HWD.out, drewN_add]⟩
    · obtain rfl : I = l.length := by omega
      go_wp2_with fail
      go_ret
      exact ⟨rfl, HBW.out.drewN kd⟩
end Go.Proofs.Ytjompiihdnaogaa
