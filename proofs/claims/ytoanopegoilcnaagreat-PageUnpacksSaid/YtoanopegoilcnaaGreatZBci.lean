/- Walks over bch: a bit turned in a row of the call's own; Decode. -/
import Derived.Test.YtoanopegoilcnaaGreatJh
set_option linter.unusedVariables false
namespace Gf
theorem locator_pos {m : Nat} (h : Ok m) (s : List Nat) (hs : ∀ y ∈ s, y < 2^m) : 1 ≤ (locator m s).length := by
  have I := inv_all h s hs s.length
  have hne : (bms m s s.length).now ≠ [] := fun e => by have := I.one; rw [e] at this; simp at this
  exact List.length_pos_iff.2 (trim1_spec _ hne).1
theorem locator_lt {m : Nat} (h : Ok m) (s : List Nat) (hs : ∀ y ∈ s, y < 2^m) : ∀ y ∈ locator m s, y < 2^m := by
  have I := inv_all h s hs s.length
  have hne : (bms m s s.length).now ≠ [] := fun e => by have := I.one; rw [e] at this; simp at this
  intro y hy
  obtain ⟨i, hi, rfl⟩ := List.mem_iff_getElem.1 hy
  have := (trim1_spec _ hne).2.1 i
  unfold locator at hi ⊢
  rw [show (trim1 (bms m s s.length).now).getD i 0 = (trim1 (bms m s s.length).now)[i] by simp [List.getD, hi]] at this
  rw [this]; exact getD_lt I.nl i
end Gf
namespace Go.Proofs.YtoanopegoilcnaaGreat
open Go.RowKit Go.Mem

set_option maxRecDepth 100000 in
set_option maxHeartbeats 400000 in
/-- A bit is turned in a row with room behind it. -/
theorem turn_ow (g n cap : Nat) (E : Int) (f : Nat → Nat) (w : World) (hg : Ow .u8 5 w g n cap f) (hc : n ≤ 1000000) (hx : ∀ j, f j < 256) (h0 : 0 ≤ E) (hi : E < 8 * (n : Int)) :
    Calls Tryz.prog 61 #[.slice (some ⟨g, 0, none⟩) n cap, .int .i64 E] w fun e w' => e = .returned (.tuple #[]) ∧ Ow .u8 5 w' g n cap (tb f E.toNat) ∧ w.grownBy w' (some g) ∧ w'.heap.size = w.heap.size := by
  obtain ⟨i, rfl⟩ := Int.eq_ofNat_of_zero_le h0
  rw [Int.toNat_natCast]
  have cz : w.cell? ⟨g, i / 8, none⟩ = some (.int .u8 (f (i / 8))) := hg.cell (by omega)
  have fz : w.frozen? ⟨g, i / 8, none⟩ = false := hg.free _
  have hlt : ((i / 8 : Nat) : Int) < (n : Int) := by omega
  have hlt2 : (i : Int) / 8 < (n : Int) := by omega
  have hi62 : (i : Int) ≤ 8000000 := by omega
  have h1 := hx (i / 8)
  have h2 := shr_lt (i % 8)
  have ex : bits .xor .u8 ((f (i / 8) : Nat) : Int) ((128 : Int) / 2 ^ (i % 8)) = ((f (i / 8) ^^^ (128 >>> (i % 8)) : Nat) : Int) := by
    rw [shr128]
    exact bits_xor_nat .u8 8 (by decide) wraps_u8 _ _ h1 h2
  have HG := hid hg
  clear hg h1 h2
  go_enter Tryz.func61, Tryz.ntmps61
  go_wp2
  refine wp_region_quiet_tail 10 (by kernel_rfl) (by kernel_rfl) ?_
  simp only [List.take_succ_cons, List.take_zero, List.drop_succ_cons, List.drop_zero]
  repeat (go_big_quiet_step (fail))
  refine wpQuiet_nil ?_
  intro _ hw'
  obtain ⟨nq, hw''⟩ := hw'
  subst hw''
  go_wp2
  go_end0
  have hne : ∀ k, some k ≠ some g → k ≠ g := fun k hk e => hk (by rw [e])
  exact ⟨rfl, Ow.set (w := w.drewN nq) HG.out _ _, ⟨rfl, rfl, rfl, by simp, fun k _ hk => (set_other (hne k hk)).trans rfl⟩, by simp⟩

theorem syn_same {m r bytes P : Nat} {d d' p p' : Nat → Nat} (hP : r ≤ 8 * P) (hd : ∀ j, j < bytes → d j = d' j) (hp : ∀ j, j < P → p j = p' j) (k : Nat) :
    synf m (8 * bytes) r d p (8 * bytes) r k = Gf.syn m (wd (8 * bytes) r d' p') (8 * bytes + r) (k + 1) := by
  rw [synf_syn]
  exact Gf.syn_congr _ (fun q hq => wd_congr hP (fun j hj => hd j (by omega)) (by omega) hp q hq)
theorem rg_getD (f : Nat → Nat) (n j : Nat) (h : j < n) : ((List.range n).map f).getD j 0 = f j := by simp [List.getD, h]

theorem rg_self (xs : List Nat) : (List.range xs.length).map (xs.getD · 0) = xs := by
  apply List.ext_getElem (by simp)
  intro i h1 h2
  simp [List.getD, h2]
theorem and_mask_u8 (x r : Nat) (hx : x < 256) : bits .and .u8 (x : Int) (255 * 2 ^ (8 - r % 8) % 256) = ((x &&& ((255 <<< (8 - r % 8)) % 256) : Nat) : Int) := by
  have e : ((255 : Int) * (2 : Int) ^ (8 - r % 8) % (256 : Int)) = (((255 <<< (8 - r % 8)) % 256 : Nat) : Int) := by
    rw [Nat.shiftLeft_eq]
    simp
  rw [e]
  exact (bits_nat .u8 8 (by decide) (fun n h0 h1 => wraps_u8 n h0 h1) x _ hx (Nat.mod_lt _ (by decide))).1

theorem dec_fast {bytes t m P : Nat} (hp : Par bytes t m) (hP : P = (rr m t + 7) / 8) (xs : List Nat) (p : Nat → Nat) (hxl : xs.length = bytes) (hq : (List.range P).map (par m t xs) = (List.range P).map (pm (rr m t) P p)) :
    DecGood m t (8 * bytes) (rr m t) P (xs.getD · 0) p (xs.getD · 0) (pm (rr m t) P p) 0 := by
  have he : ∀ j, j < P → par m t xs j = pm (rr m t) P p j := fun j hj => by
    rw [← rg_getD (par m t xs) P j hj, hq, rg_getD _ P j hj]
  refine ⟨(par_cw hp xs hxl).congr (fun k hk => wd_congr (P := P) (by omega) (fun _ _ => rfl) (by omega) he k hk), ?_, Nat.zero_le _, fun i h1 h2 => by rw [bitAt_pm p hP i h2, decide_eq_false (by omega), Bool.and_false]⟩
  rw [Gf.dst_congr (fun _ _ => rfl) (fun k _ => wd_pm (xs.getD · 0) p hP k), Gf.dst_self]

theorem dec_good {bytes t m P K : Nat} (hP : P = (rr m t + 7) / 8) (d p : Nat → Nat) (l : List Nat) (hK : K ≤ 8 * bytes + rr m t)
    (hz : ∀ k, k < 2 * t → Gf.syn m (wd (8 * bytes) (rr m t) (dfl (8 * bytes) (rr m t) m l d K) (pfl (rr m t) m l (pm (rr m t) P p) K)) (8 * bytes + rr m t) (k + 1) = 0) (hc : cnt m l K ≤ t) :
    DecGood m t (8 * bytes) (rr m t) P d p (dfl (8 * bytes) (rr m t) m l d K) (pfl (rr m t) m l (pm (rr m t) P p) K) (cnt m l K) := by
  refine ⟨fun k h1 h2 => by rw [show k = (k - 1) + 1 by omega]; exact hz _ (by omega), ?_, hc, fun i h1 h2 => by rw [pfl_pad _ _ h1, bitAt_pm p hP i h2, decide_eq_false (by omega), Bool.and_false]⟩
  rw [cnt_supp, ← supp_cut _ K _ hK]
  unfold Gf.dst
  rw [Gf.supp_congr (fun k hk => ?_)]
  rw [wd_fl _ _ _ _ _ _ K hK k hk, wd_pm _ _ hP]
  cases wd (8 * bytes) (rr m t) d p k <;> simp

theorem dec_bad {bytes t m P K : Nat} (hp : Par bytes t m) (hP : P = (rr m t + 7) / 8) (d p : Nat → Nat) (s : List Nat) (hlen : s.length = 2 * t) (hs : ∀ y ∈ s, y < 2^m)
    (hsy : ∀ k, k < 2 * t → s.getD k 0 = Gf.syn m (wd (8 * bytes) (rr m t) d (pm (rr m t) P p)) (8 * bytes + rr m t) (k+1)) (hK : K ≤ 8 * bytes + rr m t) (hend : K = 8 * bytes + rr m t ∨ cnt m (Gf.locator m s) K + 1 = (Gf.locator m s).length)
    (hn : ¬ ((∀ k, k < 2 * t → Gf.syn m (wd (8 * bytes) (rr m t) (dfl (8 * bytes) (rr m t) m (Gf.locator m s) d K) (pfl (rr m t) m (Gf.locator m s) (pm (rr m t) P p) K)) (8 * bytes + rr m t) (k + 1) = 0) ∧ cnt m (Gf.locator m s) K ≤ t)) :
    DecBad m t (8 * bytes) (rr m t) d p := by
  intro c hc
  rcases Nat.lt_or_ge t (Gf.dst (wd (8 * bytes) (rr m t) d p) c (8 * bytes + rr m t)) with hd | hd
  · exact hd
  · exfalso
    rw [Gf.dst_congr (fun k _ => (wd_pm d p hP k).symm) (fun _ _ => rfl)] at hd
    obtain ⟨h1, h2⟩ := dec_plain hp _ c s hlen hs hsy K hK hend hc hd
    refine hn ⟨fun k hk => ?_, h2⟩
    rw [Gf.syn_congr (k + 1) (fun q hq => (wd_fl _ _ _ _ _ _ K hK q hq).trans (h1 q hq))]
    exact hc (k + 1) (by omega) (by omega)

theorem cnt_le (m : Nat) (l : List Nat) (K : Nat) : cnt m l K ≤ K := by
  induction K with
  | zero => exact Nat.le_refl _
  | succ K ih => rw [cnt]; cases rtB m l K <;> simp <;> omega

/-- Nothing but two blocks is another. -/
def Kp (w w' : World) (g1 g2 : Nat) : Prop := w'.os = w.os ∧ w'.tape = w.tape ∧ w'.output = w.output ∧ w'.heap.size = w.heap.size ∧ ∀ k, k ≠ g1 → k ≠ g2 → w'.heap[k]? = w.heap[k]?
section
variable {w w' w2 : World} {g1 g2 : Nat}
theorem Kp.refl (w : World) (g1 g2 n : Nat) : Kp w (w.drewN n) g1 g2 := ⟨rfl, rfl, rfl, by simp, fun _ _ _ => rfl⟩
theorem Kp.drewN (h : Kp w w' g1 g2) (n : Nat) : Kp w (w'.drewN n) g1 g2 := ⟨h.1, h.2.1, h.2.2.1, by simpa using h.2.2.2.1, h.2.2.2.2⟩
theorem Kp.grown (h : Kp w w' g1 g2) {g : Nat} (hg : g = g1 ∨ g = g2) (hw : w'.grownBy w2 (some g)) (hs : w2.heap.size = w'.heap.size) : Kp w w2 g1 g2 := by
  obtain ⟨a1, a2, a3, a4, a5⟩ := h
  refine ⟨hw.os.trans a1, hw.tape.trans a2, hw.output.trans a3, hs.trans a4, fun k h1 h2 => ?_⟩
  rcases Nat.lt_or_ge k w'.heap.size with hk | hk
  · exact (hw.block k hk (fun e => by cases e; rcases hg with rfl | rfl; exact h1 rfl; exact h2 rfl)).trans (a5 k h1 h2)
  · rw [Array.getElem?_eq_none (by omega), Array.getElem?_eq_none (by omega)]
theorem Kp.below {B : Nat} {w0 : World} (h : Kp w w' g1 g2) (hb : Below B w0 w) (h1 : B ≤ g1) (h2 : B ≤ g2) : Below B w0 w' := by
  obtain ⟨a1, a2, a3, a4, a5⟩ := h
  exact ⟨a1.trans hb.os, a2.trans hb.tape, a3.trans hb.output, by have := hb.size; omega, fun k hk => (a5 k (by omega) (by omega)).trans (hb.block k hk)⟩
theorem Kp.rd {k : IntKind} {g o n c : Nat} {xs : List Nat} (h : Kp w w' g1 g2) (hr : Rd k w (.slice (some ⟨g, o, none⟩) n c) xs) (h1 : g ≠ g1) (h2 : g ≠ g2) : Rd k w' (.slice (some ⟨g, o, none⟩) n c) xs := by
  obtain ⟨a, cap, hv, b1, b2, hc⟩ := hr
  refine ⟨a, cap, hv, b1, b2, fun j hj => ?_⟩
  obtain ⟨g', o', ha, hx⟩ := hc j hj
  refine ⟨g', o', ha, ?_⟩
  cases hv
  cases ha
  rw [← hx]
  simp only [World.cell?, h.2.2.2.2 g h1 h2]
end
/-- What Decode hands back. -/
def DecRet (m t bytes P : Nat) (d p : Nat → Nat) (w w' : World) (e : Ending) : Prop :=
  (∃ g1 c1 g2 c2 d' p' k, w.heap.size ≤ g1 ∧ w.heap.size ≤ g2 ∧ e = .returned (.tuple #[.slice (some ⟨g1, 0, none⟩) bytes c1, .slice (some ⟨g2, 0, none⟩) P c2, .int .i64 (k : Nat), .int .i64 0]) ∧
    Ow .u8 5 w' g1 bytes c1 d' ∧ Ow .u8 5 w' g2 P c2 p' ∧ (∀ j, d' j < 256) ∧ (∀ j, p' j < 256) ∧ DecGood m t (8 * bytes) (rr m t) P d p d' p' k) ∨
  (e = .returned (.tuple #[.slice none 0 0, .slice none 0 0, .int .i64 0, .int .i64 20]) ∧ DecBad m t (8 * bytes) (rr m t) d p)

set_option maxRecDepth 100000 in
set_option maxHeartbeats 1600000 in
theorem decode_any (c bytes t m P : Nat) (v1 v2 : Value) (xs ys : List Nat) (w : World) (hp : Par bytes t m) (h : CodeAt w c bytes t m) (hv1 : Rd .u8 w v1 xs) (hv2 : Rd .u8 w v2 ys)
    (hx : ∀ y ∈ xs, y < 256) (hy : ∀ y ∈ ys, y < 256) (hxl : xs.length = bytes) (hP : P = (rr m t + 7) / 8) (hyl : ys.length = P) :
    Calls Tryz.prog 35 #[.pointer (some ⟨c, 0, none⟩), v1, v2] w fun e w' => DecRet m t bytes P (xs.getD · 0) (ys.getD · 0) w w' e ∧ Below w.heap.size w w' := by
  have hr := hp.r
  have hm := hp.ok
  have h13 := hm.2
  have HH := hid h
  have HX := hid hx
  have HY := hid hy
  have HV1 := hid hv1
  have HV2 := hid hv2
  have c1 : w.cell? ⟨c, 1, none⟩ = some (.int .i64 bytes) := by obtain ⟨fb, gv, h1, h2, h3⟩ := h; exact cell_at h1 1
  obtain ⟨xa, xcap, rfl, _, _, x3⟩ := hv1
  obtain ⟨ya, ycap, rfl, _, _, y3⟩ := hv2
  have b1 := hp.b1
  have b2 := hp.b2
  have r1 := hr.2.1
  have r104 := hr.2.2.2.1
  have hpar := hid (codeParity_any c bytes t m)
  have hPar : Hid (∀ w', CodeAt w' c bytes t m → Calls Tryz.prog 34 #[.pointer (some ⟨c, 0, none⟩)] w' fun e w'' => e = .returned (.int .i64 (P : Nat)) ∧ w' = w'') := hid fun w' hc => by rw [hP]; exact codeParity_any c bytes t m w' hc hp
  have hP1 : 1 ≤ P := by omega
  have hP14 : P ≤ 14 := by omega
  have HPE := hid hP
  have HV1' : Hid (Rd .u8 w (.slice xa bytes xcap) xs) := hid (by rw [← hxl]; exact HV1.out)
  have HV2' : Hid (Rd .u8 w (.slice ya P ycap) ys) := hid (by rw [← hyl]; exact HV2.out)
  rw [hxl, hyl]
  have HXL := hid hxl
  have HYL := hid hyl
  clear HV1 HV2 x3 y3 hx hy hr hxl hyl hpar hP h
  have t1 : ((bytes : Int) != (bytes : Int)) = false := by simp
  have t2 : ((P : Int) != (P : Int)) = false := by simp
  go_enter Tryz.func35, Tryz.ntmps35
  go_wp2; go_step3; go_wp2_with fail
  refine (hPar.out _ HH.out).mono ?_
  rintro e w' ⟨rfl, rfl⟩
  go_wp2_with fail
  refine (clone_bytes _ xs _ HV1'.out (by have := HXL.out; omega) (by have := HXL.out; omega)).mono ?_
  rintro e w1 ⟨⟨g1, k1, hg1, he, ho1⟩, hb1⟩
  rw [HXL.out] at he ho1
  subst he
  have HB1 := hid hb1
  have HO1 := hid ho1
  clear hb1 ho1
  go_wp2_with fail
  refine (clone_bytes _ ys _ (HV2'.out.below HB1.out) (by have := HYL.out; omega) (by have := HYL.out; omega)).mono ?_
  rintro e w2 ⟨⟨g2, k2, hg2, he, ho2⟩, hb2⟩
  rw [HYL.out] at he ho2
  subst he
  have HB2 := hid (HB1.out.comp hb2)
  have HO1' : Hid (Ow .u8 5 w2 g1 bytes k1 (xs.getD · 0)) := hid (HO1.out.same (hb2.block _ HO1.out.lt))
  have HO2 := hid ho2
  have hg12 : g1 ≠ g2 := by have := HO1.out.lt; omega
  have hg2' : w.heap.size ≤ g2 := by have := HB1.out.size; omega
  clear hb2 ho2 HB1 HO1 hg2
  go_wp2_with fail
  refine (codeBits_any c bytes t m _ (HH.out.below HB2.out) hp).mono ?_
  rintro e w' ⟨rfl, rfl⟩
  go_upto_if 49 with fail
  go_cut [] (fun wx => Ow .u8 5 wx g1 bytes k1 (xs.getD · 0) ∧ Ow .u8 5 wx g2 P k2 (pm (rr m t) P (ys.getD · 0)) ∧ Below w.heap.size w wx)
  case first =>
    by_cases hr8 : rr m t % 8 = 0
    · have t3 : ((rr m t : Int) % 8 != 0) = false := by simp; omega
      go_wp2_with fail
      go_meet
      refine ⟨HO1'.out, ?_, HB2.out⟩
      unfold pm
      rw [if_pos hr8]
      exact HO2.out
    · have t3 : ((rr m t : Int) % 8 != 0) = true := bne_iff_ne.2 (by omega)
      have cz : w2.cell? ⟨g2, P - 1, none⟩ = some (.int .u8 ((ys.getD (P - 1) 0 : Nat) : Int)) := HO2.out.cell (by omega)
      have fz : w2.frozen? ⟨g2, P - 1, none⟩ = false := HO2.out.free _
      have hlt : ((P : Int) - 1) < (P : Int) := by omega
      have h0P : 0 ≤ (P : Int) - 1 := by omega
      have hPn : ((P : Int) - 1).toNat = P - 1 := by omega
      go_wp2_with fail
      refine wp_region_quiet_tail 12 (by kernel_rfl) (by kernel_rfl) ?_
      simp only [List.take_succ_cons, List.take_zero, List.drop_succ_cons, List.drop_zero]
      repeat (go_big_quiet_step (fail))
      refine wpQuiet_nil ?_
      intro _ hw'
      obtain ⟨nq, hw''⟩ := hw'
      subst hw''
      go_wp2
      go_meet
      refine ⟨(HO1'.out.same (w' := w2.drewN nq) rfl).same (set_other hg12), ?_, bl_set (bl_drewN HB2.out nq) hg2' _⟩
      have e := and_mask_u8 (ys.getD (P - 1) 0) (rr m t) (Gf.getD_lt (m := 8) HY.out (P - 1))
      rw [List.getD_eq_getElem?_getD] at e
      rw [e]
      have := Ow.set (w := w2.drewN nq) HO2.out (P - 1) (ys.getD (P - 1) 0 &&& ((255 <<< (8 - rr m t % 8)) % 256))
      unfold pm
      rw [if_neg hr8]
      exact this
  case rest =>
    obtain ⟨ho1, ho2, hb⟩ := hcut
    obtain ⟨wA, rfl⟩ : ∃ wA : World, wA = wc := ⟨_, rfl⟩
    have HD := hid ho1
    have HQ := hid ho2
    have HB := hid hb
    clear ho1 ho2 hb HO1' HO2 HB2
    have HDR : Hid (Rd .u8 wA (.slice (some ⟨g1, 0, none⟩) bytes k1) xs) := hid (by have := HD.out.rd; rw [← HXL.out] at this ⊢; rwa [rg_self] at this)
    obtain ⟨Q1, hQ1⟩ : ∃ Q1, (List.range P).map (pm (rr m t) P (ys.getD · 0)) = Q1 := ⟨_, rfl⟩
    have HQR : Hid (Rd .u8 wA (.slice (some ⟨g2, 0, none⟩) P k2) Q1) := hid (by rw [← hQ1]; exact HQ.out.rd)
    have HQ1 := hid hQ1
    have hqlt : ∀ y ∈ Q1, y < 256 := by
      intro y hy'
      rw [← hQ1] at hy'
      obtain ⟨j, _, rfl⟩ := List.mem_map.1 hy'
      exact pm_lt (fun j => Gf.getD_lt (m := 8) HY.out j) j
    have hqlen : Q1.length = P := by rw [← hQ1]; simp
    have HQLT := hid hqlt
    have HQLEN := hid hqlen
    clear hQ1 hqlt hqlen
    go_wp2_with fail
    refine (encode_any c bytes t m _ xs _ hp (HH.out.below HB.out) HDR.out HX.out HXL.out).mono ?_
    rintro e w4 ⟨p4, P4, hp4, hP4, he, hc4, hb4⟩
    rw [← HPE.out] at hP4
    rw [hP4] at he hc4
    subst he
    clear hP4
    obtain ⟨W1, hW1⟩ : ∃ W1, (List.range P).map (par m t xs) = W1 := ⟨_, rfl⟩
    have HWR : Hid (Rd .u8 w4 (.slice (some ⟨p4, 0, none⟩) P P) W1) := hid (by rw [← hW1]; exact Rd.of_fa hc4 _ _ (Nat.le_refl _) (Nat.le_refl _) (by unfold maxLen; omega))
    have hwlen : W1.length = P := by rw [← hW1]; simp
    have HW1 := hid hW1
    have HWLEN := hid hwlen
    have HB4 := hid hb4
    have HC4 := hid hc4
    have HEQ : Hid (Calls Tryz.prog 56 #[.slice (some ⟨p4, 0, none⟩) P P, .slice (some ⟨g2, 0, none⟩) P k2] w4 fun e w' => e = .returned (.bool (decide (W1 = Q1))) ∧ ∃ k, w' = w4.drewN k) := hid (equal_bytes _ _ W1 Q1 w4 HWR.out (HQR.out.below HB4.out) (by omega) (by have := HQLEN.out; omega))
    clear hW1 hwlen hb4 hc4
    by_cases hq : W1 = Q1
    · rw [decide_eq_true hq] at HEQ
      go_wp2_with fail
      refine HEQ.out.mono ?_
      rintro e w' ⟨rfl, kd, rfl⟩
      go_wp2_with fail
      rw [Exit.noGoto_ret]
      refine bodyPost_ret (v := .tuple #[.slice (some ⟨g1, 0, none⟩) bytes k1, .slice (some ⟨g2, 0, none⟩) P k2, .int .i64 0, .int .i64 0]) (by simp [results, Tryz.results35, go_sem]) rfl ⟨?_, ?_⟩
      · refine .inl ⟨g1, k1, g2, k2, (xs.getD · 0), pm (rr m t) P (ys.getD · 0), 0, hg1, hg2', rfl, ?_, ?_, ?_, ?_, ?_⟩
        · exact HD.out.same (HB4.out.block _ HD.out.lt)
        · exact HQ.out.same (HB4.out.block _ HQ.out.lt)
        · exact fun j => Gf.getD_lt (m := 8) HX.out j
        · exact pm_lt (fun j => Gf.getD_lt (m := 8) HY.out j)
        · exact dec_fast hp HPE.out xs _ HXL.out (by rw [HW1.out, HQ1.out]; exact hq)
      · exact (HB.out.comp HB4.out).drewN kd
    · rw [decide_eq_false hq] at HEQ
      clear hq
      go_wp2_with fail
      refine HEQ.out.mono ?_
      rintro e w' ⟨rfl, kd, rfl⟩
      clear HEQ
      obtain ⟨w5, hw5⟩ : ∃ w5, w4.drewN kd = w5 := ⟨_, rfl⟩
      have HB5 : Hid (Below wA.heap.size wA w5) := hid (by rw [← hw5]; exact HB4.out.drewN kd)
      rw [hw5]
      clear hw5 HB4 HC4 HW1 HWLEN HWR
      go_wp2_with fail
      refine (syndromes_any c bytes t m _ _ xs Q1 _ hp (HH.out.below (HB.out.comp HB5.out)) (HDR.out.below HB5.out) (HQR.out.below HB5.out) HX.out HQLT.out HXL.out (by have := HPE.out; have := HQLEN.out; omega)).mono ?_
      rintro e w6 ⟨⟨g6, hg6, rfl, hc6⟩, hb6⟩
      obtain ⟨S, hS⟩ : ∃ S, (List.range (2 * t)).map (synf m (8 * bytes) (rr m t) (xs.getD · 0) (Q1.getD · 0) (8 * bytes) (rr m t)) = S := ⟨_, rfl⟩
      have t8 := hp.t8
      have HS6 : Hid (Rd .i64 w6 (.slice (some ⟨g6, 0, none⟩) (2 * t) (2 * t)) S) := hid (by rw [← hS]; exact Rd.of_fa hc6 _ _ (Nat.le_refl _) (Nat.le_refl _) (by unfold maxLen; omega))
      have hslt : ∀ y ∈ S, y < 2^m := by
        intro y hy'
        rw [← hS] at hy'
        obtain ⟨j, _, rfl⟩ := List.mem_map.1 hy'
        exact synf_lt hm _ _ _ _ _ _ _
      have hslen : S.length = 2 * t := by rw [← hS]; simp
      have HS := hid hS
      have HSLT := hid hslt
      have HSLEN := hid hslen
      have HB6 : Hid (Below wA.heap.size wA w6) := hid (HB5.out.comp hb6)
      clear hS hslt hslen hb6 hc6 HB5
      go_wp2_with fail
      refine (locator_any c bytes t m _ S _ hp (HH.out.below (HB.out.comp HB6.out)) HS6.out HSLT.out (by have := HSLEN.out; omega)).mono ?_
      rintro e w7 ⟨⟨lv, rfl, hlv, hlf⟩, hb7⟩
      have HB7 : Hid (Below wA.heap.size wA w7) := hid (HB6.out.comp hb7)
      have HC7 : Hid (CodeAt w7 c bytes t m) := hid (HH.out.below (HB.out.comp HB7.out))
      have hc71 : w7.cell? ⟨c, 1, none⟩ = some (.int .i64 bytes) := by obtain ⟨fb, gv, h1, h2, h3⟩ := HC7.out; exact cell_at h1 1
      obtain ⟨n8, hn8⟩ : ∃ n8, 8 * bytes = n8 := ⟨_, rfl⟩
      have e8 : IntKind.i64.wrap ((8:Int) * (bytes:Int)) = (n8 : Int) := by rw [IntWalk.i64_in _ (by omega)]; omega
      obtain ⟨l, hl⟩ : ∃ l, Gf.locator m S = l := ⟨_, rfl⟩
      rw [hl] at hlv
      have HL := hid hl
      have HLV := hid hlv
      obtain ⟨la, lcap, hev, l1, l2, l3⟩ := hlv
      obtain ⟨a', n', c', lg, lo, hef, hea, hlg⟩ := hlf
      subst hea
      rw [hev] at hef
      cases hef
      subst hev
      have hg1l : lg ≠ g1 := by have := HD.out.lt; have := HB6.out.size; omega
      have hg2l : lg ≠ g2 := by have := HQ.out.lt; have := HB6.out.size; omega
      have hlmax : l.length ≤ 9223372036854775807 := by have := l1; have := l2; unfold maxLen at *; omega
      have hll : 1 ≤ l.length := by rw [← HL.out]; exact Gf.locator_pos hm S HSLT.out
      have HLLT : Hid (∀ y ∈ l, y < 2^m) := hid (by rw [← HL.out]; exact Gf.locator_lt hm S HSLT.out)
      clear hb7 hl l3 HB6
      have hn8r : n8 + rr m t ≤ Gf.sz m := by have := hp.r.2.2.2.2; omega
      have hn8b : n8 ≤ 4096 := by omega
      have HN8 := hid hn8
      clear hn8
      have HD7 : Hid (Ow .u8 5 w7 g1 bytes k1 (dfl n8 (rr m t) m l (xs.getD · 0) 0)) := hid (HD.out.same (HB7.out.block _ HD.out.lt))
      have HQ7 : Hid (Ow .u8 5 w7 g2 P k2 (pfl (rr m t) m l (pm (rr m t) P (ys.getD · 0)) 0)) := hid (HQ.out.same (HB7.out.block _ HQ.out.lt))
      clear HD HQ HDR HQR
      go_wp2_with fail
      go_quiet (fail)
      go_wp2_with fail
      go_step3
      go_upto_block 0 with fail
      go_cut [18, 20, 100, 115] from 91 to 134 (fun f q _ _ wx => ∃ K : Nat, K ≤ n8 + rr m t ∧ f = .int .i64 (cnt m l K : Nat) ∧ (K = n8 + rr m t ∨ cnt m l K + 1 = l.length) ∧ Ow .u8 5 wx g1 bytes k1 (dfl n8 (rr m t) m l (xs.getD · 0) K) ∧ Ow .u8 5 wx g2 P k2 (pfl (rr m t) m l (pm (rr m t) P (ys.getD · 0)) K) ∧ Kp w7 wx g1 g2)
      case first =>
        go_wp2_with fail
        go_loopg [91, 18] (n8 + rr m t) (fun gk i f wr => ∃ K : Nat, K + gk = n8 + rr m t ∧ i = .int .i64 K ∧ f = .int .i64 (cnt m l K : Nat) ∧ Ow .u8 5 wr g1 bytes k1 (dfl n8 (rr m t) m l (xs.getD · 0) K) ∧ Ow .u8 5 wr g2 P k2 (pfl (rr m t) m l (pm (rr m t) P (ys.getD · 0)) K) ∧ Kp w7 wr g1 g2)
        case atStart => exact ⟨0, by omega, rfl, rfl, HD7.out, HQ7.out, Kp.refl _ _ _ _⟩
        case round =>
          obtain ⟨K, hK, rfl, rfl, hd, hq, hb⟩ := hrel
          have HDK := hid hd
          have HQK := hid hq
          have HBK := hid hb
          clear hd hq hb HD7 HQ7
          have hcl := cnt_le m l K
          have hrs : cnt m l (K+1) = cnt m l K + (rtB m l K).toNat := rfl
          by_cases hlt : K < n8 + rr m t
          · have hMx := HH.out.below (HBK.out.below (HB.out.comp HB7.out) hg1 hg2')
            obtain ⟨fb, gv, hf1, hf2, hf3⟩ := hMx
            have cf : wr.cell? ⟨c, 0, none⟩ = some (.pointer (some ⟨fb, 0, none⟩)) := cell_at hf1 0
            have HMX := hid hf2
            clear hf1 hf2 hf3
            have hlt2 : (K : Int) < (n8 : Int) + rr m t := by omega
            have hlt13 : Gf.sz m ≤ 8191 := by have := sz_le hm.2; omega
            obtain ⟨y, hyv⟩ : ∃ y, Gf.yv m K = y := ⟨_, rfl⟩
            have hylt : y < 2^m := by rw [← hyv]; exact Gf.yv_lt hm K
            have HEXP : Hid (∀ w', Made w' fb m → Calls Tryz.prog 60 #[.pointer (some ⟨fb, 0, none⟩), .int .i64 (-(K : Int))] w' fun e w'' => e = .returned (.int .i64 (y : Nat)) ∧ ∃ k, w'' = w'.drewN k) := hid fun w' h' => by
              have := exp_made fb m (-(K : Int)) w' hm h'
              rw [pw_neg hm K (by omega)] at this
              rw [← hyv]
              exact this
            obtain ⟨z, hz⟩ : ∃ z, Gf.ev m l y = z := ⟨_, rfl⟩
            have HEVL : Hid (∀ w', Made w' fb m → Rd .i64 w' (.slice (some ⟨lg, lo, none⟩) l.length lcap) l → Calls Tryz.prog 59 #[.pointer (some ⟨fb, 0, none⟩), .slice (some ⟨lg, lo, none⟩) l.length lcap, .int .i64 y] w' fun e w'' => e = .returned (.int .i64 (z : Nat)) ∧ ∃ k, w'' = w'.drewN k) := hid fun w' h' hr' => by
              rw [← hz]
              exact eval_made fb m y _ l w' hm h' hylt hr' HLLT.out
            have HRL : Hid (Rd .i64 wr (.slice (some ⟨lg, lo, none⟩) l.length lcap) l) := hid (HBK.out.rd HLV.out hg1l hg2l)
            have hrt : rtB m l K = decide (z = 0) := by unfold rtB; rw [hyv, hz]
            have HRT := hid hrt
            have HRS := hid hrs
            clear hyv hz hrt hrs
            by_cases hz0 : z = 0
            · subst hz0
              have hc1 : cnt m l (K+1) = cnt m l K + 1 := by rw [HRS.out, HRT.out]; rfl
              have HC1 := hid hc1
              clear hc1
              generalize hcf : cnt m l K = cf0 at *
              have HCF := hid hcf
              clear hcf
              by_cases hrK : rr m t ≤ K
              · have hE0 : (0 : Int) ≤ (n8 : Int) + rr m t - 1 - K := by omega
                have hE1 : (n8 : Int) + rr m t - 1 - K < 8 * (bytes : Int) := by have := HN8.out; omega
                have hEn : ((n8 : Int) + rr m t - 1 - K).toNat = n8 + rr m t - 1 - K := by omega
                have hd' : dfl n8 (rr m t) m l (xs.getD · 0) (K+1) = tb (dfl n8 (rr m t) m l (xs.getD · 0) K) (n8 + rr m t - 1 - K) := by rw [dfl, HRT.out, decide_eq_true hrK]; rfl
                have hq' : pfl (rr m t) m l (pm (rr m t) P (ys.getD · 0)) (K+1) = pfl (rr m t) m l (pm (rr m t) P (ys.getD · 0)) K := by rw [pfl, HRT.out, decide_eq_false (show ¬ K < rr m t by omega)]; rfl
                have hgeq : (rr m t : Int) ≤ (K : Int) := by omega
                have HEN := hid hEn
                have HD' := hid hd'
                have HQ' := hid hq'
                clear hEn hd' hq'
                by_cases hfin : cf0 + 1 + 1 = l.length
                · have tf : ((cf0 : Int) + 1 == (l.length : Int) - 1) = true := beq_iff_eq.2 (by omega)
                  have HFIN := hid hfin
                  clear hfin
                  go_wp2_with fail
                  go_quiet ((first | (go_at_call 60; exact Calls.quiet_of (HEXP.out _ (by exact HMX.out))) | (go_at_call 59; exact Calls.quiet_of (HEVL.out _ (by exact HMX.out) (by exact HRL.out)))))
                  go_wp2_with fail
                  refine (turn_ow g1 bytes k1 _ _ (wr.drewN nq) HDK.out (by omega) (dfl_lt (fun j => Gf.getD_lt (m := 8) HX.out j) K) hE0 hE1).mono ?_
                  rintro e w8 ⟨rfl, hto, htg, hts⟩
                  have ho : Ow .u8 5 w8 g1 bytes k1 (dfl n8 (rr m t) m l (xs.getD · 0) (K+1)) := by rw [HD'.out]; rwa [HEN.out] at hto
                  have hoq : Ow .u8 5 w8 g2 P k2 (pfl (rr m t) m l (pm (rr m t) P (ys.getD · 0)) (K+1)) := by rw [HQ'.out]; exact HQK.out.same (htg.block g2 HQK.out.lt (fun e => hg12 (by cases e; rfl)))
                  have hkp : Kp w7 w8 g1 g2 := (HBK.out.drewN nq).grown (.inl rfl) htg hts
                  have HO8 := hid ho
                  have HOQ8 := hid hoq
                  have HKP8 := hid hkp
                  clear ho hoq hkp hto htg hts
                  go_wp2_with fail
                  go_meet
                  exact ⟨K + 1, by omega, by rw [HC1.out]; go_num, .inr (by rw [HC1.out]; exact HFIN.out), HO8.out, HOQ8.out, HKP8.out⟩
                · have tf : ((cf0 : Int) + 1 == (l.length : Int) - 1) = false := beq_eq_false_iff_ne.2 (by omega)
                  clear hfin
                  go_wp2_with fail
                  go_quiet ((first | (go_at_call 60; exact Calls.quiet_of (HEXP.out _ (by exact HMX.out))) | (go_at_call 59; exact Calls.quiet_of (HEVL.out _ (by exact HMX.out) (by exact HRL.out)))))
                  go_wp2_with fail
                  refine (turn_ow g1 bytes k1 _ _ (wr.drewN nq) HDK.out (by omega) (dfl_lt (fun j => Gf.getD_lt (m := 8) HX.out j) K) hE0 hE1).mono ?_
                  rintro e w8 ⟨rfl, hto, htg, hts⟩
                  have ho : Ow .u8 5 w8 g1 bytes k1 (dfl n8 (rr m t) m l (xs.getD · 0) (K+1)) := by rw [HD'.out]; rwa [HEN.out] at hto
                  have hoq : Ow .u8 5 w8 g2 P k2 (pfl (rr m t) m l (pm (rr m t) P (ys.getD · 0)) (K+1)) := by rw [HQ'.out]; exact HQK.out.same (htg.block g2 HQK.out.lt (fun e => hg12 (by cases e; rfl)))
                  have hkp : Kp w7 w8 g1 g2 := (HBK.out.drewN nq).grown (.inl rfl) htg hts
                  have HO8 := hid ho
                  have HOQ8 := hid hoq
                  have HKP8 := hid hkp
                  clear ho hoq hkp hto htg hts
                  go_wp2_with fail
                  go_roundg (gk - 1)
                  case measure => omega
                  case rel => exact ⟨K + 1, by omega, by go_num, by rw [HC1.out]; go_num, HO8.out, HOQ8.out, HKP8.out⟩
              · have hE0 : (0 : Int) ≤ (rr m t : Int) - 1 - K := by omega
                have hE1 : (rr m t : Int) - 1 - K < 8 * (P : Int) := by have := HPE.out; omega
                have hEn : ((rr m t : Int) - 1 - K).toNat = rr m t - 1 - K := by omega
                have hd' : dfl n8 (rr m t) m l (xs.getD · 0) (K+1) = dfl n8 (rr m t) m l (xs.getD · 0) K := by rw [dfl, HRT.out, decide_eq_false hrK]; rfl
                have hq' : pfl (rr m t) m l (pm (rr m t) P (ys.getD · 0)) (K+1) = tb (pfl (rr m t) m l (pm (rr m t) P (ys.getD · 0)) K) (rr m t - 1 - K) := by rw [pfl, HRT.out, decide_eq_true (show K < rr m t by omega)]; rfl
                have hgeq : ¬ (rr m t : Int) ≤ (K : Int) := by omega
                have HEN := hid hEn
                have HD' := hid hd'
                have HQ' := hid hq'
                clear hEn hd' hq'
                by_cases hfin : cf0 + 1 + 1 = l.length
                · have tf : ((cf0 : Int) + 1 == (l.length : Int) - 1) = true := beq_iff_eq.2 (by omega)
                  have HFIN := hid hfin
                  clear hfin
                  go_wp2_with fail
                  go_quiet ((first | (go_at_call 60; exact Calls.quiet_of (HEXP.out _ (by exact HMX.out))) | (go_at_call 59; exact Calls.quiet_of (HEVL.out _ (by exact HMX.out) (by exact HRL.out)))))
                  go_wp2_with fail
                  refine (turn_ow g2 P k2 _ _ (wr.drewN nq) HQK.out (by omega) (pfl_lt (pm_lt (fun j => Gf.getD_lt (m := 8) HY.out j)) K) hE0 hE1).mono ?_
                  rintro e w8 ⟨rfl, hto, htg, hts⟩
                  have ho : Ow .u8 5 w8 g1 bytes k1 (dfl n8 (rr m t) m l (xs.getD · 0) (K+1)) := by rw [HD'.out]; exact HDK.out.same (htg.block g1 HDK.out.lt (fun e => hg12 (by cases e; rfl)))
                  have hoq : Ow .u8 5 w8 g2 P k2 (pfl (rr m t) m l (pm (rr m t) P (ys.getD · 0)) (K+1)) := by rw [HQ'.out]; rwa [HEN.out] at hto
                  have hkp : Kp w7 w8 g1 g2 := (HBK.out.drewN nq).grown (.inr rfl) htg hts
                  have HO8 := hid ho
                  have HOQ8 := hid hoq
                  have HKP8 := hid hkp
                  clear ho hoq hkp hto htg hts
                  go_wp2_with fail
                  go_meet
                  exact ⟨K + 1, by omega, by rw [HC1.out]; go_num, .inr (by rw [HC1.out]; exact HFIN.out), HO8.out, HOQ8.out, HKP8.out⟩
                · have tf : ((cf0 : Int) + 1 == (l.length : Int) - 1) = false := beq_eq_false_iff_ne.2 (by omega)
                  clear hfin
                  go_wp2_with fail
                  go_quiet ((first | (go_at_call 60; exact Calls.quiet_of (HEXP.out _ (by exact HMX.out))) | (go_at_call 59; exact Calls.quiet_of (HEVL.out _ (by exact HMX.out) (by exact HRL.out)))))
                  go_wp2_with fail
                  refine (turn_ow g2 P k2 _ _ (wr.drewN nq) HQK.out (by omega) (pfl_lt (pm_lt (fun j => Gf.getD_lt (m := 8) HY.out j)) K) hE0 hE1).mono ?_
                  rintro e w8 ⟨rfl, hto, htg, hts⟩
                  have ho : Ow .u8 5 w8 g1 bytes k1 (dfl n8 (rr m t) m l (xs.getD · 0) (K+1)) := by rw [HD'.out]; exact HDK.out.same (htg.block g1 HDK.out.lt (fun e => hg12 (by cases e; rfl)))
                  have hoq : Ow .u8 5 w8 g2 P k2 (pfl (rr m t) m l (pm (rr m t) P (ys.getD · 0)) (K+1)) := by rw [HQ'.out]; rwa [HEN.out] at hto
                  have hkp : Kp w7 w8 g1 g2 := (HBK.out.drewN nq).grown (.inr rfl) htg hts
                  have HO8 := hid ho
                  have HOQ8 := hid hoq
                  have HKP8 := hid hkp
                  clear ho hoq hkp hto htg hts
                  go_wp2_with fail
                  go_roundg (gk - 1)
                  case measure => omega
                  case rel => exact ⟨K + 1, by omega, by go_num, by rw [HC1.out]; go_num, HO8.out, HOQ8.out, HKP8.out⟩
            · have hzb : ((z : Int) != 0) = true := bne_iff_ne.2 (by omega)
              have hrf : rtB m l K = false := by rw [HRT.out]; exact decide_eq_false hz0
              have hc1 : cnt m l (K+1) = cnt m l K := by rw [HRS.out, hrf]; rfl
              have hd' : dfl n8 (rr m t) m l (xs.getD · 0) (K+1) = dfl n8 (rr m t) m l (xs.getD · 0) K := by rw [dfl, hrf]; rfl
              have hq' : pfl (rr m t) m l (pm (rr m t) P (ys.getD · 0)) (K+1) = pfl (rr m t) m l (pm (rr m t) P (ys.getD · 0)) K := by rw [pfl, hrf]; rfl
              have HC1 := hid hc1
              have HD' := hid hd'
              have HQ' := hid hq'
              clear hc1 hd' hq' hrf
              go_wp2_with fail
              go_quiet ((first | (go_at_call 60; exact Calls.quiet_of (HEXP.out _ (by exact HMX.out))) | (go_at_call 59; exact Calls.quiet_of (HEVL.out _ (by exact HMX.out) (by exact HRL.out)))))
              go_wp2_with fail
              go_roundg (gk - 1)
              case measure => omega
              case rel => exact ⟨K + 1, by omega, by go_num, by rw [HC1.out], by rw [HD'.out]; exact HDK.out, by rw [HQ'.out]; exact HQK.out, HBK.out.drewN nq⟩
          · obtain rfl : K = n8 + rr m t := by omega
            go_wp2_with fail
            go_meet
            exact ⟨_, Nat.le_refl _, rfl, .inl rfl, HDK.out, HQK.out, HBK.out⟩
      case rest =>
        obtain ⟨K, hK, rfl, hend, hd, hq, hb⟩ := hcut
        have hcl := cnt_le m l K
        have HDK := hid hd
        have HQK := hid hq
        have HKP := hid hb
        have HEND := hid hend
        have HBF : Hid (Below w.heap.size w wc) := hid (hb.below (HB.out.comp HB7.out) hg1 hg2')
        clear hd hq hb hend HD7 HQ7
        have hsyn := syndromes_any c bytes t m (.slice (some ⟨g1, 0, none⟩) bytes k1) (.slice (some ⟨g2, 0, none⟩) P k2) ((List.range bytes).map (dfl n8 (rr m t) m l (xs.getD · 0) K)) ((List.range P).map (pfl (rr m t) m l (pm (rr m t) P (ys.getD · 0)) K)) wc hp (HH.out.below HBF.out)
          (HDK.out.rd) (HQK.out.rd)
          (fun y hy' => by obtain ⟨j, _, rfl⟩ := List.mem_map.1 hy'; exact dfl_lt (fun j => Gf.getD_lt (m := 8) HX.out j) K j)
          (fun y hy' => by obtain ⟨j, _, rfl⟩ := List.mem_map.1 hy'; exact pfl_lt (pm_lt (fun j => Gf.getD_lt (m := 8) HY.out j)) K j) (by simp) (by simp; have := HPE.out; omega)
        unfold SynRet at hsyn
        have hiff : az (synf m (8 * bytes) (rr m t) (fun x => ((List.range bytes).map (dfl n8 (rr m t) m l (xs.getD · 0) K)).getD x 0) (fun x => ((List.range P).map (pfl (rr m t) m l (pm (rr m t) P (ys.getD · 0)) K)).getD x 0) (8 * bytes) (rr m t)) (2 * t) = true ↔
            ∀ k, k < 2 * t → Gf.syn m (wd (8 * bytes) (rr m t) (dfl n8 (rr m t) m l (xs.getD · 0) K) (pfl (rr m t) m l (pm (rr m t) P (ys.getD · 0)) K)) (8 * bytes + rr m t) (k + 1) = 0 := by
          rw [az_iff]
          have e := fun k => syn_same (m := m) (P := P) (show rr m t ≤ 8 * P by have := HPE.out; omega) (fun j hj => rg_getD (dfl n8 (rr m t) m l (xs.getD · 0) K) bytes j hj) (fun j hj => rg_getD (pfl (rr m t) m l (pm (rr m t) P (ys.getD · 0)) K) P j hj) k
          exact ⟨fun h k hk => by rw [← e]; exact h k hk, fun h k hk => by rw [e]; exact h k hk⟩
        generalize hab : az (synf m (8 * bytes) (rr m t) (fun x => ((List.range bytes).map (dfl n8 (rr m t) m l (xs.getD · 0) K)).getD x 0) (fun x => ((List.range P).map (pfl (rr m t) m l (pm (rr m t) P (ys.getD · 0)) K)).getD x 0) (8 * bytes) (rr m t)) (2 * t) = ab at hsyn hiff
        have HIFF := hid hiff
        have HSYN := hid hsyn
        clear hsyn hiff hab
        have HBAD : Hid (¬ (ab = true ∧ cnt m l K ≤ t) → DecBad m t (8 * bytes) (rr m t) (xs.getD · 0) (ys.getD · 0)) := hid fun hn => by
          have := dec_bad (K := K) hp HPE.out (xs.getD · 0) (ys.getD · 0) S HSLEN.out HSLT.out (fun k hk => by
            rw [← HS.out, rg_getD _ _ _ hk]
            exact syn_same (P := P) (by have := HPE.out; omega) (fun _ _ => rfl) (fun j hj => by rw [← HQ1.out]; exact rg_getD _ _ _ hj) k) (by rw [HN8.out]; exact hK) (by rw [HN8.out, HL.out]; exact HEND.out)
          rw [HN8.out] at this ⊢
          rw [HL.out] at this
          refine this fun h => hn ⟨?_, h.2⟩
          have := HIFF.out
          rw [HN8.out] at this
          exact this.2 h.1
        go_wp2_with fail
        refine HSYN.out.mono ?_
        rintro e w9 ⟨⟨g9, hg9, rfl, hc9⟩, hb9⟩
        have HC9 : Hid (CodeAt w9 c bytes t m) := hid (HH.out.below (HBF.out.comp hb9))
        have hc92 : w9.cell? ⟨c, 2, none⟩ = some (.int .i64 t) := by obtain ⟨fb, gv, h1, h2, h3⟩ := HC9.out; exact cell_at h1 2
        have HB9 := hid hb9
        clear hc9 hb9 HSYN
        cases ab with
        | false =>
          go_wp2_with fail
          rw [Exit.noGoto_ret]
          refine bodyPost_ret (v := .tuple #[.slice none 0 0, .slice none 0 0, .int .i64 0, .int .i64 20]) (by simp [results, Tryz.results35, go_sem]) rfl ⟨.inr ⟨rfl, HBAD.out (by simp)⟩, HBF.out.comp HB9.out⟩
        | true =>
          by_cases hct : cnt m l K ≤ t
          · have HCT := hid hct
            have hct' : ((cnt m l K : Nat) : Int) ≤ (t : Int) := by omega
            clear hct
            go_wp2_with fail
            rw [Exit.noGoto_ret]
            refine bodyPost_ret (v := .tuple #[.slice (some ⟨g1, 0, none⟩) bytes k1, .slice (some ⟨g2, 0, none⟩) P k2, .int .i64 ((cnt m l K : Nat) : Int), .int .i64 0]) (by simp [results, Tryz.results35, go_sem]) rfl ⟨?_, HBF.out.comp HB9.out⟩
            refine .inl ⟨g1, k1, g2, k2, dfl n8 (rr m t) m l (xs.getD · 0) K, pfl (rr m t) m l (pm (rr m t) P (ys.getD · 0)) K, cnt m l K, hg1, hg2', rfl, ?_, ?_, ?_, ?_, ?_⟩
            · exact HDK.out.same (HB9.out.block _ HDK.out.lt)
            · exact HQK.out.same (HB9.out.block _ HQK.out.lt)
            · exact dfl_lt (fun j => Gf.getD_lt (m := 8) HX.out j) K
            · exact pfl_lt (pm_lt (fun j => Gf.getD_lt (m := 8) HY.out j)) K
            · have := dec_good (m := m) (t := t) (bytes := bytes) (K := K) HPE.out (xs.getD · 0) (ys.getD · 0) l (by rw [HN8.out]; exact hK)
              rw [HN8.out] at this ⊢
              have h2 := HIFF.out
              rw [HN8.out] at h2
              exact this (h2.1 (by first | rfl | trivial)) HCT.out
          · have HCT := hid hct
            have hct' : (t : Int) < ((cnt m l K : Nat) : Int) := by omega
            clear hct
            go_wp2_with fail
            rw [Exit.noGoto_ret]
            refine bodyPost_ret (v := .tuple #[.slice none 0 0, .slice none 0 0, .int .i64 0, .int .i64 20]) (by simp [results, Tryz.results35, go_sem]) rfl ⟨.inr ⟨rfl, HBAD.out (fun h => HCT.out h.2)⟩, HBF.out.comp HB9.out⟩
end Go.Proofs.YtoanopegoilcnaaGreat
