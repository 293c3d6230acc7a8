/- Walks over firkinref02: parity is encoded; the law of two encoders. -/
import Derived.Test.YtjompiihdnaogaaRed
namespace Go.Proofs.Ytjompiihdnaogaa
open Go.RowKit Go.Mem

theorem bl_getD (f : Nat → Nat) (J i : Nat) (h : i < J) : (bl f J).getD i 0 = (bitAt f i).toNat := rg_getD _ _ _ h
theorem toNat_one (b : Bool) : decide (b.toNat = 1) = b := by cases b <;> rfl
theorem bl_le (f : Nat → Nat) (J : Nat) : ∀ y ∈ bl f J, y ≤ 1 := by
  intro y hy
  obtain ⟨j, _, rfl⟩ := List.mem_map.1 hy
  cases bitAt f j <;> simp
theorem getD_app (a b : List Nat) (i : Nat) : (a ++ b).getD i 0 = if i < a.length then a.getD i 0 else b.getD (i - a.length) 0 := by
  simp only [List.getD]
  split
  · rw [List.getElem?_append_left (by assumption)]
  · rw [List.getElem?_append_right (by omega)]
theorem getD_rep (n i : Nat) : (List.replicate n 0).getD i 0 = 0 := by
  simp only [List.getD]
  by_cases h : i < n <;> simp [h]

/-- The document's parity is the program's. -/
theorem enc_same {bytes t m : Nat} (hp : Par bytes t m) (xs : List Nat) (hl : xs.length = bytes) (hx : ∀ y ∈ xs, y < 256) :
    ∀ j, j < (rr m t + 7) / 8 → byI (rst (Gf.gen m t).reverse (bl (xs.getD · 0) (8 * bytes) ++ List.replicate (rr m t) 0) (rr m t)) (rr m t) j = par m t xs j := by
  have hr := hp.r
  obtain ⟨l, hll⟩ : ∃ l, bl (xs.getD · 0) (8 * bytes) ++ List.replicate (rr m t) 0 = l := ⟨_, rfl⟩
  have hle : ∀ y ∈ l, y ≤ 1 := by
    intro y hy
    rw [← hll] at hy
    rcases List.mem_append.1 hy with h | h
    · exact bl_le _ _ y h
    · rw [(List.mem_replicate.1 h).2]; omega
  have hlen : l.length = 8 * bytes + rr m t := by rw [← hll]; simp [bl]
  have hlg : ∀ i, l.getD i 0 = if i < 8 * bytes then (bitAt (xs.getD · 0) i).toNat else 0 := fun i => by
    rw [← hll, getD_app, bl_len]
    split
    · rw [bl_getD _ _ _ (by assumption)]
    · rw [getD_rep]
  rw [hll]
  have hsyn := fun e he => rst_syn hp.ok hr.1 l hle (by omega) e he
  have hLle := rst_le (t := t) (r := rr m t) hp.ok l hle
  obtain ⟨L, hL⟩ : ∃ L, rst (Gf.gen m t).reverse l (rr m t) = L := ⟨_, rfl⟩
  rw [hL] at hsyn hLle ⊢
  have hd : ∀ j, (fun x => xs.getD x 0) j < 256 := fun j => Gf.getD_lt (m := 8) hx j
  have hcw : Gf.Cw m t (wd (8 * bytes) (rr m t) (xs.getD · 0) (byI L (rr m t))) (8 * bytes + rr m t) := by
    refine Gf.cw_of_exs hp.ok fun e he => ?_
    have hs := hsyn e he
    rw [hlen] at hs
    have e1 : Gf.syn m (wd (8 * bytes) (rr m t) (xs.getD · 0) (byI L (rr m t))) (8 * bytes + rr m t) e =
        Gf.syn m (fun p => fw (l.getD · 0) (8 * bytes + rr m t) p ^^ (decide (p < rr m t) && fw (L.getD · 0) (rr m t) p)) (8 * bytes + rr m t) e := by
      refine Gf.syn_congr e (fun p hp' => ?_)
      unfold fw
      show _ = (decide (l.getD (8 * bytes + rr m t - 1 - p) 0 = 1) ^^ (decide (p < rr m t) && decide (L.getD (rr m t - 1 - p) 0 = 1)))
      rw [hlg]
      by_cases hpr : p < rr m t
      · rw [wd_lo hpr, bitAt_byI, if_neg (by omega), decide_eq_true hpr, decide_eq_true (show rr m t - 1 - p < rr m t by omega)]
        simp
      · rw [wd_hi (by omega), if_pos (by omega), decide_eq_false hpr, toNat_one]
        simp
    rw [e1, Gf.syn_xor, ← hs]
    have e2 : Gf.syn m (fun p => decide (p < rr m t) && fw (L.getD · 0) (rr m t) p) (8 * bytes + rr m t) e = Gf.syn m (fw (L.getD · 0) (rr m t)) (rr m t) e := by
      unfold Gf.syn
      rw [Gf.sx_more _ (rr m t) (8 * bytes + rr m t) (by omega) (fun p h1 h2 => if_neg (fun hc => by simp only [Bool.and_eq_true, decide_eq_true_eq] at hc; omega))]
      refine Gf.sx_congr _ (fun p hp' => ?_)
      simp only [decide_eq_true hp', Bool.true_and]
    rw [e2, Nat.xor_self]
  have hpc := par_cw hp xs hl
  have hs := Gf.cw_same hp.ok hr.1 (by omega) hcw hpc (fun p h1 h2 => by rw [wd_hi h1, wd_hi h1])
  exact (wd_bytes (bytes := bytes) (P := (rr m t + 7) / 8) (by omega) hd (byI_lt _ _) hd (par_lt m t xs) hs (fun i h1 h2 => by
    rw [bitAt_byI, par_pad m t xs i h1, decide_eq_false (by omega), Bool.false_and])).2

theorem rep_snoc (n : Nat) : List.replicate (n + 1) 0 = List.replicate n 0 ++ [0] := List.replicate_succ'

set_option maxRecDepth 100000 in
set_option maxHeartbeats 1600000 in
theorem rencode_any (v1 v2 : Value) (xs : List Nat) (bytes t m : Nat) (w : World) (hp : Par bytes t m) (h : RC w v1 bytes t m) (hv : Rd .u8 w v2 xs) (hx : ∀ y ∈ xs, y < 256) (hl : xs.length = bytes) :
    Calls Try.prog 22 #[v1, v2] w fun e w' => ∃ p P, w.heap.size ≤ p ∧ P = (rr m t + 7) / 8 ∧ e = .returned (.tuple #[.slice (some ⟨p, 0, none⟩) P P, .int .i64 0]) ∧ w'.heap[p]? = some (.cells (fa .u8 P (par m t xs)) 5 (0, 0)) ∧ Below w.heap.size w w' := by
  have hsame := hid (enc_same hp xs hl hx)
  have HRC := hid h
  have HX := hid hx
  have b2 := hp.b2
  obtain ⟨gv, rfl, ga, gcap, rfl, h4, h5, h6⟩ := h
  obtain ⟨G, hG⟩ : ∃ G, (Gf.gen m t).reverse = G := ⟨_, rfl⟩
  have HRC' : Hid (RC w (.agg #[.int .i64 m, .int .i64 bytes, .int .i64 t, .slice ga G.length gcap]) bytes t m) := hid (by rw [← hG]; exact HRC.out)
  rw [hG]
  have HG := hid hG
  have HV : Hid (Rd .u8 w v2 xs) := hid hv
  have hr := hp.r
  have r104 := hr.2.2.2.1
  have r1 := hr.2.1
  have hRR := hid (rR_any)
  obtain ⟨xa, xcap, rfl, x1, x2, x3⟩ := hv
  have HL := hid hl
  have hne : ((xs.length : Int) != (bytes : Int)) = false := by simp [hl]
  clear h4 h5 h6 hG HRC x3 hx hl hr
  go_enter Try.func22, Try.ntmps22
  go_wp2_with fail
  refine (rBits_any _ xs _ (HV.out.below ((Below.refl _ w).alloc (Nat.le_refl _) _)) HX.out (by have := HL.out; omega)).mono ?_
  rintro e w1 ⟨o, rfl, ho, hb⟩
  have ho' : Own .i64 3 (w.heap.size + 1) w1 o (bl (xs.getD · 0) (8 * xs.length)) := by simpa using ho
  have hc1 : w1.heap[w.heap.size]? = some (.cells #[.int .i64 m, .int .i64 bytes, .int .i64 t, .slice ga G.length gcap] 29 (0, 0)) := (hb.block _ (by simp)).trans (alloc_new w _)
  have hb1 : Below w.heap.size w w1 := ((Below.refl _ w).alloc (Nat.le_refl _) _).comp hb
  have HO1 := hid ho'
  have HC1 := hid hc1
  have HB1 := hid hb1
  clear ho ho' hc1 hb1 hb hne
  obtain ⟨bs, hbs⟩ : ∃ bs, bl (xs.getD · 0) (8 * xs.length) = bs := ⟨_, rfl⟩
  have hbl : bs.length = 8 * xs.length := by rw [← hbs, bl_len]
  rw [hbs] at HO1
  have HBS := hid hbs
  have HBL := hid hbl
  clear hbs hbl
  go_wp2_with fail
  go_loopg [7, 6] (rr m t) (fun gk i o wr => ∃ I : Nat, I + gk = rr m t ∧ i = .int .i64 I ∧ Own .i64 3 (w.heap.size + 1) wr o (bs ++ List.replicate I 0) ∧ wr.heap[w.heap.size]? = some (.cells #[.int .i64 m, .int .i64 bytes, .int .i64 t, .slice ga G.length gcap] 29 (0, 0)) ∧ Below w.heap.size w wr)
  case atStart => exact ⟨0, by omega, rfl, by simpa using HO1.out, HC1.out, HB1.out⟩
  case round =>
    clear HO1 HC1 HB1
    obtain ⟨I, hI, rfl, ho, hc, hb⟩ := hrel
    have q0 := cell_at hc 0
    have q1 := cell_at hc 1
    have q2 := cell_at hc 2
    have q3 := cell_at hc 3
    have HO := hid ho
    have HC := hid hc
    have HB := hid hb
    clear ho hc hb
    go_wp2_with fail
    refine (rR_any _ bytes t m _ hp (HRC'.out.below HB.out)).mono ?_
    rintro e w2 ⟨rfl, hb2⟩
    have HO2 : Hid (Own .i64 3 (w.heap.size + 1) w2 _ (bs ++ List.replicate I 0)) := hid (HO.out.below hb2)
    have hC2 := (hb2.block _ (lt_at HC.out)).trans HC.out
    have HC2 := hid hC2
    have HB2 := hid (HB.out.comp hb2)
    clear q0 q1 q2 q3 HO HC HB
    by_cases hlt : I < rr m t
    · clear hb2 hC2
      have hlen : (bs ++ List.replicate I 0).length ≤ 1000000000 := by have := HBL.out; have := HL.out; simp; omega
      have HLEN := hid hlen
      have hw2 := lt_at HC2.out
      clear hlen
      go_wp2_with (at_builtin; refine app_one el_int rfl _ _ rfl (w.heap.size + 1) _ (bs ++ List.replicate I 0) rfl (HO2.out.alloc _) ⟨w2.heap.size, 0, none⟩ 1 0 rfl (new_cell _ _ _) HLEN.out (by simp; omega) ?_; intro g2 cap2 w3 hown hgrow hat)
      go_roundg (gk - 1)
      case measure => omega
      case rel =>
        refine ⟨I + 1, by omega, by go_num, ?_, ?_, ?_⟩
        · rw [rep_snoc, ← List.append_assoc]
          have := hown
          simp only [List.length_append, List.length_replicate] at this
          exact this
        · exact (hgrow.block _ (by simp; omega) (fun he => by have := (HO2.out.blk _ he.symm).1; omega)).trans ((alloc_old hw2).trans HC2.out)
        · exact grow_below (HB2.out.alloc (by omega) _) (by simp; omega) hgrow (fun g hg => by have := (HO2.out.blk g hg).1; omega)
    · obtain rfl : I = rr m t := by omega
      have q0 := cell_at hC2 0
      have q1 := cell_at hC2 1
      have q2 := cell_at hC2 2
      have q3 := cell_at hC2 3
      have hlen : (bs ++ List.replicate (rr m t) 0).length = 8 * bytes + rr m t := by have := HBL.out; have := HL.out; simp; omega
      have HLEN := hid hlen
      clear hb2 hC2 hlen
      go_wp2_with fail
      refine (rrest_any _ _ (bs ++ List.replicate (rr m t) 0) bytes t m _ hp (HRC'.out.below HB2.out) HO2.out.rd ?_ ?_ ?_).mono ?_
      · intro y hy
        rw [← HBS.out] at hy
        rcases List.mem_append.1 hy with h | h
        · exact bl_le _ _ y h
        · rw [(List.mem_replicate.1 h).2]; omega
      · rw [HLEN.out]; omega
      · rw [HLEN.out]; omega
      rintro e w4 ⟨v4, rfl, hr4, hb4⟩
      obtain ⟨L, hL⟩ : ∃ L, rst (Gf.gen m t).reverse (bs ++ List.replicate (rr m t) 0) (rr m t) = L := ⟨_, rfl⟩
      have hLl : L.length = rr m t := by rw [← hL, rst_len]
      have hLe : ∀ y ∈ L, y ≤ 1 := by
        rw [← hL]
        refine rst_le hp.ok _ (fun y hy => ?_)
        rw [← HBS.out] at hy
        rcases List.mem_append.1 hy with h | h
        · exact bl_le _ _ y h
        · rw [(List.mem_replicate.1 h).2]; omega
      rw [hL] at hr4
      have HLE := hid hLe
      have HLL := hid hLl
      have HLd := hid hL
      have HR4 := hid hr4
      have HB4 := hid (HB2.out.comp hb4)
      clear hL hLl hLe hr4 hb4 q0 q1 q2 q3
      go_wp2_with fail
      refine (rbytes_any _ L _ HR4.out HLE.out (by rw [HLL.out]; omega)).mono ?_
      rintro e w5 ⟨g5, n5, hg5, hn5', rfl, hc5, hb5⟩
      have HN5 := hid hn5'
      clear hn5'
      go_wp2_with fail
      go_ret2
      refine ⟨g5, n5, Nat.le_trans HB4.out.size hg5, by rw [HN5.out, HLL.out], rfl, ?_, HB4.out.comp hb5⟩
      refine hc5.trans ?_
      rw [fa_congr (fun j hj => ?_)]
      have := hsame.out j (by have := HN5.out; rw [HLL.out] at this; omega)
      rw [← this, HLL.out, ← HLd.out, ← HBS.out, HL.out]
end Go.Proofs.Ytjompiihdnaogaa
