/- Walks over firkinref05: a slot's bytes, a head's, a codeword's; may a head be? -/
import Derived.Test.YtoanopegoilcnaaGreatJv
import Derived.Test.YtoanopegoilcnaaGreatZKi
import Derived.Test.YtoanopegoilcnaaGreatZKw
import Derived.Test.YtoanopegoilcnaaGreatJi
set_option linter.unusedVariables false
namespace Go.Proofs.YtoanopegoilcnaaGreat
open Go.RowKit Go.Mem Go.Pg

set_option maxRecDepth 100000 in
set_option maxHeartbeats 1600000 in
theorem r5slot_any (s : Slot) (w : World) (hs : s.Ok) (hk : s.key < 4294967296) :
    Calls Tryz.prog 28 #[.agg #[.int .u32 (s.key : Nat), .int .i64 s.st, .int .u64 (s.seq : Nat)]] w fun e w' => ∃ v, e = .returned v ∧ Own .u8 5 w.heap.size w' v (slotB s) ∧ Below w.heap.size w w' := by
  obtain ⟨s1, s2, s3⟩ := hs
  obtain ⟨t, ht⟩ : ∃ t : Nat, s.st = t := ⟨s.st.toNat, by omega⟩
  have htt : s.st.toNat = t := by omega
  have hfin : slotB s = low s.key 4 ++ [t] ++ low s.seq 6 := by unfold slotB; rw [htt]
  obtain ⟨key, hkey⟩ : ∃ key, s.key = key := ⟨_, rfl⟩
  obtain ⟨seq, hseq⟩ : ∃ seq, s.seq = seq := ⟨_, rfl⟩
  rw [hkey, hseq] at hfin
  rw [ht, hkey, hseq, hfin]
  rw [hkey] at hk
  rw [hseq] at s3
  have ht3 : t ≤ 3 := by omega
  clear ht htt s1 s2 hkey hseq hfin
  go_enter Tryz.func28, Tryz.ntmps28
  go_upto_region 1 with (fail)
  obtain ⟨W, hW⟩ : ∃ W, w.alloc (.cells #[.int .u32 key, .int .i64 t, .int .u64 seq] 61) = W := ⟨_, rfl⟩
  have hbx : W.heap[w.heap.size]? = some (.cells #[.int .u32 key, .int .i64 t, .int .u64 seq] 61 (0, 0)) := by rw [← hW]; exact alloc_new w _
  have hbW : Below w.heap.size w W := by rw [← hW]; exact (Below.refl _ _).alloc (Nat.le_refl _) _
  rw [hW]
  obtain ⟨b, hbE⟩ : ∃ b, w.heap.size = b := ⟨_, rfl⟩
  rw [hbE] at hbx ⊢
  have q0 := cell_at hbx 0
  have HBX := hid hbx
  have HBW := hid hbW
  clear hW hbx hbW hbE
  go_wp2_with fail
  refine (r5low_any key 4 W (by omega) (by decide)).mono ?_
  rintro e w1 ⟨v1, rfl, h1, hb1⟩
  have hbx1 := (hb1.block b (lt_at HBX.out)).trans HBX.out
  have q1 := cell_at hbx1 1
  have H1 := hid h1
  have HB1 := hid hb1
  have HBX1 := hid hbx1
  clear h1 hb1 hbx1 q0
  go_wp2_with (at_builtin; refine app_one el_b8 rfl _ _ rfl W.heap.size v1 (low key 4) (by rfl) (H1.out.alloc _) ⟨w1.heap.size, 0, none⟩ 1 t rfl (by rw [new_cell]) (by simp [low_len]) (by simp; have := HB1.out.size; omega) ?_; intro g2 cap2 w2 hown hgrow hat; have hb2 : Below W.heap.size W w2 := grow_below (bl_alloc HB1.out _) (by simp; have := HB1.out.size; omega) hgrow (fun g hg => (H1.out.blk g hg).1); have hbx2 := (hb2.block b (lt_at HBX.out)).trans HBX.out; have q2 := cell_at hbx2 2; have H2 := hid hown; have HB2 := hid hb2; clear hown hgrow hat hb2 hbx2)
  refine (r5low_any seq 6 w2 (by omega) (by decide)).mono ?_
  rintro e w3 ⟨v3, rfl, h3, hb3⟩
  have H3 := hid h3
  have H23 := hid (H2.out.below hb3)
  have HB3 := hid (HB2.out.comp hb3)
  clear h3 hb3 q2
  go_wp2_with (at_builtin; refine app_row el_b8 rfl _ _ rfl W.heap.size _ (low key 4 ++ [t]) (by rfl) H23.out (low seq 6) (by exact H3.out.rd) (by simp [low_len]) (by simp [low_len]) HB3.out.size ?_; intro g4 cap4 w4 hown hgrow hat; have hb4 : Below W.heap.size W w4 := grow_below HB3.out HB3.out.size hgrow (fun g hg => (H23.out.blk g hg).1); have H4 := hid hown; have HB4 := hid hb4; clear hown hgrow hat hb4)
  go_ret
  have hle : w.heap.size ≤ W.heap.size := HBW.out.size
  refine ⟨_, rfl, ?_, HBW.out.comp HB4.out⟩
  have := H4.out.mono hle
  simpa [low_len] using this

set_option maxRecDepth 100000 in
set_option maxHeartbeats 1600000 in
theorem r5sealed_any (v1 bv : Value) (bs : List Nat) (n t m S : Nat) (w : World) (hp : Par (n + 4) t m) (h : RC w v1 (n + 4) t m) (hv : Rd .u8 w bv bs) (hbl : bs.length = n) (hn : 1 ≤ n) (hbx : ∀ y ∈ bs, y < 256) (hS : S < 4294967296) :
    Calls Tryz.prog 29 #[v1, bv, .int .u32 S] w fun e w' => ∃ v', e = .returned v' ∧ Own .u8 5 w.heap.size w' v' (sealB m t bs S) ∧ Below w.heap.size w w' := by
  have HP := hid hp
  have hb2 := hp.b2
  have hr := hp.r.2.2.2.1
  have hr1 := hp.r.2.1
  have HRC := hid h
  have HV := hid hv
  have HX := hid hbx
  obtain ⟨gv, rfl, hg⟩ := h
  obtain ⟨ga, gc, rfl, _⟩ := hg
  generalize (Gf.gen m t).reverse.length = gl at *
  have hw : IntKind.u64.wrap (S : Int) = S := by rw [IntKind.wrap_u64]; omega
  have hsx : ∀ y ∈ bs ++ low S 4, y < 256 := by
    intro y hy
    rw [List.mem_append] at hy
    rcases hy with h | h
    · exact hbx y h
    · exact low_lt _ _ y h
  have HSX := hid hsx
  have HBL := hid hbl
  have hi : ((n + 4 : Nat) : Int) = (n : Int) + 4 := by omega
  rw [hi] at HRC ⊢
  clear hp hv hbx hsx hbl hi
  go_enter Tryz.func29, Tryz.ntmps29
  go_upto_region 1 with (fail)
  obtain ⟨W, hW⟩ : ∃ W, w.alloc (.cells #[.int .i64 m, .int .i64 ((n : Int) + 4), .int .i64 t, .slice ga gl gc] 33) = W := ⟨_, rfl⟩
  have hcx : W.heap[w.heap.size]? = some (.cells #[.int .i64 m, .int .i64 ((n : Int) + 4), .int .i64 t, .slice ga gl gc] 33 (0, 0)) := by rw [← hW]; exact alloc_new w _
  have hbW : Below w.heap.size w W := by rw [← hW]; exact (Below.refl _ _).alloc (Nat.le_refl _) _
  rw [hW]
  obtain ⟨b, hbE⟩ : ∃ b, w.heap.size = b := ⟨_, rfl⟩
  rw [hbE] at hcx ⊢
  have HCX := hid hcx
  have HBW := hid hbW
  have HVW := hid (HV.out.below hbW)
  clear hW hcx hbW hbE
  go_wp2_with (at_builtin; refine app_row el_b8 rfl _ _ rfl W.heap.size (.slice none 0 0) [] (by rfl) (Own.nil _ _ _ _) bs (by exact HVW.out) (by rw [HBL.out]; omega) (by rw [HBL.out]; simp; omega) (Nat.le_refl _) ?_; intro g1 cap1 w1 hown hgrow hat; simp only [List.length_nil, Nat.zero_add, List.nil_append] at hown ⊢; rw [HBL.out] at hown ⊢; have hb1 : Below W.heap.size W w1 := grow_below (Below.refl _ _) (Nat.le_refl _) hgrow (fun g hg => by simp [Value.ownBlock] at hg); have H1 := hid hown; have HB1 := hid hb1; clear hown hgrow hat hb1)
  refine (r5low_any S 4 w1 (by omega) (by decide)).mono ?_
  rintro e w2 ⟨v2, rfl, h2, hb2'⟩
  have H2 := hid h2
  have H12 := hid (H1.out.below hb2')
  have HB2 := hid (HB1.out.comp hb2')
  have hll : (low S 4).length = 4 := low_len _ _
  have HLL := hid hll
  clear h2 hb2' hll
  go_wp2_with (at_builtin; refine app_row el_b8 rfl _ _ rfl W.heap.size _ bs (by rfl) H12.out (low S 4) (by exact H2.out.rd) (by rw [HLL.out]; decide) (by rw [HBL.out, HLL.out]; omega) HB2.out.size ?_; rw [HBL.out, HLL.out]; intro g3 cap3 w3 hown hgrow hat; have hb3 : Below W.heap.size W w3 := grow_below HB2.out HB2.out.size hgrow (fun g hg => (H12.out.blk g hg).1); have hbx3 := (hb3.block b (lt_at HCX.out)).trans HCX.out; have q0 := cell_at hbx3 0; have q1 := cell_at hbx3 1; have q2 := cell_at hbx3 2; have q3 := cell_at hbx3 3; have H3 := hid hown; have HB3 := hid hb3; clear hown hgrow hat hb3 hbx3)
  refine (rencode_any _ _ (bs ++ low S 4) (n + 4) t m w3 HP.out (HRC.out.below (HBW.out.comp HB3.out)) H3.out.rd HSX.out (by rw [List.length_append, HBL.out, HLL.out])).mono ?_
  rintro e w4 ⟨p, P, hp1, hP, rfl, hpc, hb4⟩
  have hP1 : 1 ≤ P := by omega
  have hP14 : P ≤ 14 := by omega
  have hpr := Rd.of_fa hpc P P (Nat.le_refl _) (Nat.le_refl _) (by unfold maxLen; omega)
  have HPR := hid hpr
  have HPE := hid hP
  have H34 := hid (H3.out.below hb4)
  have HB4 := hid (HB3.out.comp hb4)
  have hlx : (bs ++ low S 4).length = n + 4 := by rw [List.length_append, HBL.out, HLL.out]
  have HLX := hid hlx
  clear hpr hP hpc hb4 hlx q0 q1 q2 q3 hp1
  go_wp2_with (at_builtin; refine app_row el_b8 rfl _ _ rfl W.heap.size _ (bs ++ low S 4) (by rfl) H34.out ((List.range P).map (par m t (bs ++ low S 4))) (by exact HPR.out) (by simp; omega) (by rw [HLX.out]; simp; omega) HB4.out.size ?_; rw [HLX.out]; intro g5 cap5 w5 hown hgrow hat; have hb5 : Below W.heap.size W w5 := grow_below HB4.out HB4.out.size hgrow (fun g hg => (H34.out.blk g hg).1); have H5 := hid hown; have HB5 := hid hb5; clear hown hgrow hat hb5)
  go_ret
  have hle : w.heap.size ≤ W.heap.size := HBW.out.size
  refine ⟨_, rfl, ?_, HBW.out.comp HB5.out⟩
  have e3 : sealB m t bs S = bs ++ low S 4 ++ (List.range P).map (par m t (bs ++ low S 4)) := by unfold sealB parB pcn; rw [← HPE.out]
  rw [e3]
  have := H5.out.mono hle
  simpa using this

theorem rd2 {w : World} {t : TypeId} {a b : Nat} {x y : Int} (hx : x = (a : Nat)) (hy : y = (b : Nat)) :
    Rd .u8 (w.alloc (.cells #[.int .u8 x, .int .u8 y] t)) (.slice (some ⟨w.heap.size, 0, none⟩) 2 2) [a, b] := by
  subst hx hy
  have h := alloc_new w (.cells #[.int .u8 (a : Nat), .int .u8 (b : Nat)] t)
  refine ⟨_, 2, rfl, Nat.le_refl _, by unfold maxLen; decide, fun j hj => ⟨w.heap.size, 0, rfl, ?_⟩⟩
  simp only [List.length_cons, List.length_nil] at hj
  rw [Nat.zero_add, cell_at h]
  rcases (show j = 0 ∨ j = 1 by omega) with rfl | rfl <;> rfl
set_option maxRecDepth 100000 in
set_option maxHeartbeats 3200000 in
theorem r5head_any (N : Nat) (v : Value) (h : Head) (w : World) (hv : HdV w v h) (hw : h.Wf) (hm : h.May N) (hN : N ≤ 8) :
    Calls Tryz.prog 30 #[v] w fun e w' => ∃ v', e = .returned v' ∧ Own .u8 5 w.heap.size w' v' (headB h) ∧ Below w.heap.size w w' := by
  have HW := hid hw
  have HM := hid hm
  have hNl := hm.1.2.2.2.2.2.2.2.2
  obtain ⟨zv, rfl, hsl⟩ := hv
  obtain ⟨za, zcap, rfl, z1, z2, z3⟩ := hsl
  have Z3 := hid z3
  obtain ⟨kn, hkn⟩ : ∃ kn : Nat, h.kind = kn := ⟨h.kind.toNat, by have := hm.1.1; omega⟩
  obtain ⟨rn, hrn⟩ : ∃ rn : Nat, h.row = rn := ⟨h.row.toNat, by have := hm.1.2.2.1; omega⟩
  obtain ⟨pn, hpn⟩ : ∃ pn : Nat, h.place = pn := ⟨h.place.toNat, by have := hm.1.2.2.2.2.1; omega⟩
  obtain ⟨wn, hwn⟩ : ∃ wn : Nat, h.width = wn := ⟨h.width.toNat, by have := hm.1.2.2.2.2.2.2.1; omega⟩
  obtain ⟨id, hid'⟩ : ∃ id : Nat, h.id = id := ⟨_, rfl⟩
  have hk3 : kn ≤ 3 := by have := hm.1.2.1; omega
  have hr3 : rn < 65536 := by have := hm.1.2.2.2.1; omega
  have hp3 : pn < 256 := by have := hm.1.2.2.2.2.2.1; omega
  have hw3 : wn < 256 := by have := hm.1.2.2.2.2.2.2.2.1; omega
  have hid3 : id < 4294967296 := by rw [← hid']; exact hw.1.2.1
  have hpre : hdI h 0 = [kn] ++ low id 4 ++ low rn 2 ++ [pn, wn] := by
    unfold hdI pre9
    rw [hkn, hrn, hpn, hwn, hid']
    simp
  have HPRE := hid hpre
  have HNL := hid hNl
  obtain ⟨n, hn⟩ : ∃ n, h.slots.length = n := ⟨_, rfl⟩
  have hn8 : n ≤ 8 := by omega
  rw [hkn, hrn, hpn, hwn, hid', hn]
  rw [hn] at z1
  have HN := hid hn
  have hz1 : (n : Int) ≤ (zcap : Int) := by omega
  have hz2 : (zcap : Int) ≤ 9223372036854775807 := by unfold maxLen at z2; omega
  have hw64 : IntKind.u64.wrap (rn : Int) = rn := by rw [IntKind.wrap_u64]; omega
  have hw32 : IntKind.u64.wrap (id : Int) = id := by rw [IntKind.wrap_u64]; omega
  clear z1 z2 z3 hm hw hkn hrn hpn hwn hid' hpre hNl hn
  go_enter Tryz.func30, Tryz.ntmps30
  go_upto_region 1 with (fail)
  obtain ⟨W, hW⟩ : ∃ W, w.alloc (.cells #[.int .i64 kn, .int .u32 (id : Nat), .int .i64 rn, .int .i64 pn, .int .i64 wn, .slice za n zcap] 27) = W := ⟨_, rfl⟩
  have hbx : W.heap[w.heap.size]? = some (.cells #[.int .i64 kn, .int .u32 (id : Nat), .int .i64 rn, .int .i64 pn, .int .i64 wn, .slice za n zcap] 27 (0, 0)) := by rw [← hW]; exact alloc_new w _
  have hbW : Below w.heap.size w W := by rw [← hW]; exact (Below.refl _ _).alloc (Nat.le_refl _) _
  rw [hW]
  obtain ⟨b, hbE⟩ : ∃ b, w.heap.size = b := ⟨_, rfl⟩
  rw [hbE] at hbx ⊢
  have q0 := cell_at hbx 0
  have q1 := cell_at hbx 1
  have HBX := hid hbx
  have HBW := hid hbW
  clear hW hbx hbW hbE
  go_upto_region 2 with (fail)
  obtain ⟨w1, hw1⟩ : ∃ V, W.alloc (.cells #[.int .u8 kn] 5) = V := ⟨_, rfl⟩
  have hown1 : Own .u8 5 W.heap.size w1 (.slice (some ⟨W.heap.size, 0, none⟩) 1 1) [kn] := by rw [← hw1]; exact own_cells (xs := [kn]) (alloc_new W _) (Nat.le_refl _) (by show 1 ≤ maxLen; unfold maxLen; omega)
  have hb1 : Below W.heap.size W w1 := by rw [← hw1]; exact (Below.refl _ _).alloc (Nat.le_refl _) _
  rw [hw1]
  have hbx1 := (hb1.block b (lt_at HBX.out)).trans HBX.out
  have p1 := cell_at hbx1 1
  have H1 := hid hown1
  have HB1 := hid hb1
  clear hw1 hown1 hb1 hbx1 q0 q1
  go_wp2_with fail
  refine (r5low_any id 4 w1 (by omega) (by decide)).mono ?_
  rintro e w2 ⟨v2, rfl, h2, hb2⟩
  have H2 := hid h2
  have H12 := hid (H1.out.below hb2)
  have HB2 := hid (HB1.out.comp hb2)
  clear h2 hb2 p1
  go_wp2_with (at_builtin; refine app_row el_b8 rfl _ _ rfl W.heap.size _ ([kn]) (by rfl) H12.out (low id 4) (by exact H2.out.rd) (by simp [low_len]) (by simp [low_len]) HB2.out.size ?_; intro g3 cap3 w3 hown hgrow hat; have hbn : Below W.heap.size W w3 := grow_below HB2.out HB2.out.size hgrow (fun g hg => (H12.out.blk g hg).1); have hbxn := (hbn.block b (lt_at HBX.out)).trans HBX.out; have p2 := cell_at hbxn 2; have Hg3 := hid hown; have HBg3 := hid hbn; clear hown hgrow hat hbn hbxn)
  refine (r5low_any rn 2 w3 (by omega) (by decide)).mono ?_
  rintro e w4 ⟨v4, rfl, h4, hb4⟩
  have H4 := hid h4
  have H34 := hid (Hg3.out.below hb4)
  have HB4 := hid (HBg3.out.comp hb4)
  clear h4 hb4 p2
  go_upto_region 4 with (at_builtin; refine app_row el_b8 rfl _ _ rfl W.heap.size _ ([kn] ++ low id 4) (by rfl) H34.out (low rn 2) (by exact H4.out.rd) (by simp [low_len]) (by simp [low_len]) HB4.out.size ?_; intro g5 cap5 w5 hown hgrow hat; have hbn : Below W.heap.size W w5 := grow_below HB4.out HB4.out.size hgrow (fun g hg => (H34.out.blk g hg).1); have hbxn := (hbn.block b (lt_at HBX.out)).trans HBX.out; have p3 := cell_at hbxn 3; have p4 := cell_at hbxn 4; have p5 := cell_at hbxn 5; have Hg5 := hid hown; have HBg5 := hid hbn; clear hown hgrow hat hbn hbxn)
  have hrd2 := fun w t => rd2 (w := w) (t := t) (a := pn) (b := wn) (x := (pn : Int)) (y := (wn : Int)) rfl rfl
  have q5 := HBX.out
  clear q5
  go_upto_region 5 with (at_builtin; refine app_row el_b8 rfl _ _ rfl W.heap.size _ ([kn] ++ low id 4 ++ low rn 2) (by rfl) (Hg5.out.alloc _) [pn, wn] (by exact rd2 (by omega) (by omega)) (by simp) (by simp [low_len]) (by simp; have := HBg5.out.size; omega) ?_; intro g6 cap6 w6 hown hgrow hat; have hb6 : Below W.heap.size W w6 := grow_below (bl_alloc HBg5.out _) (by simp; have := HBg5.out.size; omega) hgrow (fun g hg => (Hg5.out.blk g hg).1); have H6 := hid hown; have HB6 := hid hb6; clear hown hgrow hat hb6)
  have hown0 := H6.out
  rw [← HPRE.out] at hown0
  have H60 := hid hown0
  clear hown0 H6 p3 p4 p5 hrd2
  go_wp2_with fail
  go_loopg [3, 4] n (fun gk hd i wr => ∃ I : Nat, I + gk = n ∧ i = .int .i64 I ∧ Own .u8 5 W.heap.size wr hd (hdI h I) ∧ Below W.heap.size W wr)
  case atStart => exact ⟨0, by omega, rfl, H60.out, HB6.out⟩
  case round =>
    clear H60 HB6 Hg5 HBg5 HB4 Hg3 HBg3 HB2 HB1 H1 H12 H2 H4 H34
    obtain ⟨I, hI, rfl, ho, hb⟩ := hrel
    have HO := hid ho
    have HB := hid hb
    have hbxr := (hb.block b (lt_at HBX.out)).trans HBX.out
    have q5 := cell_at hbxr 5
    clear ho hb hbxr
    by_cases hlt : I < n
    · obtain ⟨sg, so, rfl, su0, su1, su2⟩ := Z3.out I (by rw [HN.out]; exact hlt)
      obtain ⟨s, hs⟩ : ∃ s, h.slots.getD I Slot.zero = s := ⟨_, rfl⟩
      have hsm : s ∈ h.slots := by rw [← hs]; exact slot_at HM.out (by have := HN.out; have := HNL.out; omega)
      have hsok := HM.out.2 s hsm
      have hsk := (HW.out.2 s hsm).1
      rw [hs] at su0 su1 su2
      have hBt := HBW.out.comp HB.out
      have c0 := (hBt.cell (World.block_lt_of_cell? _ _ su0)).trans su0
      have c1 := (hBt.cell (World.block_lt_of_cell? _ _ su1)).trans su1
      have c2 := (hBt.cell (World.block_lt_of_cell? _ _ su2)).trans su2
      have hIn : (I : Int) < (n : Int) := by omega
      have HS := hid hs
      have HSOK := hid hsok
      clear su0 su1 su2 hs hsok hBt hsm
      go_wp2_with fail
      refine (r5slot_any s wr HSOK.out hsk).mono ?_
      rintro e w7 ⟨v7, rfl, h7, hb7⟩
      have H7 := hid h7
      have HO7 := hid (HO.out.below hb7)
      have HB7 := hid (HB.out.comp hb7)
      have hll : (slotB s).length = 11 := slotB_len s
      have hlh : (hdI h I).length = 9 + 11 * I := hdI_len (by have := HN.out; omega)
      have HLL := hid hll
      have HLH := hid hlh
      clear h7 hb7 hll hlh c0 c1 c2 q5
      go_wp2_with (at_builtin; refine app_row el_b8 rfl _ _ rfl W.heap.size _ (hdI h I) (by rfl) HO7.out (slotB s) (by exact H7.out.rd) (by rw [HLL.out]; decide) (by rw [HLL.out, HLH.out]; omega) HB7.out.size ?_; intro g8 cap8 w8 hown hgrow hat; have hb8 : Below W.heap.size W w8 := grow_below HB7.out HB7.out.size hgrow (fun g hg => (HO7.out.blk g hg).1); have H8 := hid hown; have HB8 := hid hb8; clear hown hgrow hat hb8)
      go_roundg (gk - 1)
      case measure => omega
      case rel =>
        refine ⟨I + 1, by omega, by go_num, ?_, HB8.out⟩
        rw [hdI_succ (by have := HN.out; omega), HS.out]
        exact H8.out
    · obtain rfl : I = n := by omega
      go_wp2_with fail
      go_ret
      have e0 : hdI h I = headB h := by rw [← hdI_all, HN.out]
      refine ⟨_, rfl, ?_, HBW.out.comp HB.out⟩
      rw [← e0]
      exact HO.out.mono HBW.out.size
end Go.Proofs.YtoanopegoilcnaaGreat
