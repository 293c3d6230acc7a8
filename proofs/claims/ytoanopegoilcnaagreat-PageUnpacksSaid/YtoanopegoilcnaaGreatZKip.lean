/- Walks over page: what may not be packed. -/
import Derived.Test.YtoanopegoilcnaaGreatZKi
set_option linter.unusedVariables false
namespace Go.Proofs.YtoanopegoilcnaaGreat
open Go.RowKit Go.Mem Go.Pg

set_option maxRecDepth 100000 in
set_option maxHeartbeats 6400000 in
theorem pack_stop (f S N T mw mh : Nat) (v sv : Value) (h : Head) (xs ys : List (List Nat)) (J : Nat) (w : World) (hL : Lay S N T mw mh) (hf : FrAt w f S N T mw mh) (hv : HdV w v h) (hw : h.Wf) (hs : RB w sv ys) (hyx : ys.length = xs.length) (hJ : J < N) (hgood : ∀ j, j < J → ys.getD j [] = xs.getD j []) (hb1 : ys.getD J [] ≠ []) (hb2 : (ys.getD J []).length ≠ S) (hx : ∀ x ∈ xs, ∀ y ∈ x, y < 256) (hc : CanB S N h xs) :
    Calls Tryz.prog 8 #[.pointer (some ⟨f, 0, none⟩), v, sv] w fun e w' => e = .returned (.tuple #[.slice none 0 0, .int .i64 1]) ∧ Below w.heap.size w w' := by
  have hN8 := hL.n2
  have hS2 := hL.s2
  have hmay := may_any f S N T mw mh
  have HMAY := hid hmay
  have hvh := hv
  obtain ⟨zv, rfl, hsl⟩ := hv
  have hsl0 := hsl
  obtain ⟨za, zcap, rfl, z1, z2, z3⟩ := hsl
  obtain ⟨sa, scap, rfl, s1, s2, s3⟩ := hs
  rw [hyx] at s1 s3 ⊢
  have HGD := hid hgood
  have HBD := hid (And.intro hb1 hb2)
  clear hgood hb1 hb2 hyx
  obtain ⟨c0, c1, c2⟩ := hf.cells
  obtain ⟨cw, ch, c3, c4, k3, k4⟩ := hf.codes
  have hcwl : cw < w.heap.size := by obtain ⟨_, _, h, _⟩ := k3; exact lt_at h
  have hchl : ch < w.heap.size := by obtain ⟨_, _, h, _⟩ := k4; exact lt_at h
  have K3 := hid k3
  have K4 := hid k4
  have C0 := hid c0
  have C3 := hid c3
  have C4 := hid c4
  clear k3 k4 c3 c4
  have hflt : f < w.heap.size := World.block_lt_of_cell? _ _ c1
  have hNl := hc.1.1.2.2.2.2.2.2.2.2
  have hxl := hc.2.1
  have hs1 : (xs.length : Int) ≤ (scap : Int) := by omega
  have hs2 : (scap : Int) ≤ 9223372036854775807 := by unfold maxLen at s2; omega
  have hz1 : (h.slots.length : Int) ≤ (zcap : Int) := by omega
  have hz2 : (zcap : Int) ≤ 9223372036854775807 := by unfold maxLen at z2; omega
  have HF := hid hf
  have HV := hid hsl0
  have HW := hid hw
  have HC := hid hc
  have HX := hid hx
  have HL := hid hL
  have Z3 := hid z3
  have S3 := hid s3
  have HNL := hid hNl
  have HXL := hid hxl
  obtain ⟨kn, hkn⟩ : ∃ kn : Nat, h.kind = kn := ⟨h.kind.toNat, by have := hc.1.1.1; omega⟩
  obtain ⟨rn, hrn⟩ : ∃ rn : Nat, h.row = rn := ⟨h.row.toNat, by have := hc.1.1.2.2.1; omega⟩
  obtain ⟨pn, hpn⟩ : ∃ pn : Nat, h.place = pn := ⟨h.place.toNat, by have := hc.1.1.2.2.2.2.1; omega⟩
  obtain ⟨wn, hwn⟩ : ∃ wn : Nat, h.width = wn := ⟨h.width.toNat, by have := hc.1.1.2.2.2.2.2.2.1; omega⟩
  obtain ⟨id, hid'⟩ : ∃ id : Nat, h.id = id := ⟨_, rfl⟩
  have hk3 : kn ≤ 3 := by have := hc.1.1.2.1; omega
  have hr3 : rn < 65536 := by have := hc.1.1.2.2.2.1; omega
  have hp3 : pn < 256 := by have := hc.1.1.2.2.2.2.2.1; omega
  have hw3 : wn < 256 := by have := hc.1.1.2.2.2.2.2.2.2.1; omega
  have hid3 : id < 4294967296 := by rw [← hid']; exact hw.1.2.1
  have hpre : pre9 h = [kn] ++ low id 4 ++ [rn % 256, rn / 256 % 256, pn, wn] := by
    unfold pre9
    rw [hkn, hrn, hpn, hwn, hid']
    simp [low, Int.toNat_natCast, List.range_succ]
  have HPRE := hid hpre
  have HHV : Hid (∀ W, Below w.heap.size w W → HdV W (.agg #[.int .i64 kn, .int .u32 (id : Nat), .int .i64 rn, .int .i64 pn, .int .i64 wn, .slice za h.slots.length zcap]) h) := by
    rw [← hkn, ← hrn, ← hpn, ← hwn, ← hid']
    exact hid fun W hb => ⟨_, rfl, HV.out.below hb⟩
  have hdt : decide (h.May N) = true := decide_eq_true hc.1
  have HDT := hid hdt
  rw [hkn, hrn, hpn, hwn, hid']
  have hxN : ((xs.length : Int) != (N : Int)) = false := by rw [hxl]; simp
  clear hf hvh hsl0 hw hc hx hL z1 z2 z3 s1 s2 s3 hNl hmay hkn hrn hpn hwn hid' hpre hdt c0 c2
  go_enter Tryz.func8, Tryz.ntmps8
  go_wp2_with fail
  obtain ⟨W, hW⟩ : ∃ W, w.alloc (.cells #[.int .i64 kn, .int .u32 (id : Nat), .int .i64 rn, .int .i64 pn, .int .i64 wn, .slice za h.slots.length zcap] 27) = W := ⟨_, rfl⟩
  have hbx : W.heap[w.heap.size]? = some (.cells #[.int .i64 kn, .int .u32 (id : Nat), .int .i64 rn, .int .i64 pn, .int .i64 wn, .slice za h.slots.length zcap] 27 (0, 0)) := by rw [← hW]; exact alloc_new w _
  have hbW : Below w.heap.size w W := by rw [← hW]; exact (Below.refl _ _).alloc (Nat.le_refl _) _
  have hsz : W.heap.size = w.heap.size + 1 := by rw [← hW]; simp
  rw [hW]
  obtain ⟨b, hbE⟩ : ∃ b, w.heap.size = b := ⟨_, rfl⟩
  rw [hbE] at hbx ⊢
  have HBX := hid hbx
  have HBW := hid hbW
  have HSZ := hid hsz
  have HBE := hid hbE
  clear hW hbx hbW hsz hbE
  refine (HMAY.out _ h W (HF.out.below HBW.out) hN8 (HHV.out W HBW.out) HW.out).mono ?_
  rintro e w1 ⟨rfl, hb1⟩
  rw [HDT.out]
  have hbx1 := (hb1.block b (by have := HSZ.out; have := HBE.out; omega)).trans HBX.out
  have q0 := cell_at hbx1 0
  have q1 := cell_at hbx1 1
  have q2 := cell_at hbx1 2
  have q3 := cell_at hbx1 3
  have q4 := cell_at hbx1 4
  have q5 := cell_at hbx1 5
  have cN : w1.cell? ⟨f, 1, none⟩ = some (.int .i64 N) := (hb1.cell (by have := HSZ.out; show f < _; omega)).trans ((HBW.out.cell hflt).trans c1)
  have hbl1 : b < w1.heap.size := lt_at hbx1
  have hBl : W.heap.size ≤ w1.heap.size := hb1.size
  have HB1 := hid hb1
  have HXL2 := hid hxl
  clear hb1 hbx1 hxl
  go_wp2_with fail
  have hown0 : Own .u8 5 W.heap.size (w1.alloc (.cells #[.int .u8 kn] 5)) (.slice (some ⟨w1.heap.size, 0, none⟩) 1 1) [kn] := own_cells (xs := [kn]) (alloc_new w1 _) hBl (by show 1 ≤ maxLen; unfold maxLen; omega)
  refine (append32_any W.heap.size _ [kn] id _ hown0 (by simp; omega) (by simp) hid3).mono ?_
  rintro e w2 ⟨v2, rfl, h1, h2, h3⟩
  have hb2 : Below W.heap.size W w2 := grow_below (HB1.out.alloc HB1.out.size _) (by simp; omega) h2 (fun g hg => by simp only [Value.ownBlock, Option.some.injEq] at hg; omega)
  have hbx2 := (hb2.block b (by have := HSZ.out; have := HBE.out; omega)).trans HBX.out
  clear q0 q1 q2 q3 q4 q5 cN hown0 h2 h3
  have q2 := cell_at hbx2 2
  have q3 := cell_at hbx2 3
  have q4 := cell_at hbx2 4
  have q5 := cell_at hbx2 5
  have hbl2 : b < w2.heap.size := lt_at hbx2
  have hBl2 : W.heap.size ≤ w2.heap.size := hb2.size
  have H1 := hid h1
  have HB2 := hid hb2
  clear h1 hb2 hbx2
  go_wp2_with (at_builtin; refine app_row el_b8 rfl _ _ rfl W.heap.size v2 ([kn] ++ low id 4) (by rfl) (H1.out.alloc _) [rn % 256, rn / 256 % 256, pn, wn] (by exact rd4 (by omega) (by omega) (by omega) (by omega)) (by simp) (by simp [low_len]) (by simp; omega) ?_; intro g3 cap3 w3 hown hgrow hat; have hb3 : Below W.heap.size W w3 := grow_below (HB2.out.alloc HB2.out.size _) (by simp; omega) hgrow (fun g hg => (H1.out.blk g hg).1); have hbx3 := (hb3.block b (by have := HSZ.out; have := HBE.out; omega)).trans HBX.out; have q5 := cell_at hbx3 5; have HOWN := hid hown; have HB3 := hid hb3; clear hown hgrow hat hb3 hbx3)
  have hown9 : Own .u8 5 W.heap.size w3 (.slice (some ⟨g3, 0, none⟩) 9 cap3) (hdI h 0) := by
    have e : hdI h 0 = [kn] ++ low id 4 ++ [rn % 256, rn / 256 % 256, pn, wn] := by unfold hdI; rw [HPRE.out]; simp
    rw [e]; exact HOWN.out
  have HOWN9 := hid hown9
  have hBLE : w.heap.size ≤ W.heap.size := HBW.out.size
  have hmk := fun w => mk_bytes S (by omega) w
  clear hown9 q5
  go_loopg [8, 9, 58] N (fun gk o hd i wr => ∃ I : Nat, I + gk = N ∧ i = .int .i64 I ∧ I ≤ J ∧ Own .u8 5 W.heap.size wr o (secsB S T mw h xs I) ∧ Own .u8 5 W.heap.size wr hd (hdI h I) ∧ (∀ g, o.ownBlock = some g → hd.ownBlock ≠ some g) ∧ Below W.heap.size W wr)
  case atStart => exact ⟨0, by omega, rfl, Nat.zero_le _, Own.nil _ _ _ _, HOWN9.out, fun g hg => by simp [Value.ownBlock] at hg, HB3.out⟩
  case round =>
    clear HOWN HOWN9 HB3 HB2 HB1 H1
    obtain ⟨I, hI, rfl, hIJ, ho, hh, hne, hb⟩ := hrel
    have HO := hid ho
    have HH := hid hh
    have HNE := hid hne
    have HB := hid hb
    clear ho hh hne hb
    by_cases hltJ : I < J
    · have hlt : I < N := by omega
      have hlt2 : I < xs.length := by have := HXL.out; omega
      obtain ⟨sg, so, u, rfl, su, sr⟩ := S3.out I hlt2
      obtain ⟨xi, hxi⟩ : ∃ xi, xs.getD I [] = xi := ⟨_, rfl⟩
      rw [HGD.out I hltJ, hxi] at sr
      obtain ⟨xa, xcap, rfl, y1, y2, y3⟩ := sr
      have hxs : xi = [] ∨ xi.length = S := by
        rw [← hxi, List.getD_eq_getElem?_getD, List.getElem?_eq_getElem (by have := HXL.out; omega)]
        exact HC.out.2.2 _ (List.getElem_mem _)
      have hBt := hid (HBW.out.comp HB.out)
      have cu := (hBt.out.cell (World.block_lt_of_cell? _ _ su)).trans su
      have cS := (hBt.out.cell (p := ⟨f, 0, none⟩) hflt).trans C0.out
      have hxl600 : xi.length ≤ 256 := by rcases hxs with h | h <;> simp [h] <;> omega
      have hy1 : (xi.length : Int) ≤ (xcap : Int) := by omega
      have hy2 : (xcap : Int) ≤ 9223372036854775807 := by unfold maxLen at y2; omega
      have HXS := hid hxs
      have HXI := hid hxi
      have Y3 := hid y3
      have hIs : (I : Int) < (scap : Int) := by omega
      clear su y1 y2 y3 hxi
      obtain ⟨zg, zo, rfl, sl0', sl1', sl2'⟩ := Z3.out I (by have := HNL.out; omega)
      obtain ⟨s, hs⟩ : ∃ s, h.slots.getD I Slot.zero = s := ⟨_, rfl⟩
      have hsok : s.Ok := by rw [← hs]; exact HC.out.1.2 _ (slot_at HC.out.1 hlt)
      have hsk : s.key < 4294967296 := by rw [← hs]; exact (HW.out.2 _ (slot_at HC.out.1 hlt)).1
      rw [hs] at sl0' sl1' sl2'
      have sl0 := (HBW.out.cell (World.block_lt_of_cell? _ _ sl0')).trans sl0'
      have sl1 := (HBW.out.cell (World.block_lt_of_cell? _ _ sl1')).trans sl1'
      have sl2 := (HBW.out.cell (World.block_lt_of_cell? _ _ sl2')).trans sl2'
      have hsl0 : zg < W.heap.size := World.block_lt_of_cell? _ _ sl0
      have hblW : b < W.heap.size := lt_at HBX.out
      have HS := hid hs
      have HSOK := hid hsok
      have hIz : (I : Int) < (h.slots.length : Int) := by have := HNL.out; omega
      have hI0 : (0 : Int) ≤ (I : Int) := by omega
      clear sl0' sl1' sl2' hs hsok
      by_cases h0 : xi.length = 0
      · have e1 : ((xi.length : Int) != 0) = false := by rw [h0]; rfl
        have HX0 := hid h0
        clear h0 hxs
        go_wp2_with (refine wpList_copy_splice rfl (.tmp 82) (.tmp 83) 39 39 rfl 5 Tryz.underlying39 (by kernel_rfl) (some ⟨wr.heap.size, 0, none⟩) xa S S xi.length xcap (by rfl) (by rfl) wr.heap.size 0 (fa .u8 S (fun _ => 0)).toList 5 (by rw [Array.toArray_toList]; exact alloc_new _ _) (B8 xi) (by rcases HXS.out with h | h <;> simp [B8, h]) (fun hp => ⟨rfl, cells_of (fun j hj => by obtain ⟨g, o, ha, hc⟩ := Y3.out j hj; exact ⟨g, o, ha, (((hBt.out.alloc hBt.out.size _).cell (World.block_lt_of_cell? _ _ hc))).trans hc⟩) hp⟩) (by simp [B8, fa_size]; rcases HXS.out with h | h <;> simp [h]) (fun v hv => by obtain ⟨y, _, rfl⟩ := List.mem_map.1 hv; rfl) wr.heap.size _ ((Below.refl _ _).alloc (Nat.le_refl _) _) (Nat.le_refl _) ?_; intro w4 hg4 hb4; have hg4' := hg4.out; rw [splice_sec HXS.out] at hg4'; have HG4 := hid hg4'; have HB4 := hid hb4; have hbw4 : Below W.heap.size W w4 := HB.out.trans (hb4.mono HB.out.size); have HBW4 := hid hbw4; have q5 := cell_at ((hbw4.block b hblW).trans HBX.out) 5; have y0 := (hbw4.cell hsl0).trans sl0; have y1 := (hbw4.cell hsl0).trans sl1; have y2 := (hbw4.cell hsl0).trans sl2; clear hg4 hg4' hb4 hbw4)
        have hob4 : Own .u8 5 W.heap.size w4 (.slice (some ⟨wr.heap.size, 0, none⟩) S S) (secB S xi) := by
          have hl : (secB S xi).length = S := secB_len1 HXS.out
          have := own_cells (e := 5) (B := W.heap.size) HG4.out HB.out.size (by rw [hl]; unfold maxLen; omega)
          rw [hl] at this
          exact this
        have hsz4 : W.heap.size ≤ w4.heap.size := HBW4.out.size
        have hgr4 : wr.heap.size ≤ w4.heap.size := HB4.out.size
        have hwr4 : wr.heap.size < w4.heap.size := lt_at HG4.out
        have hoo4 : Own .u8 5 W.heap.size w4 u8 (secsB S T mw h xs I) := HO.out.below HB4.out
        have hoh4 : Own .u8 5 W.heap.size w4 u9 (hdI h I) := HH.out.below HB4.out
        have HOB4 := hid hob4
        have HOO4 := hid hoo4
        have HOH4 := hid hoh4
        clear hob4 hoo4 hoh4 q5 y0 y1 y2
        refine (slot_any W.heap.size (.slice none 0 0) [] s w4 (Own.nil _ _ _ _) hsz4 (by simp) HSOK.out hsk).mono ?_
        rintro e w5 ⟨v5, rfl, k1, k2, _⟩
        rw [List.nil_append] at k1
        have hb5 : Below w4.heap.size w4 w5 := grown_none k2
        have K1 := hid k1
        have HB5 := hid hb5
        clear k1 k2 hb5
        go_wp2_with fail
        refine (crcSum_any v5 (slotB s) w5 K1.out.rd (slotB_lt HSOK.out)).mono ?_
        rintro e w6 ⟨rfl, hb6⟩
        have HB6 := hid (HB5.out.comp hb6)
        clear hb6
        go_wp2_with fail
        refine (crcMore_any (sum (slotB s)) _ (secB S xi) w6 (sum_lt (slotB_lt HSOK.out)) (HOB4.out.below HB6.out).rd (by rw [← HXI.out]; exact secB_lt HX.out I)).mono ?_
        rintro e w7 ⟨rfl, hb7⟩
        have HB7 := hid (HB6.out.comp hb7)
        have hbw7 : Below W.heap.size W w7 := HBW4.out.trans (HB7.out.mono hsz4)
        have HBW7 := hid hbw7
        have HB47 := hid (HB4.out.trans (HB7.out.mono hgr4))
        have hsz7 : W.heap.size ≤ w7.heap.size := hbw7.size
        have cW := (hbw7.cell (p := ⟨f, 3, none⟩) (by show f < _; omega)).trans ((HBW.out.cell (p := ⟨f, 3, none⟩) hflt).trans C3.out)
        have hSl : (secB S xi).length = S := secB_len1 HXS.out
        have hlS : (secsB S T mw h xs I).length ≤ 1000000 := secs_le HL.out HC.out (by omega)
        have HSL := hid hSl
        clear hb7 hbw7 hSl
        go_wp2_with fail
        have hne7 : ∀ g, u8.ownBlock = some g → (Value.slice (some ⟨wr.heap.size, 0, none⟩) S S).ownBlock ≠ some g := fun g hg e => by
          have h1 := (HO.out.blk g hg).2
          simp only [Value.ownBlock, Option.some.injEq] at e
          omega
        refine (sealed_any W.heap.size cw S T mw (more (sum (slotB s)) (secB S xi)) u8 (.slice (some ⟨wr.heap.size, 0, none⟩) S S) (secsB S T mw h xs I) (secB S xi) w7 HL.out.pw ((K3.out.below HBW.out).below HBW7.out) (by omega) (fun V hV => ((K3.out.below HBW.out).below (HBW7.out.trans hV))) (HO.out.below HB47.out) (HOB4.out.below HB7.out) hne7 hsz7 hlS HSL.out (by rw [← HXI.out]; exact secB_lt HX.out I) (more_lt (sum_lt (slotB_lt HSOK.out)) (by rw [← HXI.out]; exact secB_lt HX.out I))).mono ?_
        rintro e w8 ⟨v8, rfl, k3, g8, k5⟩
        have hbw8 : Below W.heap.size W w8 := HBW7.out.trans (g8.toBelow hsz7 (fun g hg => (HO.out.blk g hg).1) (fun g hg => by simp only [Value.ownBlock, Option.some.injEq] at hg; subst hg; exact HB.out.size))
        have hoh8 : Own .u8 5 W.heap.size w8 u9 (hdI h I) := (HH.out.below HB47.out).same (fun g hg => by
          have h1 := (HH.out.blk g hg).2
          have h2 := HB47.out.size
          exact g8.block g (by omega) (fun e => HNE.out g e.symm hg) (fun e => by simp only [Value.ownBlock, Option.some.injEq] at e; omega))
        have q5 := cell_at ((hbw8.block b hblW).trans HBX.out) 5
        have y0 := (hbw8.cell hsl0).trans sl0
        have y1 := (hbw8.cell hsl0).trans sl1
        have y2 := (hbw8.cell hsl0).trans sl2
        have hsz8 : W.heap.size ≤ w8.heap.size := hbw8.size
        have hhl : (hdI h I).length ≤ 100000 := by rw [hdI_len (by have := HNL.out; omega)]; omega
        have HOH8 := hid hoh8
        have K3' := hid k3
        have K5 := hid k5
        have HBW8 := hid hbw8
        clear k3 g8 k5 hbw8 hoh8 cW hne7 hlS
        go_wp2_with fail
        refine (slot_any W.heap.size u9 (hdI h I) s w8 HOH8.out hsz8 hhl HSOK.out hsk).mono ?_
        rintro e w9 ⟨v9, rfl, m1, m2, m3⟩
        have M1 := hid m1
        have M2 := hid m2
        have M3 := hid m3
        clear m1 m2 m3 q5 y0 y1 y2
        go_wp2_with fail
        go_roundg (gk - 1)
        case measure => omega
        case rel =>
          refine ⟨I + 1, by omega, by go_num, by omega, ?_, ?_, ?_, ?_⟩
          · have hsec : secsB S T mw h xs (I + 1) = secsB S T mw h xs I ++ sealB mw T (secB S xi) (more (sum (slotB s)) (secB S xi)) := by
              rw [secsB_succ]
              unfold sectB sumB
              rw [HXI.out, HS.out]
            rw [hsec]
            refine K3'.out.same (fun g hg => M2.out.block g (K3'.out.blk g hg).2 (fun e => ?_))
            rcases K5.out g hg with h1 | h1
            · exact HNE.out g h1 e.symm
            · have h2 := (HH.out.blk g e.symm).2
              have h3 := HB47.out.size
              omega
          · rw [hdI_succ (by have := HNL.out; omega), HS.out]
            exact M1.out
          · intro g hg e
            rcases M3.out g e with h1 | h1
            · rcases K5.out g hg with h2 | h2
              · exact HNE.out g h2 h1
              · have h3 := (HH.out.blk g h1).2
                have h4 := HB47.out.size
                omega
            · have h2 := (K3'.out.blk g hg).2
              omega
          · exact grow_below HBW8.out hsz8 M2.out (fun g hg => (HOH8.out.blk g hg).1)
      · have e1 : ((xi.length : Int) != 0) = true := by rw [bne_iff_ne]; omega
        have e2 : ((xi.length : Int) != (S : Int)) = false := by rcases hxs with h | h <;> simp [h] at h0 ⊢
        clear h0 hxs
        go_wp2_with (refine wpList_copy_splice rfl (.tmp 82) (.tmp 83) 39 39 rfl 5 Tryz.underlying39 (by kernel_rfl) (some ⟨wr.heap.size, 0, none⟩) xa S S xi.length xcap (by rfl) (by rfl) wr.heap.size 0 (fa .u8 S (fun _ => 0)).toList 5 (by rw [Array.toArray_toList]; exact alloc_new _ _) (B8 xi) (by rcases HXS.out with h | h <;> simp [B8, h]) (fun hp => ⟨rfl, cells_of (fun j hj => by obtain ⟨g, o, ha, hc⟩ := Y3.out j hj; exact ⟨g, o, ha, (((hBt.out.alloc hBt.out.size _).cell (World.block_lt_of_cell? _ _ hc))).trans hc⟩) hp⟩) (by simp [B8, fa_size]; rcases HXS.out with h | h <;> simp [h]) (fun v hv => by obtain ⟨y, _, rfl⟩ := List.mem_map.1 hv; rfl) wr.heap.size _ ((Below.refl _ _).alloc (Nat.le_refl _) _) (Nat.le_refl _) ?_; intro w4 hg4 hb4; have hg4' := hg4.out; rw [splice_sec HXS.out] at hg4'; have HG4 := hid hg4'; have HB4 := hid hb4; have hbw4 : Below W.heap.size W w4 := HB.out.trans (hb4.mono HB.out.size); have HBW4 := hid hbw4; have q5 := cell_at ((hbw4.block b hblW).trans HBX.out) 5; have y0 := (hbw4.cell hsl0).trans sl0; have y1 := (hbw4.cell hsl0).trans sl1; have y2 := (hbw4.cell hsl0).trans sl2; clear hg4 hg4' hb4 hbw4)
        have hob4 : Own .u8 5 W.heap.size w4 (.slice (some ⟨wr.heap.size, 0, none⟩) S S) (secB S xi) := by
          have hl : (secB S xi).length = S := secB_len1 HXS.out
          have := own_cells (e := 5) (B := W.heap.size) HG4.out HB.out.size (by rw [hl]; unfold maxLen; omega)
          rw [hl] at this
          exact this
        have hsz4 : W.heap.size ≤ w4.heap.size := HBW4.out.size
        have hgr4 : wr.heap.size ≤ w4.heap.size := HB4.out.size
        have hwr4 : wr.heap.size < w4.heap.size := lt_at HG4.out
        have hoo4 : Own .u8 5 W.heap.size w4 u8 (secsB S T mw h xs I) := HO.out.below HB4.out
        have hoh4 : Own .u8 5 W.heap.size w4 u9 (hdI h I) := HH.out.below HB4.out
        have HOB4 := hid hob4
        have HOO4 := hid hoo4
        have HOH4 := hid hoh4
        clear hob4 hoo4 hoh4 q5 y0 y1 y2
        refine (slot_any W.heap.size (.slice none 0 0) [] s w4 (Own.nil _ _ _ _) hsz4 (by simp) HSOK.out hsk).mono ?_
        rintro e w5 ⟨v5, rfl, k1, k2, _⟩
        rw [List.nil_append] at k1
        have hb5 : Below w4.heap.size w4 w5 := grown_none k2
        have K1 := hid k1
        have HB5 := hid hb5
        clear k1 k2 hb5
        go_wp2_with fail
        refine (crcSum_any v5 (slotB s) w5 K1.out.rd (slotB_lt HSOK.out)).mono ?_
        rintro e w6 ⟨rfl, hb6⟩
        have HB6 := hid (HB5.out.comp hb6)
        clear hb6
        go_wp2_with fail
        refine (crcMore_any (sum (slotB s)) _ (secB S xi) w6 (sum_lt (slotB_lt HSOK.out)) (HOB4.out.below HB6.out).rd (by rw [← HXI.out]; exact secB_lt HX.out I)).mono ?_
        rintro e w7 ⟨rfl, hb7⟩
        have HB7 := hid (HB6.out.comp hb7)
        have hbw7 : Below W.heap.size W w7 := HBW4.out.trans (HB7.out.mono hsz4)
        have HBW7 := hid hbw7
        have HB47 := hid (HB4.out.trans (HB7.out.mono hgr4))
        have hsz7 : W.heap.size ≤ w7.heap.size := hbw7.size
        have cW := (hbw7.cell (p := ⟨f, 3, none⟩) (by show f < _; omega)).trans ((HBW.out.cell (p := ⟨f, 3, none⟩) hflt).trans C3.out)
        have hSl : (secB S xi).length = S := secB_len1 HXS.out
        have hlS : (secsB S T mw h xs I).length ≤ 1000000 := secs_le HL.out HC.out (by omega)
        have HSL := hid hSl
        clear hb7 hbw7 hSl
        go_wp2_with fail
        have hne7 : ∀ g, u8.ownBlock = some g → (Value.slice (some ⟨wr.heap.size, 0, none⟩) S S).ownBlock ≠ some g := fun g hg e => by
          have h1 := (HO.out.blk g hg).2
          simp only [Value.ownBlock, Option.some.injEq] at e
          omega
        refine (sealed_any W.heap.size cw S T mw (more (sum (slotB s)) (secB S xi)) u8 (.slice (some ⟨wr.heap.size, 0, none⟩) S S) (secsB S T mw h xs I) (secB S xi) w7 HL.out.pw ((K3.out.below HBW.out).below HBW7.out) (by omega) (fun V hV => ((K3.out.below HBW.out).below (HBW7.out.trans hV))) (HO.out.below HB47.out) (HOB4.out.below HB7.out) hne7 hsz7 hlS HSL.out (by rw [← HXI.out]; exact secB_lt HX.out I) (more_lt (sum_lt (slotB_lt HSOK.out)) (by rw [← HXI.out]; exact secB_lt HX.out I))).mono ?_
        rintro e w8 ⟨v8, rfl, k3, g8, k5⟩
        have hbw8 : Below W.heap.size W w8 := HBW7.out.trans (g8.toBelow hsz7 (fun g hg => (HO.out.blk g hg).1) (fun g hg => by simp only [Value.ownBlock, Option.some.injEq] at hg; subst hg; exact HB.out.size))
        have hoh8 : Own .u8 5 W.heap.size w8 u9 (hdI h I) := (HH.out.below HB47.out).same (fun g hg => by
          have h1 := (HH.out.blk g hg).2
          have h2 := HB47.out.size
          exact g8.block g (by omega) (fun e => HNE.out g e.symm hg) (fun e => by simp only [Value.ownBlock, Option.some.injEq] at e; omega))
        have q5 := cell_at ((hbw8.block b hblW).trans HBX.out) 5
        have y0 := (hbw8.cell hsl0).trans sl0
        have y1 := (hbw8.cell hsl0).trans sl1
        have y2 := (hbw8.cell hsl0).trans sl2
        have hsz8 : W.heap.size ≤ w8.heap.size := hbw8.size
        have hhl : (hdI h I).length ≤ 100000 := by rw [hdI_len (by have := HNL.out; omega)]; omega
        have HOH8 := hid hoh8
        have K3' := hid k3
        have K5 := hid k5
        have HBW8 := hid hbw8
        clear k3 g8 k5 hbw8 hoh8 cW hne7 hlS
        go_wp2_with fail
        refine (slot_any W.heap.size u9 (hdI h I) s w8 HOH8.out hsz8 hhl HSOK.out hsk).mono ?_
        rintro e w9 ⟨v9, rfl, m1, m2, m3⟩
        have M1 := hid m1
        have M2 := hid m2
        have M3 := hid m3
        clear m1 m2 m3 q5 y0 y1 y2
        go_wp2_with fail
        go_roundg (gk - 1)
        case measure => omega
        case rel =>
          refine ⟨I + 1, by omega, by go_num, by omega, ?_, ?_, ?_, ?_⟩
          · have hsec : secsB S T mw h xs (I + 1) = secsB S T mw h xs I ++ sealB mw T (secB S xi) (more (sum (slotB s)) (secB S xi)) := by
              rw [secsB_succ]
              unfold sectB sumB
              rw [HXI.out, HS.out]
            rw [hsec]
            refine K3'.out.same (fun g hg => M2.out.block g (K3'.out.blk g hg).2 (fun e => ?_))
            rcases K5.out g hg with h1 | h1
            · exact HNE.out g h1 e.symm
            · have h2 := (HH.out.blk g e.symm).2
              have h3 := HB47.out.size
              omega
          · rw [hdI_succ (by have := HNL.out; omega), HS.out]
            exact M1.out
          · intro g hg e
            rcases M3.out g e with h1 | h1
            · rcases K5.out g hg with h2 | h2
              · exact HNE.out g h2 h1
              · have h3 := (HH.out.blk g h1).2
                have h4 := HB47.out.size
                omega
            · have h2 := (K3'.out.blk g hg).2
              omega
          · exact grow_below HBW8.out hsz8 M2.out (fun g hg => (HOH8.out.blk g hg).1)
    · obtain rfl : I = J := by omega
      obtain ⟨sg, so, u, rfl, su, sr⟩ := S3.out I (by have := HXL.out; omega)
      obtain ⟨xi, hxi⟩ : ∃ xi, ys.getD I [] = xi := ⟨_, rfl⟩
      have hbd := HBD.out
      rw [hxi] at sr hbd
      obtain ⟨xa, xcap, rfl, y1, y2, y3⟩ := sr
      have hBt := hid (HBW.out.comp HB.out)
      have cu := (hBt.out.cell (World.block_lt_of_cell? _ _ su)).trans su
      have cS := (hBt.out.cell (p := ⟨f, 0, none⟩) hflt).trans C0.out
      obtain ⟨m, hm⟩ : ∃ m, xi.length = m := ⟨_, rfl⟩
      have hm0 : m ≠ 0 := fun e => hbd.1 (List.eq_nil_of_length_eq_zero (hm.trans e))
      have hmS : m ≠ S := fun e => hbd.2 (hm.trans e)
      rw [hm] at cu y1
      have hy1 : (m : Int) ≤ (xcap : Int) := by omega
      have hy2 : (xcap : Int) ≤ 9223372036854775807 := by unfold maxLen at y2; omega
      have hIs : (I : Int) < (xs.length : Int) := by have := HXL.out; omega
      have hIs2 : (I : Int) < (scap : Int) := by omega
      have e1 : ((m : Int) != 0) = true := by rw [bne_iff_ne]; omega
      have e2 : ((m : Int) != (S : Int)) = true := by rw [bne_iff_ne]; omega
      clear su y1 y2 y3 hxi hbd hm
      go_wp2_with fail
      go_ret2
      exact ⟨rfl, hBt.out⟩

/-- A head that may not be. -/
theorem pack_may (f S N T mw mh : Nat) (v sv : Value) (h : Head) (ys : List (List Nat)) (w : World) (hL : Lay S N T mw mh) (hf : FrAt w f S N T mw mh) (hv : HdV w v h) (hw : h.Wf) (hs : RB w sv ys) (hm : ¬ h.May N ∨ ys.length ≠ N) :
    Calls Tryz.prog 8 #[.pointer (some ⟨f, 0, none⟩), v, sv] w fun e w' => e = .returned (.tuple #[.slice none 0 0, .int .i64 1]) ∧ Below w.heap.size w w' := by
  have hN8 := hL.n2
  have HMAY := hid (may_any f S N T mw mh)
  have HF := hid hf
  have HW := hid hw
  obtain ⟨zv, rfl, hsl⟩ := hv
  have HSL := hid hsl
  obtain ⟨za, zcap, rfl, z1, z2, z3⟩ := hsl
  obtain ⟨sa, scap, rfl, s1, s2, s3⟩ := hs
  obtain ⟨c0, c1, c2⟩ := hf.cells
  have hs1 : (ys.length : Int) ≤ (scap : Int) := by omega
  have hs2 : (scap : Int) ≤ 9223372036854775807 := by unfold maxLen at s2; omega
  have HHV : Hid (∀ W, Below w.heap.size w W → HdV W (.agg #[.int .i64 h.kind, .int .u32 (h.id : Nat), .int .i64 h.row, .int .i64 h.place, .int .i64 h.width, .slice za h.slots.length zcap]) h) := hid fun W hb => ⟨_, rfl, HSL.out.below hb⟩
  have hflt : f < w.heap.size := World.block_lt_of_cell? _ _ c1
  have HM := hid hm
  clear hf hw hL z1 z2 z3 s1 s2 s3 c0 c2 hm
  go_enter Tryz.func8, Tryz.ntmps8
  go_wp2_with fail
  obtain ⟨W, hW⟩ : ∃ W, w.alloc (.cells #[.int .i64 h.kind, .int .u32 (h.id : Nat), .int .i64 h.row, .int .i64 h.place, .int .i64 h.width, .slice za h.slots.length zcap] 27) = W := ⟨_, rfl⟩
  have hbW : Below w.heap.size w W := by rw [← hW]; exact (Below.refl _ _).alloc (Nat.le_refl _) _
  rw [hW]
  have HBW := hid hbW
  clear hW hbW
  refine (HMAY.out _ h W (HF.out.below HBW.out) hN8 (HHV.out W HBW.out) HW.out).mono ?_
  rintro e w1 ⟨rfl, hb1⟩
  have cN : w1.cell? ⟨f, 1, none⟩ = some (.int .i64 N) := (hb1.cell (Nat.lt_of_lt_of_le hflt HBW.out.size)).trans ((HBW.out.cell hflt).trans c1)
  have HB1 := hid (HBW.out.comp hb1)
  clear hb1 c1
  by_cases hmy : h.May N
  · rw [decide_eq_true hmy]
    have hne := HM.out.resolve_left (fun k => k hmy)
    have e1 : ((ys.length : Int) != (N : Int)) = true := by rw [bne_iff_ne]; omega
    clear hmy hne
    go_wp2_with fail
    go_ret2
    exact ⟨rfl, HB1.out⟩
  · rw [decide_eq_false hmy]
    clear hmy
    go_wp2_with fail
    go_ret2
    exact ⟨rfl, HB1.out⟩
/-- Rows that may be packed, in the place of those that may not. -/
def fixR (S : Nat) (ys : List (List Nat)) : List (List Nat) := ys.map fun y => if y.length = S then y else []
instance (S N : Nat) (h : Head) (xs : List (List Nat)) : Decidable (CanB S N h xs) := by unfold CanB; infer_instance
/-- The first row of a wrong length. -/
theorem first_bad {S : Nat} : ∀ {ys : List (List Nat)}, (¬ ∀ x ∈ ys, x = [] ∨ x.length = S) → ∃ J, J < ys.length ∧ (∀ j, j < J → ys.getD j [] = (fixR S ys).getD j []) ∧ ys.getD J [] ≠ [] ∧ (ys.getD J []).length ≠ S
  | [], h => absurd (by simp) h
  | y :: ys, h => by
    by_cases hy : y = [] ∨ y.length = S
    · have h2 : ¬ ∀ x ∈ ys, x = [] ∨ x.length = S := fun k => h (fun x hx => by
        rcases List.mem_cons.1 hx with e | e
        · rw [e]; exact hy
        · exact k x e)
      obtain ⟨J, h3, h4, h5, h6⟩ := first_bad h2
      refine ⟨J + 1, by simpa using h3, fun j hj => ?_, by simpa using h5, by simpa using h6⟩
      cases j with
      | zero =>
        show y = if y.length = S then y else []
        by_cases e : y.length = S
        · rw [if_pos e]
        · rw [if_neg e]; exact hy.resolve_right e
      | succ j => exact h4 j (by omega)
    · refine ⟨0, by simp, fun j hj => by omega, fun e => hy (.inl e), fun e => hy (.inr e)⟩
theorem fixR_can {S N : Nat} {h : Head} {ys : List (List Nat)} (hm : h.May N) (hl : ys.length = N) : CanB S N h (fixR S ys) := by
  refine ⟨hm, by unfold fixR; simpa using hl, fun x hx => ?_⟩
  obtain ⟨y, _, rfl⟩ := List.mem_map.1 hx
  split
  · rename_i e; exact .inr e
  · exact .inl rfl
theorem fixR_lt {S : Nat} {ys : List (List Nat)} (h : ∀ x ∈ ys, ∀ y ∈ x, y < 256) : ∀ x ∈ fixR S ys, ∀ y ∈ x, y < 256 := by
  intro x hx
  obtain ⟨y, hy, rfl⟩ := List.mem_map.1 hx
  split
  · exact h y hy
  · intro z hz; simp at hz
/-- What may not be packed is refused. -/
theorem pack_bad (f S N T mw mh : Nat) (v sv : Value) (h : Head) (ys : List (List Nat)) (w : World) (hL : Lay S N T mw mh) (hf : FrAt w f S N T mw mh) (hv : HdV w v h) (hw : h.Wf) (hs : RB w sv ys) (hx : ∀ x ∈ ys, ∀ y ∈ x, y < 256) (hc : ¬ CanB S N h ys) :
    Calls Tryz.prog 8 #[.pointer (some ⟨f, 0, none⟩), v, sv] w fun e w' => e = .returned (.tuple #[.slice none 0 0, .int .i64 1]) ∧ Below w.heap.size w w' := by
  by_cases h1 : h.May N
  · by_cases h2 : ys.length = N
    · have h3 : ¬ ∀ x ∈ ys, x = [] ∨ x.length = S := fun k => hc ⟨h1, h2, k⟩
      obtain ⟨J, j1, j2, j3, j4⟩ := first_bad h3
      exact pack_stop f S N T mw mh v sv h (fixR S ys) ys J w hL hf hv hw hs (by unfold fixR; simp) (by omega) j2 j3 j4 (fixR_lt hx) (fixR_can h1 h2)
    · exact pack_may f S N T mw mh v sv h ys w hL hf hv hw hs (.inr h2)
  · exact pack_may f S N T mw mh v sv h ys w hL hf hv hw hs (.inl h1)
end Go.Proofs.YtoanopegoilcnaaGreat
