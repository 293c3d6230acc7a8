/- Walks over page: what is packed, sector by sector. -/
import Derived.Test.YtoanopegoilcnaaGreatJq
import Derived.Test.YtoanopegoilcnaaGreatJr
import Derived.Test.YtoanopegoilcnaaGreatJl
import Derived.Laws.CopyOwn
import Derived.Deep.RegionHeld3
import Derived.Deep.DrawnRows
set_option linter.unusedVariables false
namespace Go.Proofs.YtoanopegoilcnaaGreat
open Go.RowKit Go.Mem Go.Pg

def B8 (xs : List Nat) : List Value := xs.map fun x => Value.int .u8 (x : Nat)
theorem own_cells {e : TypeId} {B : Nat} {w : World} {g : Nat} {xs : List Nat} (h : w.heap[g]? = some (.cells (B8 xs).toArray e (0, 0))) (hB : B ≤ g) (hl : xs.length ≤ maxLen) : Own .u8 e B w (.slice (some ⟨g, 0, none⟩) xs.length xs.length) xs := by
  refine ⟨by simp, .inr ⟨g, xs.length, (B8 xs).toArray, rfl, hB, h, Nat.le_refl _, hl, by simp [B8], ?_⟩⟩
  simp only [B8]
  exact List.take_of_length_le (by simp)
/-- A head's bytes ahead of its slots. -/
def pre9 (h : Head) : List Nat := [h.kind.toNat] ++ low h.id 4 ++ low h.row.toNat 2 ++ [h.place.toNat, h.width.toNat]
def hdI (h : Head) (I : Nat) : List Nat := pre9 h ++ (h.slots.take I).flatMap slotB
theorem hdI_succ {h : Head} {I : Nat} (hI : I < h.slots.length) : hdI h (I + 1) = hdI h I ++ slotB (h.slots.getD I Slot.zero) := by
  unfold hdI
  rw [List.take_succ_eq_append_getElem hI, List.flatMap_append, ← List.append_assoc, List.getD_eq_getElem?_getD, List.getElem?_eq_getElem hI]
  simp
theorem hdI_len {h : Head} {I : Nat} (hI : I ≤ h.slots.length) : (hdI h I).length = 9 + 11 * I := by
  unfold hdI pre9
  rw [List.length_append, slots_len, List.length_take]
  simp [low_len]; omega
theorem hdI_all (h : Head) : hdI h h.slots.length = headB h := by unfold hdI headB pre9; rw [List.take_length]
theorem rd4 {w : World} {t : TypeId} {a b c d : Nat} {x y z u : Int} (hx : x = (a : Nat)) (hy : y = (b : Nat)) (hz : z = (c : Nat)) (hu : u = (d : Nat)) :
    Rd .u8 (w.alloc (.cells #[.int .u8 x, .int .u8 y, .int .u8 z, .int .u8 u] t)) (.slice (some ⟨w.heap.size, 0, none⟩) 4 4) [a, b, c, d] := by
  subst hx hy hz hu
  have h := alloc_new w (.cells #[.int .u8 (a : Nat), .int .u8 (b : Nat), .int .u8 (c : Nat), .int .u8 (d : Nat)] t)
  refine ⟨_, 4, rfl, Nat.le_refl _, by unfold maxLen; decide, fun j hj => ⟨w.heap.size, 0, rfl, ?_⟩⟩
  simp only [List.length_cons, List.length_nil] at hj
  rw [Nat.zero_add, cell_at h]
  rcases (show j = 0 ∨ j = 1 ∨ j = 2 ∨ j = 3 by omega) with rfl | rfl | rfl | rfl <;> rfl
theorem grown_none {w w' : World} (h : w.grownBy w' none) : Below w.heap.size w w' := ⟨h.os, h.tape, h.output, h.size, fun k hk => h.block k hk (by simp)⟩
theorem cells_of {w : World} {xa : Option Addr} {xi : List Nat} (h : ∀ j, j < xi.length → ∃ g o, xa = some ⟨g, o, none⟩ ∧ w.cell? ⟨g, o + j, none⟩ = some (.int .u8 ((xi.getD j 0 : Nat) : Int))) (h0 : 0 < (B8 xi).length) :
    ∃ ad, xa = some ad ∧ ∀ j v, (B8 xi)[j]? = some v → w.cell? (ad.add j) = some v := by
  obtain ⟨g, o, rfl, _⟩ := h 0 (by simpa [B8] using h0)
  refine ⟨_, rfl, fun j v hv => ?_⟩
  have hj : j < xi.length := by have := (List.getElem?_eq_some_iff.1 hv).1; simpa [B8] using this
  obtain ⟨g', o', he, hc⟩ := h j hj
  cases he
  rw [add_plain, hc]
  unfold B8 at hv
  rw [List.getElem?_map, List.getElem?_eq_getElem hj] at hv
  rw [List.getD_eq_getElem?_getD, List.getElem?_eq_getElem hj]
  simpa using hv
theorem secB_len1 {S : Nat} {x : List Nat} (h : x = [] ∨ x.length = S) : (secB S x).length = S := by
  unfold secB
  split
  · simp
  · rename_i h0
    exact h.resolve_left h0
theorem secs_le {S N T mw mh : Nat} {h : Head} {xs : List (List Nat)} (hL : Lay S N T mw mh) (hc : CanB S N h xs) {I : Nat} (hI : I ≤ 8) : (secsB S T mw h xs I).length ≤ 1000000 := by
  rw [secsB_len hc]
  have hp := hL.pw.r.2.2.2.1
  have h1 : I * wdB S T mw ≤ 8 * wdB S T mw := Nat.mul_le_mul_right _ hI
  have h2 := hL.s2
  unfold wdB pcn at *
  omega
theorem splice_sec {S : Nat} {x : List Nat} (h : x = [] ∨ x.length = S) : splice (fa .u8 S (fun _ => 0)).toList 0 (B8 x) = B8 (secB S x) := by
  unfold splice secB
  rcases h with rfl | h
  · rw [if_pos rfl]
    simp [B8, fa_list]
  · by_cases h0 : x = []
    · subst h0
      rw [if_pos rfl]
      simp [B8, fa_list]
    · rw [if_neg h0]
      have : (B8 x).length = S := by simp [B8, h]
      simp [this, fa_size]

set_option maxRecDepth 100000 in
set_option maxHeartbeats 6400000 in
theorem pack_any (f S N T mw mh : Nat) (v sv : Value) (h : Head) (xs : List (List Nat)) (w : World) (hL : Lay S N T mw mh) (hf : FrAt w f S N T mw mh) (hv : HdV w v h) (hw : h.Wf) (hs : RB w sv xs) (hx : ∀ x ∈ xs, ∀ y ∈ x, y < 256) (hc : CanB S N h xs) :
    Calls Tryz.prog 8 #[.pointer (some ⟨f, 0, none⟩), v, sv] w fun e w' => (∃ v', e = .returned (.tuple #[v', .int .i64 0]) ∧ Own .u8 5 w.heap.size w' v' (packB S N T mw mh h xs)) ∧ Below w.heap.size w w' := by
  have hN8 := hL.n2
  have hS2 := hL.s2
  have hmay := may_any f S N T mw mh
  have HMAY := hid hmay
  have hvh := hv
  obtain ⟨zv, rfl, hsl⟩ := hv
  have hsl0 := hsl
  obtain ⟨za, zcap, rfl, z1, z2, z3⟩ := hsl
  obtain ⟨sa, scap, rfl, s1, s2, s3⟩ := hs
  obtain ⟨c0, c1, c2⟩ := hf.cells
  obtain ⟨cw, ch, c3, c4, k3, k4⟩ := hf.codes
  have hcwl : cw < w.heap.size := by obtain ⟨_, _, h, _⟩ := k3; exact lt_at h
  have hchl : ch < w.heap.size := by obtain ⟨_, _, h, _⟩ := k4; exact lt_at h
  have K3 := hid k3
  have K4 := hid k4
  have C0 := hid c0
  have C3 := hid c3
  have C4 := hid c4
  clear k3 k4 c3 c4
  have hflt : f < w.heap.size := World.block_lt_of_cell? _ _ c1
  have hNl := hc.1.1.2.2.2.2.2.2.2.2
  have hxl := hc.2.1
  have hs1 : (xs.length : Int) ≤ (scap : Int) := by omega
  have hs2 : (scap : Int) ≤ 9223372036854775807 := by unfold maxLen at s2; omega
  have hz1 : (h.slots.length : Int) ≤ (zcap : Int) := by omega
  have hz2 : (zcap : Int) ≤ 9223372036854775807 := by unfold maxLen at z2; omega
  have HF := hid hf
  have HV := hid hsl0
  have HW := hid hw
  have HC := hid hc
  have HX := hid hx
  have HL := hid hL
  have Z3 := hid z3
  have S3 := hid s3
  have HNL := hid hNl
  have HXL := hid hxl
  obtain ⟨kn, hkn⟩ : ∃ kn : Nat, h.kind = kn := ⟨h.kind.toNat, by have := hc.1.1.1; omega⟩
  obtain ⟨rn, hrn⟩ : ∃ rn : Nat, h.row = rn := ⟨h.row.toNat, by have := hc.1.1.2.2.1; omega⟩
  obtain ⟨pn, hpn⟩ : ∃ pn : Nat, h.place = pn := ⟨h.place.toNat, by have := hc.1.1.2.2.2.2.1; omega⟩
  obtain ⟨wn, hwn⟩ : ∃ wn : Nat, h.width = wn := ⟨h.width.toNat, by have := hc.1.1.2.2.2.2.2.2.1; omega⟩
  obtain ⟨id, hid'⟩ : ∃ id : Nat, h.id = id := ⟨_, rfl⟩
  have hk3 : kn ≤ 3 := by have := hc.1.1.2.1; omega
  have hr3 : rn < 65536 := by have := hc.1.1.2.2.2.1; omega
  have hp3 : pn < 256 := by have := hc.1.1.2.2.2.2.2.1; omega
  have hw3 : wn < 256 := by have := hc.1.1.2.2.2.2.2.2.2.1; omega
  have hid3 : id < 4294967296 := by rw [← hid']; exact hw.1.2.1
  have hpre : pre9 h = [kn] ++ low id 4 ++ [rn % 256, rn / 256 % 256, pn, wn] := by
    unfold pre9
    rw [hkn, hrn, hpn, hwn, hid']
    simp [low, Int.toNat_natCast, List.range_succ]
  have HPRE := hid hpre
  have HHV : Hid (∀ W, Below w.heap.size w W → HdV W (.agg #[.int .i64 kn, .int .u32 (id : Nat), .int .i64 rn, .int .i64 pn, .int .i64 wn, .slice za h.slots.length zcap]) h) := by
    rw [← hkn, ← hrn, ← hpn, ← hwn, ← hid']
    exact hid fun W hb => ⟨_, rfl, HV.out.below hb⟩
  have hdt : decide (h.May N) = true := decide_eq_true hc.1
  have HDT := hid hdt
  rw [hkn, hrn, hpn, hwn, hid']
  have hxN : ((xs.length : Int) != (N : Int)) = false := by rw [hxl]; simp
  clear hf hvh hsl0 hw hc hx hL z1 z2 z3 s1 s2 s3 hNl hmay hkn hrn hpn hwn hid' hpre hdt c0 c2
  go_enter Tryz.func8, Tryz.ntmps8
  go_wp2_with fail
  obtain ⟨W, hW⟩ : ∃ W, w.alloc (.cells #[.int .i64 kn, .int .u32 (id : Nat), .int .i64 rn, .int .i64 pn, .int .i64 wn, .slice za h.slots.length zcap] 27) = W := ⟨_, rfl⟩
  have hbx : W.heap[w.heap.size]? = some (.cells #[.int .i64 kn, .int .u32 (id : Nat), .int .i64 rn, .int .i64 pn, .int .i64 wn, .slice za h.slots.length zcap] 27 (0, 0)) := by rw [← hW]; exact alloc_new w _
  have hbW : Below w.heap.size w W := by rw [← hW]; exact (Below.refl _ _).alloc (Nat.le_refl _) _
  have hsz : W.heap.size = w.heap.size + 1 := by rw [← hW]; simp
  rw [hW]
  obtain ⟨b, hbE⟩ : ∃ b, w.heap.size = b := ⟨_, rfl⟩
  rw [hbE] at hbx ⊢
  have HBX := hid hbx
  have HBW := hid hbW
  have HSZ := hid hsz
  have HBE := hid hbE
  clear hW hbx hbW hsz hbE
  refine (HMAY.out _ h W (HF.out.below HBW.out) hN8 (HHV.out W HBW.out) HW.out).mono ?_
  rintro e w1 ⟨rfl, hb1⟩
  rw [HDT.out]
  have hbx1 := (hb1.block b (by have := HSZ.out; have := HBE.out; omega)).trans HBX.out
  have q0 := cell_at hbx1 0
  have q1 := cell_at hbx1 1
  have q2 := cell_at hbx1 2
  have q3 := cell_at hbx1 3
  have q4 := cell_at hbx1 4
  have q5 := cell_at hbx1 5
  have cN : w1.cell? ⟨f, 1, none⟩ = some (.int .i64 N) := (hb1.cell (by have := HSZ.out; show f < _; omega)).trans ((HBW.out.cell hflt).trans c1)
  have hbl1 : b < w1.heap.size := lt_at hbx1
  have hBl : W.heap.size ≤ w1.heap.size := hb1.size
  have HB1 := hid hb1
  have HXL2 := hid hxl
  clear hb1 hbx1 hxl
  go_wp2_with fail
  have hown0 : Own .u8 5 W.heap.size (w1.alloc (.cells #[.int .u8 kn] 5)) (.slice (some ⟨w1.heap.size, 0, none⟩) 1 1) [kn] := own_cells (xs := [kn]) (alloc_new w1 _) hBl (by show 1 ≤ maxLen; unfold maxLen; omega)
  refine (append32_any W.heap.size _ [kn] id _ hown0 (by simp; omega) (by simp) hid3).mono ?_
  rintro e w2 ⟨v2, rfl, h1, h2, h3⟩
  have hb2 : Below W.heap.size W w2 := grow_below (HB1.out.alloc HB1.out.size _) (by simp; omega) h2 (fun g hg => by simp only [Value.ownBlock, Option.some.injEq] at hg; omega)
  have hbx2 := (hb2.block b (by have := HSZ.out; have := HBE.out; omega)).trans HBX.out
  clear q0 q1 q2 q3 q4 q5 cN hown0 h2 h3
  have q2 := cell_at hbx2 2
  have q3 := cell_at hbx2 3
  have q4 := cell_at hbx2 4
  have q5 := cell_at hbx2 5
  have hbl2 : b < w2.heap.size := lt_at hbx2
  have hBl2 : W.heap.size ≤ w2.heap.size := hb2.size
  have H1 := hid h1
  have HB2 := hid hb2
  clear h1 hb2 hbx2
  go_wp2_with (at_builtin; refine app_row el_b8 rfl _ _ rfl W.heap.size v2 ([kn] ++ low id 4) (by rfl) (H1.out.alloc _) [rn % 256, rn / 256 % 256, pn, wn] (by exact rd4 (by omega) (by omega) (by omega) (by omega)) (by simp) (by simp [low_len]) (by simp; omega) ?_; intro g3 cap3 w3 hown hgrow hat; have hb3 : Below W.heap.size W w3 := grow_below (HB2.out.alloc HB2.out.size _) (by simp; omega) hgrow (fun g hg => (H1.out.blk g hg).1); have hbx3 := (hb3.block b (by have := HSZ.out; have := HBE.out; omega)).trans HBX.out; have q5 := cell_at hbx3 5; have HOWN := hid hown; have HB3 := hid hb3; clear hown hgrow hat hb3 hbx3)
  have hown9 : Own .u8 5 W.heap.size w3 (.slice (some ⟨g3, 0, none⟩) 9 cap3) (hdI h 0) := by
    have e : hdI h 0 = [kn] ++ low id 4 ++ [rn % 256, rn / 256 % 256, pn, wn] := by unfold hdI; rw [HPRE.out]; simp
    rw [e]; exact HOWN.out
  have HOWN9 := hid hown9
  have hBLE : w.heap.size ≤ W.heap.size := HBW.out.size
  have hmk := fun w => mk_bytes S (by omega) w
  clear hown9 q5
  go_loopg [8, 9, 58] N (fun gk o hd i wr => ∃ I : Nat, I + gk = N ∧ i = .int .i64 I ∧ Own .u8 5 W.heap.size wr o (secsB S T mw h xs I) ∧ Own .u8 5 W.heap.size wr hd (hdI h I) ∧ (∀ g, o.ownBlock = some g → hd.ownBlock ≠ some g) ∧ Below W.heap.size W wr)
  case atStart => exact ⟨0, by omega, rfl, Own.nil _ _ _ _, HOWN9.out, fun g hg => by simp [Value.ownBlock] at hg, HB3.out⟩
  case round =>
    clear HOWN HOWN9 HB3 HB2 HB1 H1
    obtain ⟨I, hI, rfl, ho, hh, hne, hb⟩ := hrel
    have HO := hid ho
    have HH := hid hh
    have HNE := hid hne
    have HB := hid hb
    clear ho hh hne hb
    by_cases hlt : I < N
    · have hlt2 : I < xs.length := by have := HXL.out; omega
      obtain ⟨sg, so, u, rfl, su, sr⟩ := S3.out I hlt2
      obtain ⟨xi, hxi⟩ : ∃ xi, xs.getD I [] = xi := ⟨_, rfl⟩
      rw [hxi] at sr
      obtain ⟨xa, xcap, rfl, y1, y2, y3⟩ := sr
      have hxs : xi = [] ∨ xi.length = S := by
        rw [← hxi, List.getD_eq_getElem?_getD, List.getElem?_eq_getElem (by have := HXL.out; omega)]
        exact HC.out.2.2 _ (List.getElem_mem _)
      have hBt := hid (HBW.out.comp HB.out)
      have cu := (hBt.out.cell (World.block_lt_of_cell? _ _ su)).trans su
      have cS := (hBt.out.cell (p := ⟨f, 0, none⟩) hflt).trans C0.out
      have hxl600 : xi.length ≤ 256 := by rcases hxs with h | h <;> simp [h] <;> omega
      have hy1 : (xi.length : Int) ≤ (xcap : Int) := by omega
      have hy2 : (xcap : Int) ≤ 9223372036854775807 := by unfold maxLen at y2; omega
      have HXS := hid hxs
      have HXI := hid hxi
      have Y3 := hid y3
      have hIs : (I : Int) < (scap : Int) := by omega
      clear su y1 y2 y3 hxi
      obtain ⟨zg, zo, rfl, sl0', sl1', sl2'⟩ := Z3.out I (by have := HNL.out; omega)
      obtain ⟨s, hs⟩ : ∃ s, h.slots.getD I Slot.zero = s := ⟨_, rfl⟩
      have hsok : s.Ok := by rw [← hs]; exact HC.out.1.2 _ (slot_at HC.out.1 hlt)
      have hsk : s.key < 4294967296 := by rw [← hs]; exact (HW.out.2 _ (slot_at HC.out.1 hlt)).1
      rw [hs] at sl0' sl1' sl2'
      have sl0 := (HBW.out.cell (World.block_lt_of_cell? _ _ sl0')).trans sl0'
      have sl1 := (HBW.out.cell (World.block_lt_of_cell? _ _ sl1')).trans sl1'
      have sl2 := (HBW.out.cell (World.block_lt_of_cell? _ _ sl2')).trans sl2'
      have hsl0 : zg < W.heap.size := World.block_lt_of_cell? _ _ sl0
      have hblW : b < W.heap.size := lt_at HBX.out
      have HS := hid hs
      have HSOK := hid hsok
      have hIz : (I : Int) < (h.slots.length : Int) := by have := HNL.out; omega
      have hI0 : (0 : Int) ≤ (I : Int) := by omega
      clear sl0' sl1' sl2' hs hsok
      by_cases h0 : xi.length = 0
      · have e1 : ((xi.length : Int) != 0) = false := by rw [h0]; rfl
        have HX0 := hid h0
        clear h0 hxs
        go_wp2_with (refine wpList_copy_splice rfl (.tmp 82) (.tmp 83) 39 39 rfl 5 Tryz.underlying39 (by kernel_rfl) (some ⟨wr.heap.size, 0, none⟩) xa S S xi.length xcap (by rfl) (by rfl) wr.heap.size 0 (fa .u8 S (fun _ => 0)).toList 5 (by rw [Array.toArray_toList]; exact alloc_new _ _) (B8 xi) (by rcases HXS.out with h | h <;> simp [B8, h]) (fun hp => ⟨rfl, cells_of (fun j hj => by obtain ⟨g, o, ha, hc⟩ := Y3.out j hj; exact ⟨g, o, ha, (((hBt.out.alloc hBt.out.size _).cell (World.block_lt_of_cell? _ _ hc))).trans hc⟩) hp⟩) (by simp [B8, fa_size]; rcases HXS.out with h | h <;> simp [h]) (fun v hv => by obtain ⟨y, _, rfl⟩ := List.mem_map.1 hv; rfl) wr.heap.size _ ((Below.refl _ _).alloc (Nat.le_refl _) _) (Nat.le_refl _) ?_; intro w4 hg4 hb4; have hg4' := hg4.out; rw [splice_sec HXS.out] at hg4'; have HG4 := hid hg4'; have HB4 := hid hb4; have hbw4 : Below W.heap.size W w4 := HB.out.trans (hb4.mono HB.out.size); have HBW4 := hid hbw4; have q5 := cell_at ((hbw4.block b hblW).trans HBX.out) 5; have y0 := (hbw4.cell hsl0).trans sl0; have y1 := (hbw4.cell hsl0).trans sl1; have y2 := (hbw4.cell hsl0).trans sl2; clear hg4 hg4' hb4 hbw4)
        have hob4 : Own .u8 5 W.heap.size w4 (.slice (some ⟨wr.heap.size, 0, none⟩) S S) (secB S xi) := by
          have hl : (secB S xi).length = S := secB_len1 HXS.out
          have := own_cells (e := 5) (B := W.heap.size) HG4.out HB.out.size (by rw [hl]; unfold maxLen; omega)
          rw [hl] at this
          exact this
        have hsz4 : W.heap.size ≤ w4.heap.size := HBW4.out.size
        have hgr4 : wr.heap.size ≤ w4.heap.size := HB4.out.size
        have hwr4 : wr.heap.size < w4.heap.size := lt_at HG4.out
        have hoo4 : Own .u8 5 W.heap.size w4 u8 (secsB S T mw h xs I) := HO.out.below HB4.out
        have hoh4 : Own .u8 5 W.heap.size w4 u9 (hdI h I) := HH.out.below HB4.out
        have HOB4 := hid hob4
        have HOO4 := hid hoo4
        have HOH4 := hid hoh4
        clear hob4 hoo4 hoh4 q5 y0 y1 y2
        refine (slot_any W.heap.size (.slice none 0 0) [] s w4 (Own.nil _ _ _ _) hsz4 (by simp) HSOK.out hsk).mono ?_
        rintro e w5 ⟨v5, rfl, k1, k2, _⟩
        rw [List.nil_append] at k1
        have hb5 : Below w4.heap.size w4 w5 := grown_none k2
        have K1 := hid k1
        have HB5 := hid hb5
        clear k1 k2 hb5
        go_wp2_with fail
        refine (crcSum_any v5 (slotB s) w5 K1.out.rd (slotB_lt HSOK.out)).mono ?_
        rintro e w6 ⟨rfl, hb6⟩
        have HB6 := hid (HB5.out.comp hb6)
        clear hb6
        go_wp2_with fail
        refine (crcMore_any (sum (slotB s)) _ (secB S xi) w6 (sum_lt (slotB_lt HSOK.out)) (HOB4.out.below HB6.out).rd (by rw [← HXI.out]; exact secB_lt HX.out I)).mono ?_
        rintro e w7 ⟨rfl, hb7⟩
        have HB7 := hid (HB6.out.comp hb7)
        have hbw7 : Below W.heap.size W w7 := HBW4.out.trans (HB7.out.mono hsz4)
        have HBW7 := hid hbw7
        have HB47 := hid (HB4.out.trans (HB7.out.mono hgr4))
        have hsz7 : W.heap.size ≤ w7.heap.size := hbw7.size
        have cW := (hbw7.cell (p := ⟨f, 3, none⟩) (by show f < _; omega)).trans ((HBW.out.cell (p := ⟨f, 3, none⟩) hflt).trans C3.out)
        have hSl : (secB S xi).length = S := secB_len1 HXS.out
        have hlS : (secsB S T mw h xs I).length ≤ 1000000 := secs_le HL.out HC.out (by omega)
        have HSL := hid hSl
        clear hb7 hbw7 hSl
        go_wp2_with fail
        have hne7 : ∀ g, u8.ownBlock = some g → (Value.slice (some ⟨wr.heap.size, 0, none⟩) S S).ownBlock ≠ some g := fun g hg e => by
          have h1 := (HO.out.blk g hg).2
          simp only [Value.ownBlock, Option.some.injEq] at e
          omega
        refine (sealed_any W.heap.size cw S T mw (more (sum (slotB s)) (secB S xi)) u8 (.slice (some ⟨wr.heap.size, 0, none⟩) S S) (secsB S T mw h xs I) (secB S xi) w7 HL.out.pw ((K3.out.below HBW.out).below HBW7.out) (by omega) (fun V hV => ((K3.out.below HBW.out).below (HBW7.out.trans hV))) (HO.out.below HB47.out) (HOB4.out.below HB7.out) hne7 hsz7 hlS HSL.out (by rw [← HXI.out]; exact secB_lt HX.out I) (more_lt (sum_lt (slotB_lt HSOK.out)) (by rw [← HXI.out]; exact secB_lt HX.out I))).mono ?_
        rintro e w8 ⟨v8, rfl, k3, g8, k5⟩
        have hbw8 : Below W.heap.size W w8 := HBW7.out.trans (g8.toBelow hsz7 (fun g hg => (HO.out.blk g hg).1) (fun g hg => by simp only [Value.ownBlock, Option.some.injEq] at hg; subst hg; exact HB.out.size))
        have hoh8 : Own .u8 5 W.heap.size w8 u9 (hdI h I) := (HH.out.below HB47.out).same (fun g hg => by
          have h1 := (HH.out.blk g hg).2
          have h2 := HB47.out.size
          exact g8.block g (by omega) (fun e => HNE.out g e.symm hg) (fun e => by simp only [Value.ownBlock, Option.some.injEq] at e; omega))
        have q5 := cell_at ((hbw8.block b hblW).trans HBX.out) 5
        have y0 := (hbw8.cell hsl0).trans sl0
        have y1 := (hbw8.cell hsl0).trans sl1
        have y2 := (hbw8.cell hsl0).trans sl2
        have hsz8 : W.heap.size ≤ w8.heap.size := hbw8.size
        have hhl : (hdI h I).length ≤ 100000 := by rw [hdI_len (by have := HNL.out; omega)]; omega
        have HOH8 := hid hoh8
        have K3' := hid k3
        have K5 := hid k5
        have HBW8 := hid hbw8
        clear k3 g8 k5 hbw8 hoh8 cW hne7 hlS
        go_wp2_with fail
        refine (slot_any W.heap.size u9 (hdI h I) s w8 HOH8.out hsz8 hhl HSOK.out hsk).mono ?_
        rintro e w9 ⟨v9, rfl, m1, m2, m3⟩
        have M1 := hid m1
        have M2 := hid m2
        have M3 := hid m3
        clear m1 m2 m3 q5 y0 y1 y2
        go_wp2_with fail
        go_roundg (gk - 1)
        case measure => omega
        case rel =>
          refine ⟨I + 1, by omega, by go_num, ?_, ?_, ?_, ?_⟩
          · have hsec : secsB S T mw h xs (I + 1) = secsB S T mw h xs I ++ sealB mw T (secB S xi) (more (sum (slotB s)) (secB S xi)) := by
              rw [secsB_succ]
              unfold sectB sumB
              rw [HXI.out, HS.out]
            rw [hsec]
            refine K3'.out.same (fun g hg => M2.out.block g (K3'.out.blk g hg).2 (fun e => ?_))
            rcases K5.out g hg with h1 | h1
            · exact HNE.out g h1 e.symm
            · have h2 := (HH.out.blk g e.symm).2
              have h3 := HB47.out.size
              omega
          · rw [hdI_succ (by have := HNL.out; omega), HS.out]
            exact M1.out
          · intro g hg e
            rcases M3.out g e with h1 | h1
            · rcases K5.out g hg with h2 | h2
              · exact HNE.out g h2 h1
              · have h3 := (HH.out.blk g h1).2
                have h4 := HB47.out.size
                omega
            · have h2 := (K3'.out.blk g hg).2
              omega
          · exact grow_below HBW8.out hsz8 M2.out (fun g hg => (HOH8.out.blk g hg).1)
      · have e1 : ((xi.length : Int) != 0) = true := by rw [bne_iff_ne]; omega
        have e2 : ((xi.length : Int) != (S : Int)) = false := by rcases hxs with h | h <;> simp [h] at h0 ⊢
        clear h0 hxs
        go_wp2_with (refine wpList_copy_splice rfl (.tmp 82) (.tmp 83) 39 39 rfl 5 Tryz.underlying39 (by kernel_rfl) (some ⟨wr.heap.size, 0, none⟩) xa S S xi.length xcap (by rfl) (by rfl) wr.heap.size 0 (fa .u8 S (fun _ => 0)).toList 5 (by rw [Array.toArray_toList]; exact alloc_new _ _) (B8 xi) (by rcases HXS.out with h | h <;> simp [B8, h]) (fun hp => ⟨rfl, cells_of (fun j hj => by obtain ⟨g, o, ha, hc⟩ := Y3.out j hj; exact ⟨g, o, ha, (((hBt.out.alloc hBt.out.size _).cell (World.block_lt_of_cell? _ _ hc))).trans hc⟩) hp⟩) (by simp [B8, fa_size]; rcases HXS.out with h | h <;> simp [h]) (fun v hv => by obtain ⟨y, _, rfl⟩ := List.mem_map.1 hv; rfl) wr.heap.size _ ((Below.refl _ _).alloc (Nat.le_refl _) _) (Nat.le_refl _) ?_; intro w4 hg4 hb4; have hg4' := hg4.out; rw [splice_sec HXS.out] at hg4'; have HG4 := hid hg4'; have HB4 := hid hb4; have hbw4 : Below W.heap.size W w4 := HB.out.trans (hb4.mono HB.out.size); have HBW4 := hid hbw4; have q5 := cell_at ((hbw4.block b hblW).trans HBX.out) 5; have y0 := (hbw4.cell hsl0).trans sl0; have y1 := (hbw4.cell hsl0).trans sl1; have y2 := (hbw4.cell hsl0).trans sl2; clear hg4 hg4' hb4 hbw4)
        have hob4 : Own .u8 5 W.heap.size w4 (.slice (some ⟨wr.heap.size, 0, none⟩) S S) (secB S xi) := by
          have hl : (secB S xi).length = S := secB_len1 HXS.out
          have := own_cells (e := 5) (B := W.heap.size) HG4.out HB.out.size (by rw [hl]; unfold maxLen; omega)
          rw [hl] at this
          exact this
        have hsz4 : W.heap.size ≤ w4.heap.size := HBW4.out.size
        have hgr4 : wr.heap.size ≤ w4.heap.size := HB4.out.size
        have hwr4 : wr.heap.size < w4.heap.size := lt_at HG4.out
        have hoo4 : Own .u8 5 W.heap.size w4 u8 (secsB S T mw h xs I) := HO.out.below HB4.out
        have hoh4 : Own .u8 5 W.heap.size w4 u9 (hdI h I) := HH.out.below HB4.out
        have HOB4 := hid hob4
        have HOO4 := hid hoo4
        have HOH4 := hid hoh4
        clear hob4 hoo4 hoh4 q5 y0 y1 y2
        refine (slot_any W.heap.size (.slice none 0 0) [] s w4 (Own.nil _ _ _ _) hsz4 (by simp) HSOK.out hsk).mono ?_
        rintro e w5 ⟨v5, rfl, k1, k2, _⟩
        rw [List.nil_append] at k1
        have hb5 : Below w4.heap.size w4 w5 := grown_none k2
        have K1 := hid k1
        have HB5 := hid hb5
        clear k1 k2 hb5
        go_wp2_with fail
        refine (crcSum_any v5 (slotB s) w5 K1.out.rd (slotB_lt HSOK.out)).mono ?_
        rintro e w6 ⟨rfl, hb6⟩
        have HB6 := hid (HB5.out.comp hb6)
        clear hb6
        go_wp2_with fail
        refine (crcMore_any (sum (slotB s)) _ (secB S xi) w6 (sum_lt (slotB_lt HSOK.out)) (HOB4.out.below HB6.out).rd (by rw [← HXI.out]; exact secB_lt HX.out I)).mono ?_
        rintro e w7 ⟨rfl, hb7⟩
        have HB7 := hid (HB6.out.comp hb7)
        have hbw7 : Below W.heap.size W w7 := HBW4.out.trans (HB7.out.mono hsz4)
        have HBW7 := hid hbw7
        have HB47 := hid (HB4.out.trans (HB7.out.mono hgr4))
        have hsz7 : W.heap.size ≤ w7.heap.size := hbw7.size
        have cW := (hbw7.cell (p := ⟨f, 3, none⟩) (by show f < _; omega)).trans ((HBW.out.cell (p := ⟨f, 3, none⟩) hflt).trans C3.out)
        have hSl : (secB S xi).length = S := secB_len1 HXS.out
        have hlS : (secsB S T mw h xs I).length ≤ 1000000 := secs_le HL.out HC.out (by omega)
        have HSL := hid hSl
        clear hb7 hbw7 hSl
        go_wp2_with fail
        have hne7 : ∀ g, u8.ownBlock = some g → (Value.slice (some ⟨wr.heap.size, 0, none⟩) S S).ownBlock ≠ some g := fun g hg e => by
          have h1 := (HO.out.blk g hg).2
          simp only [Value.ownBlock, Option.some.injEq] at e
          omega
        refine (sealed_any W.heap.size cw S T mw (more (sum (slotB s)) (secB S xi)) u8 (.slice (some ⟨wr.heap.size, 0, none⟩) S S) (secsB S T mw h xs I) (secB S xi) w7 HL.out.pw ((K3.out.below HBW.out).below HBW7.out) (by omega) (fun V hV => ((K3.out.below HBW.out).below (HBW7.out.trans hV))) (HO.out.below HB47.out) (HOB4.out.below HB7.out) hne7 hsz7 hlS HSL.out (by rw [← HXI.out]; exact secB_lt HX.out I) (more_lt (sum_lt (slotB_lt HSOK.out)) (by rw [← HXI.out]; exact secB_lt HX.out I))).mono ?_
        rintro e w8 ⟨v8, rfl, k3, g8, k5⟩
        have hbw8 : Below W.heap.size W w8 := HBW7.out.trans (g8.toBelow hsz7 (fun g hg => (HO.out.blk g hg).1) (fun g hg => by simp only [Value.ownBlock, Option.some.injEq] at hg; subst hg; exact HB.out.size))
        have hoh8 : Own .u8 5 W.heap.size w8 u9 (hdI h I) := (HH.out.below HB47.out).same (fun g hg => by
          have h1 := (HH.out.blk g hg).2
          have h2 := HB47.out.size
          exact g8.block g (by omega) (fun e => HNE.out g e.symm hg) (fun e => by simp only [Value.ownBlock, Option.some.injEq] at e; omega))
        have q5 := cell_at ((hbw8.block b hblW).trans HBX.out) 5
        have y0 := (hbw8.cell hsl0).trans sl0
        have y1 := (hbw8.cell hsl0).trans sl1
        have y2 := (hbw8.cell hsl0).trans sl2
        have hsz8 : W.heap.size ≤ w8.heap.size := hbw8.size
        have hhl : (hdI h I).length ≤ 100000 := by rw [hdI_len (by have := HNL.out; omega)]; omega
        have HOH8 := hid hoh8
        have K3' := hid k3
        have K5 := hid k5
        have HBW8 := hid hbw8
        clear k3 g8 k5 hbw8 hoh8 cW hne7 hlS
        go_wp2_with fail
        refine (slot_any W.heap.size u9 (hdI h I) s w8 HOH8.out hsz8 hhl HSOK.out hsk).mono ?_
        rintro e w9 ⟨v9, rfl, m1, m2, m3⟩
        have M1 := hid m1
        have M2 := hid m2
        have M3 := hid m3
        clear m1 m2 m3 q5 y0 y1 y2
        go_wp2_with fail
        go_roundg (gk - 1)
        case measure => omega
        case rel =>
          refine ⟨I + 1, by omega, by go_num, ?_, ?_, ?_, ?_⟩
          · have hsec : secsB S T mw h xs (I + 1) = secsB S T mw h xs I ++ sealB mw T (secB S xi) (more (sum (slotB s)) (secB S xi)) := by
              rw [secsB_succ]
              unfold sectB sumB
              rw [HXI.out, HS.out]
            rw [hsec]
            refine K3'.out.same (fun g hg => M2.out.block g (K3'.out.blk g hg).2 (fun e => ?_))
            rcases K5.out g hg with h1 | h1
            · exact HNE.out g h1 e.symm
            · have h2 := (HH.out.blk g e.symm).2
              have h3 := HB47.out.size
              omega
          · rw [hdI_succ (by have := HNL.out; omega), HS.out]
            exact M1.out
          · intro g hg e
            rcases M3.out g e with h1 | h1
            · rcases K5.out g hg with h2 | h2
              · exact HNE.out g h2 h1
              · have h3 := (HH.out.blk g h1).2
                have h4 := HB47.out.size
                omega
            · have h2 := (K3'.out.blk g hg).2
              omega
          · exact grow_below HBW8.out hsz8 M2.out (fun g hg => (HOH8.out.blk g hg).1)
    · have hlt2 : ¬ I < xs.length := by have := HXL.out; omega
      obtain rfl : N = I := by omega
      have hhd : Own .u8 5 W.heap.size wr u9 (headB h) := by
        have e0 : hdI h N = headB h := by rw [← hdI_all, HNL.out]
        rw [← e0]; exact HH.out
      have hBt := HBW.out.comp HB.out
      have hfr := HF.out.below hBt
      have cH : wr.cell? ⟨f, 4, none⟩ = some (.pointer (some ⟨ch, 0, none⟩)) := (hBt.cell (p := ⟨f, 4, none⟩) hflt).trans C4.out
      have hflr : f < wr.heap.size := Nat.lt_of_lt_of_le hflt hBt.size
      have hszr : W.heap.size ≤ wr.heap.size := HB.out.size
      have hhb := headB_lt HC.out.1
      have hhl := headB_len HC.out.1
      have hlS : (secsB S T mw h xs N).length ≤ 1000000 := secs_le HL.out HC.out (by omega)
      have hT1 := HL.out.t1
      have hT2 := HL.out.t2
      have hrH := HL.out.ph.r.2.2.2.1
      have HHD := hid hhd
      have HFR := hid hfr
      have HHB := hid hhb
      have HHL := hid hhl
      have HSUM : Hid (∀ V, Below wr.heap.size wr V → Calls Tryz.prog 21 #[u9] V fun e w' => e = .returned (.int .u32 (sum (headB h) : Nat)) ∧ Below V.heap.size V w') := hid fun V hV => crcSum_any u9 (headB h) V (HHD.out.below hV).rd HHB.out
      have HEND : Hid (∀ V, Below W.heap.size W V → Calls Tryz.prog 24 #[.pointer (some ⟨f, 0, none⟩)] V fun e w' => e = .returned (.int .i64 ((T / 4 + 1 : Nat) : Int)) ∧ V = w') := hid fun V hV => end_any f S N T mw mh V ((HF.out.below HBW.out).below hV) hT2
      have HSEAL : Hid (∀ V, Below wr.heap.size wr V → Calls Tryz.prog 23 #[u8, u9, .int .u32 (sum (headB h) : Nat), .pointer (some ⟨ch, 0, none⟩)] V fun e w' => ∃ v', e = .returned v' ∧ Own .u8 5 W.heap.size w' v' (secsB S T mw h xs N ++ sealB mh T (headB h) (sum (headB h))) ∧ Below W.heap.size V w') := hid fun V hV =>
        (sealed_any W.heap.size ch (9 + 11 * N) T mh (sum (headB h)) u8 u9 (secsB S T mw h xs N) (headB h) V HL.out.ph (((K4.out.below HBW.out).below HB.out).below hV) (by omega) (fun U hU => (K4.out.below HBW.out).below ((HB.out.trans (hV.mono hszr)).trans hU)) (HO.out.below hV) (HHD.out.below hV) HNE.out (Nat.le_trans hszr hV.size) hlS HHL.out HHB.out (sum_lt HHB.out)).mono fun e w' ⟨v', h1, h2, h3, _⟩ => ⟨v', h1, h2, h3.toBelow (Nat.le_trans hszr hV.size) (fun g hg => (HO.out.blk g hg).1) (fun g hg => (HHD.out.blk g hg).1)⟩
      clear hhd hfr hhb hhl hrH
      go_wp2_with fail
      have hcr : Below wr.heap.size wr wr.drew := (Below.refl _ _).drew
      have hcr0 : Below W.heap.size W wr.drew := HB.out.drew
      have hfW : f < W.heap.size := by have := HBW.out.size; omega
      have hpos : 0 < (secsB S T mw h xs N ++ sealB mh T (headB h) (sum (headB h))).length := by rw [List.length_append, sealB_len]; omega
      have hlen : (secsB S T mw h xs N ++ sealB mh T (headB h) (sum (headB h))).length ≤ 1000000000 := by rw [List.length_append, sealB_len, HHL.out]; have h2 := HL.out.ph.r.2.2.2.1; unfold pcn; omega
      have cHW : W.cell? ⟨f, 4, none⟩ = some (.pointer (some ⟨ch, 0, none⟩)) := (HBW.out.cell (p := ⟨f, 4, none⟩) hflt).trans C4.out
      go_region_held3 (fun w' => w'.cell? ⟨f, 4, none⟩ = some (.pointer (some ⟨ch, 0, none⟩)))
        (first | assumption | exact cH)
        (first
        | (go_at_call 21; refine (HSUM.out _ (by first | assumption | exact hcr)).mono ?_; rintro e wa ⟨rfl, hba⟩; have cHa := (hba.cell (p := ⟨f, 4, none⟩) (by exact hflr)).trans cH; have hba' := hcr.comp hba; have hba0 := hcr0.trans (hba.mono (by exact hszr)))
        | (go_at_call 24; refine (HEND.out _ (by assumption)).mono ?_; rintro e wb ⟨rfl, rfl⟩)
        | (go_at_call 23; refine (HSEAL.out _ (by assumption)).mono ?_; rintro e wc ⟨vc, rfl, hoc, hbc⟩; have hbc0 := hba0.trans hbc; have cHc := (hbc0.cell (p := ⟨f, 4, none⟩) hfW).trans cHW)
        | (refine step_zeros (by rfl) el_b8 Tryz.underlying3 (.tmp 118) (.tmp 120) (by rfl) W.heap.size vc (secsB S T mw h xs N ++ sealB mh T (headB h) (sum (headB h))) (by rfl) hoc hpos (T / 4 + 1) (by rfl) (by omega) (by omega) hlen (by exact hbc0.size) ?_; intro g cap wd hod hgd hatd; have cHd := (World.cell?_of_block (a := ⟨f, 4, none⟩) (hgd.block f (by have := hbc0.size; omega) (fun e => by have := (hoc.blk f e.symm).1; omega))).trans cHc)
        | fail)
      all_goals
        go_wp2_with fail
        go_ret2
        rw [List.length_append] at hod
        refine ⟨⟨_, rfl, ?_⟩, HBW.out.comp (grow_below hbc0 hbc0.size hgd (fun g hg => (hoc.blk g hg).1))⟩
        exact hod.mono hBLE
end Go.Proofs.YtoanopegoilcnaaGreat
