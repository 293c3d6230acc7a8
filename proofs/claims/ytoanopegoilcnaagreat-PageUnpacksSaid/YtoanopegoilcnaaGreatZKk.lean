/- Walks over page: the head of bytes. -/
import Derived.Test.YtoanopegoilcnaaGreatZKj
import Derived.Test.YtoanopegoilcnaaGreatJq
import Derived.Test.YtoanopegoilcnaaGreatJr
import Derived.Test.YtoanopegoilcnaaGreatZKi
import Derived.Deep.RegionLaw
import Derived.Laws.CopyOwn
import Derived.Deep.RegionHeld3
import Derived.Deep.DrawnRows
import Derived.Outline
set_option linter.unusedVariables false
namespace Go.Proofs.YtoanopegoilcnaaGreat
open Go.RowKit Go.Mem Go.Pg

set_option maxRecDepth 100000 in
set_option maxHeartbeats 400000 in
theorem uint16_any (v : Value) (xs : List Nat) (w : World) (hv : Rd .u8 w v xs) (hx : ∀ y ∈ xs, y < 256) (hm : 2 ≤ xs.length) :
    Calls Tryz.prog 63 #[v] w fun e w' => e = .returned (.int .u16 (num (xs.take 2) : Nat)) ∧ w = w' := by
  have HA := hid (lowUint_any v xs 2 w hv hx hm (by decide))
  have hlt : num (xs.take 2) < 256 ^ (xs.take 2).length := num_lt (fun y hy => hx y (List.mem_of_mem_take hy))
  rw [List.length_take, show min 2 xs.length = 2 by omega] at hlt
  have hlt' : num (xs.take 2) < 65536 := hlt
  generalize num (xs.take 2) = n at *
  clear hlt
  go_enter Tryz.func63, Tryz.ntmps63
  go_wp2_with fail
  refine HA.out.mono ?_
  rintro e w' ⟨rfl, rfl⟩
  go_wp2_with fail
  go_ret
  exact ⟨rfl, rfl⟩
set_option maxRecDepth 100000 in
set_option maxHeartbeats 400000 in
theorem uint64_any (v : Value) (xs : List Nat) (w : World) (hv : Rd .u8 w v xs) (hx : ∀ y ∈ xs, y < 256) (hm : 8 ≤ xs.length) :
    Calls Tryz.prog 64 #[v] w fun e w' => e = .returned (.int .u64 (num (xs.take 8) : Nat)) ∧ w = w' := by
  have HA := hid (lowUint_any v xs 8 w hv hx hm (by decide))
  generalize num (xs.take 8) = n at *
  go_enter Tryz.func64, Tryz.ntmps64
  go_wp2_with fail
  refine HA.out.mono ?_
  rintro e w' ⟨rfl, rfl⟩
  go_wp2_with fail
  go_ret
  exact ⟨rfl, rfl⟩

theorem _root_.Go.Mem.Rd.caps {k : IntKind} {w : World} {a : Option Addr} {n cap : Nat} {xs : List Nat} (h : Rd k w (.slice a n cap) xs) : n = xs.length ∧ xs.length ≤ cap ∧ cap ≤ maxLen := by
  obtain ⟨a', c', he, h1, h2, _⟩ := h
  simp only [Value.slice.injEq] at he
  obtain ⟨_, rfl, rfl⟩ := he
  exact ⟨rfl, h1, h2⟩
theorem _root_.Go.Mem.Rd.atc {k : IntKind} {w : World} {g o n cap : Nat} {xs : List Nat} (h : Rd k w (.slice (some ⟨g, o, none⟩) n cap) xs) {j : Nat} (hj : j < xs.length) : w.cell? ⟨g, o + j, none⟩ = some (.int k ((xs.getD j 0 : Nat) : Int)) := by
  obtain ⟨a', c', he, h1, h2, hc⟩ := h
  simp only [Value.slice.injEq] at he
  obtain ⟨rfl, _, _⟩ := he
  obtain ⟨g', o', e, hx⟩ := hc j hj
  cases e
  exact hx
theorem el_sl : ElS Tryz.prog 25 61 := ⟨by kernel_rfl, by kernel_rfl⟩
/-- Six cells stored one by one. -/
theorem six_set {W : World} {b : Nat} {a0 a1 a2 a3 a4 a5 : Value} {t : TypeId} (h : W.heap[b]? = some (.cells #[a0, a1, a2, a3, a4, a5] t (0, 0))) (v0 v1 v2 v3 v4 v5 : Value) :
    ((((((W.setCell ⟨b, 0, none⟩ v0).setCell ⟨b, 1, none⟩ v1).setCell ⟨b, 2, none⟩ v2).setCell ⟨b, 3, none⟩ v3).setCell ⟨b, 4, none⟩ v4).setCell ⟨b, 5, none⟩ v5).heap[b]? = some (.cells #[v0, v1, v2, v3, v4, v5] t (0, 0)) := by
  have s0 := set_at h 0 v0
  have s1 := set_at s0 1 v1
  have s2 := set_at s1 2 v2
  have s3 := set_at s2 3 v3
  have s4 := set_at s3 4 v4
  exact set_at s4 5 v5
theorem wf_byte {n : Nat} (h : n < 65536) : (Lit.int .i64 (n : Int)).wf = true := by
  simp [Lit.wf, IntKind.min, IntKind.max, IntKind.bits, IntKind.signed]; omega
theorem headP_wf {N : Nat} {x : List Nat} (hl : x.length = 9 + 11 * N) (hx : ∀ y ∈ x, y < 256) : (headP N x).Wf := by
  have hg : ∀ (l : List Nat) (j : Nat), (∀ y ∈ l, y < 256) → l.getD j 0 < 256 := fun l j h => Gf.getD_lt (m := 8) h j
  have hn : ∀ (l : List Nat) (p n : Nat), (∀ y ∈ l, y < 256) → num (cut l p n) < 256 ^ n := fun l p n h => by
    refine Nat.lt_of_lt_of_le (num_lt (cut_lt h p n)) (Nat.pow_le_pow_right (by decide) ?_)
    unfold cut; rw [List.length_take]; omega
  refine ⟨⟨wf_byte (by have := hg x 0 hx; omega), hn x 1 4 hx, wf_byte (hn x 5 2 hx), wf_byte (by have := hg x 7 hx; omega), wf_byte (by have := hg x 8 hx; omega)⟩, fun s hs => ?_⟩
  obtain ⟨i, _, rfl⟩ := List.mem_map.1 hs
  have hy := cut_lt hx (9 + 11 * i) 11
  refine ⟨hn _ 0 4 hy, wf_byte (by have := hg (cut x (9 + 11 * i) 11) 4 hy; omega), ?_⟩
  have := hn _ 5 6 hy
  exact Nat.lt_of_lt_of_le this (by decide)
set_option maxRecDepth 100000 in
set_option maxHeartbeats 3200000 in
theorem parse_any (f S N T mw mh g o cap : Nat) (x : List Nat) (w : World) (hf : FrAt w f S N T mw mh) (hN1 : 1 ≤ N) (hN : N ≤ 8) (hv : Rd .u8 w (.slice (some ⟨g, o, none⟩) (9 + 11 * N) cap) x) (hl : x.length = 9 + 11 * N) (hx : ∀ y ∈ x, y < 256) :
    Calls Tryz.prog 38 #[.pointer (some ⟨f, 0, none⟩), .slice (some ⟨g, o, none⟩) (9 + 11 * N) cap] w fun e w' =>
      (∃ sv, e = .returned (.tuple #[.agg #[.int .i64 (headP N x).kind, .int .u32 ((headP N x).id : Nat), .int .i64 (headP N x).row, .int .i64 (headP N x).place, .int .i64 (headP N x).width, sv], .bool (decide ((headP N x).May N))]) ∧ OwS 61 (w.heap.size + 1) w' sv (headP N x).slots) ∧ Below w.heap.size w w' := by
  have hcaps := hv.caps
  have hca1 : 9 + 11 * N ≤ cap := by omega
  have hca2 : (cap : Int) ≤ 9223372036854775807 := by have := hcaps.2.2; unfold maxLen at this; omega
  have hca3 := hcaps.2.2
  obtain ⟨W, hW⟩ : ∃ W, w.alloc (.cells #[.int .i64 0, .int .u32 0, .int .i64 0, .int .i64 0, .int .i64 0, .slice none 0 0] 27) = W := ⟨_, rfl⟩
  have hbW : Below w.heap.size w W := by rw [← hW]; exact (Below.refl _ _).alloc (Nat.le_refl _) _
  have hbx : W.heap[w.heap.size]? = some (.cells #[.int .i64 0, .int .u32 0, .int .i64 0, .int .i64 0, .int .i64 0, .slice none 0 0] 27 (0, 0)) := by rw [← hW]; exact alloc_new w _
  have hsz : W.heap.size = w.heap.size + 1 := by rw [← hW]; simp
  have hv0 := hv.below hbW
  have cell : ∀ j, j < 9 + 11 * N → W.cell? ⟨g, o + j, none⟩ = some (.int .u8 ((x.getD j 0 : Nat) : Int)) := fun j hj => hv0.atc (by omega)
  have HWE := hid hW
  have HBW := hid hbW
  have HBX := hid hbx
  have HSZ := hid hsz
  have hgw : g < w.heap.size := World.block_lt_of_cell? _ _ (hv.atc (j := 0) (by omega))
  have c0 := cell 0 (by omega)
  rw [Nat.add_zero] at c0
  have c7 := cell 7 (by omega)
  have c8 := cell 8 (by omega)
  have b0 : x.getD 0 0 < 256 := hx _ (getD_mem (by omega))
  have b7 : x.getD 7 0 < 256 := hx _ (getD_mem (by omega))
  have b8 : x.getD 8 0 < 256 := hx _ (getD_mem (by omega))
  have r1 := rd_cut hv0 hl 1 (8 + 11 * N) (cap - 1) (by omega) (by omega) (by unfold maxLen at *; omega)
  have r5 := rd_cut hv0 hl 5 (4 + 11 * N) (cap - 5) (by omega) (by omega) (by unfold maxLen at *; omega)
  have l1 : (cut x 1 (8 + 11 * N)).length = 8 + 11 * N := cut_len (by omega)
  have l5 : (cut x 5 (4 + 11 * N)).length = 4 + 11 * N := cut_len (by omega)
  have e1 : (cut x 1 (8 + 11 * N)).take 4 = cut x 1 4 := by rw [show 8 + 11 * N = 4 + (4 + 11 * N) by omega]; exact cut_take _ _ _ _
  have e5 : (cut x 5 (4 + 11 * N)).take 2 = cut x 5 2 := by rw [show 4 + 11 * N = 2 + (2 + 11 * N) by omega]; exact cut_take _ _ _ _
  have d1 : 9 + 11 * N - 1 = 8 + 11 * N := by omega
  have d5 : 9 + 11 * N - 5 = 4 + 11 * N := by omega
  have U32 : Hid (∀ k, Calls Tryz.prog 36 #[.slice (some ⟨g, o + 1, none⟩) (8 + 11 * N) (cap - 1)] (W.drewN k) fun e w' => e = .returned (.int .u32 (num (cut x 1 4) : Nat)) ∧ W.drewN k = w') := hid fun k => by
    rw [← e1]; exact uint32_any _ _ _ (r1.drewN k) (cut_lt hx _ _) (by omega)
  have U16 : Hid (∀ k, Calls Tryz.prog 63 #[.slice (some ⟨g, o + 5, none⟩) (9 + 11 * N - 5) (cap - 5)] (W.drewN k) fun e w' => e = .returned (.int .u16 (num (cut x 5 2) : Nat)) ∧ W.drewN k = w') := hid fun k => by
    rw [d5, ← e5]; exact uint16_any _ _ _ (r5.drewN k) (cut_lt hx _ _) (by omega)
  have h16 : num (cut x 5 2) < 65536 := by have := num_lt (cut_lt hx 5 2); rw [cut_len (by omega)] at this; exact this
  have HF := hid hf
  have HV := hid hv
  have HL := hid hl
  have HX := hid hx
  have CELL := hid cell
  obtain ⟨y0, hy0⟩ : ∃ y, x.getD 0 0 = y := ⟨_, rfl⟩
  obtain ⟨y7, hy7⟩ : ∃ y, x.getD 7 0 = y := ⟨_, rfl⟩
  obtain ⟨y8, hy8⟩ : ∃ y, x.getD 8 0 = y := ⟨_, rfl⟩
  obtain ⟨n1, hn1⟩ : ∃ n, num (cut x 1 4) = n := ⟨_, rfl⟩
  obtain ⟨n5, hn5⟩ : ∃ n, num (cut x 5 2) = n := ⟨_, rfl⟩
  rw [hy0] at c0 b0
  rw [hy7] at c7 b7
  rw [hy8] at c8 b8
  rw [hn1] at U32
  rw [hn5] at U16 h16
  have Y0 := hid hy0
  have Y7 := hid hy7
  have Y8 := hid hy8
  have N1 := hid hn1
  have N5 := hid hn5
  have i1 : (1 : Int) ≤ 9 + 11 * (N : Int) := by omega
  have i2 : (9 + 11 * (N : Int)) ≤ (cap : Int) := by omega
  clear hf hv hv0 hl hx cell hW hbW hbx hsz r1 r5 l1 l5 e1 e5 d1 d5 hy0 hy7 hy8 hn1 hn5 hcaps
  go_enter Tryz.func38, Tryz.ntmps38
  go_wp2
  rw [HWE.out]
  obtain ⟨b, hbE⟩ : ∃ b, w.heap.size = b := ⟨_, rfl⟩
  rw [hbE]
  have q0 : W.cell? ⟨b, 0, none⟩ = some (.int .i64 0) := by rw [← hbE]; exact cell_at HBX.out 0
  have q1 : W.cell? ⟨b, 1, none⟩ = some (.int .u32 0) := by rw [← hbE]; exact cell_at HBX.out 1
  have q2 : W.cell? ⟨b, 2, none⟩ = some (.int .i64 0) := by rw [← hbE]; exact cell_at HBX.out 2
  have q3 : W.cell? ⟨b, 3, none⟩ = some (.int .i64 0) := by rw [← hbE]; exact cell_at HBX.out 3
  have q4 : W.cell? ⟨b, 4, none⟩ = some (.int .i64 0) := by rw [← hbE]; exact cell_at HBX.out 4
  have q5 : W.cell? ⟨b, 5, none⟩ = some (.slice none 0 0) := by rw [← hbE]; exact cell_at HBX.out 5
  have fz : ∀ j, W.frozen? ⟨b, j, none⟩ = false := fun j => by rw [← hbE]; exact free_at HBX.out j
  have f0 := fz 0
  have f1 := fz 1
  have f2 := fz 2
  have f3 := fz 3
  have f4 := fz 4
  have f5 := fz 5
  have HBE := hid hbE
  clear hbE fz
  refine wp_region_quiet_tail 20 (by kernel_rfl) (by kernel_rfl) ?_
  simp only [List.take_succ_cons, List.take_zero, List.drop_succ_cons, List.drop_zero]
  repeat (go_big_quiet_step ((first | (go_at_call 36; exact quiet_eq (U32.out _)) | (go_at_call 63; exact quiet_eq (U16.out _)))))
  refine wpQuiet_nil ?_
  intro _ hw'
  obtain ⟨nq, hw''⟩ := hw'
  subst hw''
  go_wp2_with fail
  have hbx' : (W.drewN nq).heap[b]? = some (.cells #[.int .i64 0, .int .u32 0, .int .i64 0, .int .i64 0, .int .i64 0, .slice none 0 0] 27 (0, 0)) := by rw [← HBE.out]; exact HBX.out
  have hV0 := six_set hbx' (.int .i64 y0) (.int .u32 n1) (.int .i64 n5) (.int .i64 y7) (.int .i64 y8) (.slice none 0 0)
  have hVb := bl_set (bl_set (bl_set (bl_set (bl_set (bl_set (bl_drewN HBW.out nq) (p := ⟨b, 0, none⟩) (by have := HBE.out; show w.heap.size ≤ b; omega) (.int .i64 y0)) (p := ⟨b, 1, none⟩) (by have := HBE.out; show w.heap.size ≤ b; omega) (.int .u32 n1)) (p := ⟨b, 2, none⟩) (by have := HBE.out; show w.heap.size ≤ b; omega) (.int .i64 n5)) (p := ⟨b, 3, none⟩) (by have := HBE.out; show w.heap.size ≤ b; omega) (.int .i64 y7)) (p := ⟨b, 4, none⟩) (by have := HBE.out; show w.heap.size ≤ b; omega) (.int .i64 y8)) (p := ⟨b, 5, none⟩) (by have := HBE.out; show w.heap.size ≤ b; omega) (.slice none 0 0)
  obtain ⟨V, hV⟩ : ∃ V, ((((((W.drewN nq).setCell ⟨b, 0, none⟩ (.int .i64 y0)).setCell ⟨b, 1, none⟩ (.int .u32 n1)).setCell ⟨b, 2, none⟩ (.int .i64 n5)).setCell ⟨b, 3, none⟩ (.int .i64 y7)).setCell ⟨b, 4, none⟩ (.int .i64 y8)).setCell ⟨b, 5, none⟩ (.slice none 0 0) = V := ⟨_, rfl⟩
  rw [hV] at hV0 hVb ⊢
  have HV0 := hid hV0
  have HVB := hid hVb
  have hbV : b < V.heap.size := lt_at hV0
  clear hV hV0 hVb hbx' q0 q1 q2 q3 q4 q5 f0 f1 f2 f3 f4 f5 c0 c7 c8 U32 U16 i1
  go_loopg [1] N (fun gk v wr => ∃ (I c' : Nat) (a' : Option Addr) (sv : Value), I + gk = N ∧ v = .slice a' (11 * (N - I)) c' ∧ (I < N → a' = some ⟨g, o + 9 + 11 * I, none⟩ ∧ 11 * (N - I) ≤ c' ∧ c' ≤ maxLen) ∧ wr.heap[b]? = some (.cells #[.int .i64 y0, .int .u32 n1, .int .i64 n5, .int .i64 y7, .int .i64 y8, sv] 27 (0, 0)) ∧
    OwS 61 (b + 1) wr sv ((List.range I).map fun i => slotP (cut x (9 + 11 * i) 11)) ∧ Below w.heap.size w wr)
  case atStart => exact ⟨0, cap - 9, _, _, by omega, rfl, fun _ => ⟨rfl, by omega, by omega⟩, HV0.out, OwS.nil _ _ _, HVB.out⟩
  case round =>
    obtain ⟨I, c', a', sv, hI, rfl, hcap, hbb, how, hb⟩ := hrel
    have HBB := hid hbb
    have HOW := hid how
    have HB := hid hb
    clear hbb how hb HV0 HVB
    by_cases hlt : I < N
    · obtain ⟨rfl, hc1, hc2⟩ := hcap hlt
      obtain ⟨r, hr⟩ : ∃ r, 11 * (N - I) = r := ⟨_, rfl⟩
      have hr11 : 11 ≤ r := by omega
      rw [hr] at hc1 ⊢
      have hc3 : (c' : Int) ≤ 9223372036854775807 := by unfold maxLen at hc2; omega
      have j1 : (11 : Int) ≤ (r : Int) := by omega
      have j2 : (r : Int) ≤ (c' : Int) := by omega
      have j0 : (0 : Int) < (r : Int) := by omega
      have j4 : (4 : Int) < (r : Int) := by omega
      clear hcap
      have hrv := HV.out.below HB.out
      have rdI := rd_cut hrv HL.out (9 + 11 * I) 11 11 (by omega) (by omega) (by unfold maxLen; decide)
      have cl : (cut x (9 + 11 * I) 11).length = 11 := cut_len (by have := HL.out; omega)
      obtain ⟨y, hy⟩ : ∃ y, cut x (9 + 11 * I) 11 = y := ⟨_, rfl⟩
      rw [hy] at rdI cl
      have hyb : ∀ z ∈ y, z < 256 := by rw [← hy]; exact cut_lt HX.out _ _
      have rd6 := rd_cut rdI cl 5 6 6 (by omega) (by omega) (by unfold maxLen; decide)
      have cl6 : (cut y 5 6).length = 6 := cut_len (by omega)
      have c4 := rdI.atc (j := 4) (by omega)
      have b4 : y.getD 4 0 < 256 := hyb _ (getD_mem (by omega))
      obtain ⟨y4, hy4⟩ : ∃ y4, y.getD 4 0 = y4 := ⟨_, rfl⟩
      rw [hy4] at c4 b4
      have haddr : o + (9 + 11 * I) = o + 9 + 11 * I := by omega
      rw [haddr] at c4 rdI rd6
      have hq : b < wr.heap.size := lt_at HBB.out
      have hgr : g < wr.heap.size := by have := HB.out.size; omega
      have rdr : Rd .u8 wr (.slice (some ⟨g, o + 9 + 11 * I, none⟩) r c') (cut x (9 + 11 * I) r) := by
        have := rd_cut hrv HL.out (9 + 11 * I) r c' (by omega) hc1 hc2
        rw [haddr] at this; exact this
      have clr : (cut x (9 + 11 * I) r).length = r := cut_len (by have := HL.out; omega)
      have etk : (cut x (9 + 11 * I) r).take 4 = cut y 0 4 := by
        rw [← hy]
        have e1 : cut x (9 + 11 * I) r = cut x (9 + 11 * I) (4 + (r - 4)) := by congr 1; omega
        rw [e1, cut_take, show (11 : Nat) = 4 + 7 from rfl]
        have e2 : cut (cut x (9 + 11 * I) (4 + 7)) 0 4 = (cut x (9 + 11 * I) (4 + 7)).take 4 := by show ((cut x (9 + 11 * I) (4 + 7)).drop 0).take 4 = _; rw [List.drop_zero]
        rw [e2, cut_take]
      have RDR := hid rdr
      have CLR := hid clr
      have ETK := hid etk
      have RD6 := hid rd6
      have CL6 := hid cl6
      have HY := hid hy
      have HYB := hid hyb
      have HY4 := hid hy4
      have k5 : (5 : Int) ≤ 11 := by omega
      clear hrv rdI cl hy hyb rd6 cl6 hy4 haddr rdr clr etk
      go_upto_block 1 with (fail)
      go_cut [] (fun wx => ∃ gs caps, wx.heap[b]? = some (.cells #[.int .i64 y0, .int .u32 n1, .int .i64 n5, .int .i64 y7, .int .i64 y8, .slice (some ⟨gs, 0, none⟩) (I + 1) caps] 27 (0, 0)) ∧ OwS 61 (b + 1) wx (.slice (some ⟨gs, 0, none⟩) (I + 1) caps) ((List.range (I + 1)).map fun i => slotP (cut x (9 + 11 * i) 11)) ∧ Below w.heap.size w wx)
      case first =>
        go_wp2_with fail
        refine wp_region_quiet_tail 3 (by kernel_rfl) (by kernel_rfl) ?_
        simp only [List.take_succ_cons, List.take_zero, List.drop_succ_cons, List.drop_zero]
        repeat (go_big_quiet_step (fail))
        refine wpQuiet_nil ?_
        intro _ hw'
        obtain ⟨mq, hw''⟩ := hw'
        subst hw''
        refine wpList_copy_splice rfl (.tmp 34) (.tmp 36) 39 39 rfl 5 Tryz.underlying39 (by kernel_rfl) (some ⟨wr.heap.size, 0, none⟩) (some ⟨g, o + 9 + 11 * I + 5, none⟩) 8 8 6 (c' - 5) ?d1 ?d2 wr.heap.size 0 [.int .u8 0, .int .u8 0, .int .u8 0, .int .u8 0, .int .u8 0, .int .u8 0, .int .u8 0, .int .u8 0] 114 ?d3 (B8 (cut y 5 6)) ?d4 ?d5 ?d6 ?d7 wr.heap.size wr ?d8 (Nat.le_refl _) ?_
        case d1 => first | rfl | (show Value.slice _ _ _ = _; simp)
        case d2 => first | rfl | (show Value.slice _ _ _ = _; simp)
        case d3 => exact alloc_new wr _
        case d4 => simp [B8, CL6.out]
        case d5 => exact fun hp => ⟨rfl, cells_of (w := (wr.alloc _).drewN mq) (fun j hj => ⟨_, _, rfl, (((Below.refl wr.heap.size wr).alloc (Nat.le_refl _) _).cell (p := ⟨g, _, none⟩) hgr).trans (RD6.out.atc hj)⟩) hp⟩
        case d6 => simp [B8, CL6.out]
        case d7 => exact fun v hv => by obtain ⟨z, _, rfl⟩ := List.mem_map.1 hv; rfl
        case d8 => exact ((Below.refl _ _).alloc (Nat.le_refl _) _).drewN mq
        intro w4 hg4 hb4
        have hsp : splice [.int .u8 0, .int .u8 0, .int .u8 0, .int .u8 0, .int .u8 0, .int .u8 0, .int .u8 0, .int .u8 0] 0 (B8 (cut y 5 6)) = B8 (cut y 5 6 ++ [0, 0]) := by
          unfold splice
          simp [B8, CL6.out]
        have hg4' := hg4.out
        rw [hsp] at hg4'
        have hseq : Rd .u8 w4 (.slice (some ⟨wr.heap.size, 0, none⟩) 8 8) (cut y 5 6 ++ [0, 0]) := by
          have h1 := (own_cells (B := 0) hg4' (Nat.zero_le _) (by rw [List.length_append, CL6.out]; unfold maxLen; decide)).rd
          rw [List.length_append, CL6.out] at h1
          exact h1
        have hnum : num ((cut y 5 6 ++ [0, 0]).take 8) = num (cut y 5 6) := by
          rw [List.take_of_length_le (by rw [List.length_append, CL6.out]; decide)]
          exact num_rep (cut y 5 6) 2
        have HU32 : Hid (∀ V, Below w4.heap.size w4 V → Calls Tryz.prog 36 #[.slice (some ⟨g, o + 9 + 11 * I, none⟩) r c'] V fun e w' => e = .returned (.int .u32 (num (cut y 0 4) : Nat)) ∧ V = w') := hid fun V hV => by
          rw [← ETK.out]
          exact uint32_any _ _ V ((RDR.out.below hb4).below hV) (cut_lt HX.out _ _) (by rw [CLR.out]; omega)
        have HU64 : Hid (∀ V, Below w4.heap.size w4 V → Calls Tryz.prog 64 #[.slice (some ⟨wr.heap.size, 0, none⟩) 8 8] V fun e w' => e = .returned (.int .u64 (num (cut y 5 6) : Nat)) ∧ V = w') := hid fun V hV => by
          rw [← hnum]
          refine uint64_any _ _ V (hseq.below hV) (fun z hz => ?_) (by rw [List.length_append, CL6.out]; decide)
          rw [List.mem_append] at hz
          rcases hz with h | h
          · exact cut_lt HYB.out _ _ z h
          · simp at h; omega
        have q5 : w4.cell? ⟨b, 5, none⟩ = some sv := (hb4.cell (p := ⟨b, 5, none⟩) hq).trans (cell_at HBB.out 5)
        have z5 : w4.frozen? ⟨b, 5, none⟩ = false := (hb4.frozen (p := ⟨b, 5, none⟩) hq).trans (free_at HBB.out 5)
        have c4' : w4.cell? ⟨g, o + 9 + 11 * I + 4, none⟩ = some (.int .u8 y4) := (hb4.cell (p := ⟨g, o + 9 + 11 * I + 4, none⟩) hgr).trans c4
        have how4 := HOW.out.below hb4
        have hsvb : sv.ownBlock ≠ some b := fun e => by have := (HOW.out.blk b e).1; omega
        have hsvg : sv.ownBlock ≠ some g := fun e => by have := (HOW.out.blk g e).1; have := HBE.out; omega
        have hb4l : wr.heap.size ≤ w4.heap.size := hb4.size
        have hcr : Below w4.heap.size w4 w4.drew := (Below.refl _ _).drew
        have hll : ((List.range I).map fun i => slotP (cut x (9 + 11 * i) 11)).length ≤ 1000 := by simp; omega
        have HSP : Hid (slotP y = ⟨num (cut y 0 4), (y4 : Nat), num (cut y 5 6)⟩) := hid (by unfold slotP; rw [HY4.out])
        have HOW4 := hid how4
        have HB4 := hid hb4
        obtain ⟨u32, hu32⟩ : ∃ u, num (cut y 0 4) = u := ⟨_, rfl⟩
        obtain ⟨u64, hu64⟩ : ∃ u, num (cut y 5 6) = u := ⟨_, rfl⟩
        rw [hu32] at HU32 HSP
        rw [hu64] at HU64 HSP
        have hbsz : b + 1 ≤ w4.heap.size := by omega
        have HWR : Hid (IntKind.i64.wrap (y4 : Int) = (y4 : Int)) := hid (IntWalk.i64_in _ ⟨by omega, by omega⟩)
        have q5a : ∀ X, (w4.alloc X).cell? ⟨b, 5, none⟩ = some sv := fun X => (World.cell?_of_block (a := ⟨b, 5, none⟩) (alloc_old (w := w4) (by show b < w4.heap.size; omega))).trans q5
        have c4a : ∀ X, (w4.alloc X).cell? ⟨g, o + 9 + 11 * I + 4, none⟩ = some (.int .u8 y4) := fun X => (World.cell?_of_block (a := ⟨g, o + 9 + 11 * I + 4, none⟩) (alloc_old (w := w4) (by show g < w4.heap.size; omega))).trans c4'
        clear hg4 hb4 hsp hg4' hseq hnum how4 hu32 hu64 c4
        go_wp2_with fail
        (try go_frame)
        have hsl : ((List.range (I + 1)).map fun i => slotP (cut x (9 + 11 * i) 11)) = ((List.range I).map fun i => slotP (cut x (9 + 11 * i) 11)) ++ [slotP y] := by rw [List.range_succ, List.map_append, List.map_cons, List.map_nil, HY.out]
        have HSL := hid hsl
        have HBB4 : Hid (w4.heap[b]? = some (.cells #[.int .i64 y0, .int .u32 n1, .int .i64 n5, .int .i64 y7, .int .i64 y8, sv] 27 (0, 0))) := hid ((HB4.out.block b hq).trans HBB.out)
        have HBW4 : Hid (Below w.heap.size w w4) := hid (HB.out.trans (HB4.out.mono HB.out.size))
        have hwz : w.heap.size ≤ w4.heap.size := HBW4.out.size
        clear hsl
        go_region_law (first
          | (refine step_call (by rfl) 36 (enters_of Tryz.func36 (by kernel_rfl) rfl) (.tmp 40) _ (by rfl) _ (by rfl) _ (HU32.out _ (by first | assumption | exact hcr)) ?_)
          | (refine step_call (by rfl) 64 (enters_of Tryz.func64 (by kernel_rfl) rfl) (.tmp 46) _ (by rfl) _ (by rfl) _ (HU64.out _ (by first | assumption | exact hcr)) ?_)
          | (refine step_slots el_sl (by rfl) (.tmp 39) (.tmp 49) (by rfl) (b + 1) sv _ (by rfl) (by exact (HOW4.out.drewN 1).alloc _) [slotP y] (.slice (some ⟨w4.heap.size, 0, none⟩) 1 1) (by rfl) (by rw [HSP.out]; exact slr_new (w := w4.drew) (s := ⟨u32, (y4 : Nat), u64⟩) rfl HWR.out rfl) (by simp) (by simp; omega) (by simp; omega) ?_; intro gs caps w5 hos hgs has; have hb5 := (hgs.block b (by simp; omega) (fun e => hsvb e.symm)).trans ((alloc_old (w := w4.drew) (by show b < w4.heap.size; omega)).trans HBB4.out); have hbw5 := grow_below (bl_alloc (bl_drew HBW4.out) _) (by simp; omega) hgs (fun q hq => by have h1 := (HOW.out.blk q hq).1; have h2 := HBE.out; omega); have q5' := (World.cell?_of_block (a := ⟨b, 5, none⟩) (hgs.block b (by simp; omega) (fun e => hsvb e.symm))).trans ((World.cell?_of_block (a := ⟨b, 5, none⟩) (alloc_old (w := w4.drew) (by show b < w4.heap.size; omega))).trans q5); have c4'' := (World.cell?_of_block (a := ⟨g, o + 9 + 11 * I + 4, none⟩) (hgs.block g (by simp; omega) (fun e => hsvg e.symm))).trans ((World.cell?_of_block (a := ⟨g, o + 9 + 11 * I + 4, none⟩) (alloc_old (w := w4.drew) (by show g < w4.heap.size; omega))).trans c4'); have z5' := (World.frozen?_of_block (a := ⟨b, 5, none⟩) (hgs.block b (by simp; omega) (fun e => hsvb e.symm))).trans ((World.frozen?_of_block (a := ⟨b, 5, none⟩) (alloc_old (w := w4.drew) (by show b < w4.heap.size; omega))).trans z5))
          | fail)
        all_goals
          go_wp2_with fail
          go_meet
          refine ⟨gs, caps, set_at hb5 5 _, ?_, bl_set hbw5 (p := ⟨b, 5, none⟩) (by have := HBE.out; show w.heap.size ≤ b; omega) _⟩
          rw [HSL.out]
          have hos' := hos
          rw [List.length_map, List.length_range] at hos'
          exact hos'.kept (grown_set w5 b 5 _) (.inr (fun e => by have h1 := (hos'.blk _ e).1; omega))
      case rest =>
        obtain ⟨gs, caps, hb6, ho6, hw6⟩ := hcut
        have HB6 := hid hb6
        have HO6 := hid ho6
        have HW6 := hid hw6
        clear hb6 ho6 hw6
        have hcN : I + 1 < N → 11 < r := fun h => by omega
        by_cases hc : c' = 11
        · have hc4 : (c' : Int) = 11 := by omega
          have hr1 : r = 11 := by omega
          subst hc
          subst hr1
          go_wp2_with fail
          go_roundg (gk - 1)
          case measure => omega
          case rel => exact ⟨I + 1, 0, some ⟨g, o + 9 + 11 * I, none⟩, .slice (some ⟨gs, 0, none⟩) (I + 1) caps, by omega, by rw [show 11 * (N - (I + 1)) = 0 by omega], fun h => absurd (hcN h) (by omega), HB6.out, HO6.out, HW6.out⟩
        · have hc5 : ¬ (c' : Int) = 11 := by omega
          have hc6 : (11 : Int) < (c' : Int) := by omega
          go_wp2_with fail
          go_roundg (gk - 1)
          case measure => omega
          case rel =>
            exact ⟨I + 1, c' - 11, some ⟨g, o + 9 + 11 * I + 11, none⟩, .slice (some ⟨gs, 0, none⟩) (I + 1) caps, by omega, by rw [show 11 * (N - (I + 1)) = r - 11 by omega], fun h => ⟨by rw [show o + 9 + 11 * (I + 1) = o + 9 + 11 * I + 11 by omega], by omega, by unfold maxLen at *; omega⟩, HB6.out, HO6.out, HW6.out⟩
    · obtain rfl : N = I := by omega
      have hform := World.ownsRow.form HOW.out (by simp; omega)
      rw [List.length_map, List.length_range] at hform
      obtain ⟨sg, sc, rfl, _, _⟩ := hform
      have hhd : HdV wr (.agg #[.int .i64 y0, .int .u32 n1, .int .i64 n5, .int .i64 y7, .int .i64 y8, (.slice (some ⟨sg, 0, none⟩) N sc)]) (headP N x) := by
        unfold headP
        rw [Y0.out, Y7.out, Y8.out, N1.out, N5.out]
        exact ⟨_, rfl, HOW.out.slr⟩
      have hkv : Value.agg #[.int .i64 (headP N x).kind, .int .u32 ((headP N x).id : Nat), .int .i64 (headP N x).row, .int .i64 (headP N x).place, .int .i64 (headP N x).width, (.slice (some ⟨sg, 0, none⟩) N sc)] = .agg #[.int .i64 y0, .int .u32 n1, .int .i64 n5, .int .i64 y7, .int .i64 y8, (.slice (some ⟨sg, 0, none⟩) N sc)] := by
        unfold headP
        rw [Y0.out, Y7.out, Y8.out, N1.out, N5.out]
      have HKV := hid hkv
      have HOS : Hid (OwS 61 (w.heap.size + 1) wr (.slice (some ⟨sg, 0, none⟩) N sc) (headP N x).slots) := hid (by
        have h := HOW.out
        rw [show b = w.heap.size by have := HBE.out; omega] at h
        exact h)
      clear hkv
      have hwf : (headP N x).Wf := headP_wf HL.out HX.out
      have h0 : ¬ (0 : Int) < ((11 * (N - N) : Nat) : Int) := by omega
      have q0 := cell_at HBB.out 0
      have q1 := cell_at HBB.out 1
      have q2 := cell_at HBB.out 2
      have q3 := cell_at HBB.out 3
      have q4 := cell_at HBB.out 4
      have q5 := cell_at HBB.out 5
      have HHD := hid hhd
      have HWF := hid hwf
      clear hhd hwf hcap
      have hq : b < wr.heap.size := lt_at HBB.out
      have f0 := free_at HBB.out 0
      have f1 := free_at HBB.out 1
      have f2 := free_at HBB.out 2
      have f3 := free_at HBB.out 3
      have f4 := free_at HBB.out 4
      have f5 := free_at HBB.out 5
      have hcr : Below wr.heap.size wr wr.drew := (Below.refl _ _).drew
      have HMAY : Hid (∀ V, Below wr.heap.size wr V → Calls Tryz.prog 18 #[.pointer (some ⟨f, 0, none⟩), .agg #[.int .i64 y0, .int .u32 n1, .int .i64 n5, .int .i64 y7, .int .i64 y8, (.slice (some ⟨sg, 0, none⟩) N sc)]] V fun e w' => e = .returned (.bool (decide ((headP N x).May N))) ∧ Below wr.heap.size wr w') := hid fun V hV =>
        (may_any f S N T mw mh _ (headP N x) V ((HF.out.below HB.out).below hV) hN (HHD.out.below hV) HWF.out).mono fun e w' ⟨h1, h2⟩ => ⟨h1, hV.comp h2⟩
      go_wp2_with fail
      go_region_law (first
        | (refine step_call2 (by rfl) 18 (enters_of Tryz.func18 (by kernel_rfl) rfl) (.tmp 53) (.tmp 54) _ (by rfl) _ _ (by rfl) (by rfl) _ (fun w' => Below wr.heap.size wr w') (HMAY.out _ (by first | assumption | exact hcr)) ?_; intro wm hm; have HM := hid hm; have HBM := hid ((hm.block b hq).trans HBB.out); have hbm := HBM.out; have p0 := cell_at hbm 0; have p1 := cell_at hbm 1; have p2 := cell_at hbm 2; have p3 := cell_at hbm 3; have p4 := cell_at hbm 4; have p5 := cell_at hbm 5; have g0 := free_at hbm 0; have g1 := free_at hbm 1; have g2 := free_at hbm 2; have g3 := free_at hbm 3; have g4 := free_at hbm 4; have g5 := free_at hbm 5)
        | fail)
      all_goals
        go_wp2_with fail
        have e0 := set_same (j := 0) (v := (.int .i64 y0)) HBM.out rfl
        have e1 := set_same (j := 1) (v := (.int .u32 n1)) HBM.out rfl
        have e2 := set_same (j := 2) (v := (.int .i64 n5)) HBM.out rfl
        have e3 := set_same (j := 3) (v := (.int .i64 y7)) HBM.out rfl
        have e4 := set_same (j := 4) (v := (.int .i64 y8)) HBM.out rfl
        have e5 := set_same (j := 5) (v := (.slice (some ⟨sg, 0, none⟩) N sc)) HBM.out rfl
        rw [e0, e1, e2, e3, e4, e5]
        refine bodyPost_ret (v := .tuple #[.agg #[.int .i64 y0, .int .u32 n1, .int .i64 n5, .int .i64 y7, .int .i64 y8, .slice (some ⟨sg, 0, none⟩) N sc], .bool (decide ((headP N x).May N))]) (by simp [results, Tryz.results38, go_sem, p0, p1, p2, p3, p4, p5]) rfl ⟨⟨.slice (some ⟨sg, 0, none⟩) N sc, by rw [HKV.out], HOS.out.below HM.out⟩, HB.out.trans (HM.out.mono HB.out.size)⟩
end Go.Proofs.YtoanopegoilcnaaGreat
