/- Walks over firkinref05: Unpack of a page that is erased, or of another number of bytes. -/
import Derived.Test.YtoanopegoilcnaaGreatJw
import Derived.Test.YtoanopegoilcnaaGreatJs
import Derived.Test.YtoanopegoilcnaaGreatJr
set_option linter.unusedVariables false
namespace Go.Proofs.YtoanopegoilcnaaGreat
open Go.RowKit Go.Mem Go.Pg

set_option maxRecDepth 100000 in
set_option maxHeartbeats 12800000 in
theorem r5unpack_erased (S N T mw mh : Nat) (v5 : Value) (g o cap L : Nat) (l : List Nat) (w : World) (hL : Lay S N T mw mh) (hq : Par (13 + 11 * N) T mh) (h5 : F5 w v5 S N T mw mh) (hv : Rd .u8 w (.slice (some ⟨g, o, none⟩) L cap) l) (hl : l.length = L) (hx : ∀ y ∈ l, y < 256) (hp : L = pageB S N T mw mh) (he : 8 * L - ones l ≤ T) :
    Calls Tryz.prog 13 #[v5, .slice (some ⟨g, o, none⟩) L cap] w fun e w' => (∃ ov, e = .returned (.tuple #[ov, .int .i64 0]) ∧ OpV w' ov (opn S N T mw mh l)) ∧ Below w.heap.size w w' := by
  have hLm : L ≤ 2500 := hp ▸ pageB_le hL
  have HBYL := hid (show byB S N T mw mh = L by rw [byB_page, hp])
  have hopn : opn S N T mw mh l = ⟨true, 0, none, [], [], 0⟩ := by unfold opn; rw [if_pos (by rw [hl]; exact he)]
  have HOPN := hid hopn
  have HE := hid he
  clear hp hopn he
  have hS2 := hL.s2
  have hN8 := hL.n2
  have hT8 := hL.t2
  have HL := hid hL
  have HQ := hid hq
  have H5 := hid h5
  have HV := hid hv
  have HX := hid hx
  have HLEN := hid hl
  have hcaps : L ≤ cap ∧ cap ≤ maxLen := by obtain ⟨a', c', he, h1, h2, _⟩ := hv; cases he; exact ⟨by omega, h2⟩
  have hca1 : (L : Int) ≤ (cap : Int) := by have := hcaps.1; omega
  have hca2 : (cap : Int) ≤ 9223372036854775807 := by have := hcaps.2; unfold maxLen at this; omega
  have HCP := hid hcaps
  obtain ⟨ga, gl, gc, ha, hl', hc, rfl, hrw, hrh⟩ := h5.parts
  obtain ⟨hl, hhl⟩ : ∃ z, hl' = z := ⟨_, rfl⟩
  rw [hhl] at hrh H5 ⊢
  have HRW := hid hrw
  have HRH := hid hrh
  clear hv hx h5 hL hq hcaps hrw hrh hhl
  go_enter Tryz.func13, Tryz.ntmps13
  go_upto_region 2 with (fail)
  obtain ⟨W, hW⟩ : ∃ W, ((w.alloc (.cells #[.int .i64 S, .int .i64 N, .int .i64 T, .int .i64 mw, .int .i64 ((S : Int) + 4), .int .i64 T, .slice ga gl gc, .int .i64 mh, .int .i64 (13 + 11 * (N : Int)), .int .i64 T, .slice ha hl hc] 35)).alloc (.cells #[.bool false, .int .i64 0, .int .i64 0, .int .u32 0, .int .i64 0, .int .i64 0, .int .i64 0, .slice none 0 0, .slice none 0 0, .slice none 0 0, .int .i64 0] 50)).alloc (.cells #[.bool false, .int .i64 0, .int .i64 0, .int .u32 0, .int .i64 0, .int .i64 0, .int .i64 0, .slice none 0 0, .slice none 0 0, .slice none 0 0, .int .i64 0] 50) = W := ⟨_, rfl⟩
  have hfx : W.heap[w.heap.size]? = some (.cells #[.int .i64 S, .int .i64 N, .int .i64 T, .int .i64 mw, .int .i64 ((S : Int) + 4), .int .i64 T, .slice ga gl gc, .int .i64 mh, .int .i64 (13 + 11 * (N : Int)), .int .i64 T, .slice ha hl hc] 35 (0, 0)) := by rw [← hW]; exact (alloc_old (by simp; try omega)).trans ((alloc_old (by simp)).trans (alloc_new w _))
  have hrx : W.heap[w.heap.size + 1]? = some (.cells #[.bool false, .int .i64 0, .int .i64 0, .int .u32 0, .int .i64 0, .int .i64 0, .int .i64 0, .slice none 0 0, .slice none 0 0, .slice none 0 0, .int .i64 0] 50 (0, 0)) := by rw [← hW]; exact (alloc_old (by simp; try omega)).trans (alloc_at (by simp))
  have hox : W.heap[w.heap.size + 2]? = some (.cells #[.bool false, .int .i64 0, .int .i64 0, .int .u32 0, .int .i64 0, .int .i64 0, .int .i64 0, .slice none 0 0, .slice none 0 0, .slice none 0 0, .int .i64 0] 50 (0, 0)) := by rw [← hW]; exact alloc_at (by simp)
  have hbW : Below w.heap.size w W := by rw [← hW]; exact bl_alloc (bl_alloc (bl_alloc (Below.refl _ _) _) _) _
  rw [hW]
  obtain ⟨ob, hoE⟩ : ∃ b, w.heap.size + 2 = b := ⟨_, rfl⟩
  obtain ⟨rb, hrE⟩ : ∃ b, w.heap.size + 1 = b := ⟨_, rfl⟩
  obtain ⟨fb, hfE⟩ : ∃ b, w.heap.size = b := ⟨_, rfl⟩
  rw [hoE] at hox ⊢
  rw [hrE] at hrx ⊢
  rw [hfE] at hfx ⊢
  have hfr : fb < rb ∧ rb < ob ∧ w.heap.size ≤ fb := by omega
  have HFO := hid hfr
  have HFX := hid hfx
  have HRX := hid hrx
  have HOX := hid hox
  have HBW := hid hbW
  have c0 := cell_at hfx 0
  have c1 := cell_at hfx 1
  have c2 := cell_at hfx 2
  have c3 := cell_at hfx 3
  have c4 := cell_at hfx 4
  have c5 := cell_at hfx 5
  have c6 := cell_at hfx 6
  have c7 := cell_at hfx 7
  have c8 := cell_at hfx 8
  have c9 := cell_at hfx 9
  have c10 := cell_at hfx 10
  clear hW hfx hrx hox hbW hoE hrE hfE hfr
  go_wp2_with fail
  refine (r5bytes_any S N T mw mh _ W HL.out.pw HQ.out HL.out.s2 HL.out.n2 (H5.out.below HBW.out)).mono ?_
  rintro e w1 ⟨rfl, hb1⟩
  rw [HBYL.out]
  have HFX1 := hid ((hb1.block fb (lt_at HFX.out)).trans HFX.out)
  have HRX1 := hid ((hb1.block rb (lt_at HRX.out)).trans HRX.out)
  have HOX1 := hid ((hb1.block ob (lt_at HOX.out)).trans HOX.out)
  have HB1 := hid hb1
  have HV1 := hid (HV.out.below (HBW.out.comp hb1))
  clear hb1 c0 c1 c2 c3 c4 c5 c6 c7 c8 c9 c10
  go_wp2_with fail
  go_loopg [7, 8] L (fun gk z i wr => ∃ I : Nat, I + gk = L ∧ i = .int .i64 I ∧ z = .int .i64 ((8 * I - ones (l.take I) : Nat) : Int) ∧ wr = w1)
  case atStart => exact ⟨0, by omega, rfl, rfl, rfl⟩
  case round =>
    obtain ⟨I, hI, rfl, rfl, rfl⟩ := hrel
    by_cases hlt : I < L
    · have hcell := HV1.out.atc (j := I) (by rw [HLEN.out]; exact hlt)
      obtain ⟨c, hc⟩ : ∃ c, l.getD I 0 = c := ⟨_, rfl⟩
      have hc256 : c < 256 := by rw [← hc]; exact HX.out _ (getD_mem (by rw [HLEN.out]; exact hlt))
      have hon := ones_take l I (by rw [HLEN.out]; exact hlt)
      have hole := ones_take_le l I
      rw [hc] at hcell hon
      obtain ⟨q, hq⟩ : ∃ q, ones (l.take I) = q := ⟨_, rfl⟩
      rw [hq] at hon hole ⊢
      have HON := hid hon
      have HIi : (I : Int) < (L : Int) := by omega
      clear hc hon hq
      obtain ⟨wo, rfl⟩ : ∃ wo : World, wo = wr := ⟨_, rfl⟩
      go_wp2_with fail
      go_loopg [7, 9] 8 (fun gk2 z k wr => ∃ K : Nat, K + gk2 = 8 ∧ k = .int .i64 K ∧ z = .int .i64 ((8 * I - q + (K - pcK c K) : Nat) : Int) ∧ wr = wo)
      case atStart => exact ⟨0, by omega, rfl, rfl, rfl⟩
      case round =>
        obtain ⟨K, hK, rfl, rfl, rfl⟩ := hrel
        by_cases hlt2 : K < 8
        · have hsh : (c : Int) / (2 : Int) ^ K = ((c / 2 ^ K : Nat) : Int) := by rw [show (2 : Int) ^ K = ((2 ^ K : Nat) : Int) from (Int.natCast_pow 2 K).symm]; rfl
          have hpk : pcK c (K + 1) = pcK c K + c / 2 ^ K % 2 := rfl
          have hpl := pcK_le c K
          have hcd : c / 2 ^ K < 256 := Nat.lt_of_le_of_lt (Nat.div_le_self _ _) hc256
          obtain ⟨d, hd⟩ : ∃ d, c / 2 ^ K = d := ⟨_, rfl⟩
          rw [hd] at hsh hpk hcd
          have ha1 := and1_u8 d hcd
          obtain ⟨p, hp⟩ : ∃ p, pcK c K = p := ⟨_, rfl⟩
          rw [hp] at hpk hpl ⊢
          have HPKK := hid hpk
          obtain ⟨zz, hzz⟩ : ∃ z, 8 * I - q + (K - p) = z := ⟨_, rfl⟩
          rw [hzz]
          have hzb : zz ≤ 8 * I + 8 := by omega
          have HZZ := hid hzz
          clear hd hp hpk hzz
          go_wp2_with fail
          go_roundg (gk - 1)
          case measure => omega
          case rel => exact ⟨K + 1, by omega, by go_num, by rw [HPKK.out]; have := HZZ.out; go_num, rfl⟩
        · obtain rfl : K = 8 := by omega
          rw [pcK8]
          go_wp2_with fail
          go_roundg (L - (I + 1))
          case measure => omega
          case rel => exact ⟨I + 1, by omega, by go_num, by rw [HON.out]; have := pc_le c; go_num, rfl⟩
    · obtain rfl : L = I := by omega
      rw [show l.take L = l from List.take_of_length_le (by rw [HLEN.out]; exact Nat.le_refl _)]
      obtain ⟨n1, hn1⟩ : ∃ n, ones l = n := ⟨_, rfl⟩
      have he := HE.out
      rw [hn1] at he ⊢
      obtain ⟨zz, hzz⟩ : ∃ z, 8 * L - n1 = z := ⟨_, rfl⟩
      rw [hzz] at he ⊢
      have he1 : (zz : Int) ≤ (T : Int) := by omega
      have c2 := cell_at HFX1.out 2
      have o0 := cell_at HOX1.out 0
      have y0 := free_at HOX1.out 0
      clear hzz hn1 he
      go_upto_region 14 with (fail)
      have hox2 := set_at HOX1.out 0 (.bool true)
      have hrx2 := (set_other (w := wr) (a := ⟨ob, 0, none⟩) (v := .bool true) (b := rb) (by have := HFO.out; show rb ≠ ob; omega)).trans HRX1.out
      have hb2 := bl_set (HBW.out.comp HB1.out) (p := ⟨ob, 0, none⟩) (by have := HFO.out; show w.heap.size ≤ ob; omega) (.bool true)
      obtain ⟨W2, hW2⟩ : ∃ V, wr.setCell ⟨ob, 0, none⟩ (.bool true) = V := ⟨_, rfl⟩
      rw [hW2] at hox2 hrx2 hb2 ⊢
      have hox2' : W2.heap[ob]? = some (.cells #[.bool true, .int .i64 0, .int .i64 0, .int .u32 0, .int .i64 0, .int .i64 0, .int .i64 0, .slice none 0 0, .slice none 0 0, .slice none 0 0, .int .i64 0] 50 (0, 0)) := hox2
      obtain ⟨p0, p1, p2, p3, p4, p5, p6, p7, p8, p9, p10⟩ := op_cells hox2'
      obtain ⟨r0, r1, r2, r3, r4, r5, r6, r7, r8, r9, r10⟩ := op_cells hrx2
      obtain ⟨z0, z1, z2, z3, z4, z5, z6, z7, z8, z9, z10⟩ := op_free hrx2
      have HRX2 := hid hrx2
      have HB2 := hid hb2
      clear hW2 hox2 hox2' hrx2 hb2 c2 o0 y0
      go_wp2_with fail
      clear p0 p1 p2 p3 p4 p5 p6 p7 p8 p9 p10 r0 r1 r2 r3 r4 r5 r6 r7 r8 r9 r10 z0 z1 z2 z3 z4 z5 z6 z7 z8 z9 z10
      have sA := eleven_set HRX2.out (.bool true) (.int .i64 0) (.int .i64 0) (.int .u32 0) (.int .i64 0) (.int .i64 0) (.int .i64 0) (.slice none 0 0) (.slice none 0 0) (.slice none 0 0) (.int .i64 0)
      obtain ⟨V, hV⟩ : ∃ V, ((((((((((W2.setCell ⟨rb, 0, none⟩ (.bool true)).setCell ⟨rb, 1, none⟩ (.int .i64 0)).setCell ⟨rb, 2, none⟩ (.int .i64 0)).setCell ⟨rb, 3, none⟩ (.int .u32 0)).setCell ⟨rb, 4, none⟩ (.int .i64 0)).setCell ⟨rb, 5, none⟩ (.int .i64 0)).setCell ⟨rb, 6, none⟩ (.int .i64 0)).setCell ⟨rb, 7, none⟩ (.slice none 0 0)).setCell ⟨rb, 8, none⟩ (.slice none 0 0)).setCell ⟨rb, 9, none⟩ (.slice none 0 0)).setCell ⟨rb, 10, none⟩ (.int .i64 0) = V := ⟨_, rfl⟩
      have oA : ∀ k, k ≠ rb → V.heap[k]? = W2.heap[k]? := fun k hk => by rw [← hV]; exact (set_other hk).trans ((set_other hk).trans ((set_other hk).trans ((set_other hk).trans ((set_other hk).trans ((set_other hk).trans ((set_other hk).trans ((set_other hk).trans ((set_other hk).trans ((set_other hk).trans (set_other hk))))))))))
      have bA := bl_set (bl_set (bl_set (bl_set (bl_set (bl_set (bl_set (bl_set (bl_set (bl_set (bl_set (HB2.out) (p := ⟨rb, 0, none⟩) (by have := HFO.out; show w.heap.size ≤ rb; omega) (.bool true)) (p := ⟨rb, 1, none⟩) (by have := HFO.out; show w.heap.size ≤ rb; omega) (.int .i64 0)) (p := ⟨rb, 2, none⟩) (by have := HFO.out; show w.heap.size ≤ rb; omega) (.int .i64 0)) (p := ⟨rb, 3, none⟩) (by have := HFO.out; show w.heap.size ≤ rb; omega) (.int .u32 0)) (p := ⟨rb, 4, none⟩) (by have := HFO.out; show w.heap.size ≤ rb; omega) (.int .i64 0)) (p := ⟨rb, 5, none⟩) (by have := HFO.out; show w.heap.size ≤ rb; omega) (.int .i64 0)) (p := ⟨rb, 6, none⟩) (by have := HFO.out; show w.heap.size ≤ rb; omega) (.int .i64 0)) (p := ⟨rb, 7, none⟩) (by have := HFO.out; show w.heap.size ≤ rb; omega) (.slice none 0 0)) (p := ⟨rb, 8, none⟩) (by have := HFO.out; show w.heap.size ≤ rb; omega) (.slice none 0 0)) (p := ⟨rb, 9, none⟩) (by have := HFO.out; show w.heap.size ≤ rb; omega) (.slice none 0 0)) (p := ⟨rb, 10, none⟩) (by have := HFO.out; show w.heap.size ≤ rb; omega) (.int .i64 0)
      rw [hV] at sA bA ⊢
      obtain ⟨e0, e1, e2, e3, e4, e5, e6, e7, e8, e9, e10⟩ := op_cells sA
      clear hV oA
      refine bodyPost_ret (v := .tuple #[.agg #[.bool true, .int .i64 0, .int .i64 0, .int .u32 0, .int .i64 0, .int .i64 0, .int .i64 0, .slice none 0 0, .slice none 0 0, .slice none 0 0, .int .i64 0], .int .i64 0]) (by simp [results, Tryz.results13, go_sem, e0, e1, e2, e3, e4, e5, e6, e7, e8, e9, e10]) rfl ⟨⟨_, rfl, ?_⟩, bA⟩
      rw [HOPN.out]
      exact ⟨_, _, _, rfl, SlR.nil _, ⟨none, 0, rfl, Nat.le_refl _, by unfold maxLen; omega, fun j hj => by simp at hj⟩, RB.nil _⟩
set_option maxRecDepth 100000 in
set_option maxHeartbeats 12800000 in
theorem r5unpack_len (S N T mw mh : Nat) (v5 : Value) (g o cap L : Nat) (l : List Nat) (w : World) (hL : Lay S N T mw mh) (hq : Par (13 + 11 * N) T mh) (h5 : F5 w v5 S N T mw mh) (hv : Rd .u8 w (.slice (some ⟨g, o, none⟩) L cap) l) (hl : l.length = L) (hx : ∀ y ∈ l, y < 256) (hp : L ≠ pageB S N T mw mh) :
    Calls Tryz.prog 13 #[v5, .slice (some ⟨g, o, none⟩) L cap] w fun e w' => (∃ ov, e = .returned (.tuple #[ov, .int .i64 1]) ∧ OpV w' ov ⟨false, 0, none, [], [], 0⟩) ∧ Below w.heap.size w w' := by
  have HBYL := hid (show byB S N T mw mh ≠ L by rw [byB_page]; exact fun e => hp e.symm)
  clear hp
  have hS2 := hL.s2
  have hN8 := hL.n2
  have hT8 := hL.t2
  have HL := hid hL
  have HQ := hid hq
  have H5 := hid h5
  have HV := hid hv
  have HX := hid hx
  have HLEN := hid hl
  have hcaps : L ≤ cap ∧ cap ≤ maxLen := by obtain ⟨a', c', he, h1, h2, _⟩ := hv; cases he; exact ⟨by omega, h2⟩
  have hca1 : (L : Int) ≤ (cap : Int) := by have := hcaps.1; omega
  have hca2 : (cap : Int) ≤ 9223372036854775807 := by have := hcaps.2; unfold maxLen at this; omega
  have HCP := hid hcaps
  obtain ⟨ga, gl, gc, ha, hl', hc, rfl, hrw, hrh⟩ := h5.parts
  obtain ⟨hl, hhl⟩ : ∃ z, hl' = z := ⟨_, rfl⟩
  rw [hhl] at hrh H5 ⊢
  have HRW := hid hrw
  have HRH := hid hrh
  clear hv hx h5 hL hq hcaps hrw hrh hhl
  go_enter Tryz.func13, Tryz.ntmps13
  go_upto_region 2 with (fail)
  obtain ⟨W, hW⟩ : ∃ W, ((w.alloc (.cells #[.int .i64 S, .int .i64 N, .int .i64 T, .int .i64 mw, .int .i64 ((S : Int) + 4), .int .i64 T, .slice ga gl gc, .int .i64 mh, .int .i64 (13 + 11 * (N : Int)), .int .i64 T, .slice ha hl hc] 35)).alloc (.cells #[.bool false, .int .i64 0, .int .i64 0, .int .u32 0, .int .i64 0, .int .i64 0, .int .i64 0, .slice none 0 0, .slice none 0 0, .slice none 0 0, .int .i64 0] 50)).alloc (.cells #[.bool false, .int .i64 0, .int .i64 0, .int .u32 0, .int .i64 0, .int .i64 0, .int .i64 0, .slice none 0 0, .slice none 0 0, .slice none 0 0, .int .i64 0] 50) = W := ⟨_, rfl⟩
  have hfx : W.heap[w.heap.size]? = some (.cells #[.int .i64 S, .int .i64 N, .int .i64 T, .int .i64 mw, .int .i64 ((S : Int) + 4), .int .i64 T, .slice ga gl gc, .int .i64 mh, .int .i64 (13 + 11 * (N : Int)), .int .i64 T, .slice ha hl hc] 35 (0, 0)) := by rw [← hW]; exact (alloc_old (by simp; try omega)).trans ((alloc_old (by simp)).trans (alloc_new w _))
  have hrx : W.heap[w.heap.size + 1]? = some (.cells #[.bool false, .int .i64 0, .int .i64 0, .int .u32 0, .int .i64 0, .int .i64 0, .int .i64 0, .slice none 0 0, .slice none 0 0, .slice none 0 0, .int .i64 0] 50 (0, 0)) := by rw [← hW]; exact (alloc_old (by simp; try omega)).trans (alloc_at (by simp))
  have hox : W.heap[w.heap.size + 2]? = some (.cells #[.bool false, .int .i64 0, .int .i64 0, .int .u32 0, .int .i64 0, .int .i64 0, .int .i64 0, .slice none 0 0, .slice none 0 0, .slice none 0 0, .int .i64 0] 50 (0, 0)) := by rw [← hW]; exact alloc_at (by simp)
  have hbW : Below w.heap.size w W := by rw [← hW]; exact bl_alloc (bl_alloc (bl_alloc (Below.refl _ _) _) _) _
  rw [hW]
  obtain ⟨ob, hoE⟩ : ∃ b, w.heap.size + 2 = b := ⟨_, rfl⟩
  obtain ⟨rb, hrE⟩ : ∃ b, w.heap.size + 1 = b := ⟨_, rfl⟩
  obtain ⟨fb, hfE⟩ : ∃ b, w.heap.size = b := ⟨_, rfl⟩
  rw [hoE] at hox ⊢
  rw [hrE] at hrx ⊢
  rw [hfE] at hfx ⊢
  have hfr : fb < rb ∧ rb < ob ∧ w.heap.size ≤ fb := by omega
  have HFO := hid hfr
  have HFX := hid hfx
  have HRX := hid hrx
  have HOX := hid hox
  have HBW := hid hbW
  have c0 := cell_at hfx 0
  have c1 := cell_at hfx 1
  have c2 := cell_at hfx 2
  have c3 := cell_at hfx 3
  have c4 := cell_at hfx 4
  have c5 := cell_at hfx 5
  have c6 := cell_at hfx 6
  have c7 := cell_at hfx 7
  have c8 := cell_at hfx 8
  have c9 := cell_at hfx 9
  have c10 := cell_at hfx 10
  clear hW hfx hrx hox hbW hoE hrE hfE hfr
  go_wp2_with fail
  refine (r5bytes_any S N T mw mh _ W HL.out.pw HQ.out HL.out.s2 HL.out.n2 (H5.out.below HBW.out)).mono ?_
  rintro e w1 ⟨rfl, hb1⟩
  have hne := HBYL.out
  generalize byB S N T mw mh = by5 at *
  have e1 : ((L : Int) != (by5 : Int)) = true := bne_iff_ne.2 (by omega)
  have hrx1 := (hb1.block rb (lt_at HRX.out)).trans HRX.out
  have hox1 := (hb1.block ob (lt_at HOX.out)).trans HOX.out
  obtain ⟨p0, p1, p2, p3, p4, p5, p6, p7, p8, p9, p10⟩ := op_cells hox1
  obtain ⟨r0, r1, r2, r3, r4, r5, r6, r7, r8, r9, r10⟩ := op_cells hrx1
  obtain ⟨z0, z1, z2, z3, z4, z5, z6, z7, z8, z9, z10⟩ := op_free hrx1
  have HRX2 := hid hrx1
  have HB2 := hid (HBW.out.comp hb1)
  clear hrx1 hox1 hb1 hne c0 c1 c2 c3 c4 c5 c6 c7 c8 c9 c10
  go_wp2_with fail
  clear p0 p1 p2 p3 p4 p5 p6 p7 p8 p9 p10 r0 r1 r2 r3 r4 r5 r6 r7 r8 r9 r10 z0 z1 z2 z3 z4 z5 z6 z7 z8 z9 z10
  have sA := eleven_set HRX2.out (.bool false) (.int .i64 0) (.int .i64 0) (.int .u32 0) (.int .i64 0) (.int .i64 0) (.int .i64 0) (.slice none 0 0) (.slice none 0 0) (.slice none 0 0) (.int .i64 0)
  obtain ⟨V, hV⟩ : ∃ V, ((((((((((w1.setCell ⟨rb, 0, none⟩ (.bool false)).setCell ⟨rb, 1, none⟩ (.int .i64 0)).setCell ⟨rb, 2, none⟩ (.int .i64 0)).setCell ⟨rb, 3, none⟩ (.int .u32 0)).setCell ⟨rb, 4, none⟩ (.int .i64 0)).setCell ⟨rb, 5, none⟩ (.int .i64 0)).setCell ⟨rb, 6, none⟩ (.int .i64 0)).setCell ⟨rb, 7, none⟩ (.slice none 0 0)).setCell ⟨rb, 8, none⟩ (.slice none 0 0)).setCell ⟨rb, 9, none⟩ (.slice none 0 0)).setCell ⟨rb, 10, none⟩ (.int .i64 0) = V := ⟨_, rfl⟩
  have oA : ∀ k, k ≠ rb → V.heap[k]? = w1.heap[k]? := fun k hk => by rw [← hV]; exact (set_other hk).trans ((set_other hk).trans ((set_other hk).trans ((set_other hk).trans ((set_other hk).trans ((set_other hk).trans ((set_other hk).trans ((set_other hk).trans ((set_other hk).trans ((set_other hk).trans (set_other hk))))))))))
  have bA := bl_set (bl_set (bl_set (bl_set (bl_set (bl_set (bl_set (bl_set (bl_set (bl_set (bl_set (HB2.out) (p := ⟨rb, 0, none⟩) (by have := HFO.out; show w.heap.size ≤ rb; omega) (.bool false)) (p := ⟨rb, 1, none⟩) (by have := HFO.out; show w.heap.size ≤ rb; omega) (.int .i64 0)) (p := ⟨rb, 2, none⟩) (by have := HFO.out; show w.heap.size ≤ rb; omega) (.int .i64 0)) (p := ⟨rb, 3, none⟩) (by have := HFO.out; show w.heap.size ≤ rb; omega) (.int .u32 0)) (p := ⟨rb, 4, none⟩) (by have := HFO.out; show w.heap.size ≤ rb; omega) (.int .i64 0)) (p := ⟨rb, 5, none⟩) (by have := HFO.out; show w.heap.size ≤ rb; omega) (.int .i64 0)) (p := ⟨rb, 6, none⟩) (by have := HFO.out; show w.heap.size ≤ rb; omega) (.int .i64 0)) (p := ⟨rb, 7, none⟩) (by have := HFO.out; show w.heap.size ≤ rb; omega) (.slice none 0 0)) (p := ⟨rb, 8, none⟩) (by have := HFO.out; show w.heap.size ≤ rb; omega) (.slice none 0 0)) (p := ⟨rb, 9, none⟩) (by have := HFO.out; show w.heap.size ≤ rb; omega) (.slice none 0 0)) (p := ⟨rb, 10, none⟩) (by have := HFO.out; show w.heap.size ≤ rb; omega) (.int .i64 0)
  rw [hV] at sA bA ⊢
  obtain ⟨e0, e1, e2, e3, e4, e5, e6, e7, e8, e9, e10⟩ := op_cells sA
  clear hV oA
  refine bodyPost_ret (v := .tuple #[.agg #[.bool false, .int .i64 0, .int .i64 0, .int .u32 0, .int .i64 0, .int .i64 0, .int .i64 0, .slice none 0 0, .slice none 0 0, .slice none 0 0, .int .i64 0], .int .i64 1]) (by simp [results, Tryz.results13, go_sem, e0, e1, e2, e3, e4, e5, e6, e7, e8, e9, e10]) rfl ⟨⟨_, rfl, ?_⟩, bA⟩
  exact ⟨_, _, _, rfl, SlR.nil _, ⟨none, 0, rfl, Nat.le_refl _, by unfold maxLen; omega, fun j hj => by simp at hj⟩, RB.nil _⟩
end Go.Proofs.YtoanopegoilcnaaGreat
