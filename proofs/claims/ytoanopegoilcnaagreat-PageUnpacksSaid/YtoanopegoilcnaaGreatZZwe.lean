/- Walks over firkinref05: Unpack of a page that is not erased. -/
import Derived.Test.YtoanopegoilcnaaGreatZZv
import Derived.Test.YtoanopegoilcnaaGreatZZla
import Derived.Test.YtoanopegoilcnaaGreatZZlb
import Derived.Test.YtoanopegoilcnaaGreatZZm
import Derived.Test.YtoanopegoilcnaaGreatJl
import Derived.Test.YtoanopegoilcnaaGreatJr
import Derived.Deep.RegionHeld3
set_option linter.unusedVariables false
namespace Go.Proofs.YtoanopegoilcnaaGreat
open Go.RowKit Go.Mem Go.Pg

set_option maxRecDepth 100000 in
set_option maxHeartbeats 12800000 in
theorem r5unpack_yes (S N T mw mh : Nat) (v5 : Value) (g o cap L : Nat) (l : List Nat) (w : World) (hL : Lay S N T mw mh) (hq : Par (13 + 11 * N) T mh) (h5 : F5 w v5 S N T mw mh) (hv : Rd .u8 w (.slice (some ⟨g, o, none⟩) L cap) l) (hl : l.length = L) (hx : ∀ y ∈ l, y < 256) (hp : L = pageB S N T mw mh) (he : ¬ 8 * L - ones l ≤ T) (x0 : List Nat) (s0 k0 : Nat) (hop : opnB mh T (9 + 11 * N) (cut l (N * wdB S T mw) (9 + 11 * N + 4 + pcn mh T)) = some (x0, s0, k0)) (ht : ones (l.drop (lastB S N T mw mh)) ≤ T) (hm : (headP N x0).May N) (hs : sum x0 = s0) :
    Calls Tryz.prog 13 #[v5, .slice (some ⟨g, o, none⟩) L cap] w fun e w' => (∃ ov, e = .returned (.tuple #[ov, .int .i64 0]) ∧ OpV w' ov (opn S N T mw mh l)) ∧ Below w.heap.size w w' := by
  have hLm : L ≤ 2500 := hp ▸ pageB_le hL
  have HBYL := hid (show byB S N T mw mh = L by rw [byB_page, hp])
  have HE := hid he
  have HPG := hid hp
  clear hp he
  have HOP := hid hop
  have HONE := hid ht
  have HHD := hid (hdO_yes hop ht hs hm)
  have HYM := hid hm
  have HYS := hid hs
  clear hm hs
  clear hop ht
  have hS2 := hL.s2
  have hN8 := hL.n2
  have hT8 := hL.t2
  have HL := hid hL
  have HQ := hid hq
  have H5 := hid h5
  have HV := hid hv
  have HX := hid hx
  have HLEN := hid hl
  have hcaps : L ≤ cap ∧ cap ≤ maxLen := by obtain ⟨a', c', he, h1, h2, _⟩ := hv; cases he; exact ⟨by omega, h2⟩
  have hca1 : (L : Int) ≤ (cap : Int) := by have := hcaps.1; omega
  have hca2 : (cap : Int) ≤ 9223372036854775807 := by have := hcaps.2; unfold maxLen at this; omega
  have HCP := hid hcaps
  obtain ⟨ga, gl, gc, ha, hl', hc, rfl, hrw, hrh⟩ := h5.parts
  obtain ⟨hl, hhl⟩ : ∃ z, hl' = z := ⟨_, rfl⟩
  rw [hhl] at hrh H5 ⊢
  have HRW := hid hrw
  have HRH := hid hrh
  clear hv hx h5 hL hq hcaps hrw hrh hhl
  go_enter Tryz.func13, Tryz.ntmps13
  go_upto_region 2 with (fail)
  obtain ⟨W, hW⟩ : ∃ W, ((w.alloc (.cells #[.int .i64 S, .int .i64 N, .int .i64 T, .int .i64 mw, .int .i64 ((S : Int) + 4), .int .i64 T, .slice ga gl gc, .int .i64 mh, .int .i64 (13 + 11 * (N : Int)), .int .i64 T, .slice ha hl hc] 35)).alloc (.cells #[.bool false, .int .i64 0, .int .i64 0, .int .u32 0, .int .i64 0, .int .i64 0, .int .i64 0, .slice none 0 0, .slice none 0 0, .slice none 0 0, .int .i64 0] 50)).alloc (.cells #[.bool false, .int .i64 0, .int .i64 0, .int .u32 0, .int .i64 0, .int .i64 0, .int .i64 0, .slice none 0 0, .slice none 0 0, .slice none 0 0, .int .i64 0] 50) = W := ⟨_, rfl⟩
  have hfx : W.heap[w.heap.size]? = some (.cells #[.int .i64 S, .int .i64 N, .int .i64 T, .int .i64 mw, .int .i64 ((S : Int) + 4), .int .i64 T, .slice ga gl gc, .int .i64 mh, .int .i64 (13 + 11 * (N : Int)), .int .i64 T, .slice ha hl hc] 35 (0, 0)) := by rw [← hW]; exact (alloc_old (by simp; try omega)).trans ((alloc_old (by simp)).trans (alloc_new w _))
  have hrx : W.heap[w.heap.size + 1]? = some (.cells #[.bool false, .int .i64 0, .int .i64 0, .int .u32 0, .int .i64 0, .int .i64 0, .int .i64 0, .slice none 0 0, .slice none 0 0, .slice none 0 0, .int .i64 0] 50 (0, 0)) := by rw [← hW]; exact (alloc_old (by simp; try omega)).trans (alloc_at (by simp))
  have hox : W.heap[w.heap.size + 2]? = some (.cells #[.bool false, .int .i64 0, .int .i64 0, .int .u32 0, .int .i64 0, .int .i64 0, .int .i64 0, .slice none 0 0, .slice none 0 0, .slice none 0 0, .int .i64 0] 50 (0, 0)) := by rw [← hW]; exact alloc_at (by simp)
  have hbW : Below w.heap.size w W := by rw [← hW]; exact bl_alloc (bl_alloc (bl_alloc (Below.refl _ _) _) _) _
  rw [hW]
  obtain ⟨ob, hoE⟩ : ∃ b, w.heap.size + 2 = b := ⟨_, rfl⟩
  obtain ⟨rb, hrE⟩ : ∃ b, w.heap.size + 1 = b := ⟨_, rfl⟩
  obtain ⟨fb, hfE⟩ : ∃ b, w.heap.size = b := ⟨_, rfl⟩
  rw [hoE] at hox ⊢
  rw [hrE] at hrx ⊢
  rw [hfE] at hfx ⊢
  have hfr : fb < rb ∧ rb < ob ∧ w.heap.size ≤ fb := by omega
  have HFO := hid hfr
  have HFX := hid hfx
  have HRX := hid hrx
  have HOX := hid hox
  have HBW := hid hbW
  have c0 := cell_at hfx 0
  have c1 := cell_at hfx 1
  have c2 := cell_at hfx 2
  have c3 := cell_at hfx 3
  have c4 := cell_at hfx 4
  have c5 := cell_at hfx 5
  have c6 := cell_at hfx 6
  have c7 := cell_at hfx 7
  have c8 := cell_at hfx 8
  have c9 := cell_at hfx 9
  have c10 := cell_at hfx 10
  clear hW hfx hrx hox hbW hoE hrE hfE hfr
  go_wp2_with fail
  refine (r5bytes_any S N T mw mh _ W HL.out.pw HQ.out HL.out.s2 HL.out.n2 (H5.out.below HBW.out)).mono ?_
  rintro e w1 ⟨rfl, hb1⟩
  rw [HBYL.out]
  have HFX1 := hid ((hb1.block fb (lt_at HFX.out)).trans HFX.out)
  have HRX1 := hid ((hb1.block rb (lt_at HRX.out)).trans HRX.out)
  have HOX1 := hid ((hb1.block ob (lt_at HOX.out)).trans HOX.out)
  have HB1 := hid hb1
  have HV1 := hid (HV.out.below (HBW.out.comp hb1))
  clear hb1 c0 c1 c2 c3 c4 c5 c6 c7 c8 c9 c10
  go_wp2_with fail
  go_loopg [7, 8] L (fun gk z i wr => ∃ I : Nat, I + gk = L ∧ i = .int .i64 I ∧ z = .int .i64 ((8 * I - ones (l.take I) : Nat) : Int) ∧ wr = w1)
  case atStart => exact ⟨0, by omega, rfl, rfl, rfl⟩
  case round =>
    obtain ⟨I, hI, rfl, rfl, rfl⟩ := hrel
    by_cases hlt : I < L
    · have hcell := HV1.out.atc (j := I) (by rw [HLEN.out]; exact hlt)
      obtain ⟨c, hc⟩ : ∃ c, l.getD I 0 = c := ⟨_, rfl⟩
      have hc256 : c < 256 := by rw [← hc]; exact HX.out _ (getD_mem (by rw [HLEN.out]; exact hlt))
      have hon := ones_take l I (by rw [HLEN.out]; exact hlt)
      have hole := ones_take_le l I
      rw [hc] at hcell hon
      obtain ⟨q, hq⟩ : ∃ q, ones (l.take I) = q := ⟨_, rfl⟩
      rw [hq] at hon hole ⊢
      have HON := hid hon
      have HIi : (I : Int) < (L : Int) := by omega
      clear hc hon hq
      obtain ⟨wo, rfl⟩ : ∃ wo : World, wo = wr := ⟨_, rfl⟩
      go_wp2_with fail
      go_loopg [7, 9] 8 (fun gk2 z k wr => ∃ K : Nat, K + gk2 = 8 ∧ k = .int .i64 K ∧ z = .int .i64 ((8 * I - q + (K - pcK c K) : Nat) : Int) ∧ wr = wo)
      case atStart => exact ⟨0, by omega, rfl, rfl, rfl⟩
      case round =>
        obtain ⟨K, hK, rfl, rfl, rfl⟩ := hrel
        by_cases hlt2 : K < 8
        · have hsh : (c : Int) / (2 : Int) ^ K = ((c / 2 ^ K : Nat) : Int) := by rw [show (2 : Int) ^ K = ((2 ^ K : Nat) : Int) from (Int.natCast_pow 2 K).symm]; rfl
          have hpk : pcK c (K + 1) = pcK c K + c / 2 ^ K % 2 := rfl
          have hpl := pcK_le c K
          have hcd : c / 2 ^ K < 256 := Nat.lt_of_le_of_lt (Nat.div_le_self _ _) hc256
          obtain ⟨d, hd⟩ : ∃ d, c / 2 ^ K = d := ⟨_, rfl⟩
          rw [hd] at hsh hpk hcd
          have ha1 := and1_u8 d hcd
          obtain ⟨p, hp⟩ : ∃ p, pcK c K = p := ⟨_, rfl⟩
          rw [hp] at hpk hpl ⊢
          have HPKK := hid hpk
          obtain ⟨zz, hzz⟩ : ∃ z, 8 * I - q + (K - p) = z := ⟨_, rfl⟩
          rw [hzz]
          have hzb : zz ≤ 8 * I + 8 := by omega
          have HZZ := hid hzz
          clear hd hp hpk hzz
          go_wp2_with fail
          go_roundg (gk - 1)
          case measure => omega
          case rel => exact ⟨K + 1, by omega, by go_num, by rw [HPKK.out]; have := HZZ.out; go_num, rfl⟩
        · obtain rfl : K = 8 := by omega
          rw [pcK8]
          go_wp2_with fail
          go_roundg (L - (I + 1))
          case measure => omega
          case rel => exact ⟨I + 1, by omega, by go_num, by rw [HON.out]; have := pc_le c; go_num, rfl⟩
    · obtain rfl : L = I := by omega
      rw [show l.take L = l from List.take_of_length_le (by rw [HLEN.out]; exact Nat.le_refl _)]
      obtain ⟨n1, hn1⟩ : ∃ n, ones l = n := ⟨_, rfl⟩
      have he := HE.out
      rw [hn1] at he ⊢
      obtain ⟨zz, hzz⟩ : ∃ z, 8 * L - n1 = z := ⟨_, rfl⟩
      rw [hzz] at he ⊢
      have he1 : ¬ (zz : Int) ≤ (T : Int) := by omega
      have he2 : (T : Int) < (zz : Int) := by omega
      have hf1 := HFX1.out
      have c0 := cell_at hf1 0
      have c1 := cell_at hf1 1
      have c2 := cell_at hf1 2
      have c3 := cell_at hf1 3
      have c4 := cell_at hf1 4
      have c5 := cell_at hf1 5
      have c6 := cell_at hf1 6
      have c7 := cell_at hf1 7
      have c8 := cell_at hf1 8
      have c9 := cell_at hf1 9
      have c10 := cell_at hf1 10
      clear hzz hn1 he hf1
      go_wp2_with fail
      refine (r5word_any S N T mw mh _ wr HL.out.pw HL.out.s2 (H5.out.below (HBW.out.comp HB1.out))).mono ?_
      rintro e w2 ⟨rfl, hb2⟩
      have HFX2 := hid ((hb2.block fb (lt_at HFX1.out)).trans HFX1.out)
      have HRX2 := hid ((hb2.block rb (lt_at HRX1.out)).trans HRX1.out)
      have HOX2 := hid ((hb2.block ob (lt_at HOX1.out)).trans HOX1.out)
      have HB2 := hid (HB1.out.comp hb2)
      have hf2 := HFX2.out
      obtain ⟨wd, hwd⟩ : ∃ z, wdB S T mw = z := ⟨_, rfl⟩
      have hwd300 : wd ≤ 300 := by rw [← hwd]; have := HL.out.pw.r.2.2.2.1; unfold wdB pcn; omega
      rw [hwd]
      have HWD := hid hwd
      clear hb2 hwd he1 he2 c0 c1 c2 c3 c4 c5 c6 c7 c8 c9 c10
      have c0 := cell_at hf2 0
      have c1 := cell_at hf2 1
      have c2 := cell_at hf2 2
      have c3 := cell_at hf2 3
      have c4 := cell_at hf2 4
      have c5 := cell_at hf2 5
      have c6 := cell_at hf2 6
      have c7 := cell_at hf2 7
      have c8 := cell_at hf2 8
      have c9 := cell_at hf2 9
      have c10 := cell_at hf2 10
      clear hf2
      go_wp2_with fail
      obtain ⟨en, hen⟩ : ∃ e, T / 4 + 1 = e := ⟨_, rfl⟩
      have hen3 : en ≤ 3 := by omega
      have HEND := hid (r5end_any S N T mw mh _ w2 hT8 (H5.out.below (HBW.out.comp HB2.out)))
      rw [hen] at HEND
      have HEN := hid hen
      clear hen
      refine HEND.out.mono ?_
      rintro e w3 ⟨rfl, hb3⟩
      have HFX3 := hid ((hb3.block fb (lt_at HFX2.out)).trans HFX2.out)
      have HRX3 := hid ((hb3.block rb (lt_at HRX2.out)).trans HRX2.out)
      have HOX3 := hid ((hb3.block ob (lt_at HOX2.out)).trans HOX2.out)
      have HB3 := hid (HB2.out.comp hb3)
      have HV3 := hid (HV.out.below (HBW.out.comp (HB2.out.comp hb3)))
      obtain ⟨la, hla⟩ : ∃ z, lastB S N T mw mh = z := ⟨_, rfl⟩
      have hLla : L = la + en := by rw [HPG.out, ← hla, ← HEN.out]; rfl
      have hlaI : (L : Int) - (en : Int) = ((la : Nat) : Int) := by omega
      have HLA := hid hla
      have HLLA := hid hLla
      have hla25 : la ≤ 2500 := by omega
      clear hb3 HEND hla hLla c0 c1 c2 c3 c4 c5 c6 c7 c8 c9 c10
      go_wp2_with fail
      go_loopg [13, 14] en (fun gk z i wr => ∃ J : Nat, J + gk = en ∧ i = .int .i64 ((la + J : Nat) : Int) ∧ z = .int .i64 ((ones ((l.drop la).take J) : Nat) : Int) ∧ wr = w3)
      case atStart => exact ⟨0, by omega, rfl, rfl, rfl⟩
      case round =>
        obtain ⟨J, hJ, rfl, rfl, rfl⟩ := hrel
        by_cases hlt : J < en
        · have hJL : la + J < l.length := by rw [HLEN.out]; have := HLLA.out; omega
          have hcell := HV3.out.atc (j := la + J) hJL
          obtain ⟨c, hc⟩ : ∃ c, l.getD (la + J) 0 = c := ⟨_, rfl⟩
          have hc256 : c < 256 := by rw [← hc]; exact HX.out _ (getD_mem hJL)
          have hon := drop_take_succ (l := l) (p := la) (J := J) hJL
          have hole : ones ((l.drop la).take J) ≤ 8 * J := ones_take_le _ J
          rw [hc] at hcell hon
          obtain ⟨q, hq⟩ : ∃ q, ones ((l.drop la).take J) = q := ⟨_, rfl⟩
          rw [hq] at hon hole ⊢
          obtain ⟨P0, hP0⟩ : ∃ p, la + J = p := ⟨_, rfl⟩
          rw [hP0] at hcell ⊢
          have HP0 := hid hP0
          have HON := hid hon
          have HIi : (P0 : Int) < (L : Int) := by have := HLLA.out; omega
          have HIi2 : (0 : Int) ≤ (P0 : Int) := by omega
          have hP25 : P0 ≤ 2500 := by omega
          clear hc hon hq hP0 hJL
          obtain ⟨wo, rfl⟩ : ∃ wo : World, wo = wr := ⟨_, rfl⟩
          go_wp2_with fail
          go_loopg [13, 15] 8 (fun gk2 z k wr => ∃ K : Nat, K + gk2 = 8 ∧ k = .int .i64 K ∧ z = .int .i64 ((q + pcK c K : Nat) : Int) ∧ wr = wo)
          case atStart => exact ⟨0, by omega, rfl, rfl, rfl⟩
          case round =>
            obtain ⟨K, hK, rfl, rfl, rfl⟩ := hrel
            by_cases hlt2 : K < 8
            · have hsh : (c : Int) / (2 : Int) ^ K = ((c / 2 ^ K : Nat) : Int) := by rw [show (2 : Int) ^ K = ((2 ^ K : Nat) : Int) from (Int.natCast_pow 2 K).symm]; rfl
              have hpk : pcK c (K + 1) = pcK c K + c / 2 ^ K % 2 := rfl
              have hpl := pcK_le c K
              have hcd : c / 2 ^ K < 256 := Nat.lt_of_le_of_lt (Nat.div_le_self _ _) hc256
              obtain ⟨d, hd⟩ : ∃ d, c / 2 ^ K = d := ⟨_, rfl⟩
              rw [hd] at hsh hpk hcd
              have ha1 := and1_u8 d hcd
              obtain ⟨p, hp⟩ : ∃ p, pcK c K = p := ⟨_, rfl⟩
              rw [hp] at hpk hpl ⊢
              have HPKK := hid hpk
              obtain ⟨zq, hzz⟩ : ∃ z, q + p = z := ⟨_, rfl⟩
              rw [hzz]
              have hzb : zq ≤ 8 * J + 8 := by omega
              have HZZ := hid hzz
              clear hd hp hpk hzz
              go_wp2_with fail
              go_roundg (gk - 1)
              case measure => omega
              case rel => exact ⟨K + 1, by omega, by go_num, by rw [HPKK.out]; have := HZZ.out; go_num, rfl⟩
            · obtain rfl : K = 8 := by omega
              rw [pcK8]
              go_wp2_with fail
              go_roundg (en - (J + 1))
              case measure => omega
              case rel => exact ⟨J + 1, by omega, by have := HP0.out; go_num, by rw [HON.out], rfl⟩
        · obtain rfl : en = J := by omega
          have hpgL := HPG.out
          obtain ⟨K, hK⟩ : ∃ K, N * wd = K := ⟨_, rfl⟩
          obtain ⟨M, hM⟩ : ∃ M, 9 + 11 * N + 4 + pcn mh T = M := ⟨_, rfl⟩
          have hlaK : la = K + M := by rw [← HLA.out, ← hK, ← HWD.out, ← hM]; rfl
          have hdl : (l.drop la).length = en := by rw [List.length_drop, HLEN.out]; have := HLLA.out; omega
          rw [show (l.drop la).take en = l.drop la from List.take_of_length_le (by omega)]
          obtain ⟨on1, hon1⟩ : ∃ z, ones (l.drop la) = z := ⟨_, rfl⟩
          have hon8 : on1 ≤ 24 := by rw [← hon1]; have := ones_le (l.drop la); omega
          rw [hon1]
          have hrd := rd_cut HV3.out HLEN.out K M (cap - K) (by have := HLLA.out; omega) (by have := HLLA.out; have := HCP.out.1; omega) (by have := HCP.out.2; omega)
          have RD1 := hid hrd
          have hcl : (cut l K M).length = 9 + 11 * N + 4 + pcn mh T := by rw [hM]; exact cut_len (by rw [HLEN.out]; have := HLLA.out; omega)
          have HCL := hid hcl
          have hwK : IntKind.i64.wrap ((N : Int) * (wd : Int)) = ((K : Nat) : Int) := by rw [show (N : Int) * (wd : Int) = ((K : Nat) : Int) by rw [← hK]; push_cast; rfl]; exact IntWalk.i64_in _ (by omega)
          have hKm : (N : Int) * (wd : Int) = ((K : Nat) : Int) := by rw [← hK]; push_cast; rfl
          have hwK2 : IntKind.i64.wrap ((K : Nat) : Int) = ((K : Nat) : Int) := IntWalk.i64_in _ (by omega)
          have hwla : IntKind.i64.wrap ((la : Nat) : Int) = ((la : Nat) : Int) := IntWalk.i64_in _ (by omega)
          have hM1 : 1 ≤ M := by omega
          have j1 : (0 : Int) ≤ (K : Int) := by omega
          have j2 : (K : Int) ≤ (la : Int) := by omega
          have j3 : (la : Int) ≤ (cap : Int) := by have := HLLA.out; omega
          have hbcn : ¬ cap = K := by have := HLLA.out; have := HCP.out.1; omega
          have hsub : la - K = M := by omega
          have hps : 13 + 11 * N = 9 + 11 * N + 4 := by omega
          have HRHC := HRH.out
          rw [hps] at HRHC
          have HOPEN : Hid (∀ V, Below wr.heap.size wr V → Calls Tryz.prog 41 #[.agg #[.int .i64 mh, .int .i64 (13 + 11 * (N : Int)), .int .i64 T, .slice ha hl hc], .slice (some ⟨g, o + K, none⟩) M (cap - K), .int .i64 (9 + 11 * (N : Int))] V fun e w' => ∃ gx cx, e = .returned (.tuple #[.slice (some ⟨gx, 0, none⟩) (9 + 11 * N) cx, .int .u32 (s0 : Nat), .int .i64 (k0 : Nat), .bool true]) ∧ (wr.heap.size ≤ gx ∧ 9 + 11 * N ≤ cx ∧ cx ≤ maxLen ∧ Rd .u8 w' (.slice (some ⟨gx, 0, none⟩) (9 + 11 * N) cx) x0 ∧ x0.length = 9 + 11 * N ∧ (∀ y ∈ x0, y < 256) ∧ k0 ≤ T ∧ s0 < 4294967296) ∧ Below wr.heap.size wr w') := hid fun V hV => by
            refine (r5open_any _ _ (cut l K M) (9 + 11 * N) T mh V HL.out.ph (HRHC.below (HBW.out.comp (HB3.out.comp hV))) (RD1.out.below hV) HCL.out (cut_lt HX.out _ _) (by omega)).mono ?_
            rintro e w' ⟨hn, hb⟩
            have hop := HOP.out
            rw [HWD.out, hK, hM] at hop
            rcases hn with ⟨g1, c1, x, s, k, b1, b2, b3, rfl, b5, b6, b7, b8, b9, b10⟩ | ⟨_, b10⟩
            · rw [hop] at b10
              simp only [Option.some.injEq, Prod.mk.injEq] at b10
              obtain ⟨rfl, rfl, rfl⟩ := b10
              exact ⟨g1, c1, rfl, ⟨Nat.le_trans hV.size b1, b2, b3, b5, b6, b7, b8, b9⟩, hV.comp hb⟩
            · rw [hop] at b10; cases b10
          have hf3 := HFX3.out
          have d1 := cell_at hf3 1
          have d7 := cell_at hf3 7
          have d8 := cell_at hf3 8
          have d9 := cell_at hf3 9
          have d10 := cell_at hf3 10
          have hcr : Below wr.heap.size wr wr.drew := (Below.refl _ _).drew
          have HKE := hid hK
          have HME := hid hM
          have HON1 := hid hon1
          have HLAK := hid hlaK
          clear hK hM hlaK hdl hon1 hrd hcl hps HRHC hf3 hpgL
          go_wp2_with fail
          go_region_held3 (fun w' => w'.cell? ⟨fb, 1, none⟩ = some (.int .i64 N) ∧ w'.cell? ⟨fb, 7, none⟩ = some (.int .i64 mh) ∧ w'.cell? ⟨fb, 8, none⟩ = some (.int .i64 (13 + 11 * (N : Int))) ∧ w'.cell? ⟨fb, 9, none⟩ = some (.int .i64 T) ∧ w'.cell? ⟨fb, 10, none⟩ = some (.slice ha hl hc))
            (first | exact ⟨d1, d7, d8, d9, d10⟩ | exact ⟨x1, x7, x8, x9, x10⟩)
            (first
            | (go_at_call 41; refine (HOPEN.out wr.drew hcr).mono ?_; rintro e wa ⟨gx, cx, rfl, hfx0, hba⟩; have hfa := (hba.block fb (lt_at HFX3.out)).trans HFX3.out; have x1 := cell_at hfa 1; have x7 := cell_at hfa 7; have x8 := cell_at hfa 8; have x9 := cell_at hfa 9; have x10 := cell_at hfa 10; have HFXA := hid hfa; have HRXA := hid ((hba.block rb (lt_at HRX3.out)).trans HRX3.out); have HOXA := hid ((hba.block ob (lt_at HOX3.out)).trans HOX3.out); have HBA := hid (HB3.out.comp hba); have HX0 := hid hfx0; clear hfx0; clear hfa hba)
            | fail)
          have HNUM := hid (And.intro hN8 (And.intro hT8 (And.intro hon8 (And.intro hca1 hca2))))
          clear d1 d7 d8 d9 d10 x1 x7 x8 x9 x10 hcr hwK hwK2 hwla hKm hM1 j1 j2 j3 hbcn hsub hlaI hS2 hwd300 hen3 hla25 hLm hI hJ hlt
          have hoi : (on1 : Int) ≤ (T : Int) := by have := HONE.out; rw [HLA.out, HON1.out] at this; omega
          have e2 := cell_at HFXA.out 2
          go_upto_region 30 with (fail)
          obtain ⟨hb, hhbE⟩ : ∃ b, wa.heap.size = b := ⟨_, rfl⟩
          obtain ⟨w4, hw4⟩ : ∃ V, wa.alloc (.cells #[.int .i64 0, .int .u32 0, .int .i64 0, .int .i64 0, .int .i64 0, .slice none 0 0] 27) = V := ⟨_, rfl⟩
          have hb4 : Below wa.heap.size wa w4 := by rw [← hw4]; exact (Below.refl _ _).alloc (Nat.le_refl _) _
          have hhx : w4.heap[hb]? = some (.cells #[.int .i64 0, .int .u32 0, .int .i64 0, .int .i64 0, .int .i64 0, .slice none 0 0] 27 (0, 0)) := by rw [← hw4]; exact alloc_at hhbE.symm
          rw [hw4, hhbE]
          have HW4S := hid (show w4.heap.size = hb + 1 by rw [← hw4, ← hhbE]; simp)
          have HHX := hid hhx
          have HOX4 := hid ((hb4.block ob (lt_at HOXA.out)).trans HOXA.out)
          have HRX4 := hid ((hb4.block rb (lt_at HRXA.out)).trans HRXA.out)
          have HFX4 := hid ((hb4.block fb (lt_at HFXA.out)).trans HFXA.out)
          have HB4 := hid (HBA.out.comp hb4)
          obtain ⟨hgx, hcx1, hcx2, hrx, hxl, hxb, hkT, hs0⟩ := HX0.out
          have hrx4 := hrx.below hb4
          have cell : ∀ j, j < 9 + 11 * N → w4.cell? ⟨gx, j, none⟩ = some (.int .u8 ((x0.getD j 0 : Nat) : Int)) := fun j hj => by have := hrx4.atc (j := j) (by rw [hxl]; exact hj); rwa [Nat.zero_add] at this
          have c0 := cell 0 (by omega)
          have c7 := cell 7 (by omega)
          have c8 := cell 8 (by omega)
          have b0 : x0.getD 0 0 < 256 := hxb _ (getD_mem (by omega))
          have b7 : x0.getD 7 0 < 256 := hxb _ (getD_mem (by omega))
          have b8 : x0.getD 8 0 < 256 := hxb _ (getD_mem (by omega))
          have r1 := rd_cut hrx4 hxl 1 4 (cx - 1) (by omega) (by omega) (by omega)
          have r5 := rd_cut hrx4 hxl 5 2 (cx - 5) (by omega) (by omega) (by omega)
          rw [Nat.zero_add] at r1 r5
          have l1 : (cut x0 1 4).length = 4 := cut_len (by omega)
          have l5 : (cut x0 5 2).length = 2 := cut_len (by omega)
          have n1b : num (cut x0 1 4) < 4294967296 := by have := num_lt (cut_lt hxb 1 4); rw [l1] at this; exact this
          have n5b : num (cut x0 5 2) < 65536 := by have := num_lt (cut_lt hxb 5 2); rw [l5] at this; exact this
          have U1 := hid (fun k => r5number_any _ (cut x0 1 4) (w4.drewN k) (r1.drewN k) (cut_lt hxb _ _) (by omega))
          have U5 := hid (fun k => r5number_any _ (cut x0 5 2) (w4.drewN k) (r5.drewN k) (cut_lt hxb _ _) (by omega))
          obtain ⟨y0, hy0⟩ : ∃ y, x0.getD 0 0 = y := ⟨_, rfl⟩
          obtain ⟨y7, hy7⟩ : ∃ y, x0.getD 7 0 = y := ⟨_, rfl⟩
          obtain ⟨y8, hy8⟩ : ∃ y, x0.getD 8 0 = y := ⟨_, rfl⟩
          obtain ⟨n1, hn1⟩ : ∃ n, num (cut x0 1 4) = n := ⟨_, rfl⟩
          obtain ⟨n5, hn5⟩ : ∃ n, num (cut x0 5 2) = n := ⟨_, rfl⟩
          rw [hy0] at c0 b0
          rw [hy7] at c7 b7
          rw [hy8] at c8 b8
          rw [hn1] at U1 n1b
          rw [hn5] at U5 n5b
          have Y0 := hid hy0
          have Y7 := hid hy7
          have Y8 := hid hy8
          have N1 := hid hn1
          have N5 := hid hn5
          have hw1 : IntKind.u32.wrap (n1 : Int) = (n1 : Int) := wraps_u32 _ (by omega) (by omega)
          have i5 : (5 : Int) ≤ (cx : Int) := by omega
          have i7 : (7 : Int) ≤ (cx : Int) := by omega
          have i9 : (9 : Int) ≤ 9 + 11 * (N : Int) := by omega
          have m0 : (0 : Int) < 9 + 11 * (N : Int) := by omega
          have m7 : (7 : Int) < 9 + 11 * (N : Int) := by omega
          have m8 : (8 : Int) < 9 + 11 * (N : Int) := by omega
          have k1 : ¬ cx = 1 := by omega
          have k5 : ¬ cx = 5 := by omega
          have hcx3 : (cx : Int) ≤ 9223372036854775807 := by unfold maxLen at hcx2; omega
          have q0 := cell_at hhx 0
          have q1 := cell_at hhx 1
          have q2 := cell_at hhx 2
          have q3 := cell_at hhx 3
          have q4 := cell_at hhx 4
          have q5 := cell_at hhx 5
          have f0 := free_at hhx 0
          have f1 := free_at hhx 1
          have f2 := free_at hhx 2
          have f3 := free_at hhx 3
          have f4 := free_at hhx 4
          have f5 := free_at hhx 5
          have HRX0 := hid hrx4
          have HXL := hid hxl
          have HXB := hid hxb
          have HCX := hid (And.intro hcx1 hcx2)
          have HHE := hid hhbE
          have HKT := hid hkT
          have HGX := hid (show gx < hb by rw [← hhbE]; exact World.block_lt_of_cell? _ _ (hrx.atc (j := 0) (by rw [hxl]; omega)))
          clear hw4 hb4 hhx hgx hcx1 hcx2 hrx hrx4 hxl hxb hkT hs0 cell r1 r5 l1 l5 hy0 hy7 hy8 hn1 hn5 hhbE e2 hoi HX0
          refine wp_region_quiet_tail 21 (by kernel_rfl) (by kernel_rfl) ?_
          simp only [List.take_succ_cons, List.take_zero, List.drop_succ_cons, List.drop_zero]
          repeat (go_big_quiet_step ((go_at_call 42; first | with_reducible exact quiet_eq (U1.out _) | with_reducible exact quiet_eq (U5.out _))))
          refine wpQuiet_nil ?_
          intro _ hw'
          obtain ⟨nq, hw''⟩ := hw'
          subst hw''
          go_upto_region 31 with (fail)
          have hV0 := six_set (show (w4.drewN nq).heap[hb]? = _ from HHX.out) (.int .i64 y0) (.int .u32 n1) (.int .i64 n5) (.int .i64 y7) (.int .i64 y8) (.slice none 0 0)
          obtain ⟨w5, hw5⟩ : ∃ V, ((((((w4.drewN nq).setCell ⟨hb, 0, none⟩ (.int .i64 y0)).setCell ⟨hb, 1, none⟩ (.int .u32 n1)).setCell ⟨hb, 2, none⟩ (.int .i64 n5)).setCell ⟨hb, 3, none⟩ (.int .i64 y7)).setCell ⟨hb, 4, none⟩ (.int .i64 y8)).setCell ⟨hb, 5, none⟩ (.slice none 0 0) = V := ⟨_, rfl⟩
          have hg5 : w4.grownBy w5 (some hb) := by rw [← hw5]; exact grow_row (grow_row (grow_row (grow_row (grow_row (grow_row (((Below.refl w4.heap.size w4).drewN nq).toGrown (some hb)) (grown_set _ hb 0 _) (fun _ h => .inl h)) (grown_set _ hb 1 _) (fun _ h => .inl h)) (grown_set _ hb 2 _) (fun _ h => .inl h)) (grown_set _ hb 3 _) (fun _ h => .inl h)) (grown_set _ hb 4 _) (fun _ h => .inl h)) (grown_set _ hb 5 _) (fun _ h => .inl h)
          rw [hw5] at hV0 ⊢
          have HV0 := hid hV0
          have HG5 := hid hg5
          clear hw5 hV0 hg5 q0 q1 q2 q3 q4 q5 f0 f1 f2 f3 f4 f5 c0 c7 c8 U1 U5 i5 i7 i9 m0 m7 m8 k1 k5 hw1
          go_wp2_with fail
          refine Code.wp_mono NoPanic.imp ?_
          refine slots_loop N gx cx fb hb (.int .i64 y0) (.int .u32 n1) (.int .i64 n5) (.int .i64 y7) (.int .i64 y8) x0 w4 w5 _ _ _ _ _ _ _ _ _ _ _ _ _ _ _ _ _ _ _ _ _ _ _ _ _ _ _ _ _ _ _ _ _ _ _ _ _ _ _ _ _ _ _ _ _ _ _ _ _ _ _ _ _ _ _ _ _ _ _ _ _ _ _ _ _ _ _ _ _ _ _ _ _ _ _ _ _ _ _ _ _ _ _ _ _ _ _ _ _ _ _ _ _ _ _ _ _ _ _ _ _ _ _ _ _ _ _ _ _ _ _ _ _ _ _ _ _ _ _ _ _ _ _ _ _ _ _ _ _ _ _ _ _ _ _ _ _ _ _ _ _ _ _ _ _ _ _ _ _ _ _ _ _ _ _ _ _ _ _ _ _ _ _ _ _ _ _ _ _ _ _ _ _ _ _ _ _ _ _ _ _ _ _ _ _ _ _ _ _ _ _ _ _ _ _ _ _ _ _ _ _ _ _ _ _ _ _ _ _ _ _ _ _ _ _ _ _ _ _ _ _ _ _ _ _ _ _ _ _ _ _ _ _ _ _ _ _ _ _ _ _ _ _ _ _ _ _ _ _ _ _ _ _ _ _ _ _ _ _ _ _ _ _ _ _ _ _ _ _ _ _ _ HNUM.out.1 HCX.out.1 HCX.out.2 HRX0.out HXL.out HXB.out (cell_at HFX4.out 1) HGX.out (by have h1 := HHE.out; have h2 := lt_at HFXA.out; omega) HW4S.out HV0.out HG5.out ?_
          intro aF sv wr hfr hbb how hgr
          obtain ⟨u21, hfr⟩ := hfr
          obtain ⟨u22, hfr⟩ := hfr
          obtain ⟨u145, hfr⟩ := hfr
          obtain ⟨u146, hfr⟩ := hfr
          obtain ⟨u147, hfr⟩ := hfr
          obtain ⟨u148, hfr⟩ := hfr
          obtain ⟨u149, hfr⟩ := hfr
          obtain ⟨u150, hfr⟩ := hfr
          obtain ⟨u151, hfr⟩ := hfr
          obtain ⟨u152, hfr⟩ := hfr
          obtain ⟨u153, hfr⟩ := hfr
          obtain ⟨u154, hfr⟩ := hfr
          obtain ⟨u155, hfr⟩ := hfr
          obtain ⟨u156, hfr⟩ := hfr
          obtain ⟨u157, hfr⟩ := hfr
          obtain ⟨u158, hfr⟩ := hfr
          obtain ⟨u159, hfr⟩ := hfr
          obtain ⟨u160, hfr⟩ := hfr
          obtain ⟨u161, hfr⟩ := hfr
          obtain ⟨u162, hfr⟩ := hfr
          obtain ⟨u163, hfr⟩ := hfr
          obtain ⟨u164, hfr⟩ := hfr
          obtain ⟨u165, hfr⟩ := hfr
          obtain ⟨u166, hfr⟩ := hfr
          obtain ⟨u167, hfr⟩ := hfr
          obtain ⟨u168, hfr⟩ := hfr
          obtain ⟨u169, hfr⟩ := hfr
          obtain ⟨u170, hfr⟩ := hfr
          obtain ⟨u171, hfr⟩ := hfr
          obtain ⟨u172, hfr⟩ := hfr
          obtain ⟨u173, hfr⟩ := hfr
          obtain ⟨u174, hfr⟩ := hfr
          obtain ⟨u175, hfr⟩ := hfr
          obtain ⟨u176, hfr⟩ := hfr
          subst hfr
          have HBB := hid hbb
          have HOW := hid how
          have HGR := hid hgr
          have HFXW := hid ((hgr.block fb (lt_at HFX4.out) (fun e => by have h1 := HHE.out; have h2 := lt_at HFXA.out; cases e; omega)).trans HFX4.out)
          clear hbb how hgr HV0 HG5
          have hbR : Below w.heap.size w wr := below_grown (HBW.out.comp HB4.out) HGR.out (by have h1 := HHE.out; have h2 := (HBW.out.comp HBA.out).size; omega) (HBW.out.comp HB4.out).size
          have hrxw := (HGR.out.block rb (lt_at HRX4.out) (fun e => by have h1 := HHE.out; have h2 := lt_at HRXA.out; cases e; omega)).trans HRX4.out
          have hoxw := (HGR.out.block ob (lt_at HOX4.out) (fun e => by have h1 := HHE.out; have h2 := lt_at HOXA.out; cases e; omega)).trans HOX4.out
          have hob1 : ob < hb := by have h1 := HHE.out; have h2 := lt_at HOXA.out; omega
          have hxr : Rd .u8 wr (.slice (some ⟨gx, 0, none⟩) (9 + 11 * N) cx) x0 := rd_keep HRX0.out (HGR.out.block gx (World.block_lt_of_cell? _ _ (HRX0.out.atc (j := 0) (by rw [HXL.out]; omega))) (fun e => by have := HGX.out; cases e; omega))
          have hN1 := HL.out.n1
          have hsl0 : (headP N x0).slots.length = N := by unfold headP; simp
          obtain ⟨sg, sc, y1, y2, hsv, y3⟩ := HOW.out.slm (by rw [hsl0]; exact hN1)
          rw [hsl0] at hsv
          subst hsv
          have hslm : SlM (hb + 1) wr (.slice (some ⟨sg, 0, none⟩) N sc) (headP N x0).slots := ⟨sg, sc, y1, y2, by rw [hsl0], y3⟩
          have hdv : HdV wr (.agg #[.int .i64 y0, .int .u32 n1, .int .i64 n5, .int .i64 y7, .int .i64 y8, .slice (some ⟨sg, 0, none⟩) N sc]) (headP N x0) := ⟨_, by show _ = Value.agg #[.int .i64 ((x0.getD 0 0 : Nat) : Int), .int .u32 ((num (cut x0 1 4) : Nat) : Int), .int .i64 ((num (cut x0 5 2) : Nat) : Int), .int .i64 ((x0.getD 7 0 : Nat) : Int), .int .i64 ((x0.getD 8 0 : Nat) : Int), _]; rw [Y0.out, N1.out, N5.out, Y7.out, Y8.out], y3⟩
          have hwf := headP_wf HXL.out HXB.out
          have HMAY : Hid (Calls Tryz.prog 25 #[.agg #[.int .i64 S, .int .i64 N, .int .i64 T, .int .i64 mw, .int .i64 ((S : Int) + 4), .int .i64 T, .slice ga gl gc, .int .i64 mh, .int .i64 (13 + 11 * (N : Int)), .int .i64 T, .slice ha hl hc], .agg #[.int .i64 y0, .int .u32 n1, .int .i64 n5, .int .i64 y7, .int .i64 y8, .slice (some ⟨sg, 0, none⟩) N sc]] wr fun e w' => e = .returned (.bool true) ∧ Below wr.heap.size wr w') := hid (by
            have := r5may_any S N T mw mh _ _ _ wr (H5.out.below hbR) hdv hwf HL.out.n2
            rwa [decide_eq_true HYM.out] at this)
          have HHD' : Hid ((headP N x0).kind = (y0 : Nat) ∧ (headP N x0).id = n1 ∧ (headP N x0).row = (n5 : Nat) ∧ (headP N x0).place = (y7 : Nat) ∧ (headP N x0).width = (y8 : Nat) ∧ (headP N x0).slots.length = N) := hid ⟨congrArg _ Y0.out, N1.out, congrArg _ N5.out, congrArg _ Y7.out, congrArg _ Y8.out, by unfold headP; simp⟩
          have HWF := hid hwf
          have HSLM := hid hslm
          have HBR := hid hbR
          have HRXW := hid hrxw
          have HOXW := hid hoxw
          have HOB1 := hid hob1
          have HXR := hid hxr
          have hfw := HFXW.out
          have d0 := cell_at hfw 0
          have d1 := cell_at hfw 1
          have d2 := cell_at hfw 2
          have d3 := cell_at hfw 3
          have d4 := cell_at hfw 4
          have d5 := cell_at hfw 5
          have d6 := cell_at hfw 6
          have d7 := cell_at hfw 7
          have d8 := cell_at hfw 8
          have d9 := cell_at hfw 9
          have d10 := cell_at hfw 10
          have hbw := HBB.out
          have q0 := cell_at hbw 0
          have q1 := cell_at hbw 1
          have q2 := cell_at hbw 2
          have q3 := cell_at hbw 3
          have q4 := cell_at hbw 4
          have q5 := cell_at hbw 5
          clear hbR hrxw hoxw hob1 hxr y1 y2 y3 hslm hdv hwf hfw hbw hsl0
          go_wp2_with fail
          refine HMAY.out.mono ?_
          rintro e wm ⟨rfl, hbm⟩
          have HFXM := hid ((hbm.block fb (lt_at HFXW.out)).trans HFXW.out)
          have HRXM := hid ((hbm.block rb (lt_at HRXW.out)).trans HRXW.out)
          have HOXM := hid ((hbm.block ob (lt_at HOXW.out)).trans HOXW.out)
          have HBBM := hid ((hbm.block hb (lt_at HBB.out)).trans HBB.out)
          have HSLM' := hid (HSLM.out.keep (Keep.of_below hbm))
          have HBM := hid (HBR.out.comp hbm)
          have HSUM := hid (r3sum_any _ x0 wm (HXR.out.below hbm) HXB.out)
          clear hbm d0 d1 d2 d3 d4 d5 d6 d7 d8 d9 d10 q0 q1 q2 q3 q4 q5
          rw [HYS.out] at HSUM
          go_wp2_with fail
          refine HSUM.out.mono ?_
          rintro e wz ⟨rfl, rfl⟩
          obtain ⟨vk, hvk⟩ : ∃ z, vd k0 = z := ⟨_, rfl⟩
          have HVK := hid hvk
          have HVD : Hid (Calls Tryz.prog 43 #[.int .i64 k0, .bool true] wm fun e w' => e = .returned (.int .i64 (vk : Nat)) ∧ wm = w') := hid (by have := r5verdict_any k0 true wm; rw [if_pos rfl, hvk] at this; exact this)
          clear hvk
          have hbw := HBBM.out
          have q0 := cell_at hbw 0
          have q1 := cell_at hbw 1
          have q2 := cell_at hbw 2
          have q3 := cell_at hbw 3
          have q4 := cell_at hbw 4
          have q5 := cell_at hbw 5
          obtain ⟨p0, p1, p2, p3, p4, p5, p6, p7, p8, p9, p10⟩ := op_cells HOXM.out
          obtain ⟨z0, z1, z2, z3, z4, z5, z6, z7, z8, z9, z10⟩ := op_free HOXM.out
          clear hbw p0 p8 p9 z0 z8 z9
          have hno1 : ¬ ob = hb := by have := HOB1.out; omega
          have hno2 : ¬ hb = ob := by have := HOB1.out; omega
          go_upto_region 38 with (fail)
          go_wp2_with fail
          refine HVD.out.mono ?_
          rintro e wz1 ⟨rfl, rfl⟩
          go_upto_region 42 with (fail)
          obtain ⟨sA, gA⟩ := head_set HOXM.out (.int .i64 (vk : Nat)) (.int .i64 y0) (.int .u32 n1) (.int .i64 n5) (.int .i64 y7) (.int .i64 y8) (.slice (some ⟨sg, 0, none⟩) N sc) (.int .i64 k0)
          obtain ⟨w5, hw5⟩ : ∃ V, (((((((wm.setCell ⟨ob, 1, none⟩ (.int .i64 (vk : Nat))).setCell ⟨ob, 2, none⟩ (.int .i64 y0)).setCell ⟨ob, 3, none⟩ (.int .u32 n1)).setCell ⟨ob, 4, none⟩ (.int .i64 n5)).setCell ⟨ob, 5, none⟩ (.int .i64 y7)).setCell ⟨ob, 6, none⟩ (.int .i64 y8)).setCell ⟨ob, 7, none⟩ (.slice (some ⟨sg, 0, none⟩) N sc)).setCell ⟨ob, 10, none⟩ (.int .i64 k0) = V := ⟨_, rfl⟩
          rw [hw5] at sA gA ⊢
          have HFX5 := hid ((gA.block fb (lt_at HFXM.out) (fun e => by have := HFO.out; cases e; omega)).trans HFXM.out)
          have HRX5 := hid ((gA.block rb (lt_at HRXM.out) (fun e => by have := HFO.out; cases e; omega)).trans HRXM.out)
          have HBB5 := hid ((gA.block hb (lt_at HBBM.out) (fun e => by have := HOB1.out; cases e; omega)).trans HBBM.out)
          have HSL5 := hid (HSLM'.out.keep (Keep.of_grown gA (by have := HOB1.out; omega)))
          have HB5 := hid (below_grown HBM.out gA (by have := HFO.out; omega) HBM.out.size)
          have HOX5 := hid sA
          clear hno1 hno2 hw5 sA gA p1 p2 p3 p4 p5 p6 p7 p10 z1 z2 z3 z4 z5 z6 z7 z10 q0 q1 q2 q3 q4 q5
          go_wp2_with fail
          refine Code.wp_mono NoPanic.imp ?_
          refine good_loop S N T mw wd g o L cap fb ob hb sg sc k0 (hb + 1) ga gl gc (.int .i64 mh) (.int .i64 (13 + 11 * (N : Int))) (.int .i64 T) (.slice ha hl hc) (.int .i64 y0) (.int .u32 n1) (.int .i64 n5) (.int .i64 y7) (.int .i64 y8) (.bool false) (.int .i64 (vk : Nat)) (.int .i64 y0) (.int .u32 n1) (.int .i64 n5) (.int .i64 y7) (.int .i64 y8) (.slice (some ⟨sg, 0, none⟩) N sc) l (headP N x0) w w5 _ _ _ _ _ _ _ _ _ _ _ _ _ _ _ _ _ _ _ _ _ _ _ _ _ _ _ _ _ _ _ _ _ _ _ _ _ _ _ _ _ _ _ _ _ _ _ _ _ _ _ _ _ _ _ _ _ _ _ _ _ _ _ _ _ _ _ _ _ _ _ _ _ _ _ _ _ _ _ _ _ _ _ _ _ _ _ _ _ _ _ _ _ _ _ _ _ _ _ _ _ _ _ _ _ _ _ _ _ _ _ _ _ _ _ _ _ _ _ _ _ _ _ _ _ _ _ _ _ _ _ _ _ _ _ _ _ _ _ _ _ _ _ _ _ _ _ _ _ _ _ _ _ _ _ _ _ _ _ _ _ _ _ _ _ _ _ _ _ _ _ _ _ _ _ _ _ _ _ _ _ _ _ _ _ _ _ _ _ _ _ _ _ _ _ _ _ _ _ _ _ _ _ _ _ _ _ _ _ _ _ _ _ _ _ _ _ _ _ _ _ _ _ _ _ _ _ _ _ _ _ _ _ _ _ _ _ _ _ _ _ _ _ _ _ _ _ _ _ _ _ _ _ _ _ _ _ _ _ _ _ _ _ _ _ _ _ _ _ HL.out.pw HL.out.s1 HL.out.s2 HL.out.n2 HL.out.t2 HWD.out (by rw [HKE.out, HLLA.out, HLAK.out]; omega) (by rw [HPG.out]; exact pageB_le HL.out) HCP.out.1 HCP.out.2 HRW.out HV.out HLEN.out HX.out HB5.out (by have := HFO.out; omega) (by have := HFO.out; omega) (by have := HOB1.out; omega) (by have := HOB1.out; omega) (by have h1 := HKT.out; have h2 := HL.out.t2; omega) HFX5.out HBB5.out HSL5.out HHD'.out.2.2.2.2.2 (fun s hs => ⟨HYM.out.2 s hs, HWF.out.2 s hs⟩) HOX5.out ?_
          intro aG zw zs wq hfr hun
          obtain ⟨v24, hfr⟩ := hfr
          obtain ⟨v25, hfr⟩ := hfr
          obtain ⟨v26, hfr⟩ := hfr
          obtain ⟨v27, hfr⟩ := hfr
          obtain ⟨v28, hfr⟩ := hfr
          obtain ⟨v196, hfr⟩ := hfr
          obtain ⟨v197, hfr⟩ := hfr
          obtain ⟨v198, hfr⟩ := hfr
          obtain ⟨v199, hfr⟩ := hfr
          obtain ⟨v200, hfr⟩ := hfr
          obtain ⟨v201, hfr⟩ := hfr
          obtain ⟨v202, hfr⟩ := hfr
          obtain ⟨v203, hfr⟩ := hfr
          obtain ⟨v204, hfr⟩ := hfr
          obtain ⟨v205, hfr⟩ := hfr
          obtain ⟨v206, hfr⟩ := hfr
          obtain ⟨v207, hfr⟩ := hfr
          obtain ⟨v208, hfr⟩ := hfr
          obtain ⟨v209, hfr⟩ := hfr
          obtain ⟨v210, hfr⟩ := hfr
          obtain ⟨v211, hfr⟩ := hfr
          obtain ⟨v212, hfr⟩ := hfr
          obtain ⟨v213, hfr⟩ := hfr
          obtain ⟨v214, hfr⟩ := hfr
          obtain ⟨v215, hfr⟩ := hfr
          obtain ⟨v216, hfr⟩ := hfr
          obtain ⟨v217, hfr⟩ := hfr
          obtain ⟨v218, hfr⟩ := hfr
          obtain ⟨v219, hfr⟩ := hfr
          obtain ⟨v220, hfr⟩ := hfr
          obtain ⟨v221, hfr⟩ := hfr
          obtain ⟨v222, hfr⟩ := hfr
          obtain ⟨v223, hfr⟩ := hfr
          obtain ⟨v224, hfr⟩ := hfr
          obtain ⟨v225, hfr⟩ := hfr
          obtain ⟨v226, hfr⟩ := hfr
          obtain ⟨v227, hfr⟩ := hfr
          obtain ⟨v228, hfr⟩ := hfr
          obtain ⟨v229, hfr⟩ := hfr
          obtain ⟨v230, hfr⟩ := hfr
          obtain ⟨v231, hfr⟩ := hfr
          obtain ⟨v232, hfr⟩ := hfr
          obtain ⟨v233, hfr⟩ := hfr
          obtain ⟨v234, hfr⟩ := hfr
          obtain ⟨v235, hfr⟩ := hfr
          obtain ⟨v236, hfr⟩ := hfr
          obtain ⟨v237, hfr⟩ := hfr
          obtain ⟨v238, hfr⟩ := hfr
          obtain ⟨v239, hfr⟩ := hfr
          obtain ⟨v240, hfr⟩ := hfr
          obtain ⟨v241, hfr⟩ := hfr
          obtain ⟨v242, hfr⟩ := hfr
          obtain ⟨v243, hfr⟩ := hfr
          obtain ⟨v244, hfr⟩ := hfr
          obtain ⟨v245, hfr⟩ := hfr
          obtain ⟨v246, hfr⟩ := hfr
          obtain ⟨v247, hfr⟩ := hfr
          obtain ⟨v248, hfr⟩ := hfr
          obtain ⟨v249, hfr⟩ := hfr
          obtain ⟨v250, hfr⟩ := hfr
          obtain ⟨v251, hfr⟩ := hfr
          obtain ⟨v252, hfr⟩ := hfr
          obtain ⟨v253, hfr⟩ := hfr
          obtain ⟨v254, hfr⟩ := hfr
          obtain ⟨v255, hfr⟩ := hfr
          obtain ⟨v256, hfr⟩ := hfr
          obtain ⟨v257, hfr⟩ := hfr
          obtain ⟨v258, hfr⟩ := hfr
          obtain ⟨v259, hfr⟩ := hfr
          obtain ⟨v260, hfr⟩ := hfr
          obtain ⟨v261, hfr⟩ := hfr
          obtain ⟨v262, hfr⟩ := hfr
          obtain ⟨v263, hfr⟩ := hfr
          obtain ⟨v264, hfr⟩ := hfr
          obtain ⟨v265, hfr⟩ := hfr
          obtain ⟨v266, hfr⟩ := hfr
          obtain ⟨v267, hfr⟩ := hfr
          obtain ⟨v268, hfr⟩ := hfr
          obtain ⟨v269, hfr⟩ := hfr
          obtain ⟨v270, hfr⟩ := hfr
          obtain ⟨v271, hfr⟩ := hfr
          obtain ⟨v272, hfr⟩ := hfr
          obtain ⟨v273, hfr⟩ := hfr
          subst hfr
          obtain ⟨FF, hFF⟩ : ∃ z, k0 + flS S T mw l (headP N x0) N = z := ⟨_, rfl⟩
          rw [hFF] at hun
          have HFF := hid hFF
          clear hFF
          have HUN := hid hun
          have hrxw := (hun.gr.block rb (lt_at HRX5.out) (fun e => by have := HFO.out; cases e; omega)).trans HRX5.out
          obtain ⟨a1, c1, hz1, _⟩ := hun.hw.rd
          obtain ⟨a2, c2, hz2, _⟩ := hun.hr.rb
          simp only [List.length_map, List.length_range] at hz1 hz2
          subst hz1
          subst hz2
          obtain ⟨p0, p1, p2, p3, p4, p5, p6, p7, p8, p9, p10⟩ := op_cells HUN.out.ho
          obtain ⟨r0, r1, r2, r3, r4, r5, r6, r7, r8, r9, r10⟩ := op_cells hrxw
          obtain ⟨z0, z1, z2, z3, z4, z5, z6, z7, z8, z9, z10⟩ := op_free hrxw
          have HRXW := hid hrxw
          have HBW6 := hid (below_grown HB5.out HUN.out.gr (by have := HFO.out; omega) HB5.out.size)
          have HSLQ := hid (HSL5.out.keep (Keep.of_grown hun.gr (by have := HOB1.out; omega)))
          have hrb5 : rb < w5.heap.size := lt_at HRX5.out
          clear hrxw hun
          go_wp2_with fail
          clear p0 p1 p2 p3 p4 p5 p6 p7 p8 p9 p10 r0 r1 r2 r3 r4 r5 r6 r7 r8 r9 r10 z0 z1 z2 z3 z4 z5 z6 z7 z8 z9 z10
          have sA := eleven_set HRXW.out (.bool false) (.int .i64 (vk : Nat)) (.int .i64 y0) (.int .u32 n1) (.int .i64 n5) (.int .i64 y7) (.int .i64 y8) (.slice (some ⟨sg, 0, none⟩) N sc) (.slice a1 N c1) (.slice a2 N c2) (.int .i64 (FF : Nat))
          obtain ⟨V, hV⟩ : ∃ V, ((((((((((wq.setCell ⟨rb, 0, none⟩ (.bool false)).setCell ⟨rb, 1, none⟩ (.int .i64 (vk : Nat))).setCell ⟨rb, 2, none⟩ (.int .i64 y0)).setCell ⟨rb, 3, none⟩ (.int .u32 n1)).setCell ⟨rb, 4, none⟩ (.int .i64 n5)).setCell ⟨rb, 5, none⟩ (.int .i64 y7)).setCell ⟨rb, 6, none⟩ (.int .i64 y8)).setCell ⟨rb, 7, none⟩ (.slice (some ⟨sg, 0, none⟩) N sc)).setCell ⟨rb, 8, none⟩ (.slice a1 N c1)).setCell ⟨rb, 9, none⟩ (.slice a2 N c2)).setCell ⟨rb, 10, none⟩ (.int .i64 (FF : Nat)) = V := ⟨_, rfl⟩
          have oA : ∀ k, k ≠ rb → V.heap[k]? = wq.heap[k]? := fun k hk => by rw [← hV]; exact (set_other hk).trans ((set_other hk).trans ((set_other hk).trans ((set_other hk).trans ((set_other hk).trans ((set_other hk).trans ((set_other hk).trans ((set_other hk).trans ((set_other hk).trans ((set_other hk).trans (set_other hk))))))))))
          have gA : wq.grownBy V (some rb) := by rw [← hV]; exact grow_row (grow_row (grow_row (grow_row (grow_row (grow_row (grow_row (grow_row (grow_row (grow_row (grown_set wq rb 0 (.bool false)) (grown_set _ rb 1 (.int .i64 (vk : Nat))) (fun _ h => .inl h)) (grown_set _ rb 2 (.int .i64 y0)) (fun _ h => .inl h)) (grown_set _ rb 3 (.int .u32 n1)) (fun _ h => .inl h)) (grown_set _ rb 4 (.int .i64 n5)) (fun _ h => .inl h)) (grown_set _ rb 5 (.int .i64 y7)) (fun _ h => .inl h)) (grown_set _ rb 6 (.int .i64 y8)) (fun _ h => .inl h)) (grown_set _ rb 7 (.slice (some ⟨sg, 0, none⟩) N sc)) (fun _ h => .inl h)) (grown_set _ rb 8 (.slice a1 N c1)) (fun _ h => .inl h)) (grown_set _ rb 9 (.slice a2 N c2)) (fun _ h => .inl h)) (grown_set _ rb 10 (.int .i64 (FF : Nat))) (fun _ h => .inl h)
          rw [hV] at sA ⊢
          obtain ⟨e0, e1, e2, e3, e4, e5, e6, e7, e8, e9, e10⟩ := op_cells sA
          have hww := (HUN.out.hw.same (w' := V) (fun g hg => oA g (fun e => by have := (HUN.out.hw.blk g hg).1; omega))).rd
          have hrr := (HUN.out.hr.kept gA (fun e => by have := (HUN.out.hr.blk rb e).1; omega) (.inr hrb5)).rb
          have bA := below_grown HBW6.out gA (by have := HFO.out; omega) HBW6.out.size
          obtain ⟨_, _, _, _, _, hss⟩ := HSLQ.out.keep (Keep.of_grown gA (by have h1 := HFO.out; have h2 := HOB1.out; omega))
          clear hV oA sA gA
          refine bodyPost_ret (v := .tuple #[.agg #[.bool false, .int .i64 (vk : Nat), .int .i64 y0, .int .u32 n1, .int .i64 n5, .int .i64 y7, .int .i64 y8, .slice (some ⟨sg, 0, none⟩) N sc, .slice a1 N c1, .slice a2 N c2, .int .i64 (FF : Nat)], .int .i64 0]) (by simp [results, Tryz.results13, go_sem, e0, e1, e2, e3, e4, e5, e6, e7, e8, e9, e10]) rfl ⟨⟨_, rfl, ?_⟩, bA⟩
          have hopn := opn_yes (by rw [HLEN.out]; exact HE.out) HHD.out
          rw [hopn, HVK.out, HFF.out]
          have hrr' : RB V (.slice a2 N c2) (((List.range N).map fun i => (scO S T mw l (headP N x0) i).map (·.1)).map (·.getD [])) := by rw [List.map_map]; exact hrr
          have hfin := opv_mk (er := false) (wh := vk) (fl := FF) (h := headP N x0) hss hww hrr'
          obtain ⟨i1, i2, i3, i4, i5, _⟩ := HHD'.out
          rw [i1, i2, i3, i4, i5] at hfin
          exact hfin
end Go.Proofs.YtoanopegoilcnaaGreat
