/- Walks over firkinref05: Unpack of a page that is not erased. -/
import Derived.Test.YtoanopegoilcnaaGreatZZv
import Derived.Test.YtoanopegoilcnaaGreatJw
import Derived.Test.YtoanopegoilcnaaGreatJl
import Derived.Test.YtoanopegoilcnaaGreatJr
import Derived.Deep.RegionHeld3
set_option linter.unusedVariables false
namespace Go.Proofs.YtoanopegoilcnaaGreat
open Go.RowKit Go.Mem Go.Pg

set_option maxRecDepth 100000 in
set_option maxHeartbeats 12800000 in
theorem r5unpack_torn (S N T mw mh : Nat) (v5 : Value) (g o cap L : Nat) (l : List Nat) (w : World) (hL : Lay S N T mw mh) (hq : Par (13 + 11 * N) T mh) (h5 : F5 w v5 S N T mw mh) (hv : Rd .u8 w (.slice (some ⟨g, o, none⟩) L cap) l) (hl : l.length = L) (hx : ∀ y ∈ l, y < 256) (hp : L = pageB S N T mw mh) (he : ¬ 8 * L - ones l ≤ T) (x0 : List Nat) (s0 k0 : Nat) (hop : opnB mh T (9 + 11 * N) (cut l (N * wdB S T mw) (9 + 11 * N + 4 + pcn mh T)) = some (x0, s0, k0)) (ht : T < ones (l.drop (lastB S N T mw mh))) :
    Calls Tryz.prog 13 #[v5, .slice (some ⟨g, o, none⟩) L cap] w fun e w' => (∃ ov, e = .returned (.tuple #[ov, .int .i64 0]) ∧ OpV w' ov (opn S N T mw mh l)) ∧ Below w.heap.size w w' := by
  have hLm : L ≤ 2500 := hp ▸ pageB_le hL
  have HBYL := hid (show byB S N T mw mh = L by rw [byB_page, hp])
  have HE := hid he
  have HPG := hid hp
  clear hp he
  have hhd : hdO S N T mw mh l = none := hdO_torn ht
  have HHD := hid hhd
  have HOP := hid hop
  have HTORN := hid ht
  clear hhd hop ht
  have hS2 := hL.s2
  have hN8 := hL.n2
  have hT8 := hL.t2
  have HL := hid hL
  have HQ := hid hq
  have H5 := hid h5
  have HV := hid hv
  have HX := hid hx
  have HLEN := hid hl
  have hcaps : L ≤ cap ∧ cap ≤ maxLen := by obtain ⟨a', c', he, h1, h2, _⟩ := hv; cases he; exact ⟨by omega, h2⟩
  have hca1 : (L : Int) ≤ (cap : Int) := by have := hcaps.1; omega
  have hca2 : (cap : Int) ≤ 9223372036854775807 := by have := hcaps.2; unfold maxLen at this; omega
  have HCP := hid hcaps
  obtain ⟨ga, gl, gc, ha, hl', hc, rfl, hrw, hrh⟩ := h5.parts
  obtain ⟨hl, hhl⟩ : ∃ z, hl' = z := ⟨_, rfl⟩
  rw [hhl] at hrh H5 ⊢
  have HRW := hid hrw
  have HRH := hid hrh
  clear hv hx h5 hL hq hcaps hrw hrh hhl
  go_enter Tryz.func13, Tryz.ntmps13
  go_upto_region 2 with (fail)
  obtain ⟨W, hW⟩ : ∃ W, ((w.alloc (.cells #[.int .i64 S, .int .i64 N, .int .i64 T, .int .i64 mw, .int .i64 ((S : Int) + 4), .int .i64 T, .slice ga gl gc, .int .i64 mh, .int .i64 (13 + 11 * (N : Int)), .int .i64 T, .slice ha hl hc] 35)).alloc (.cells #[.bool false, .int .i64 0, .int .i64 0, .int .u32 0, .int .i64 0, .int .i64 0, .int .i64 0, .slice none 0 0, .slice none 0 0, .slice none 0 0, .int .i64 0] 50)).alloc (.cells #[.bool false, .int .i64 0, .int .i64 0, .int .u32 0, .int .i64 0, .int .i64 0, .int .i64 0, .slice none 0 0, .slice none 0 0, .slice none 0 0, .int .i64 0] 50) = W := ⟨_, rfl⟩
  have hfx : W.heap[w.heap.size]? = some (.cells #[.int .i64 S, .int .i64 N, .int .i64 T, .int .i64 mw, .int .i64 ((S : Int) + 4), .int .i64 T, .slice ga gl gc, .int .i64 mh, .int .i64 (13 + 11 * (N : Int)), .int .i64 T, .slice ha hl hc] 35 (0, 0)) := by rw [← hW]; exact (alloc_old (by simp; try omega)).trans ((alloc_old (by simp)).trans (alloc_new w _))
  have hrx : W.heap[w.heap.size + 1]? = some (.cells #[.bool false, .int .i64 0, .int .i64 0, .int .u32 0, .int .i64 0, .int .i64 0, .int .i64 0, .slice none 0 0, .slice none 0 0, .slice none 0 0, .int .i64 0] 50 (0, 0)) := by rw [← hW]; exact (alloc_old (by simp; try omega)).trans (alloc_at (by simp))
  have hox : W.heap[w.heap.size + 2]? = some (.cells #[.bool false, .int .i64 0, .int .i64 0, .int .u32 0, .int .i64 0, .int .i64 0, .int .i64 0, .slice none 0 0, .slice none 0 0, .slice none 0 0, .int .i64 0] 50 (0, 0)) := by rw [← hW]; exact alloc_at (by simp)
  have hbW : Below w.heap.size w W := by rw [← hW]; exact bl_alloc (bl_alloc (bl_alloc (Below.refl _ _) _) _) _
  rw [hW]
  obtain ⟨ob, hoE⟩ : ∃ b, w.heap.size + 2 = b := ⟨_, rfl⟩
  obtain ⟨rb, hrE⟩ : ∃ b, w.heap.size + 1 = b := ⟨_, rfl⟩
  obtain ⟨fb, hfE⟩ : ∃ b, w.heap.size = b := ⟨_, rfl⟩
  rw [hoE] at hox ⊢
  rw [hrE] at hrx ⊢
  rw [hfE] at hfx ⊢
  have hfr : fb < rb ∧ rb < ob ∧ w.heap.size ≤ fb := by omega
  have HFO := hid hfr
  have HFX := hid hfx
  have HRX := hid hrx
  have HOX := hid hox
  have HBW := hid hbW
  have c0 := cell_at hfx 0
  have c1 := cell_at hfx 1
  have c2 := cell_at hfx 2
  have c3 := cell_at hfx 3
  have c4 := cell_at hfx 4
  have c5 := cell_at hfx 5
  have c6 := cell_at hfx 6
  have c7 := cell_at hfx 7
  have c8 := cell_at hfx 8
  have c9 := cell_at hfx 9
  have c10 := cell_at hfx 10
  clear hW hfx hrx hox hbW hoE hrE hfE hfr
  go_wp2_with fail
  refine (r5bytes_any S N T mw mh _ W HL.out.pw HQ.out HL.out.s2 HL.out.n2 (H5.out.below HBW.out)).mono ?_
  rintro e w1 ⟨rfl, hb1⟩
  rw [HBYL.out]
  have HFX1 := hid ((hb1.block fb (lt_at HFX.out)).trans HFX.out)
  have HRX1 := hid ((hb1.block rb (lt_at HRX.out)).trans HRX.out)
  have HOX1 := hid ((hb1.block ob (lt_at HOX.out)).trans HOX.out)
  have HB1 := hid hb1
  have HV1 := hid (HV.out.below (HBW.out.comp hb1))
  clear hb1 c0 c1 c2 c3 c4 c5 c6 c7 c8 c9 c10
  go_wp2_with fail
  go_loopg [7, 8] L (fun gk z i wr => ∃ I : Nat, I + gk = L ∧ i = .int .i64 I ∧ z = .int .i64 ((8 * I - ones (l.take I) : Nat) : Int) ∧ wr = w1)
  case atStart => exact ⟨0, by omega, rfl, rfl, rfl⟩
  case round =>
    obtain ⟨I, hI, rfl, rfl, rfl⟩ := hrel
    by_cases hlt : I < L
    · have hcell := HV1.out.atc (j := I) (by rw [HLEN.out]; exact hlt)
      obtain ⟨c, hc⟩ : ∃ c, l.getD I 0 = c := ⟨_, rfl⟩
      have hc256 : c < 256 := by rw [← hc]; exact HX.out _ (getD_mem (by rw [HLEN.out]; exact hlt))
      have hon := ones_take l I (by rw [HLEN.out]; exact hlt)
      have hole := ones_take_le l I
      rw [hc] at hcell hon
      obtain ⟨q, hq⟩ : ∃ q, ones (l.take I) = q := ⟨_, rfl⟩
      rw [hq] at hon hole ⊢
      have HON := hid hon
      have HIi : (I : Int) < (L : Int) := by omega
      clear hc hon hq
      obtain ⟨wo, rfl⟩ : ∃ wo : World, wo = wr := ⟨_, rfl⟩
      go_wp2_with fail
      go_loopg [7, 9] 8 (fun gk2 z k wr => ∃ K : Nat, K + gk2 = 8 ∧ k = .int .i64 K ∧ z = .int .i64 ((8 * I - q + (K - pcK c K) : Nat) : Int) ∧ wr = wo)
      case atStart => exact ⟨0, by omega, rfl, rfl, rfl⟩
      case round =>
        obtain ⟨K, hK, rfl, rfl, rfl⟩ := hrel
        by_cases hlt2 : K < 8
        · have hsh : (c : Int) / (2 : Int) ^ K = ((c / 2 ^ K : Nat) : Int) := by rw [show (2 : Int) ^ K = ((2 ^ K : Nat) : Int) from (Int.natCast_pow 2 K).symm]; rfl
          have hpk : pcK c (K + 1) = pcK c K + c / 2 ^ K % 2 := rfl
          have hpl := pcK_le c K
          have hcd : c / 2 ^ K < 256 := Nat.lt_of_le_of_lt (Nat.div_le_self _ _) hc256
          obtain ⟨d, hd⟩ : ∃ d, c / 2 ^ K = d := ⟨_, rfl⟩
          rw [hd] at hsh hpk hcd
          have ha1 := and1_u8 d hcd
          obtain ⟨p, hp⟩ : ∃ p, pcK c K = p := ⟨_, rfl⟩
          rw [hp] at hpk hpl ⊢
          have HPKK := hid hpk
          obtain ⟨zz, hzz⟩ : ∃ z, 8 * I - q + (K - p) = z := ⟨_, rfl⟩
          rw [hzz]
          have hzb : zz ≤ 8 * I + 8 := by omega
          have HZZ := hid hzz
          clear hd hp hpk hzz
          go_wp2_with fail
          go_roundg (gk - 1)
          case measure => omega
          case rel => exact ⟨K + 1, by omega, by go_num, by rw [HPKK.out]; have := HZZ.out; go_num, rfl⟩
        · obtain rfl : K = 8 := by omega
          rw [pcK8]
          go_wp2_with fail
          go_roundg (L - (I + 1))
          case measure => omega
          case rel => exact ⟨I + 1, by omega, by go_num, by rw [HON.out]; have := pc_le c; go_num, rfl⟩
    · obtain rfl : L = I := by omega
      rw [show l.take L = l from List.take_of_length_le (by rw [HLEN.out]; exact Nat.le_refl _)]
      obtain ⟨n1, hn1⟩ : ∃ n, ones l = n := ⟨_, rfl⟩
      have he := HE.out
      rw [hn1] at he ⊢
      obtain ⟨zz, hzz⟩ : ∃ z, 8 * L - n1 = z := ⟨_, rfl⟩
      rw [hzz] at he ⊢
      have he1 : ¬ (zz : Int) ≤ (T : Int) := by omega
      have he2 : (T : Int) < (zz : Int) := by omega
      have hf1 := HFX1.out
      have c0 := cell_at hf1 0
      have c1 := cell_at hf1 1
      have c2 := cell_at hf1 2
      have c3 := cell_at hf1 3
      have c4 := cell_at hf1 4
      have c5 := cell_at hf1 5
      have c6 := cell_at hf1 6
      have c7 := cell_at hf1 7
      have c8 := cell_at hf1 8
      have c9 := cell_at hf1 9
      have c10 := cell_at hf1 10
      clear hzz hn1 he hf1
      go_wp2_with fail
      refine (r5word_any S N T mw mh _ wr HL.out.pw HL.out.s2 (H5.out.below (HBW.out.comp HB1.out))).mono ?_
      rintro e w2 ⟨rfl, hb2⟩
      have HFX2 := hid ((hb2.block fb (lt_at HFX1.out)).trans HFX1.out)
      have HRX2 := hid ((hb2.block rb (lt_at HRX1.out)).trans HRX1.out)
      have HOX2 := hid ((hb2.block ob (lt_at HOX1.out)).trans HOX1.out)
      have HB2 := hid (HB1.out.comp hb2)
      have hf2 := HFX2.out
      obtain ⟨wd, hwd⟩ : ∃ z, wdB S T mw = z := ⟨_, rfl⟩
      have hwd300 : wd ≤ 300 := by rw [← hwd]; have := HL.out.pw.r.2.2.2.1; unfold wdB pcn; omega
      rw [hwd]
      have HWD := hid hwd
      clear hb2 hwd he1 he2 c0 c1 c2 c3 c4 c5 c6 c7 c8 c9 c10
      have c0 := cell_at hf2 0
      have c1 := cell_at hf2 1
      have c2 := cell_at hf2 2
      have c3 := cell_at hf2 3
      have c4 := cell_at hf2 4
      have c5 := cell_at hf2 5
      have c6 := cell_at hf2 6
      have c7 := cell_at hf2 7
      have c8 := cell_at hf2 8
      have c9 := cell_at hf2 9
      have c10 := cell_at hf2 10
      clear hf2
      go_wp2_with fail
      obtain ⟨en, hen⟩ : ∃ e, T / 4 + 1 = e := ⟨_, rfl⟩
      have hen3 : en ≤ 3 := by omega
      have HEND := hid (r5end_any S N T mw mh _ w2 hT8 (H5.out.below (HBW.out.comp HB2.out)))
      rw [hen] at HEND
      have HEN := hid hen
      clear hen
      refine HEND.out.mono ?_
      rintro e w3 ⟨rfl, hb3⟩
      have HFX3 := hid ((hb3.block fb (lt_at HFX2.out)).trans HFX2.out)
      have HRX3 := hid ((hb3.block rb (lt_at HRX2.out)).trans HRX2.out)
      have HOX3 := hid ((hb3.block ob (lt_at HOX2.out)).trans HOX2.out)
      have HB3 := hid (HB2.out.comp hb3)
      have HV3 := hid (HV.out.below (HBW.out.comp (HB2.out.comp hb3)))
      obtain ⟨la, hla⟩ : ∃ z, lastB S N T mw mh = z := ⟨_, rfl⟩
      have hLla : L = la + en := by rw [HPG.out, ← hla, ← HEN.out]; rfl
      have hlaI : (L : Int) - (en : Int) = ((la : Nat) : Int) := by omega
      have HLA := hid hla
      have HLLA := hid hLla
      have hla25 : la ≤ 2500 := by omega
      clear hb3 HEND hla hLla c0 c1 c2 c3 c4 c5 c6 c7 c8 c9 c10
      go_wp2_with fail
      go_loopg [13, 14] en (fun gk z i wr => ∃ J : Nat, J + gk = en ∧ i = .int .i64 ((la + J : Nat) : Int) ∧ z = .int .i64 ((ones ((l.drop la).take J) : Nat) : Int) ∧ wr = w3)
      case atStart => exact ⟨0, by omega, rfl, rfl, rfl⟩
      case round =>
        obtain ⟨J, hJ, rfl, rfl, rfl⟩ := hrel
        by_cases hlt : J < en
        · have hJL : la + J < l.length := by rw [HLEN.out]; have := HLLA.out; omega
          have hcell := HV3.out.atc (j := la + J) hJL
          obtain ⟨c, hc⟩ : ∃ c, l.getD (la + J) 0 = c := ⟨_, rfl⟩
          have hc256 : c < 256 := by rw [← hc]; exact HX.out _ (getD_mem hJL)
          have hon := drop_take_succ (l := l) (p := la) (J := J) hJL
          have hole : ones ((l.drop la).take J) ≤ 8 * J := ones_take_le _ J
          rw [hc] at hcell hon
          obtain ⟨q, hq⟩ : ∃ q, ones ((l.drop la).take J) = q := ⟨_, rfl⟩
          rw [hq] at hon hole ⊢
          obtain ⟨P0, hP0⟩ : ∃ p, la + J = p := ⟨_, rfl⟩
          rw [hP0] at hcell ⊢
          have HP0 := hid hP0
          have HON := hid hon
          have HIi : (P0 : Int) < (L : Int) := by have := HLLA.out; omega
          have HIi2 : (0 : Int) ≤ (P0 : Int) := by omega
          have hP25 : P0 ≤ 2500 := by omega
          clear hc hon hq hP0 hJL
          obtain ⟨wo, rfl⟩ : ∃ wo : World, wo = wr := ⟨_, rfl⟩
          go_wp2_with fail
          go_loopg [13, 15] 8 (fun gk2 z k wr => ∃ K : Nat, K + gk2 = 8 ∧ k = .int .i64 K ∧ z = .int .i64 ((q + pcK c K : Nat) : Int) ∧ wr = wo)
          case atStart => exact ⟨0, by omega, rfl, rfl, rfl⟩
          case round =>
            obtain ⟨K, hK, rfl, rfl, rfl⟩ := hrel
            by_cases hlt2 : K < 8
            · have hsh : (c : Int) / (2 : Int) ^ K = ((c / 2 ^ K : Nat) : Int) := by rw [show (2 : Int) ^ K = ((2 ^ K : Nat) : Int) from (Int.natCast_pow 2 K).symm]; rfl
              have hpk : pcK c (K + 1) = pcK c K + c / 2 ^ K % 2 := rfl
              have hpl := pcK_le c K
              have hcd : c / 2 ^ K < 256 := Nat.lt_of_le_of_lt (Nat.div_le_self _ _) hc256
              obtain ⟨d, hd⟩ : ∃ d, c / 2 ^ K = d := ⟨_, rfl⟩
              rw [hd] at hsh hpk hcd
              have ha1 := and1_u8 d hcd
              obtain ⟨p, hp⟩ : ∃ p, pcK c K = p := ⟨_, rfl⟩
              rw [hp] at hpk hpl ⊢
              have HPKK := hid hpk
              obtain ⟨zq, hzz⟩ : ∃ z, q + p = z := ⟨_, rfl⟩
              rw [hzz]
              have hzb : zq ≤ 8 * J + 8 := by omega
              have HZZ := hid hzz
              clear hd hp hpk hzz
              go_wp2_with fail
              go_roundg (gk - 1)
              case measure => omega
              case rel => exact ⟨K + 1, by omega, by go_num, by rw [HPKK.out]; have := HZZ.out; go_num, rfl⟩
            · obtain rfl : K = 8 := by omega
              rw [pcK8]
              go_wp2_with fail
              go_roundg (en - (J + 1))
              case measure => omega
              case rel => exact ⟨J + 1, by omega, by have := HP0.out; go_num, by rw [HON.out], rfl⟩
        · obtain rfl : en = J := by omega
          have hpgL := HPG.out
          obtain ⟨K, hK⟩ : ∃ K, N * wd = K := ⟨_, rfl⟩
          obtain ⟨M, hM⟩ : ∃ M, 9 + 11 * N + 4 + pcn mh T = M := ⟨_, rfl⟩
          have hlaK : la = K + M := by rw [← HLA.out, ← hK, ← HWD.out, ← hM]; rfl
          have hdl : (l.drop la).length = en := by rw [List.length_drop, HLEN.out]; have := HLLA.out; omega
          rw [show (l.drop la).take en = l.drop la from List.take_of_length_le (by omega)]
          obtain ⟨on1, hon1⟩ : ∃ z, ones (l.drop la) = z := ⟨_, rfl⟩
          have hon8 : on1 ≤ 24 := by rw [← hon1]; have := ones_le (l.drop la); omega
          rw [hon1]
          have hrd := rd_cut HV3.out HLEN.out K M (cap - K) (by have := HLLA.out; omega) (by have := HLLA.out; have := HCP.out.1; omega) (by have := HCP.out.2; omega)
          have RD1 := hid hrd
          have hcl : (cut l K M).length = 9 + 11 * N + 4 + pcn mh T := by rw [hM]; exact cut_len (by rw [HLEN.out]; have := HLLA.out; omega)
          have HCL := hid hcl
          have hwK : IntKind.i64.wrap ((N : Int) * (wd : Int)) = ((K : Nat) : Int) := by rw [show (N : Int) * (wd : Int) = ((K : Nat) : Int) by rw [← hK]; push_cast; rfl]; exact IntWalk.i64_in _ (by omega)
          have hKm : (N : Int) * (wd : Int) = ((K : Nat) : Int) := by rw [← hK]; push_cast; rfl
          have hwK2 : IntKind.i64.wrap ((K : Nat) : Int) = ((K : Nat) : Int) := IntWalk.i64_in _ (by omega)
          have hwla : IntKind.i64.wrap ((la : Nat) : Int) = ((la : Nat) : Int) := IntWalk.i64_in _ (by omega)
          have hM1 : 1 ≤ M := by omega
          have j1 : (0 : Int) ≤ (K : Int) := by omega
          have j2 : (K : Int) ≤ (la : Int) := by omega
          have j3 : (la : Int) ≤ (cap : Int) := by have := HLLA.out; omega
          have hbcn : ¬ cap = K := by have := HLLA.out; have := HCP.out.1; omega
          have hsub : la - K = M := by omega
          have hps : 13 + 11 * N = 9 + 11 * N + 4 := by omega
          have HRHC := HRH.out
          rw [hps] at HRHC
          have HOPEN : Hid (∀ V, Below wr.heap.size wr V → Calls Tryz.prog 41 #[.agg #[.int .i64 mh, .int .i64 (13 + 11 * (N : Int)), .int .i64 T, .slice ha hl hc], .slice (some ⟨g, o + K, none⟩) M (cap - K), .int .i64 (9 + 11 * (N : Int))] V fun e w' => ∃ gx cx, e = .returned (.tuple #[.slice (some ⟨gx, 0, none⟩) (9 + 11 * N) cx, .int .u32 (s0 : Nat), .int .i64 (k0 : Nat), .bool true]) ∧ (wr.heap.size ≤ gx ∧ 9 + 11 * N ≤ cx ∧ cx ≤ maxLen ∧ Rd .u8 w' (.slice (some ⟨gx, 0, none⟩) (9 + 11 * N) cx) x0 ∧ x0.length = 9 + 11 * N ∧ (∀ y ∈ x0, y < 256) ∧ k0 ≤ T ∧ s0 < 4294967296) ∧ Below wr.heap.size wr w') := hid fun V hV => by
            refine (r5open_any _ _ (cut l K M) (9 + 11 * N) T mh V HL.out.ph (HRHC.below (HBW.out.comp (HB3.out.comp hV))) (RD1.out.below hV) HCL.out (cut_lt HX.out _ _) (by omega)).mono ?_
            rintro e w' ⟨hn, hb⟩
            have hop := HOP.out
            rw [HWD.out, hK, hM] at hop
            rcases hn with ⟨g1, c1, x, s, k, b1, b2, b3, rfl, b5, b6, b7, b8, b9, b10⟩ | ⟨_, b10⟩
            · rw [hop] at b10
              simp only [Option.some.injEq, Prod.mk.injEq] at b10
              obtain ⟨rfl, rfl, rfl⟩ := b10
              exact ⟨g1, c1, rfl, ⟨Nat.le_trans hV.size b1, b2, b3, b5, b6, b7, b8, b9⟩, hV.comp hb⟩
            · rw [hop] at b10; cases b10
          have hf3 := HFX3.out
          have d1 := cell_at hf3 1
          have d7 := cell_at hf3 7
          have d8 := cell_at hf3 8
          have d9 := cell_at hf3 9
          have d10 := cell_at hf3 10
          have hcr : Below wr.heap.size wr wr.drew := (Below.refl _ _).drew
          have HKE := hid hK
          have HME := hid hM
          have HON1 := hid hon1
          have HLAK := hid hlaK
          clear hK hM hlaK hdl hon1 hrd hcl hps HRHC hf3 hpgL
          go_wp2_with fail
          go_region_held3 (fun w' => w'.cell? ⟨fb, 1, none⟩ = some (.int .i64 N) ∧ w'.cell? ⟨fb, 7, none⟩ = some (.int .i64 mh) ∧ w'.cell? ⟨fb, 8, none⟩ = some (.int .i64 (13 + 11 * (N : Int))) ∧ w'.cell? ⟨fb, 9, none⟩ = some (.int .i64 T) ∧ w'.cell? ⟨fb, 10, none⟩ = some (.slice ha hl hc))
            (first | exact ⟨d1, d7, d8, d9, d10⟩ | exact ⟨x1, x7, x8, x9, x10⟩)
            (first
            | (go_at_call 41; refine (HOPEN.out wr.drew hcr).mono ?_; rintro e wa ⟨gx, cx, rfl, hfx0, hba⟩; have hfa := (hba.block fb (lt_at HFX3.out)).trans HFX3.out; have x1 := cell_at hfa 1; have x7 := cell_at hfa 7; have x8 := cell_at hfa 8; have x9 := cell_at hfa 9; have x10 := cell_at hfa 10; have HFXA := hid hfa; have HRXA := hid ((hba.block rb (lt_at HRX3.out)).trans HRX3.out); have HOXA := hid ((hba.block ob (lt_at HOX3.out)).trans HOX3.out); have HBA := hid (HB3.out.comp hba); have HX0 := hid hfx0; clear hfx0; clear hfa hba)
            | fail)
          have HNUM := hid (And.intro hN8 (And.intro hT8 (And.intro hon8 (And.intro hca1 hca2))))
          clear d1 d7 d8 d9 d10 x1 x7 x8 x9 x10 hcr hwK hwK2 hwla hKm hM1 j1 j2 j3 hbcn hsub hlaI hS2 hwd300 hen3 hla25 hLm hI hJ hlt
          have hoi : ¬ (on1 : Int) ≤ (T : Int) := by have := HTORN.out; rw [HLA.out, HON1.out] at this; omega
          have hoj : (T : Int) < (on1 : Int) := by omega
          have e2 := cell_at HFXA.out 2
          go_upto_region 38 with (fail)
          obtain ⟨w4, hw4⟩ : ∃ V, wa.alloc (.cells #[.int .i64 0, .int .u32 0, .int .i64 0, .int .i64 0, .int .i64 0, .slice none 0 0] 27) = V := ⟨_, rfl⟩
          have hb4 : Below wa.heap.size wa w4 := by rw [← hw4]; exact (Below.refl _ _).alloc (Nat.le_refl _) _
          rw [hw4]
          have HOX4 := hid ((hb4.block ob (lt_at HOXA.out)).trans HOXA.out)
          have HRX4 := hid ((hb4.block rb (lt_at HRXA.out)).trans HRXA.out)
          have HFX4 := hid ((hb4.block fb (lt_at HFXA.out)).trans HFXA.out)
          have HB4 := hid (HBA.out.comp hb4)
          clear hw4 hb4
          have hobs := HOX4.out
          have o1 := cell_at hobs 1
          have y1 := free_at hobs 1
          clear hobs
          go_wp2_with fail
          refine (r5verdict_any k0 false w4).mono ?_
          rintro e w4b ⟨rfl, rfl⟩
          go_upto_region 42 with (fail)
          obtain ⟨w5, hw5⟩ : ∃ V, w4.setCell ⟨ob, 1, none⟩ (.int .i64 3) = V := ⟨_, rfl⟩
          have hox5 : w5.heap[ob]? = some (.cells #[.bool false, .int .i64 3, .int .i64 0, .int .u32 0, .int .i64 0, .int .i64 0, .int .i64 0, .slice none 0 0, .slice none 0 0, .slice none 0 0, .int .i64 0] 50 (0, 0)) := by rw [← hw5]; exact set_at HOX4.out 1 _
          have hfx5 := (show w5.heap[fb]? = w4.heap[fb]? by rw [← hw5]; exact set_other (by have := HFO.out; show fb ≠ ob; omega)).trans HFX4.out
          have hrx5 := (show w5.heap[rb]? = w4.heap[rb]? by rw [← hw5]; exact set_other (by have := HFO.out; show rb ≠ ob; omega)).trans HRX4.out
          have hb5 : Below w.heap.size w w5 := by rw [← hw5]; exact bl_set (HBW.out.comp HB4.out) (p := ⟨ob, 1, none⟩) (by have := HFO.out; show w.heap.size ≤ ob; omega) _
          rw [hw5]
          have HOB5 := hid (lt_at hox5)
          have HOX5 := hid hox5
          have HFX5 := hid hfx5
          have HRX5 := hid hrx5
          have HB5 := hid hb5
          have HN8 := hid HNUM.out.1
          clear hw5 hox5 hfx5 hrx5 hb5 o1 y1
          go_wp2_with fail
          go_loopg [24] N (fun gk i wr => ∃ (I : Nat) (zw zs : Value), I + gk = N ∧ i = .int .i64 I ∧ UnL w5 wr ob (.bool false) (.int .i64 3) (.int .i64 0) (.int .u32 0) (.int .i64 0) (.int .i64 0) (.int .i64 0) (.slice none 0 0) (.int .i64 0) zw zs (List.replicate I 3) (List.replicate I []))
          case atStart => exact ⟨0, _, _, by omega, rfl, UnL.start HOX5.out⟩
          case round =>
            obtain ⟨I, zw, zs, hI, rfl, hun⟩ := hrel
            have HUN := hid hun
            have hobw := hun.ho
            have hfxw := (hun.gr.block fb (lt_at HFX5.out) (fun e => by have := HFO.out; cases e; omega)).trans HFX5.out
            have hwB : w5.heap.size ≤ wr.heap.size := hun.gr.size
            have d1 := cell_at hfxw 1
            have p8 := cell_at hobw 8
            have y8 := free_at hobw 8
            clear hun hobw hfxw
            by_cases hlt : I < N
            · have hIi : (I : Int) < (N : Int) := by omega
              have HI8 := hid (show I ≤ 8 by have := HN8.out; omega)
              go_upto_region 47 with (at_builtin; refine app_one el_int rfl _ _ rfl w5.heap.size zw (List.replicate I 3) (by rfl) (HUN.out.hw.alloc _) ⟨wr.heap.size, 0, none⟩ 1 3 rfl (by rw [new_cell]; rfl) (by have := HI8.out; simp; omega) (by simp; omega) ?_; intro g6 cap6 w6 hown hgrow hat; have hst := (HUN.out.below ((Below.refl wr.heap.size wr).alloc (Nat.le_refl _) _)).word HOB5.out hown hgrow hat; have p8' := cell_at hst.1 8; have y8' := free_at hst.1 8; have HST := hid hst.2; clear hown hgrow hat hst)
              obtain ⟨w7, hw7⟩ : ∃ V, w6.setCell ⟨ob, 8, none⟩ (.slice (some ⟨g6, 0, none⟩) ((List.replicate I 3).length + 1) cap6) = V := ⟨_, rfl⟩
              rw [hw7] at HST
              simp only [List.length_replicate] at hw7 HST
              rw [hw7]
              have hobw := HST.out.ho
              have hwB7 : w5.heap.size ≤ w7.heap.size := HST.out.gr.size
              have p9 := cell_at hobw 9
              have y9 := free_at hobw 9
              clear hw7 hobw p8 y8 p8' y8' d1
              go_wp2_with (at_builtin; refine app_one_row el_rows rfl _ _ rfl w5.heap.size _ zs (List.replicate I []) (by rfl) (HST.out.hr.below ((Below.refl w7.heap.size w7).alloc (Nat.le_refl _) _)) w7.heap.size (.slice none 0 0) (by rfl) (by rw [new_cell]) [] (.inl ⟨rfl, rfl⟩) (by have := HI8.out; simp; omega) (by simp; omega) ?_; intro g8 cap8 w8 hown hgrow hat; have hst := (HST.out.below ((Below.refl w7.heap.size w7).alloc (Nat.le_refl _) _)).sector HOB5.out hown hgrow hat; have p9' := cell_at hst.1 9; have y9' := free_at hst.1 9; have HSU := hid hst.2; clear hown hgrow hat hst)
              go_roundg (gk - 1)
              case measure => omega
              case rel =>
                have h9 := HSU.out
                rw [← List.replicate_succ', ← List.replicate_succ'] at h9
                simp only [List.length_replicate] at h9
                exact ⟨I + 1, _, _, by omega, by go_num, h9⟩
            · obtain rfl : N = I := by omega
              have hrxw := (HUN.out.gr.block rb (lt_at HRX5.out) (fun e => by have := HFO.out; cases e; omega)).trans HRX5.out
              obtain ⟨a1, c1, rfl, _⟩ := HUN.out.hw.rd
              obtain ⟨a2, c2, rfl, _⟩ := HUN.out.hr.rb
              simp only [List.length_replicate] at HUN ⊢
              obtain ⟨p0, p1, p2, p3, p4, p5, p6, p7, p8, p9, p10⟩ := op_cells HUN.out.ho
              obtain ⟨r0, r1, r2, r3, r4, r5, r6, r7, r8, r9, r10⟩ := op_cells hrxw
              obtain ⟨z0, z1, z2, z3, z4, z5, z6, z7, z8, z9, z10⟩ := op_free hrxw
              have HRXW := hid hrxw
              have HBW6 := hid (below_grown HB5.out HUN.out.gr (by have := HFO.out; omega) HB5.out.size)
              have hrb5 : rb < w5.heap.size := lt_at HRX5.out
              clear hrxw y8
              go_wp2_with fail
              clear p0 p1 p2 p3 p4 p5 p6 p7 p8 p9 p10 r0 r1 r2 r3 r4 r5 r6 r7 r8 r9 r10 z0 z1 z2 z3 z4 z5 z6 z7 z8 z9 z10
              have sA := eleven_set HRXW.out (.bool false) (.int .i64 3) (.int .i64 0) (.int .u32 0) (.int .i64 0) (.int .i64 0) (.int .i64 0) (.slice none 0 0) (.slice a1 N c1) (.slice a2 N c2) (.int .i64 0)
              obtain ⟨V, hV⟩ : ∃ V, ((((((((((wr.setCell ⟨rb, 0, none⟩ (.bool false)).setCell ⟨rb, 1, none⟩ (.int .i64 3)).setCell ⟨rb, 2, none⟩ (.int .i64 0)).setCell ⟨rb, 3, none⟩ (.int .u32 0)).setCell ⟨rb, 4, none⟩ (.int .i64 0)).setCell ⟨rb, 5, none⟩ (.int .i64 0)).setCell ⟨rb, 6, none⟩ (.int .i64 0)).setCell ⟨rb, 7, none⟩ (.slice none 0 0)).setCell ⟨rb, 8, none⟩ (.slice a1 N c1)).setCell ⟨rb, 9, none⟩ (.slice a2 N c2)).setCell ⟨rb, 10, none⟩ (.int .i64 0) = V := ⟨_, rfl⟩
              have oA : ∀ k, k ≠ rb → V.heap[k]? = wr.heap[k]? := fun k hk => by rw [← hV]; exact (set_other hk).trans ((set_other hk).trans ((set_other hk).trans ((set_other hk).trans ((set_other hk).trans ((set_other hk).trans ((set_other hk).trans ((set_other hk).trans ((set_other hk).trans ((set_other hk).trans (set_other hk))))))))))
              have gA : wr.grownBy V (some rb) := by rw [← hV]; exact grow_row (grow_row (grow_row (grow_row (grow_row (grow_row (grow_row (grow_row (grow_row (grow_row (grown_set wr rb 0 (.bool false)) (grown_set _ rb 1 (.int .i64 3)) (fun _ h => .inl h)) (grown_set _ rb 2 (.int .i64 0)) (fun _ h => .inl h)) (grown_set _ rb 3 (.int .u32 0)) (fun _ h => .inl h)) (grown_set _ rb 4 (.int .i64 0)) (fun _ h => .inl h)) (grown_set _ rb 5 (.int .i64 0)) (fun _ h => .inl h)) (grown_set _ rb 6 (.int .i64 0)) (fun _ h => .inl h)) (grown_set _ rb 7 (.slice none 0 0)) (fun _ h => .inl h)) (grown_set _ rb 8 (.slice a1 N c1)) (fun _ h => .inl h)) (grown_set _ rb 9 (.slice a2 N c2)) (fun _ h => .inl h)) (grown_set _ rb 10 (.int .i64 0)) (fun _ h => .inl h)
              rw [hV] at sA ⊢
              obtain ⟨e0, e1, e2, e3, e4, e5, e6, e7, e8, e9, e10⟩ := op_cells sA
              have hww := (HUN.out.hw.same (w' := V) (fun g hg => oA g (fun e => by have := (HUN.out.hw.blk g hg).1; omega))).rd
              have hrr := (HUN.out.hr.kept gA (fun e => by have := (HUN.out.hr.blk rb e).1; omega) (.inr hrb5)).rb
              have bA := below_grown HBW6.out gA (by have := HFO.out; omega) HBW6.out.size
              clear hV oA sA gA
              refine bodyPost_ret (v := .tuple #[.agg #[.bool false, .int .i64 3, .int .i64 0, .int .u32 0, .int .i64 0, .int .i64 0, .int .i64 0, .slice none 0 0, .slice a1 N c1, .slice a2 N c2, .int .i64 0], .int .i64 0]) (by simp [results, Tryz.results13, go_sem, e0, e1, e2, e3, e4, e5, e6, e7, e8, e9, e10]) rfl ⟨⟨_, rfl, ?_⟩, bA⟩
              have hopn : opn S N T mw mh l = ⟨false, 3, none, List.replicate N 3, List.replicate N none, 0⟩ := by unfold opn; rw [if_neg (by rw [HLEN.out]; exact HE.out), HHD.out]
              rw [hopn]
              refine ⟨_, _, _, rfl, SlR.nil _, hww, ?_⟩
              rw [List.map_replicate]
              exact hrr
end Go.Proofs.YtoanopegoilcnaaGreat
