/- Walks over firkinref02: Decode. -/
import Derived.Test.YtoanopegoilcnaaGreatJu
set_option linter.unusedVariables false
namespace Go.Proofs.YtoanopegoilcnaaGreat
open Go.RowKit Go.Mem

theorem rd_drop {w : World} {g o L c n : Nat} {l : List Nat} (h : Rd .i64 w (.slice (some ⟨g, o, none⟩) L c) l) (hl : l.length = L) (hn : n ≤ L) : Rd .i64 w (.slice (some ⟨g, o + n, none⟩) (L - n) (c - n)) (l.drop n) := by
  obtain ⟨a', c', he, h1, h2, hc⟩ := h
  injection he with e1 e2 e3
  subst e1 e3
  refine ⟨some ⟨g, o + n, none⟩, c - n, by rw [List.length_drop, hl], by rw [List.length_drop]; omega, by omega, fun j hj => ⟨g, o + n, rfl, ?_⟩⟩
  obtain ⟨g', o', ha, hx⟩ := hc (n + j) (by rw [List.length_drop] at hj; omega)
  cases ha
  rw [Nat.add_assoc, hx, drop_getD]
/-- What the way through the equations leaves: a word, k bits away. -/
def Kept (m t n r : Nat) (l0 : List Nat) (wx : World) (lv : Value) (k : Nat) : Prop :=
  ∃ l1 : List Nat, Rd .i64 wx lv l1 ∧ l1.length = n + r ∧ (∀ y ∈ l1, y ≤ 1) ∧ Gf.Cw m t (fw (l1.getD · 0) (n + r)) (n + r) ∧ Gf.dst (fw (l0.getD · 0) (n + r)) (fw (l1.getD · 0) (n + r)) (n + r) = k ∧ k ≤ t

set_option maxRecDepth 100000 in
set_option maxHeartbeats 3200000 in
theorem rdecode_any (v1 v2 v3 : Value) (xs ys : List Nat) (bytes t m P : Nat) (w : World) (hp : Par bytes t m) (h : RC w v1 bytes t m) (h2 : Rd .u8 w v2 xs) (h3 : Rd .u8 w v3 ys) (hx : ∀ y ∈ xs, y < 256) (hy : ∀ y ∈ ys, y < 256)
    (hxl : xs.length = bytes) (hP : P = (rr m t + 7) / 8) (hyl : ys.length = P) :
    Calls Tryz.prog 66 #[v1, v2, v3] w fun e w' => DecRet m t bytes P (xs.getD · 0) (ys.getD · 0) w w' e ∧ Below w.heap.size w w' := by
  obtain ⟨ga0, L0, gcap0, rfl⟩ := nil_RC h
  have HRC := hid h
  have HX := hid hx
  have HY := hid hy
  have HV2 := hid h2
  have HV3 := hid h3
  have HXL := hid hxl
  have HYL := hid hyl
  have HPE := hid hP
  have r1 := hp.r.2.1
  have r104 := hp.r.2.2.2.1
  have b1 := hp.b1
  have b2 := hp.b2
  have t1 := hp.t1
  have t8 := hp.t8
  have hLs := hp.r.2.2.2.2
  have HLS := hid hLs
  obtain ⟨xa, xcap, hxe, _, _, _⟩ := h2
  obtain ⟨ya, ycap, hye, _, _, _⟩ := h3
  rw [hxl] at hxe
  rw [hyl] at hye
  subst hxe hye
  have hPl : P ≤ 14 := by omega
  have hpar := fun w' (hb : Below w.heap.size w w') => rParity_any _ bytes t m w' hp (HRC.out.below hb)
  rw [← hP] at hpar
  have HPAR := hid hpar
  have n1 : ((bytes : Int) != (bytes : Int)) = false := by simp
  have n2 : ((P : Int) != (P : Int)) = false := by simp
  obtain ⟨W0, hW0⟩ : ∃ W, w.alloc (.cells #[.int .i64 m, .int .i64 bytes, .int .i64 t, .slice ga0 L0 gcap0] 33) = W := ⟨_, rfl⟩
  have hC0 : W0.heap[w.heap.size]? = some (.cells #[.int .i64 m, .int .i64 bytes, .int .i64 t, .slice ga0 L0 gcap0] 33 (0, 0)) := by rw [← hW0]; exact alloc_new w _
  have hb0 : Below w.heap.size w W0 := by rw [← hW0]; exact (Below.refl _ _).alloc (Nat.le_refl _) _
  have HC0 := hid hC0
  have HB0 := hid hb0
  have HW0 := hid hW0
  clear h hx hy hxl hyl hP hpar hW0 hC0 hb0 hLs
  go_enter Tryz.func66, Tryz.ntmps66
  go_wp2_with fail
  rw [HW0.out]
  refine (HPAR.out _ HB0.out).mono ?_
  rintro e w1 ⟨rfl, hb1⟩
  have hC1 := (hb1.block _ (lt_at HC0.out)).trans HC0.out
  have HC1 := hid hC1
  have HB1 := hid (HB0.out.comp hb1)
  have q0 := cell_at hC1 0
  have q1 := cell_at hC1 1
  have q2 := cell_at hC1 2
  have q3 := cell_at hC1 3
  clear hb1 hC1 HPAR
  go_wp2_with fail
  refine (rword_any _ _ _ xs ys bytes t m P _ hp (HRC.out.below HB1.out) (HV2.out.below HB1.out) (HV3.out.below HB1.out) HX.out HY.out HXL.out HYL.out (by have := HPE.out; omega) (by omega)).mono ?_
  rintro e w2 ⟨lv, rfl, ho, hb2⟩
  obtain ⟨l0, hl0⟩ : ∃ l, bl (xs.getD · 0) (8 * bytes) ++ bl (ys.getD · 0) (rr m t) = l := ⟨_, rfl⟩
  rw [hl0] at ho
  have hl0l : l0.length = 8 * bytes + rr m t := by rw [← hl0, List.length_append, bl_len, bl_len]
  have hl01 : ∀ y ∈ l0, y ≤ 1 := fun y hy => by
    rw [← hl0] at hy
    rcases List.mem_append.1 hy with h | h <;> exact bl_le _ _ y h
  obtain ⟨gl, cl, he, hgl, hol⟩ := ho.ow (by rw [hl0l]; omega)
  obtain ⟨L, hL⟩ : ∃ L, 8 * bytes + rr m t = L := ⟨_, rfl⟩
  rw [hl0l, hL] at he hol
  subst he
  have hrl := ho.rd

  have HRL := hid hrl
  have HL0 := hid hl0
  have HL := hid hL
  have HL0L := hid (hl0l.trans hL)
  have HL01 := hid hl01
  have hB2 := HB1.out.comp hb2
  have hC2 := (hb2.block _ (lt_at HC1.out)).trans HC1.out
  have HB2 := hid hB2
  have HC2 := hid hC2
  have HRC2 := hid (HRC.out.below hB2)
  have hL1 : L ≤ 10000 := by omega
  have hL8 : 1 ≤ L := by omega
  have hcl : cl ≤ 9223372036854775807 := by obtain ⟨cur, _, h2, h3, h4, _⟩ := hol; unfold maxLen at h4; omega
  have hcl2 : L ≤ cl := by obtain ⟨cur, _, h2, h3, h4, _⟩ := hol; omega
  clear q0 q1 q2 q3 ho hgl hol hrl hl0 hL hl0l hl01 hB2 hC2 hb2 HB1 HC1
  have q0 := cell_at HC2.out 0
  have q1 := cell_at HC2.out 1
  have q2 := cell_at HC2.out 2
  have q3 := cell_at HC2.out 3
  go_wp2_with fail
  refine (rwhole_any _ _ l0 bytes t m _ hp HRC2.out HRL.out HL01.out (by rw [HL0L.out]; omega) (by rw [HL0L.out]; have := HL.out; omega)).mono ?_
  rintro e w3 ⟨b0, rfl, hwh, hb3⟩
  rw [HL0L.out] at hwh
  have HWH := hid hwh
  have HB3 := hid (HB2.out.comp hb3)
  have hC3 := (hb3.block _ (lt_at HC2.out)).trans HC2.out
  have HC3 := hid hC3
  have HRL3 := hid (HRL.out.below hb3)
  have HRC3 := hid (HRC2.out.below hb3)
  clear q0 q1 q2 q3 hwh hb3 hC3 HB2 HC2 HRL HRC2 HB0 HC0 HW0
  have q0 := cell_at HC3.out 0
  have q1 := cell_at HC3.out 1
  have q2 := cell_at HC3.out 2
  have q3 := cell_at HC3.out 3
  go_upto_if 39 with fail
  go_cut [10, 11] (fun lv fnd wx => ∃ k : Nat, fnd = .int .i64 k ∧ Kept m t (8 * bytes) (rr m t) l0 wx lv k ∧ Below w3.heap.size w3 wx)
  case first =>
    cases b0 with
    | true =>
      go_wp2_with fail
      go_meet
      refine ⟨0, rfl, ⟨l0, HRL3.out, HL0L.out.trans HL.out.symm, HL01.out, ?_, ?_, Nat.zero_le _⟩, Below.refl _ _⟩
      · rw [HL.out]; exact HWH.out.1 (by first | trivial | rfl)
      · exact Gf.dst_self _ _
    | false =>
      go_wp2_with fail
      go_loopg [13, 12] (2 * t) (fun gk k s wr => ∃ (K : Nat) (sv : Value), K + gk = 2 * t ∧ k = .int .i64 ((K : Int) + 1) ∧ sv = s ∧ Own .i64 3 w3.heap.size wr sv ((List.range K).map fun k => Gf.syn m (fw (l0.getD · 0) L) L (k+1)) ∧ Below w3.heap.size w3 wr)
      case atStart => exact ⟨0, _, by omega, rfl, rfl, Own.nil _ _ _ _, Below.refl _ _⟩
      case round =>
        obtain ⟨K, sv, hK, rfl, rfl, ho, hb⟩ := hrel
        have HO := hid ho
        have HB := hid hb
        have hCr := (hb.block _ (lt_at HC3.out)).trans HC3.out
        have HCR := hid hCr
        clear q0 q1 q2 q3 ho hb hCr
        have q0 := cell_at HCR.out 0
        have q1 := cell_at HCR.out 1
        have q2 := cell_at HCR.out 2
        have q3 := cell_at HCR.out 3
        by_cases hlt : K < 2 * t
        · have hsyn := rsyndrome_any _ _ l0 (K+1) bytes t m wr hp (HRC3.out.below HB.out) (HRL3.out.below HB.out) HL01.out (by rw [HL0L.out]; omega) (by omega)
          rw [HL0L.out, show ((K + 1 : Nat) : Int) = (K : Int) + 1 by omega] at hsyn
          have hsn : ((List.range (K+1)).map fun k => Gf.syn m (fw (l0.getD · 0) L) L (k+1)) = ((List.range K).map fun k => Gf.syn m (fw (l0.getD · 0) L) L (k+1)) ++ [Gf.syn m (fw (l0.getD · 0) L) L (K+1)] := by rw [List.range_succ, List.map_append]; rfl
          have hlen : ((List.range K).map fun k => Gf.syn m (fw (l0.getD · 0) L) L (k+1)).length = K := by simp
          generalize ((List.range K).map fun k => Gf.syn m (fw (l0.getD · 0) L) L (k+1)) = X at *
          generalize Gf.syn m (fw (l0.getD · 0) L) L (K+1) = y at *
          have HSN := hid hsn
          have HLEN := hid hlen
          have HSY := hid hsyn
          have hkt : (K : Int) + 1 ≤ 2 * (t : Int) := by omega
          clear hsn hlen hsyn
          go_wp2_with fail
          refine HSY.out.mono ?_
          rintro e w5 ⟨rfl, hb5⟩
          have HO5 := hid (HO.out.below hb5)
          have HB5 := hid (HB.out.comp hb5)
          clear hb5 q0 q1 q2 q3
          go_wp2_with (at_builtin; refine app_one el_int rfl _ _ rfl w3.heap.size _ X rfl (HO5.out.alloc _) ⟨w5.heap.size, 0, none⟩ 1 y rfl (new_cell _ _ _) (by rw [HLEN.out]; omega) (by have := HB5.out.size; simp; omega) ?_; rw [HLEN.out]; intro g3 cap3 w6 hown hgrow hat)
          go_roundg (gk - 1)
          case measure => omega
          case rel =>
            refine ⟨K + 1, _, by omega, by go_num, rfl, by rw [HSN.out]; exact hown, ?_⟩
            exact grow_below (HB5.out.alloc HB5.out.size _) (by have := HB5.out.size; simp; omega) hgrow (fun g hg => (HO5.out.blk g hg).1)
        · obtain rfl : K = 2 * t := by omega
          have hkt : ¬ ((2 * t : Nat) : Int) + 1 ≤ 2 * (t : Int) := by omega
          have hkt2 : ¬ (2 * (t : Int)) + 1 ≤ 2 * (t : Int) := by omega
          obtain ⟨S, hS⟩ : ∃ S, ((List.range (2 * t)).map fun k => Gf.syn m (fw (l0.getD · 0) L) L (k+1)) = S := ⟨_, rfl⟩
          have hsl : S.length = 2 * t := by rw [← hS]; simp
          have hslt : ∀ y ∈ S, y < 2^m := fun y hy => by rw [← hS] at hy; obtain ⟨j, _, rfl⟩ := List.mem_map.1 hy; exact Gf.syn_lt hp.ok _ _ _
          have hsg : ∀ k, k < 2 * t → S.getD k 0 = Gf.syn m (fw (l0.getD · 0) L) L (k+1) := fun k hk => by rw [← hS]; exact rg_getD _ _ _ hk
          rw [hS] at HO
          have hnw : ¬ Gf.Cw m t (fw (l0.getD · 0) L) L := fun hc => by have := HWH.out.2 hc; simp at this
          have hsr : Rd .i64 wr sv S := HO.out.rd
          have HSR := hid hsr
          have HSL := hid hsl
          have HSLT := hid hslt
          have HSG := hid hsg
          have HNW := hid hnw
          obtain ⟨w4, rfl⟩ : ∃ w4 : World, w4 = wr := ⟨_, rfl⟩
          clear hS hsl hslt hsg hnw hsr HO
          go_wp2_with fail
          go_loopg [15, 14, 10, 11] t (fun gk v ok lv fnd wr => v = .int .i64 gk ∧ gk ≤ t ∧ Below w4.heap.size w4 wr ∧
            ((ok = .bool false ∧ lv = .slice (some ⟨gl, 0, none⟩) L cl ∧ fnd = .int .i64 0 ∧ ∀ u, gk < u → u ≤ t → ¬ Found m t S l0 L u) ∨ (ok = .bool true ∧ ∃ k : Nat, fnd = .int .i64 k ∧ Kept m t (8 * bytes) (rr m t) l0 wr lv k)))
          case atStart => exact ⟨rfl, Nat.le_refl _, Below.refl _ _, .inl ⟨rfl, rfl, rfl, fun u h1 h2 => by omega⟩⟩
          case round =>
            obtain ⟨rfl, hgt, hb5, hcs⟩ := hrel
            obtain ⟨V, rfl⟩ : ∃ V, V = gk := ⟨_, rfl⟩
            have HB5 := hid hb5
            have hCv := (hb5.block _ (lt_at HCR.out)).trans HCR.out
            have HCV := hid hCv
            clear q0 q1 q2 q3 hb5 hCv
            have q0 := cell_at HCV.out 0
            have q1 := cell_at HCV.out 1
            have q2 := cell_at HCV.out 2
            have q3 := cell_at HCV.out 3
            rcases hcs with ⟨rfl, rfl, rfl, hno⟩ | ⟨rfl, k, rfl, hkp⟩
            · rcases Nat.eq_zero_or_pos V with h0 | h0
              · subst h0
                have hbad := bad_of hp.ok HLS.out HL0.out (fun j => by rcases Nat.lt_or_ge j l0.length with hj | hj; exact HL01.out _ (getD_mem hj); rw [Gf.getD_ge hj]; omega) HSLT.out (by rw [HL.out]; exact HSG.out) (by rw [HL.out]; exact HNW.out) (by rw [HL.out]; exact fun u h1 h2 => hno u (by omega) h2)
                have HBAD := hid hbad
                clear hno hbad
                go_wp2_with fail
                refine bodyPost_ret (v := .tuple #[.slice none 0 0, .slice none 0 0, .int .i64 0, .int .i64 20]) (by simp [results, Tryz.results66, go_sem]) rfl ⟨.inr ⟨rfl, HBAD.out⟩, ?_⟩
                exact HB3.out.comp (HB.out.comp HB5.out)
              · have HNO := hid hno
                have hg0 : (0 : Int) < (V : Int) := by omega
                clear hno
                go_wp2_with fail
                refine (rplaces_any _ _ S V L bytes t m _ hp (HRC3.out.below (HB.out.comp HB5.out)) (HSR.out.below HB5.out) HSLT.out HSL.out h0 hgt (by have := HL.out; have := HLS.out; omega)).mono ?_
                rintro e w5 ⟨hres, hb6⟩
                have HB6 := hid (HB5.out.comp hb6)
                have hC6 := (hb6.block _ (lt_at HCV.out)).trans HCV.out
                have HC6 := hid hC6
                have hrl6 := HRL3.out.below (HB.out.comp HB6.out)
                have HRL6 := hid hrl6
                clear q0 q1 q2 q3 hb6 hC6 hrl6
                rcases hres with ⟨hgn, rfl⟩ | ⟨B', vo, hgs, rfl, hovo⟩
                · have hno2 : ∀ u, V - 1 < u → u ≤ t → ¬ Found m t S l0 L u := fun u h1 h2 hf => by
                    rcases Nat.lt_or_ge V u with h | h
                    · exact HNO.out u h h2 hf
                    · obtain rfl : u = V := by omega
                      obtain ⟨B', hb, _⟩ := hf
                      rw [hgn] at hb; cases hb
                  have HNO2 := hid hno2
                  clear hno2 hgn
                  go_wp2_with fail
                  go_roundg (V - 1)
                  case measure => omega
                  case rel => exact ⟨congrArg (Value.int .i64) (by omega), by omega, HB6.out, .inl ⟨rfl, rfl, rfl, HNO2.out⟩⟩
                · obtain ⟨R, hR⟩ : ∃ R, rts m (Gf.pol (fun j => B' j V) V) L = R := ⟨_, rfl⟩
                  have hRn : R.Nodup := by rw [← hR]; exact rts_nodup _ _ _
                  have hRl : ∀ p ∈ R, p < L := fun p hp => by rw [← hR] at hp; exact ((rts_mem _ _ _ _).1 hp).1
                  have hRf : ((List.range L).filter (fun k => decide (k ∈ R))) = R := by rw [← hR]; exact rts_filter _ _ _
                  have hfd : R.length = V → Gf.Cw m t (fw (fl l0 (pls R L) R.length) L) L → Found m t S l0 L V := fun h1 h2 => by
                    rw [← hR] at h1 h2
                    exact ⟨B', hgs, h1, h2⟩
                  have hff : ¬ (R.length = V ∧ Gf.Cw m t (fw (fl l0 (pls R L) R.length) L) L) → ¬ Found m t S l0 L V := fun h1 ⟨B2, h2, h3, h4⟩ => by
                    rw [hgs] at h2
                    cases h2
                    rw [hR] at h3 h4
                    exact h1 ⟨h3, h4⟩
                  have hno2 : ¬ (R.length = V ∧ Gf.Cw m t (fw (fl l0 (pls R L) R.length) L) L) → ∀ u, V - 1 < u → u ≤ t → ¬ Found m t S l0 L u := fun hn u h1 h2 hf => by
                    rcases Nat.lt_or_ge V u with h | h
                    · exact HNO.out u h h2 hf
                    · obtain rfl : u = V := by omega
                      exact hff hn hf
                  rw [hR] at hovo
                  have HNO2 := hid hno2
                  have HOV := hid hovo
                  have HRN := hid hRn
                  have HRLT := hid hRl
                  have HRF := hid hRf
                  rw [hR]
                  clear hno2 hff hfd hovo hRn hRl hRf hgs hR
                  by_cases hlen : R.length = V
                  · have hlz : ((R.length : Int) == (V : Int)) = true := beq_iff_eq.2 (by omega)
                    obtain ⟨gp, cp, he, hgp, hop⟩ := HOV.out.ow (by rw [List.length_map]; omega)
                    rw [List.length_map, hlen] at he hop
                    subst he
                    rw [hlen] at HNO2 ⊢
                    have HLEN := hid hlen
                    have HOP := hid hop
                    clear hlen hop hgp HOV
                    have hlz2 : ((V : Int) == (V : Int)) = true := by simp
                    go_wp2_with (at_builtin; refine app_row el_int rfl _ _ rfl w5.heap.size (.slice none 0 0) [] rfl (Own.nil _ _ _ _) l0 (by exact HRL6.out) (by rw [HL0L.out]; omega) (by rw [HL0L.out]; simp; omega) (Nat.le_refl _) ?_; rw [HL0L.out]; simp only [List.length_nil, Nat.zero_add, List.nil_append]; intro g7 cap7 w7 hown hgrow hat; have hb7 := grow_below (v := .slice none 0 0) (Below.refl w5.heap.size w5) (Nat.le_refl _) hgrow (by simp [Value.ownBlock]); have hoe := hown.ow (by rw [HL0L.out]; omega); rw [HL0L.out] at hoe; obtain ⟨g', c', he, hg7, ho7⟩ := hoe; cases he; have HO7 := hid ho7; have HB7 := hid hb7; have HG7 := hid hg7; clear hown hgrow hat ho7 hb7 hg7)
                    obtain ⟨w7', rfl⟩ : ∃ w7' : World, w7' = w7 := ⟨_, rfl⟩
                    have hgp7 : gp ≠ g7 := by have := HOP.out.lt; have := HG7.out; omega
                    go_loopg [19] V (fun g2 i wr2 => ∃ I : Nat, I + g2 = V ∧ i = .int .i64 I ∧ Ow .i64 3 wr2 g7 L cap7 (fl l0 (pls R L) I) ∧ Below w5.heap.size w5 wr2)
                    case atStart => exact ⟨0, by omega, rfl, HO7.out, HB7.out⟩
                    case round =>
                      clear HO7 HB7
                      obtain ⟨I, hI, rfl, ho8, hb8⟩ := hrel
                      have HO8 := hid ho8
                      have HB8 := hid hb8
                      clear ho8 hb8
                      by_cases hlt : I < V
                      · obtain ⟨q, hq⟩ : ∃ q, (pls R L).getD I 0 = q := ⟨_, rfl⟩
                        have hqL : q < L := by
                          rw [← hq]
                          have hm : (pls R L).getD I 0 ∈ pls R L := getD_mem (by unfold pls; rw [List.length_map, HLEN.out]; exact hlt)
                          obtain ⟨p, hp1, hp2⟩ := List.mem_map.1 hm
                          rw [← hp2]; have := HRLT.out p hp1; omega
                        have cp1 : wr.cell? ⟨gp, I, none⟩ = some (.int .i64 (q : Nat)) := by
                          have := (HOP.out.same (HB8.out.block _ HOP.out.lt)).cell hlt
                          rw [this, ← hq]; rfl
                        have cq := HO8.out.cell hqL
                        have fq := HO8.out.free q
                        have hst : fl l0 (pls R L) (I+1) = upd (fl l0 (pls R L) I) q (1 - fl l0 (pls R L) I q) := by rw [← hq]; rfl
                        have hset := HO8.out.set q (1 - fl l0 (pls R L) I q)
                        rw [← hst] at hset
                        have hx1 := fl_le (l := l0) (ps := pls R L) (fun j => by rcases Nat.lt_or_ge j l0.length with hj | hj; exact HL01.out _ (getD_mem hj); rw [Gf.getD_ge hj]; omega) I q
                        generalize fl l0 (pls R L) I q = x at *
                        have hsub : (1 : Int) - (x : Int) = ((1 - x : Nat) : Int) := by omega
                        have hw1 : IntKind.i64.wrap ((1 : Int) - (x : Int)) = ((1 - x : Nat) : Int) := by rw [IntWalk.i64_in _ (by omega)]; exact hsub
                        have hqz : (q : Int) < (L : Int) := by omega
                        have hIz : (I : Int) < (V : Int) := by omega
                        have HSET := hid hset
                        clear hq hst hset
                        go_wp2_with fail
                        refine wp_region_quiet_tail 14 (by kernel_rfl) (by kernel_rfl) ?_
                        simp only [List.take_succ_cons, List.take_zero, List.drop_succ_cons, List.drop_zero]
                        repeat (go_big_quiet_step (fail))
                        refine wpQuiet_nil ?_
                        intro _ hw'
                        obtain ⟨nq, hw''⟩ := hw'
                        subst hw''
                        go_wp2_with fail
                        go_roundg (V - (I + 1))
                        case measure => omega
                        case rel =>
                          refine ⟨I + 1, by omega, by go_num, ?_, ?_⟩
                          · first | exact HSET.out | (rw [hsub]; exact HSET.out)
                          · exact (HB8.out.drewN nq).setCell HG7.out _
                      · obtain rfl : V = I := by omega
                        have hC8 := (HB8.out.block _ (lt_at HC6.out)).trans HC6.out
                        have q0 := cell_at hC8 0
                        have q1 := cell_at hC8 1
                        have q2 := cell_at hC8 2
                        have q3 := cell_at hC8 3
                        have hrd := HO8.out.rd
                        have hb56 := HB6.out.comp HB8.out
                        have hf1 := fl_le (l := l0) (ps := pls R L) (fun j => by rcases Nat.lt_or_ge j l0.length with hj | hj; exact HL01.out _ (getD_mem hj); rw [Gf.getD_ge hj]; omega) V
                        have hfw : ∀ k, k < L → fw (((List.range L).map (fl l0 (pls R L) V)).getD · 0) L k = fw (fl l0 (pls R L) V) L k := fun k hk => by
                          unfold fw
                          show decide (((List.range L).map (fl l0 (pls R L) V)).getD (L - 1 - k) 0 = 1) = _
                          rw [rg_getD _ _ _ (by omega)]
                        have hdst : Gf.dst (fw (l0.getD · 0) L) (fw (((List.range L).map (fl l0 (pls R L) V)).getD · 0) L) L = V := by
                          refine (dst_flip (R := R) (fun k hk => ?_)).trans (by rw [HRF.out, HLEN.out])
                          rw [hfw k hk, ← fl_fw (fun j => by rcases Nat.lt_or_ge j l0.length with hj | hj; exact HL01.out _ (getD_mem hj); rw [Gf.getD_ge hj]; omega) HRN.out HRLT.out k hk, HLEN.out]
                        have hle1 : ∀ y ∈ (List.range L).map (fl l0 (pls R L) V), y ≤ 1 := fun y hy => by obtain ⟨j, _, rfl⟩ := List.mem_map.1 hy; exact hf1 j
                        have hll : ((List.range L).map (fl l0 (pls R L) V)).length = L := by simp
                        obtain ⟨l1, hl1⟩ : ∃ l1, (List.range L).map (fl l0 (pls R L) V) = l1 := ⟨_, rfl⟩
                        rw [hl1] at hrd hfw hdst hle1 hll
                        have HRD := hid hrd
                        have HB56 := hid hb56
                        have HFW := hid hfw
                        have HDST := hid hdst
                        have HLE1 := hid hle1
                        have HLL := hid hll
                        have HC8 := hid hC8
                        clear hrd hb56 hf1 hfw hdst hle1 hll hl1 hC8 HO8
                        go_wp2_with fail
                        refine (rwhole_any _ _ l1 bytes t m _ hp (HRC3.out.below (HB.out.comp HB56.out)) HRD.out HLE1.out (by rw [HLL.out]; omega) (by rw [HLL.out]; have := HL.out; omega)).mono ?_
                        rintro e w9 ⟨b1, rfl, hwh, hb9⟩
                        rw [HLL.out] at hwh
                        have hw1 : b1 = true → Gf.Cw m t (fw (l1.getD · 0) L) L := hwh.1
                        have hw2 : b1 = false → ∀ u, V - 1 < u → u ≤ t → ¬ Found m t S l0 L u := fun hb => HNO2.out (fun h => by
                          have := hwh.2 (h.2.congr (fun k hk => (HFW.out k hk).symm))
                          rw [hb] at this; cases this)
                        have HW1 := hid hw1
                        have HW2 := hid hw2
                        have HB9 := hid (HB56.out.comp hb9)
                        have HRD9 := hid (HRD.out.below hb9)
                        clear hwh hw1 hw2 hb9 q0 q1 q2 q3
                        cases b1 with
                        | true =>
                          go_wp2_with fail
                          go_roundg (V - 1)
                          case measure => omega
                          case rel =>
                            refine ⟨congrArg (Value.int .i64) (by omega), by omega, HB9.out, .inr ⟨rfl, V, rfl, l1, HRD9.out, HLL.out.trans HL.out.symm, HLE1.out, ?_, ?_, hgt⟩⟩
                            · rw [HL.out]; exact HW1.out (by first | trivial | rfl)
                            · rw [HL.out]; exact HDST.out
                        | false =>
                          go_wp2_with fail
                          go_roundg (V - 1)
                          case measure => omega
                          case rel => exact ⟨congrArg (Value.int .i64) (by omega), by omega, HB9.out, .inl ⟨rfl, rfl, rfl, HW2.out (by first | trivial | rfl)⟩⟩
                  · have hlz : ((R.length : Int) == (V : Int)) = false := beq_eq_false_iff_ne.2 (by omega)
                    go_wp2_with fail
                    go_roundg (V - 1)
                    case measure => omega
                    case rel => exact ⟨congrArg (Value.int .i64) (by omega), by omega, HB6.out, .inl ⟨rfl, rfl, rfl, HNO2.out (fun h => hlen h.1)⟩⟩
            · have HKP := hid hkp
              clear hkp
              rcases Nat.eq_zero_or_pos V with h0 | h0
              · subst h0
                go_wp2_with fail
                go_meet
                exact ⟨k, rfl, HKP.out, HB.out.comp HB5.out⟩
              · have hg0 : (0 : Int) < (V : Int) := by omega
                go_wp2_with fail
                go_meet
                exact ⟨k, rfl, HKP.out, HB.out.comp HB5.out⟩
  case rest =>
    obtain ⟨k, rfl, hkept, hbc⟩ := hcut
    obtain ⟨l1, hr, hl1, hle, hcw, hdst, hkt⟩ := hkept
    have hr' := hr
    obtain ⟨a1, c1, he, h1, h2, hcc⟩ := hr'
    obtain ⟨g1, o1, rfl, _⟩ := hcc 0 (by omega)
    rw [hl1, HL.out] at he h1
    subst he
    have hlL := hl1.trans HL.out
    have hc3 : c1 ≤ 9223372036854775807 := by unfold maxLen at h2; omega
    have hrt := hr.take (8 * bytes) (by omega)
    have hgood := good_of (P := P) (d := (xs.getD · 0)) (p := (ys.getD · 0)) l1 hcw (by rw [HL0.out]; exact hdst) hkt
    have HR := hid hr
    have HRT := hid hrt
    have HGOOD := hid hgood
    have HLE := hid hle
    have HLL := hid hlL
    have HBC := hid (HB3.out.comp hbc)
    have hCc := (hbc.block _ (lt_at HC3.out)).trans HC3.out
    have HCC := hid hCc
    clear q0 q1 q2 q3 hr hrt hgood hle hlL hcw hdst hcc hbc hCc hl1 h2
    have q0 := cell_at HCC.out 0
    have q1 := cell_at HCC.out 1
    have q2 := cell_at HCC.out 2
    have q3 := cell_at HCC.out 3
    obtain ⟨n8, hn8⟩ : ∃ n8, 8 * bytes = n8 := ⟨_, rfl⟩
    have hw8 : IntKind.i64.wrap (8 * (bytes : Int)) = (n8 : Int) := by rw [IntWalk.i64_in _ (by omega)]; omega
    have hw82 : 8 * (bytes : Int) = (n8 : Int) := by omega
    have h8b : (n8 : Int) < (c1 : Int) := by have := HL.out; omega
    have h8c : (n8 : Int) ≤ (c1 : Int) := by omega
    have h8L : (n8 : Int) ≤ (L : Int) := by have := HL.out; omega
    have hw83 : IntKind.i64.wrap (n8 : Int) = (n8 : Int) := IntWalk.i64_in _ (by omega)
    have hcn : ¬ c1 = n8 := by omega
    have hnc : ¬ n8 = c1 := by omega
    rw [hn8] at HRT HGOOD
    have hrd : Rd .i64 wc (.slice (some ⟨g1, o1 + n8, none⟩) (L - n8) (c1 - n8)) (l1.drop n8) := rd_drop HR.out HLL.out (by omega)
    have hby1 : ∀ w', Below wc.heap.size wc w' → Calls Tryz.prog 74 #[.slice (some ⟨g1, o1, none⟩) n8 c1] w' fun e w'' => ∃ g, wc.heap.size ≤ g ∧ e = .returned (.slice (some ⟨g, 0, none⟩) bytes bytes) ∧ w''.heap[g]? = some (.cells (fa .u8 bytes (byI (l1.take n8) n8)) 5 (0, 0)) ∧ Below w'.heap.size w' w'' := fun w' hb => by
      have hlen : (l1.take n8).length = n8 := by rw [List.length_take, HLL.out]; omega
      refine (rbytes_any _ (l1.take n8) w' (HRT.out.below hb) (fun y hy => HLE.out y (List.mem_of_mem_take hy)) (by rw [hlen]; omega)).mono ?_
      rintro e w'' ⟨g, q, hg, hq, rfl, hh, hb2⟩
      rw [hlen] at hq hh
      obtain rfl : q = bytes := by omega
      exact ⟨g, by have := hb.size; omega, rfl, hh, hb2⟩
    have hby2 : ∀ w', Below wc.heap.size wc w' → Calls Tryz.prog 74 #[.slice (some ⟨g1, o1 + n8, none⟩) (L - n8) (c1 - n8)] w' fun e w'' => ∃ g, wc.heap.size ≤ g ∧ e = .returned (.slice (some ⟨g, 0, none⟩) P P) ∧ w''.heap[g]? = some (.cells (fa .u8 P (byI (l1.drop n8) (rr m t))) 5 (0, 0)) ∧ Below w'.heap.size w' w'' := fun w' hb => by
      have hlen : (l1.drop n8).length = rr m t := by rw [List.length_drop, HLL.out]; have := HL.out; omega
      refine (rbytes_any _ (l1.drop n8) w' (hrd.below hb) (fun y hy => HLE.out y (List.mem_of_mem_drop hy)) (by rw [hlen]; omega)).mono ?_
      rintro e w'' ⟨g, q, hg, hq, rfl, hh, hb2⟩
      rw [hlen] at hq hh
      obtain rfl : q = P := by have := HPE.out; omega
      exact ⟨g, by have := hb.size; omega, rfl, hh, hb2⟩
    have HBY1 := hid hby1
    have HBY2 := hid hby2
    have HN8 := hid hn8
    clear hn8 hrd hby1 hby2
    go_wp2_with fail
    go_region_with (first
      | (go_at_call_of 74 (o1 + n8); refine (HBY2.out _ (by first | exact (Below.refl _ _).drew.comp (by assumption) | exact (Below.refl _ _).comp (by assumption))).mono ?_; rintro e wB ⟨gB, hgB, rfl, hhB, hbB⟩)
      | (go_at_call 74; refine (HBY1.out _ (by first | exact (Below.refl _ _).drew | exact Below.refl _ _)).mono ?_; rintro e wA ⟨gA, hgA, rfl, hhA, hbA⟩; have qA : wA.cell? ⟨w.heap.size, 1, none⟩ = some (.int .i64 bytes) := cell_at ((hbA.block _ (lt_at HCC.out)).trans HCC.out) 1))
    all_goals
      go_wp2_with fail
      refine bodyPost_ret (v := .tuple #[.slice (some ⟨gA, 0, none⟩) bytes bytes, .slice (some ⟨gB, 0, none⟩) P P, .int .i64 k, .int .i64 0]) (by simp [results, Tryz.results66, go_sem]) rfl ⟨.inl ⟨gA, bytes, gB, P, byI (l1.take n8) n8, byI (l1.drop n8) (rr m t), k, ?_, ?_, rfl, ?_, ?_, byI_lt _ _, byI_lt _ _, ?_⟩, ?_⟩
      · have := HBC.out.size; omega
      · have := HBC.out.size; omega
      · exact (Ow.of_fa hhA (by unfold maxLen; omega)).same (hbB.block _ (lt_at hhA))
      · exact Ow.of_fa hhB (by unfold maxLen; omega)
      · rw [HN8.out]; exact HGOOD.out
      · exact HBC.out.comp (((Below.refl _ wc).drew.comp hbA).comp hbB)
end Go.Proofs.YtoanopegoilcnaaGreat
