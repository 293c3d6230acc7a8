/- Walks over journal: Open. -/
import Derived.Test.YtkdjefnnhanhhaaUr
set_option linter.unusedVariables false
namespace Go.Proofs.Ytkdjefnnhanhhaa
open Go Go.RowKit Go.Mem Go.Jn
set_option linter.unusedVariables false

set_option maxRecDepth 100000 in
set_option maxHeartbeats 12800000 in
theorem open_any {Q : Nat → Prop} {w : World} {T : Nat} {t : Tp} (hT : TapeAt Q w T t) (ho : t.Ok) (hop : t.ops + 2000 < 5000000000000) (hoff : t.off = false) (hcut : t.cut = -1) :
    Calls Try.prog 12 #[ifT T] w fun e w' => ∃ J, e = .returned (.tuple #[.pointer (some ⟨J, 0, none⟩), .int .i64 0]) ∧ w.heap.size ≤ J ∧ JSt Q w' J T ⟨openF t.last t.nb t.size, t.stepN t.nb⟩ ∧ Off (fun i => i = T) w w' := by
  have HTA := hid hT
  obtain ⟨ka, sa, K, S, ck, cs, kv, sv, h⟩ := hT
  have HB := hid (blocks_any h.c1)
  have HZ := hid (bytes_any h.c0)
  have hm1 := meth_tape T
  have hm2 := meth_bytes T
  have hm3 := meth_read T
  have hmm := @run_makeMap Try.prog
  have hie : Try.prog.isIface 62 = true := by kernel_rfl
  have hTl := lt_at h.hp
  have hs := ho.sz
  have hsl := ho.sl
  have hs1 := ho.s128
  have hn8 := ho.n8
  have hnl := ho.nl
  obtain ⟨nb, hnb⟩ : ∃ n, t.nb = n := ⟨_, rfl⟩
  have HNB := hid hnb
  obtain ⟨ts, hts⟩ : ∃ n, t.size = n := ⟨_, rfl⟩
  have HTS := hid hts
  rw [hnb] at HB hn8 hnl
  rw [hts] at HZ hsl hs1
  obtain ⟨B, hB⟩ : ∃ B, w.heap.size = B := ⟨_, rfl⟩
  have HBE := hid hB
  have HC := hid h
  have HO := hid ho
  have HOP := hid hop
  have HST := hid (stepN_step hoff hcut)
  have hlast : ∀ i, i < t.nb → BytesN t.size (t.last i) := fun i hi => by
    rcases Nat.eq_zero_or_pos (t.since i).length with h0 | h0
    · rw [last_nil h0]; exact h.fk i hi
    · exact h.fs i hi _ (last_mem h0)
  have HLAST := hid hlast
  unfold ifT
  have e1 : ¬ (nb : Int) < 8 := by omega
  have e2 : ¬ (ts : Int) < 128 := by omega
  have HB5 := hid (show ∀ W : World, Below B w W → Calls Try.prog 95 #[.pointer (some ⟨T, 0, none⟩)] W fun e w' => e = .returned (.int .i64 (nb : Nat)) ∧ W = w' from fun W hW => by
    have := blocks_any (w := W) ((hW.cell (p := ⟨T, 1, none⟩) (by rw [← hB]; exact hTl)).trans h.c1)
    rw [hnb] at this; exact this)
  obtain ⟨W1, hW1⟩ : ∃ W, (w.alloc (.map #[] 0)).alloc (.cells #[.iface 25 (.pointer (some ⟨T, 0, none⟩)), .map (some B), .int .u64 0, .int .u64 0, .int .i64 0, .int .i64 0, .slice none 0 0, .int .u64 0, .bool false, .bool true, .int .i64 0] 65) = W := ⟨_, rfl⟩
  have hb1 : Below B w W1 := by rw [← hW1, ← hB]; exact ((Below.refl _ _).alloc (Nat.le_refl _) _).alloc (by simp) _
  have hJ1 : JAtC Tr W1 (B + 1) T Jo.zero B (.slice none 0 0) := by
    exact {
      hp := by rw [← hW1, ← hB]; have := alloc_new (w.alloc (.map #[] 0)) (.cells #[.iface 25 (.pointer (some ⟨T, 0, none⟩)), .map (some w.heap.size), .int .u64 0, .int .u64 0, .int .i64 0, .int .i64 0, .slice none 0 0, .int .u64 0, .bool false, .bool true, .int .i64 0] 65); rw [World.size_alloc] at this; exact this
      mp := by
        have := MAt.nil Try.prog 38 38 w
        rw [← hW1, ← hB]
        exact this.alloc _
      ro := orec_nil _ _
      qj := trivial
      qb := trivial
      qr := fun g e => (by cases e) }
  have HO1 := hid (show Op1 w W1 T (B + 1) B t ka sa ck cs 0 (.slice none 0 0) from {
    hp := (hb1.block T (by omega)).trans h.hp
    jo := hJ1
    bl := ⟨[], ⟨rfl, .inl ⟨rfl, rfl⟩⟩, fun i hi => (by omega)⟩
    fr := ⟨hb1.os, hb1.tape, hb1.output, by have := hb1.size; omega, fun k hk _ => hb1.block k (by omega)⟩
    ext := ⟨by omega, by omega⟩ })
  clear h ho hop hoff hcut hlast hb1 hJ1 hnb hts
  go_enter Try.func12, Try.ntmps12
  go_wp2; go_step3; go_wp2_with fail
  refine HB.out.mono ?_
  rintro e w1 ⟨rfl, rfl⟩
  go_wp2_with fail
  refine HZ.out.mono ?_
  rintro e w1 ⟨rfl, rfl⟩
  go_wp2_with fail
  refine (HB5.out W1 (by rw [← HBE.out]; have := HO1.out.fr; exact ⟨this.os, this.tape, this.output, this.size, fun k hk => by
    by_cases e : k = T
    · rw [e, HO1.out.hp]; exact HC.out.hp.symm
    · exact this.block k hk (fun e' => e (Option.some.inj e'))⟩)).mono ?_
  rintro e w1 ⟨rfl, rfl⟩
  go_wp2_with fail
  obtain ⟨i0, hi0, hz0, hz1, hz2⟩ := info_parts info_sl
  go_loopg [46, 5] nb (fun gk vi vb wr => ∃ (I : Nat) (bv : Value), I + gk = nb ∧ bv = vb ∧ vi = .int .i64 (I : Nat) ∧ Op1 w wr T (B + 1) B t ka sa ck cs I bv)
  case atStart => exact ⟨0, _, by omega, rfl, rfl, HO1.out⟩
  case round =>
    obtain ⟨I, vb, hI, rfl, rfl, h1⟩ := hrel
    by_cases hlt : I < nb
    · have i1 : (I : Int) < (nb : Int) := by omega
      have hIt : I < t.nb := by rw [HNB.out]; exact hlt
      have htc := HC.out.steps h1.fr I h1.hp
      have HRD := hid (tread_any htc (by show t.ops + I < _; have := HOP.out; omega) I hIt (by show t.nb ≤ _; rw [HNB.out]; omega) (by show 0 < t.size ∧ t.size ≤ _; rw [HTS.out]; omega))
      have HLI := hid (HLAST.out I hIt)
      obtain ⟨vs, hvs, hvr⟩ := h1.bl
      have HVS := hid hvs
      have HVR := hid hvr
      have H1 := hid h1
      have hBw : B ≤ wr.heap.size := by have := h1.fr.size; omega
      obtain ⟨ab, cb, hvb, hcb1, hcb2⟩ := h1.bl.form
      have hbB : ∀ g, vb.ownBlock = some g → B ≤ g := fun g e => by
        rcases orow_form hvs with e' | ⟨g', cu, e', hg, hB'⟩
        · rw [e'] at e; cases e
        · rw [e'] at e; cases e; omega
      have HBB := hid hbB
      have HVB := hid hvb
      subst hvb
      clear h1 htc hvr HO1 HLAST hbB hIt
      go_wp2_with fail
      refine HRD.out.mono ?_
      rintro e w5 ⟨⟨hof, _⟩ | ⟨_, x, rfl, hx⟩, htc5, hg5⟩
      · exact absurd hof (by rw [(HST.out I).2]; decide)
      · rw [(HST.out I).1] at htc5
        have htp5 := htc5.hp
        have hvs5 : w5.ownsRow B 27 1 (.slice ab I cb) I vs := by
          have := orow_same (w' := w5) hvs (fun j cu e hh => (hg5.block j (lt_at hh) (fun e' => by have := HBB.out j e; have := Option.some.inj e'; omega)).trans hh)
          rw [HBE.out] at this; exact this
        have hxl : (t.last I).length = ts := by rw [HLI.out.1, HTS.out]
        obtain ⟨gx, cx, hxv, _, _⟩ := hx.ow (by show 0 < ((t.stepN I).last I).length; exact (by rw [show (t.stepN I).last I = t.last I from rfl, hxl]; omega))
        have hxlen : ((t.stepN I).last I).length = ts := hxl
        rw [hxlen] at hxv
        have HX := hid hx
        have HTP5 := hid htp5
        have HG5 := hid hg5
        have HXV := hid hxv
        have hB5 : B ≤ w5.heap.size := by have := hg5.size; omega
        subst hxv
        clear hx htc5 htp5 hg5 HRD hvs
        go_wp2_with (first
          | (at_builtin; refine wpList_append_lies _ rfl _ _ 22 rfl B 27 i0 (.slice none 0 0) 1 24 Try.underlying22 hi0 hz0 hz1 hz2 rfl (by decide) (.slice ab I cb) I vs rfl (orow_same hvs5 (fun j cu _ hh => (alloc_old (lt_at hh)).trans hh)) ⟨w5.heap.size, 0, none⟩ 1 1 [.slice (some ⟨gx, 0, none⟩) ts cx] rfl rfl (World.news_of_block (alloc_new _ _)) (by intro u hu; simp at hu; subst hu; rfl) (by omega) (by unfold maxLen; omega) (by omega) (by simp; omega) (w5.heap.size + 1) (by simp) ?_; intro g7 cap7 w7 hown7 hgrow7 hat7 hlt7)
          | fail)
        go_roundg (gk - 1)
        case measure => omega
        case rel => exact ⟨I + 1, _, by omega, rfl, by go_num, H1.out.read (by omega) HTP5.out HG5.out HX.out (by rw [hxl]; omega) HVS.out HVR.out (by rw [HBE.out]; exact hown7) hgrow7⟩
    · obtain rfl : I = nb := by omega
      clear HO1
      obtain ⟨wA, rfl⟩ : ∃ V, V = wr := ⟨_, rfl⟩
      have hBl := h1.bl
      obtain ⟨gb, cap, _, _, hvb, hc1, hc2, _, _⟩ := hBl.at (i := 0) (by omega)
      have HBL := hid hBl
      have HJ0 := hid h1.jo
      have hgbB : gb < wA.heap.size := by
        obtain ⟨_, _, _, _, e, _, _, hcc, _⟩ := hBl.at (i := 0) (by omega)
        rw [hvb] at e; cases e
        exact World.block_lt_of_cell? _ _ hcc
      have HFR := hid h1.fr
      have HJA := hid h1.jo
      have HTP := hid h1.hp
      have hBs : B + 1 < wA.heap.size := lt_at h1.jo.hp
      have hBsz : B ≤ wA.heap.size := by omega
      rw [HBE.out] at HBL
      subst hvb
      obtain ⟨c, hc⟩ : ∃ c, t.last = c := ⟨_, rfl⟩
      have HCL := hid hc
      have HCB := hid (show ∀ i, i < I → BytesN ts (c i) from fun i hi => by rw [← hc, ← HTS.out]; exact HLAST.out i (by rw [HNB.out]; exact hi))
      rw [hc] at HBL
      have q1 : (2 : Int) ≤ (cap : Int) := by omega
      have q2 : (cap : Int) ≤ 9223372036854775807 := by unfold maxLen at hc2; omega
      have q3 : (I : Int) ≤ (cap : Int) := by omega
      have HBW := hid (fun (w5 : World) (hf : Off (fun i => i = B + 1 ∨ i = B) wA w5) => (HBL.out.same (w' := w5) (fun j cs tt fz _ ht hh => (hf.block j (lt_at hh) (fun h => by
        rcases h with h | h
        · exact ty_ne (h ▸ hh) HJ0.out.hp (fun e => by subst e; revert ht; unfold TT; decide) rfl
        · obtain ⟨es, cc, hm⟩ := HJ0.out.mp.isMap
          rw [h, hm] at hh; cases hh)).trans hh)))
      clear h1 hBl hc HLAST
      go_wp2_with fail
      go_loopg [66] 2 (fun gk vi wr => ∃ K : Nat, K + gk = 2 ∧ vi = .int .i64 (K : Nat) ∧ JAtC Tr wr (B + 1) T { Jo.zero with gen := (rtI c K).1, area := (rtI c K).2 } B (.slice none 0 0) ∧ Off (fun i => i = B + 1 ∨ i = B) wA wr)
      case atStart => exact ⟨0, by omega, rfl, HJ0.out, Off.refl _ _⟩
      case round =>
        obtain ⟨K, hK, rfl, hJ, hF⟩ := hrel
        by_cases hK2 : K < 2
        · have i1 : (K : Int) < 2 := by omega
          obtain ⟨g', cap', gi, ci, e9, _, _, hcc, hrd⟩ := (HBW.out wr hF).at (i := K) (by omega)
          cases e9
          have hKb := HCB.out K (by omega)
          have HRT := hid (root_any _ (c K) wr hrd hKb.2 (by rw [hKb.1]; omega) (by rw [hKb.1]; omega))
          have hcl := hKb.1
          rw [hcl] at hcc HRT
          have hfit := rtI_fit (c := c) K (fun i hi => (HCB.out i (by omega)).2)
          have c2 := hJ.c2
          have f2 := hJ.ff 2
          have HJ := hid hJ
          have HF := hid hF
          obtain ⟨gK, hgK⟩ : ∃ n, (rtI c K).1 = n := ⟨_, rfl⟩
          have HGK := hid hgK
          dsimp only at c2
          rw [hgK] at c2 hfit
          have HFI := hid hfit
          have HKB := hid hKb
          clear hJ hF hrd hKb hcl hgK hfit
          go_wp2_with fail
          refine HRT.out.mono ?_
          rintro e w5 ⟨⟨g, a, hr, rfl⟩ | ⟨hr, rfl⟩, hb5⟩
          · have hgf := root_fit HKB.out.2 hr
            have hJ5 : JAtC Tr w5 (B + 1) T { Jo.zero with gen := (rtI c K).1, area := (rtI c K).2 } B (.slice none 0 0) := HJ.out.same (fun i hi _ => hb5.block i hi) (fun _ _ => trivial)
            have d2 := hJ5.c2
            have f5 := hJ5.ff 2
            dsimp only at d2
            rw [HGK.out] at d2
            have HF5 := hid (HF.out.trans (Off.of_below hb5))
            by_cases hge : gK ≤ g
            · have j1 : (gK : Int) ≤ (g : Int) := by omega
              have hrt : rtI c (K + 1) = (g, a) := by
                show rt1 (rtI c K) (c K) = _
                unfold rt1; rw [hr]; show (if (rtI c K).1 ≤ g then (g, a) else rtI c K) = _; rw [HGK.out, if_pos hge]
              have hJ6 := hJ5.headS (j' := { Jo.zero with gen := g, area := (rtI c K).2 }) 2 (.int .u64 (g : Nat)) rfl rfl rfl
              have d4 := hJ6.c4
              have f6 := hJ6.ff 4
              have HJ7 := hid (hJ6.headS (j' := { Jo.zero with gen := g, area := a }) 4 (.int .i64 (a : Nat)) rfl rfl rfl)
              have HRT2 := hid hrt
              have HJ5 := hid hJ5
              dsimp only at d4
              clear hJ5 hJ6 hrt hge hr hb5
              go_wp2_with fail
              go_roundg (gk - 1)
              case measure => omega
              case rel =>
                refine ⟨K + 1, by omega, by go_num, ?_, (HF5.out.setCell (p := ⟨B + 1, 2, none⟩) (.inl rfl) _).setCell (p := ⟨B + 1, 4, none⟩) (.inl rfl) _⟩
                rw [HRT2.out]; exact HJ7.out
            · have j1 : ¬ (gK : Int) ≤ (g : Int) := by omega
              have hrt : rtI c (K + 1) = rtI c K := by
                show rt1 (rtI c K) (c K) = _
                unfold rt1; rw [hr]; show (if (rtI c K).1 ≤ g then (g, a) else rtI c K) = _; rw [HGK.out, if_neg hge]
              have HRT2 := hid hrt
              have HJ5 := hid hJ5
              clear hJ5 hrt hge hr hb5
              go_wp2_with fail
              go_roundg (gk - 1)
              case measure => omega
              case rel =>
                refine ⟨K + 1, by omega, by go_num, ?_, HF5.out⟩
                rw [HRT2.out]; exact HJ5.out
          · have hrt : rtI c (K + 1) = rtI c K := by
              show rt1 (rtI c K) (c K) = _
              unfold rt1; rw [hr]
            have HRT2 := hid hrt
            have HJ5 := hid (show JAtC Tr w5 (B + 1) T { Jo.zero with gen := (rtI c K).1, area := (rtI c K).2 } B (.slice none 0 0) from HJ.out.same (fun i hi _ => hb5.block i hi) (fun _ _ => trivial))
            have HF5 := hid (HF.out.trans (Off.of_below hb5))
            clear hrt hr hb5
            go_wp2_with fail
            go_roundg (gk - 1)
            case measure => omega
            case rel =>
              refine ⟨K + 1, by omega, by go_num, ?_, HF5.out⟩
              rw [HRT2.out]; exact HJ5.out
        · obtain rfl : K = 2 := by omega
          have c2 := hJ.c2
          have c3 := hJ.c3
          have f3 := hJ.ff 3
          have hfit := rtI_fit (c := c) 2 (fun i hi => (HCB.out i (by omega)).2)
          obtain ⟨g0, hg0⟩ : ∃ n, (rtI c 2).1 = n := ⟨_, rfl⟩
          obtain ⟨a0, ha0⟩ : ∃ n, (rtI c 2).2 = n := ⟨_, rfl⟩
          have HG0 := hid hg0
          have HA0 := hid ha0
          rw [hg0, ha0] at hfit hJ
          dsimp only at c2
          rw [hg0] at c2
          have HJ2 := hid (hJ.headS (j' := { Jo.zero with gen := g0, area := a0, top := g0 }) 3 (.int .u64 (g0 : Nat)) rfl rfl rfl)
          have HF2 := hid (hF.setCell (p := ⟨B + 1, 3, none⟩) (.inl rfl) (.int .u64 (g0 : Nat)))
          have HFIT := hid hfit
          rw [show (((2 : Nat) : Int)) = 2 from rfl]
          obtain ⟨wB, rfl⟩ : ∃ V, V = wr := ⟨_, rfl⟩
          obtain ⟨n3, hn3⟩ : ∃ n, I - 2 = n := ⟨_, rfl⟩
          have hn3' : n3 + 2 = I := by omega
          clear hJ hF hg0 ha0 hfit HJ0
          go_wp2_with fail
          go_loopg [104] n3 (fun gk vi wr => ∃ K : Nat, K + gk = n3 ∧ vi = .int .i64 (K : Nat) ∧ JAtC Tr wr (B + 1) T { Jo.zero with gen := g0, area := a0, top := topI c g0 K } B (.slice none 0 0) ∧ Off (fun i => i = B + 1 ∨ i = B) wA wr)
          case atStart => exact ⟨0, by omega, rfl, HJ2.out, HF2.out⟩
          case round =>
            obtain ⟨K, hK, rfl, hJ, hF⟩ := hrel
            by_cases hK2 : K < n3
            · have i1 : (K : Int) < (n3 : Int) := by omega
              obtain ⟨g', cap', gi, ci, e9, _, _, hcc, hrd⟩ := (HBW.out wr hF).at (i := 2 + K) (by omega)
              cases e9
              have hKb := HCB.out (2 + K) (by omega)
              have HRT := hid (chunk_any _ (c (2 + K)) wr hrd hKb.2 (by rw [hKb.1]; omega) (by rw [hKb.1]; omega))
              have hcl := hKb.1
              rw [hcl] at hcc HRT
              have hfit := topI_fit (c := c) HFIT.out.1 K (fun i hi => (HCB.out i (by omega)).2)
              have HJ := hid hJ
              have HF := hid hF
              have HKB := hid hKb
              have htop : topI c g0 (K + 1) = match chunkR (c (2 + K)) with
                | some (g, _, _) => max (topI c g0 K) g
                | none => topI c g0 K := rfl
              obtain ⟨tK, htK⟩ : ∃ n, topI c g0 K = n := ⟨_, rfl⟩
              have HTK := hid htK
              rw [htK] at hfit htop
              clear hJ hF hrd hKb hcl htK
              go_wp2_with fail
              refine HRT.out.mono ?_
              rintro e w5 ⟨⟨g, k, l, vv, hr, rfl, hov⟩ | ⟨hr, g, k, vv, rfl⟩, hb5⟩
              · have hgf := (chunk_fit HKB.out.2 hr).1
                have hJ5 := HJ.out.same (w' := w5) (Q' := Tr) (fun i hi _ => hb5.block i hi) (fun _ _ => trivial)
                rw [HTK.out] at hJ5
                have d3 := hJ5.c3
                have f5 := hJ5.ff 3
                dsimp only at d3
                have HF5 := hid (HF.out.trans (Off.of_below hb5))
                obtain ⟨mx, hmx⟩ : ∃ n, max tK g = n := ⟨_, rfl⟩
                have emx : max (tK : Int) (g : Int) = (mx : Int) := by omega
                rw [hr] at htop
                have HT2 := hid (show topI c g0 (K + 1) = mx from htop.trans hmx)
                have HJ6 := hid (hJ5.headS (j' := { Jo.zero with gen := g0, area := a0, top := mx }) 3 (.int .u64 (mx : Nat)) rfl rfl rfl)
                clear hJ5 hmx hr hov hb5 htop
                go_wp2_with fail
                go_roundg (gk - 1)
                case measure => omega
                case rel =>
                  refine ⟨K + 1, by omega, by go_num, ?_, HF5.out.setCell (p := ⟨B + 1, 3, none⟩) (.inl rfl) _⟩
                  rw [HT2.out]; exact HJ6.out
              · rw [hr] at htop
                have HT2 := hid (show topI c g0 (K + 1) = topI c g0 K from htop.trans HTK.out.symm)
                have HJ5 := hid (HJ.out.same (w' := w5) (Q' := Tr) (fun i hi _ => hb5.block i hi) (fun _ _ => trivial))
                have HF5 := hid (HF.out.trans (Off.of_below hb5))
                clear hr hb5 htop
                go_wp2_with fail
                go_roundg (gk - 1)
                case measure => omega
                case rel =>
                  refine ⟨K + 1, by omega, by go_num, ?_, HF5.out⟩
                  rw [HT2.out]; exact HJ5.out
            · obtain rfl : K = n3 := by omega
              have c2 := hJ.c2
              have c4 := hJ.c4
              dsimp only at c2 c4
              have HJ3 := hid hJ
              have HF3 := hid hF
              clear hJ hF HJ2 HF2
              by_cases hg00 : g0 = 0
              · subst hg00
                rw [show ((0 : Nat) : Int) = 0 from rfl] at c2
                have HOE := hid (show openF t.last t.nb t.size = { Jo.zero with gen := 0, area := a0, top := topI c 0 K } from by
                  unfold openF openH; rw [HCL.out, if_pos HG0.out, HG0.out, HA0.out, HNB.out, hn3])
                go_wp2_with fail
                try rw [Exit.noGoto_ret]
                refine bodyPost_ret (v := .tuple #[.pointer (some ⟨B + 1, 0, none⟩), .int .i64 0]) (by simp [results, Try.results12, go_sem]) rfl ?_
                have hend := open_end HC.out HFR.out HTP.out HJA.out HF3.out HJ3.out (fun g e => by cases e) ⟨by have := HBE.out; omega, by have := HBE.out; omega⟩
                refine ⟨_, rfl, by have := HBE.out; omega, ?_, hend.2⟩
                rw [HOE.out, HNB.out]; exact hend.1
              · have j1 : ((g0 : Int) == 0) = false := beq_eq_false_iff_ne.2 (by omega)
                have HOE := hid (show openF t.last t.nb t.size = replayF c (2 + a0 * t.sz) t.per g0 t.sz 0 { Jo.zero with gen := g0, area := a0, top := topI c g0 K } from by
                  unfold openF openH Tp.sz Tp.per; rw [HCL.out, if_neg (by rw [HG0.out]; exact hg00), HG0.out, HA0.out, HNB.out, hn3])
                have HTW := hid (fun (W : World) (hf : Off (fun i => i = B + 1 ∨ i = B) wA W) => open_tape HC.out HFR.out HTP.out HJA.out hf)
                have HSZ := hid (fun (W : World) (hf : Off (fun i => i = B + 1 ∨ i = B) wA W) => jsize_any (HTW.out W hf) (HO.out.of (t' := t.stepN I) rfl rfl))
                have HPR := hid (fun (W : World) (hf : Off (fun i => i = B + 1 ∨ i = B) wA W) => jper_any (HTW.out W hf) (HO.out.of (t' := t.stepN I) rfl rfl))
                unfold ifT at HSZ HPR
                obtain ⟨sz, hsz⟩ : ∃ n, t.sz = n := ⟨_, rfl⟩
                have HSZE := hid hsz
                obtain ⟨pr, hpr⟩ : ∃ n, t.per = n := ⟨_, rfl⟩
                have HPRE := hid hpr
                have hpb := HO.out.per
                rw [hsz] at hs HOE
                rw [hpr] at hpb HOE
                rw [show (t.stepN I).sz = sz from hsz] at HSZ
                rw [show (t.stepN I).per = pr from hpr] at HPR
                obtain ⟨as', hasz⟩ : ∃ n, a0 * sz = n := ⟨_, rfl⟩
                have hasl : as' ≤ sz := by rw [← hasz]; calc a0 * sz ≤ 1 * sz := Nat.mul_le_mul_right _ HFIT.out.2
                                              _ = sz := Nat.one_mul _
                have em2 : (a0 : Int) * (sz : Int) = (as' : Int) := by rw [← hasz]; push_cast; rfl
                have x1 : IntKind.i64.wrap (as' : Int) = (as' : Int) := IntWalk.i64_in _ ⟨by omega, by omega⟩
                have HX1 := hid x1
                rw [hasz] at HOE
                have HSW := hid (HSZ.out _ (HF3.out.drewN 0))
                clear hsz hpr hasz x1
                go_upto_region 30 with (fail)
                go_quiet ((first | (go_at_call 24; exact quiet_eq (HSZ.out _ (HF3.out.drewN _))) | fail))
                obtain ⟨wC, hwC⟩ : ∃ V, wr.drewN nq = V := ⟨_, rfl⟩
                have HFC := hid (show Off (fun i => i = B + 1 ∨ i = B) wA wC from by rw [← hwC]; exact HF3.out.drewN nq)
                have HJC := hid (show JAtC Tr wC (B + 1) T { Jo.zero with gen := g0, area := a0, top := topI c g0 K } B (.slice none 0 0) from by rw [← hwC]; exact HJ3.out.same (fun _ _ _ => rfl) (fun _ _ => trivial))
                have HSC := hid (HSZ.out wC HFC.out)
                obtain ⟨gkx, hgkx⟩ : ∃ g, gk = g := ⟨_, rfl⟩
                clear hgkx
                rw [hwC]
                clear hwC HJ3 HF3 c2 c4 HSW
                go_wp2_with fail
                go_step3
                go_wp2_with fail
                refine HSC.out.mono ?_
                rintro e w1 ⟨rfl, rfl⟩
                go_wp2_with fail
                obtain ⟨j0, hj0⟩ : ∃ j, ({ Jo.zero with gen := g0, area := a0, top := topI c g0 K } : Jo) = j := ⟨_, rfl⟩
                have HJ0E := hid hj0
                rw [hj0] at HOE HJC
                have hj0g : j0.gen = g0 := by rw [← hj0]
                have hj0r : Raw j0 (0 * 27) := by rw [← hj0]; exact ⟨by show 0 < _; decide, by show 0 ≤ _; omega⟩
                have HJ0G := hid hj0g
                have HJ0R := hid hj0r
                clear hj0 hj0g hj0r
                go_loopg [142] sz (fun gk vi wr => ∃ (M : Nat) (jM : Jo) (rvM : Value), M + gk = sz ∧ vi = .int .i64 (M : Nat) ∧ JAtC Tr wr (B + 1) T jM B rvM ∧ Off (fun i => i = B + 1 ∨ i = B) wA wr ∧ (∀ g, rvM.ownBlock = some g → B ≤ g) ∧ replayF c (2 + as') pr g0 sz 0 j0 = replayF c (2 + as') pr g0 (sz - M) M jM ∧ Raw jM (M * 27) ∧ jM.gen = g0)
                case atStart => exact ⟨0, j0, _, by omega, rfl, HJC.out, HFC.out, fun g e => (by cases e), rfl, HJ0R.out, HJ0G.out⟩
                case round =>
                  obtain ⟨M, jM, rvM, hM, rfl, hJ, hF, hrv, hrep, hraw, hgen⟩ := hrel
                  have hBw : ∀ g, rvM.ownBlock = some g → w.heap.size ≤ g := fun g e => by have := HBE.out; have := hrv g e; omega
                  by_cases hM2 : M < sz
                  · have i1 : (M : Int) < (sz : Int) := by omega
                    obtain ⟨ix, hix⟩ : ∃ n, 2 + as' + M = n := ⟨_, rfl⟩
                    have hixI : ix < I := by have := HNB.out; omega
                    have hixi : (2 : Int) + (as' : Int) + (M : Int) = (ix : Int) := by omega
                    have hixi2 : (ix : Int) < (I : Int) := by omega
                    obtain ⟨g', cap', gi, ci, e9, _, _, hcc, hrd⟩ := (HBW.out wr hF).at (i := ix) hixI
                    cases e9
                    have hKb := HCB.out ix hixI
                    have HRT := hid (chunk_any _ (c ix) wr hrd hKb.2 (by rw [hKb.1]; omega) (by rw [hKb.1]; omega))
                    have hcl := hKb.1
                    rw [hcl] at hcc HRT
                    have HJ := hid hJ
                    have HF := hid hF
                    have HKB := hid hKb
                    have HRV := hid hBw
                    have HRP := hid hrep
                    have HRW := hid hraw
                    have c2 := hJ.c2
                    rw [hgen] at c2
                    have HGE := hid hgen
                    obtain ⟨m', hm'⟩ : ∃ m', sz - M = m' + 1 := ⟨sz - M - 1, by omega⟩
                    have hstep : replayF c (2 + as') pr g0 (sz - M) M jM = match chunkR (c ix) with
                      | some (g, n, l) => if g = g0 ∧ n = M then (if l.length < pr then appl { jM with block := M, rows := l } l else replayF c (2 + as') pr g0 m' (M + 1) (appl { jM with block := M, rows := l } l)) else jM
                      | none => jM := by rw [hm', ← hix]; rfl
                    clear hJ hF hrd hKb hcl hrv hrep hraw hgen hBw HJC HFC
                    go_wp2_with fail
                    refine HRT.out.mono ?_
                    rintro e w5 ⟨⟨g, k, l, vv, hr, rfl, hov⟩ | ⟨hr, g, k, vv, rfl⟩, hb5⟩
                    · have hJ5 := HJ.out.same (w' := w5) (Q' := Tr) (fun i hi _ => hb5.block i hi) (fun _ _ => trivial)
                      have d2 := hJ5.c2
                      rw [HGE.out] at d2
                      have HF5 := hid (HF.out.trans (Off.of_below hb5))
                      rw [hr] at hstep
                      have HSTP := hid hstep
                      by_cases hok : g = g0 ∧ k = M
                      · have HSTP2 := hid (HSTP.out.trans (if_pos hok))
                        obtain ⟨rfl, rfl⟩ := hok
                        have hfl := chunk_fit HKB.out.2 hr
                        rw [HKB.out.1] at hfl
                        have hlp : l.length ≤ pr := by have := hfl.2.2; rw [← HPRE.out]; unfold Tp.per; rw [HTS.out]; exact this
                        have j2 : ((g : Int) != (g : Int)) = false := by simp
                        have j3 : ((k : Int) != (k : Int)) = false := by simp
                        have f5 := hJ5.ff 5
                        have f6 := hJ5.ff 6
                        have c5 := hJ5.c5
                        have c6 := hJ5.c6
                        obtain ⟨ao, co, hrvf⟩ := orec_form hJ5.ro
                        have hJ6 := hJ5.headS (j' := { jM with block := k }) 5 (.int .i64 (k : Nat)) rfl rfl rfl
                        have c6' := hJ6.c6
                        have f6' := hJ6.ff 6
                        rw [hrvf] at c6'
                        have hov6 : ORec 0 (w5.setCell ⟨B + 1, 5, none⟩ (.int .i64 (k : Nat))) vv l := orec_kept (orec_zero hov) (fun i cs tt fz hh e => (set_other (a := ⟨B + 1, 5, none⟩) (fun e' => by
                          rcases orec_own hov with e2 | ⟨g', cu, e2, hg'⟩
                          · rw [e2] at e; cases e
                          · rw [e2] at e; cases e; exact ty_ne hg' hJ5.hp (by decide) e')).trans hh)
                        have hJ7 := hJ6.head (j' := { jM with block := k, rows := l }) (rv' := vv) 6 vv rfl rfl hov6 (fun _ _ => trivial)
                        have hF7 := (HF5.out.setCell (p := ⟨B + 1, 5, none⟩) (.inl rfl) (.int .i64 (k : Nat))).setCell (p := ⟨B + 1, 6, none⟩) (.inl rfl) vv
                        obtain ⟨W7, hW7⟩ : ∃ W, (w5.setCell ⟨B + 1, 5, none⟩ (.int .i64 (k : Nat))).setCell ⟨B + 1, 6, none⟩ vv = W := ⟨_, rfl⟩
                        rw [hW7] at hJ7 hF7
                        have HJ7 := hid hJ7
                        have HF7 := hid hF7
                        have hvb : ∀ g', vv.ownBlock = some g' → wA.heap.size ≤ g' := fun g' e => by have := orec_blk hov g' e; have := HF.out.size; omega
                        have HVB := hid hvb
                        have HRL := hid hfl.2.1
                        have hraw0 : Raw { jM with block := k, rows := l } (k * 27 + 0) := ⟨HRW.out.seq, HRW.out.few⟩
                        have HR0 := hid hraw0
                        obtain ⟨av, cv, hvv⟩ := orec_form hov
                        obtain ⟨ln, hln⟩ : ∃ n, l.length = n := ⟨_, rfl⟩
                        have HLN := hid hln
                        have hlb := hpb.2
                        rw [hln] at hvv hlp
                        have HVV := hid hvv
                        obtain ⟨wr5, rfl⟩ : ∃ V, V = wr := ⟨_, rfl⟩
                        obtain ⟨gk4, rfl⟩ : ∃ V, V = gk := ⟨_, rfl⟩
                        subst hvv
                        clear hJ5 hJ6 hov6 hJ7 hF7 hvb hraw0 hfl hr hov hb5 hstep hrvf hln HSTP
                        go_wp2_with fail
                        go_loopg [182] ln (fun gk vi wr => ∃ N : Nat, N + gk = ln ∧ vi = .int .i64 (N : Nat) ∧ JAtC Tr wr (B + 1) T (appl { jM with block := k, rows := l } (l.take N)) B (.slice av ln cv) ∧ Off (fun i => i = B + 1 ∨ i = B) wA wr ∧ Raw (appl { jM with block := k, rows := l } (l.take N)) (k * 27 + N))
                        case atStart => exact ⟨0, by omega, rfl, HJ7.out, HF7.out, HR0.out⟩
                        case round =>
                          obtain ⟨N, hN, rfl, hJ, hF, hraw⟩ := hrel
                          obtain ⟨a1, a2, a3, a4, a5, a6, a7, a8⟩ := appl_same (l.take N) { jM with block := k, rows := l }
                          by_cases hN2 : N < ln
                          · have i5 : (N : Int) < (ln : Int) := by omega
                            have hNl : N < l.length := by rw [HLN.out]; exact hN2
                            obtain ⟨r, hr⟩ : ∃ r, l[N]? = some r := ⟨_, List.getElem?_eq_getElem hNl⟩
                            have hrf := HRL.out r (List.mem_of_getElem? hr)
                            obtain ⟨g9, c9, e9, k1, k2, k3, x0, x1, x2, x3, x4⟩ := orec_cell hJ.ro (i := N) (r := r) (by rw [a5]; exact hr)
                            have e10 : (appl { jM with block := k, rows := l } (l.take N)).rows.length = ln := by rw [a5]; exact HLN.out
                            rw [e10] at e9 k1
                            cases e9
                            obtain ⟨W0, hW0⟩ : ∃ W, wr.alloc (.cells #[.int .i64 (r.kind : Nat), .int .u64 (r.seq : Nat), .int .u64 (r.a : Nat), .int .u64 (r.b : Nat), .int .u64 (r.c : Nat)] 74) = W := ⟨_, rfl⟩
                            have hb0 : Below wr.heap.size wr W0 := by rw [← hW0]; exact (Below.refl _ _).alloc (Nat.le_refl _) _
                            have hJ0 := hJ.same (w' := W0) (Q' := Tr) (fun i hi _ => hb0.block i hi) (fun _ _ => trivial)
                            have hkk : k * 27 + N ≤ 60000 := by have : k * 27 ≤ 499 * 27 := Nat.mul_le_mul_right _ (by omega); omega
                            have HAP := hid (apply_open hJ0 r hrf.2 hraw.seq (Nat.le_trans hraw.few hkk))
                            unfold Rec.val at HAP
                            have HF0 := hid (hF.trans (Off.of_below hb0))
                            have HRW2 := hid (hraw.apply hrf)
                            have HAS := hid (show appl { jM with block := k, rows := l } (l.take (N + 1)) = (appl { jM with block := k, rows := l } (l.take N)).apply r from by rw [List.take_add_one, hr]; exact appl_snoc _ _ _)
                            have HW0 := hid hW0
                            clear hJ hF hraw hJ0 hrf hr hb0 hW0 a1 a2 a3 a4 a5 a6 a7 a8 e10
                            go_wp2_with fail
                            rw [HW0.out]
                            refine HAP.out.mono ?_
                            rintro e w6 ⟨⟨v6, rfl⟩, hJ6, hF6⟩
                            have HJ6 := hid hJ6
                            have HF6 := hid (HF0.out.step hF6 (fun i hi h' => by
                              have := HF0.out.size
                              rcases h' (by omega) with h' | h' | h'
                              · exact .inl h'
                              · exact .inr h'
                              · have := HVB.out i h'; omega))
                            clear hJ6 hF6
                            go_wp2_with fail
                            go_roundg (gk - 1)
                            case measure => omega
                            case rel =>
                              refine ⟨N + 1, by omega, by go_num, ?_, HF6.out, ?_⟩
                              · rw [HAS.out]; exact HJ6.out
                              · rw [HAS.out]; exact HRW2.out
                          · obtain rfl : N = ln := by omega
                            rw [List.take_of_length_le (by rw [HLN.out]; omega)] at hJ hraw a1
                            have HPW := hid (HPR.out wr hF)
                            have HJ9 := hid hJ
                            have HF9 := hid hF
                            have HRV9 := hid (show ∀ g', (Value.slice av N cv).ownBlock = some g' → w.heap.size ≤ g' from fun g' e => by have := HVB.out g' e; have := HFR.out.size; omega)
                            clear hJ hF
                            go_wp2_with fail
                            refine HPW.out.mono ?_
                            rintro e w6 ⟨rfl, rfl⟩
                            by_cases hlt2 : N < pr
                            · have i6 : (N : Int) < (pr : Int) := by omega
                              have HEQ := hid (show openF t.last t.nb t.size = appl { jM with block := k, rows := l } l from HOE.out.trans (HRP.out.trans (HSTP2.out.trans (if_pos (by rw [HLN.out]; exact hlt2)))))
                              clear hraw hlt2
                              go_wp2_with fail
                              try rw [Exit.noGoto_ret]
                              refine bodyPost_ret (v := .tuple #[.pointer (some ⟨B + 1, 0, none⟩), .int .i64 0]) (by simp [results, Try.results12, go_sem]) rfl ?_
                              have hend := open_end HC.out HFR.out HTP.out HJA.out HF9.out HJ9.out HRV9.out ⟨by have := HBE.out; omega, by have := HBE.out; omega⟩
                              refine ⟨_, rfl, by have := HBE.out; omega, ?_, hend.2⟩
                              rw [HEQ.out, HNB.out]; exact hend.1
                            · have i6 : ¬ (N : Int) < (pr : Int) := by omega
                              have HEQ := hid (HRP.out.trans (HSTP2.out.trans (if_neg (by rw [HLN.out]; exact hlt2))))
                              have HRW3 := hid hraw
                              have HGG := hid (a1.trans HGE.out)
                              have hNp : N ≤ 27 := by omega
                              clear hraw hlt2 a1 a2 a3 a4 a5 a6 a7 a8
                              go_wp2_with fail
                              go_roundg (gk4 - 1)
                              case measure => omega
                              case rel =>
                                refine ⟨k + 1, _, _, by omega, by go_num, HJ9.out, HF9.out, fun g' e => by have := HRV9.out g' e; have := HBE.out; omega, ?_, ⟨HRW3.out.seq, Nat.le_trans HRW3.out.few (by omega)⟩, HGG.out⟩
                                rw [HEQ.out]; congr 1; omega
                      · have HEQ := hid (show openF t.last t.nb t.size = jM from HOE.out.trans (HRP.out.trans (HSTP.out.trans (if_neg hok))))
                        have HJ9 := hid hJ5
                        have HF9 := HF5
                        have HRV9 := HRV
                        by_cases hg : g = g0
                        · have hk : k ≠ M := fun h => hok ⟨hg, h⟩
                          have j2 : ((g : Int) != (g0 : Int)) = false := bne_eq_false_iff_eq.2 (by omega)
                          have j3 : ((k : Int) != (M : Int)) = true := bne_iff_ne.2 (by omega)
                          clear hJ5 hok hr hov hb5 hstep hg hk
                          go_wp2_with fail
                          try rw [Exit.noGoto_ret]
                          refine bodyPost_ret (v := .tuple #[.pointer (some ⟨B + 1, 0, none⟩), .int .i64 0]) (by simp [results, Try.results12, go_sem]) rfl ?_
                          have hend := open_end HC.out HFR.out HTP.out HJA.out HF9.out HJ9.out HRV9.out ⟨by have := HBE.out; omega, by have := HBE.out; omega⟩
                          refine ⟨_, rfl, by have := HBE.out; omega, ?_, hend.2⟩
                          rw [HEQ.out, HNB.out]; exact hend.1
                        · have j2 : ((g : Int) != (g0 : Int)) = true := bne_iff_ne.2 (by omega)
                          clear hJ5 hok hr hov hb5 hstep hg
                          go_wp2_with fail
                          try rw [Exit.noGoto_ret]
                          refine bodyPost_ret (v := .tuple #[.pointer (some ⟨B + 1, 0, none⟩), .int .i64 0]) (by simp [results, Try.results12, go_sem]) rfl ?_
                          have hend := open_end HC.out HFR.out HTP.out HJA.out HF9.out HJ9.out HRV9.out ⟨by have := HBE.out; omega, by have := HBE.out; omega⟩
                          refine ⟨_, rfl, by have := HBE.out; omega, ?_, hend.2⟩
                          rw [HEQ.out, HNB.out]; exact hend.1
                    · rw [hr] at hstep
                      have HEQ := hid (show openF t.last t.nb t.size = jM from HOE.out.trans (HRP.out.trans hstep))
                      have HJ9 := hid (HJ.out.same (w' := w5) (Q' := Tr) (fun i hi _ => hb5.block i hi) (fun _ _ => trivial))
                      have HF9 := hid (HF.out.trans (Off.of_below hb5))
                      have HRV9 := HRV
                      clear hr hb5 hstep
                      go_wp2_with fail
                      try rw [Exit.noGoto_ret]
                      refine bodyPost_ret (v := .tuple #[.pointer (some ⟨B + 1, 0, none⟩), .int .i64 0]) (by simp [results, Try.results12, go_sem]) rfl ?_
                      have hend := open_end HC.out HFR.out HTP.out HJA.out HF9.out HJ9.out HRV9.out ⟨by have := HBE.out; omega, by have := HBE.out; omega⟩
                      refine ⟨_, rfl, by have := HBE.out; omega, ?_, hend.2⟩
                      rw [HEQ.out, HNB.out]; exact hend.1
                  · obtain rfl : M = sz := by omega
                    have HEQ := hid (show openF t.last t.nb t.size = jM from HOE.out.trans (hrep.trans (by rw [Nat.sub_self]; rfl)))
                    have HJ9 := hid hJ
                    have HF9 := hid hF
                    have HRV9 := hid hBw
                    clear hJ hF hrv hrep hraw hBw HJC HFC
                    go_wp2_with fail
                    try rw [Exit.noGoto_ret]
                    refine bodyPost_ret (v := .tuple #[.pointer (some ⟨B + 1, 0, none⟩), .int .i64 0]) (by simp [results, Try.results12, go_sem]) rfl ?_
                    have hend := open_end HC.out HFR.out HTP.out HJA.out HF9.out HJ9.out HRV9.out ⟨by have := HBE.out; omega, by have := HBE.out; omega⟩
                    refine ⟨_, rfl, by have := HBE.out; omega, ?_, hend.2⟩
                    rw [HEQ.out, HNB.out]; exact hend.1
end Go.Proofs.Ytkdjefnnhanhhaa
