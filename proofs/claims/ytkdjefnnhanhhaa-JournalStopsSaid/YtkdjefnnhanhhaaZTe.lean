/- Walks over the document's tape: Write. -/
import Derived.Test.YtkdjefnnhanhhaaUf
import Derived.Outline
set_option linter.unusedVariables false
namespace Go.Proofs.Ytkdjefnnhanhhaa
open Go Go.RowKit Go.Mem
set_option linter.unusedVariables false

theorem own_rwq {Q : Nat → Prop} {B : Nat} {w : World} {v : Value} {xs : List Nat} (h : Own .u8 5 B w v xs) (h0 : 0 < xs.length) (hq : ∀ j, B ≤ j → Q j) : RwQ Q w v xs := by
  obtain ⟨g, cap, rfl, hg, cur, h1, h2, h3, h4, h5⟩ := h.ow h0
  exact ⟨g, cap, cur, rfl, hq _ hg, h1, h3, h4, h5⟩
theorem TapeAt.mk' {Q : Nat → Prop} {w : World} {T K S ck cs : Nat} {t : Tp} {ka sa : Option Addr} {kv sv : Nat → Value} (h : TpC Q w T t ka sa K S ck cs kv sv) : TapeAt Q w T t := ⟨_, _, _, _, _, _, _, _, h⟩
set_option maxRecDepth 100000 in
set_option maxHeartbeats 3200000 in
theorem twrite_any {Q : Nat → Prop} {w : World} {T : Nat} {t : Tp} (hT : TapeAt Q w T t) (ho : t.ops < 5000000000000) (i : Nat) (hi : i < t.nb) (hn : t.nb ≤ 1000000) (hz : 0 < t.size ∧ t.size ≤ 1000000) (v : Value) (b : List Nat) (B : Nat) (hv : Own .u8 5 B w v b) (hb : BytesN t.size b) :
    Calls Try.prog 99 #[.pointer (some ⟨T, 0, none⟩), .int .i64 (i : Nat), v] w fun e w' => e = .returned (.int .i64 (if t.step.off = true then 40 else 0)) ∧ TapeAt Q w' T (t.write i b) ∧ Off Q w w' := by
  obtain ⟨ka, sa, K, S, ck, cs, kv, sv, h⟩ := hT
  have h0 : 0 < t.nb := by omega
  obtain ⟨rfl, rfl⟩ : ka = some ⟨K, 0, none⟩ ∧ sa = some ⟨S, 0, none⟩ := by
    rcases h.ha with h | h
    · omega
    · exact h
  have HS := hid (step_any h ho)
  have hlb : 0 < b.length := by rw [hb.1]; exact hz.1
  obtain ⟨gv, cv, hve, _, hov⟩ := hv.ow hlb
  have hgT : gv ≠ T := by obtain ⟨cur, h1, _⟩ := hov; exact ty_ne h1 h.hp (by decide)
  rw [hb.1] at hve
  subst hve
  have c6 := h.c6
  obtain ⟨of, hof⟩ : ∃ o, t.step.off = o := ⟨_, rfl⟩
  obtain ⟨wo, hwo⟩ : ∃ o, t.off = o := ⟨_, rfl⟩
  obtain ⟨hf, hhf⟩ : ∃ o, t.half = o := ⟨_, rfl⟩
  obtain ⟨nb, hnb⟩ : ∃ n, t.nb = n := ⟨_, rfl⟩
  obtain ⟨sz, hsz⟩ : ∃ n, t.size = n := ⟨_, rfl⟩
  have HOF := hid hof
  have HWO := hid hwo
  have HHF := hid hhf
  have HI := hid hi
  have HNB := hid hnb
  have HSZ := hid hsz
  have HBN := hid hb
  have HQT := hid h.q.1
  have HQS := hid (h.q.2 h0).2
  have HHC := hid h.hc
  have HUP := hid h.up
  have HLN := hid h.ln
  have HOV := hid hv
  have HO := hid ho
  rw [hnb] at hi hn
  rw [hof] at HS ⊢
  rw [hwo] at c6
  rw [hsz] at hz HOV ⊢
  have e1 : decide ((i : Int) < 0) = false := decide_eq_false (by omega)
  have e2 : decide ((nb : Int) ≤ (i : Int)) = false := decide_eq_false (by omega)
  have e3 : (i : Int) < (nb : Int) := by omega
  clear h ho hof hwo hhf hnb hsz hb hv hov h0
  go_enter Try.func99, Try.ntmps99
  go_wp2_with fail
  refine HS.out.mono ?_
  rintro e w1 ⟨rfl, h1, hg1⟩
  have d0 : w1.cell? ⟨T, 0, none⟩ = some (.int .i64 (sz : Nat)) := h1.c0.trans (by rw [← HSZ.out]; rfl)
  have d1 : w1.cell? ⟨T, 1, none⟩ = some (.slice (some ⟨K, 0, none⟩) nb ck) := h1.c1.trans (by rw [← HNB.out]; rfl)
  have d5 : w1.cell? ⟨T, 5, none⟩ = some (.bool hf) := h1.c5.trans (by rw [← HHF.out]; rfl)
  have HOV1 := hid (HOV.out.kept hg1 (.inr (fun e => hgT (by simpa [Value.ownBlock] using e))))
  have H1 := hid h1
  have HG1 := hid hg1
  have HF1 := hid (show Off Q w w1 from off_of_grown hg1 (fun j e => by cases e; exact HQT.out))
  clear h1 hg1
  have HBL := hid (show b.length = sz from by rw [HBN.out.1, HSZ.out])
  have HX := hid (fun (w3 : World) (x : Value) (B' : Nat) (hB : w1.heap.size ≤ B') (hx : Own .u8 5 B' w3 x b) => (own_rwq hx hlb (fun j hj => HUP.out j (Nat.le_trans HG1.out.size (Nat.le_trans hB hj))) : RwQ Q w3 x b))
  obtain ⟨i0, hi0, hz0, hz1, hz2⟩ := info_parts info_sl
  cases of with
  | false =>
    have HW := hid (show t.write i b = { t.step with since := upf t.since i (t.since i ++ [b]) } from by unfold Tp.write; rw [if_pos (.inl HOF.out)])
    go_wp2_with (at_builtin; refine app_row el_b8 rfl _ _ rfl w1.heap.size (.slice none 0 0) [] rfl (Own.nil _ _ _ _) b (by exact HOV1.out.rd) hlb (by rw [HBL.out]; simp; omega) (Nat.le_refl _) ?_; rw [HBL.out]; simp only [List.length_nil, Nat.zero_add, List.nil_append]; intro g7 cap7 w3 hown hgrow hat
                 have hb3 : Below w1.heap.size w1 w3 := ⟨hgrow.os, hgrow.tape, hgrow.output, hgrow.size, fun k hk => hgrow.block k hk (by simp [Value.ownBlock])⟩
                 have HO7 := hid hown
                 have HB3 := hid hb3
                 have h3 := H1.out.below hb3
                 have H3 := hid h3
                 have c2 : w3.cell? ⟨T, 2, none⟩ = some (.slice (some ⟨S, 0, none⟩) nb cs) := h3.c2.trans (by rw [← HNB.out]; rfl)
                 have ci := h3.sc (i := i) HI.out
                 have fi := h3.sf (by have := HI.out; show 0 < t.nb; omega) i
                 have hsn := h3.rs i HI.out
                 obtain ⟨asv, caps, hsv, _, _⟩ := hsn.form
                 obtain ⟨vs, hvs, hvq, hvr⟩ := hsn
                 have HVS := hid hvs
                 have HVR := hid hvr
                 have hTn : some T ≠ (sv i).ownBlock := fun e => by obtain ⟨cu, hh⟩ := orow_lt hvs e.symm; exact ty_ne h3.hp hh (by decide) rfl
                 have hSn : some S ≠ (sv i).ownBlock := fun e => by
                   obtain ⟨cu, hh⟩ := orow_lt hvs e.symm
                   obtain ⟨scur, hs1, _⟩ := h3.hs (by have := HI.out; show 0 < t.nb; omega)
                   exact ty_ne hs1 hh (by decide) rfl
                 have hTl := lt_at h3.hp
                 have hSl : S < w3.heap.size := World.block_lt_of_cell? _ _ ci
                 have HSV := hid hsv
                 have hll := HLN.out i HI.out
                 obtain ⟨sl, hsl⟩ : ∃ n, (t.step.since i).length = n := ⟨_, rfl⟩
                 have HSL := hid hsl
                 have hll : sl ≤ t.ops := by rw [← hsl]; exact hll
                 have hop := HO.out
                 rw [hsl] at hsv
                 rw [hsv] at ci
                 rw [hsv, hsl] at hvs
                 rw [hsv] at hTn hSn
                 have HVS2 := hid hvs
                 clear h3 hown hgrow hat hb3 hvs hvq hvr hsv hsl)
    have HFIN := hid (show ∀ (g5 cap5 : Nat) (w5 : World), w5.ownsRow 0 27 1 (.slice (some ⟨g5, 0, none⟩) (sl + 1) cap5) (sl + 1) (vs ++ [.slice (some ⟨g7, 0, none⟩) sz cap7]) → (w3.drew.alloc (.cells #[.slice (some ⟨g7, 0, none⟩) sz cap7] 27)).grownBy w5 (Value.slice asv sl caps).ownBlock → ((Value.slice asv sl caps).ownBlock = some g5 ∨ g5 = w3.heap.size + 1) →
        TapeAt Q (w5.setCell ⟨S, i, none⟩ (.slice (some ⟨g5, 0, none⟩) (sl + 1) cap5)) T (t.write i b) ∧ Off Q w (w5.setCell ⟨S, i, none⟩ (.slice (some ⟨g5, 0, none⟩) (sl + 1) cap5)) from by
      intro g5 cap5 w5 hown5 hgrow5 hat5
      have hb4 : Below w3.heap.size w3 (w3.drew.alloc (.cells #[.slice (some ⟨g7, 0, none⟩) sz cap7] 27)) := ((Below.refl _ _).drew).alloc (Nat.le_refl _) _
      have h4 := H3.out.below hb4
      have hx4 : RwQ Q (w3.drew.alloc (.cells #[.slice (some ⟨g7, 0, none⟩) sz cap7] 27)) (.slice (some ⟨g7, 0, none⟩) sz cap7) b := (HX.out w3 _ _ (Nat.le_refl _) HO7.out).same (fun j cu fz _ hh => (hb4.block j (lt_at hh)).trans hh) (fun _ _ h => h)
      have hvs4 := orow_same (w' := w3.drew.alloc (.cells #[.slice (some ⟨g7, 0, none⟩) sz cap7] 27)) HVS.out (fun j cu _ hh => (hb4.block j (lt_at hh)).trans hh)
      have hvr4 : ∀ j, j < (t.step.since i).length → RwQ Q (w3.drew.alloc (.cells #[.slice (some ⟨g7, 0, none⟩) sz cap7] 27)) (vs.getD j undef) ((t.step.since i).getD j []) := fun j hj => (HVR.out j hj).same (fun k cu fz _ hh => (hb4.block k (lt_at hh)).trans hh) (fun _ _ h => h)
      have hbn : BytesN t.step.size b := HBN.out
      have hsv' : sv i = .slice asv sl caps := by rw [HSV.out, HSL.out]
      have hput := h4.put (i := i) HI.out hbn (by rw [HSL.out]; show sl + 1 ≤ t.ops + 1; omega) hx4 hvs4 hvr4 (by rw [hsv']; exact hgrow5) (by rw [HSL.out]; exact hown5) (by
        rw [hsv']
        rcases hat5 with e | e
        · exact .inl e
        · right; rw [e]; exact Nat.le_of_eq (World.size_alloc _ _))
      rw [HW.out]
      refine ⟨?_, ?_⟩
      · have := TapeAt.mk' hput; rw [HSL.out] at this; exact this
      · have hq3 : Off Q w1 w3 := Off.of_below HB3.out
        exact ((HF1.out.trans (hq3.trans (Off.of_below hb4))).trans (off_of_grown hgrow5 (fun j e => by
          obtain ⟨_, _, hq, _⟩ := H3.out.rs i HI.out
          exact (hq j (by rw [hsv']; exact e)).1))).setCell (p := ⟨S, i, none⟩) HQS.out _)
    go_region_law (refine step_append_lies _ (by rfl) (.tmp 61) (.tmp 63) 22 (by rfl) 0 27 i0 (.slice none 0 0) 1 24 Try.underlying22 hi0 hz0 hz1 hz2 (by rfl) (by decide) (.slice asv sl caps) sl vs (by rfl) (by exact (HVS2.out.drew).alloc _) ⟨w3.heap.size, 0, none⟩ 1 1 [.slice (some ⟨g7, 0, none⟩) sz cap7] (by rfl) (by rfl) (by exact World.news_of_block (alloc_new w3.drew _)) (by intro u hu; simp at hu; subst hu; rfl) (by omega) (by unfold maxLen; omega) (by omega) (by simp) (w3.heap.size + 1) (by exact World.size_alloc _ _) ?_
                   intro g5 cap5 w5 hown5 hgrow5 hat5 hlt5
                   have m2 := (hgrow5.cell_far ⟨T, 2, none⟩ (by simp; omega) hTn).trans ((World.cell?_of_block (a := ⟨T, 2, none⟩) (alloc_old (w := w3.drew) hTl)).trans c2)
                   have mi := (hgrow5.cell_far ⟨S, i, none⟩ (by simp; omega) hSn).trans ((World.cell?_of_block (a := ⟨S, i, none⟩) (alloc_old (w := w3.drew) hSl)).trans ci)
                   have mf := (hgrow5.frozen_far ⟨S, i, none⟩ (by simp; omega) hSn).trans ((World.frozen?_of_block (a := ⟨S, i, none⟩) (alloc_old (w := w3.drew) hSl)).trans fi))
    all_goals
      go_wp2_with fail
      go_ret
      exact ⟨rfl, HFIN.out g5 cap5 w5 hown5 hgrow5 hat5⟩
  | true =>
    by_cases hw : wo = false ∧ hf = true
    · have HW := hid (show t.write i b = { t.step with since := upf t.since i (t.since i ++ [b]) } from by unfold Tp.write; rw [HOF.out, HWO.out, HHF.out, if_pos (.inr hw)])
      obtain ⟨rfl, rfl⟩ := hw
      go_wp2_with (at_builtin; refine app_row el_b8 rfl _ _ rfl w1.heap.size (.slice none 0 0) [] rfl (Own.nil _ _ _ _) b (by exact HOV1.out.rd) hlb (by rw [HBL.out]; simp; omega) (Nat.le_refl _) ?_; rw [HBL.out]; simp only [List.length_nil, Nat.zero_add, List.nil_append]; intro g7 cap7 w3 hown hgrow hat
                   have hb3 : Below w1.heap.size w1 w3 := ⟨hgrow.os, hgrow.tape, hgrow.output, hgrow.size, fun k hk => hgrow.block k hk (by simp [Value.ownBlock])⟩
                   have HO7 := hid hown
                   have HB3 := hid hb3
                   have h3 := H1.out.below hb3
                   have H3 := hid h3
                   have c2 : w3.cell? ⟨T, 2, none⟩ = some (.slice (some ⟨S, 0, none⟩) nb cs) := h3.c2.trans (by rw [← HNB.out]; rfl)
                   have ci := h3.sc (i := i) HI.out
                   have fi := h3.sf (by have := HI.out; show 0 < t.nb; omega) i
                   have hsn := h3.rs i HI.out
                   obtain ⟨asv, caps, hsv, _, _⟩ := hsn.form
                   obtain ⟨vs, hvs, hvq, hvr⟩ := hsn
                   have HVS := hid hvs
                   have HVR := hid hvr
                   have hTn : some T ≠ (sv i).ownBlock := fun e => by obtain ⟨cu, hh⟩ := orow_lt hvs e.symm; exact ty_ne h3.hp hh (by decide) rfl
                   have hSn : some S ≠ (sv i).ownBlock := fun e => by
                     obtain ⟨cu, hh⟩ := orow_lt hvs e.symm
                     obtain ⟨scur, hs1, _⟩ := h3.hs (by have := HI.out; show 0 < t.nb; omega)
                     exact ty_ne hs1 hh (by decide) rfl
                   have hTl := lt_at h3.hp
                   have hSl : S < w3.heap.size := World.block_lt_of_cell? _ _ ci
                   have HSV := hid hsv
                   have hll := HLN.out i HI.out
                   obtain ⟨sl, hsl⟩ : ∃ n, (t.step.since i).length = n := ⟨_, rfl⟩
                   have HSL := hid hsl
                   have hll : sl ≤ t.ops := by rw [← hsl]; exact hll
                   have hop := HO.out
                   rw [hsl] at hsv
                   rw [hsv] at ci
                   rw [hsv, hsl] at hvs
                   rw [hsv] at hTn hSn
                   have HVS2 := hid hvs
                   clear h3 hown hgrow hat hb3 hvs hvq hvr hsv hsl)
      have HFIN := hid (show ∀ (g5 cap5 : Nat) (w5 : World), w5.ownsRow 0 27 1 (.slice (some ⟨g5, 0, none⟩) (sl + 1) cap5) (sl + 1) (vs ++ [.slice (some ⟨g7, 0, none⟩) sz cap7]) → (w3.drew.alloc (.cells #[.slice (some ⟨g7, 0, none⟩) sz cap7] 27)).grownBy w5 (Value.slice asv sl caps).ownBlock → ((Value.slice asv sl caps).ownBlock = some g5 ∨ g5 = w3.heap.size + 1) →
          TapeAt Q (w5.setCell ⟨S, i, none⟩ (.slice (some ⟨g5, 0, none⟩) (sl + 1) cap5)) T (t.write i b) ∧ Off Q w (w5.setCell ⟨S, i, none⟩ (.slice (some ⟨g5, 0, none⟩) (sl + 1) cap5)) from by
        intro g5 cap5 w5 hown5 hgrow5 hat5
        have hb4 : Below w3.heap.size w3 (w3.drew.alloc (.cells #[.slice (some ⟨g7, 0, none⟩) sz cap7] 27)) := ((Below.refl _ _).drew).alloc (Nat.le_refl _) _
        have h4 := H3.out.below hb4
        have hx4 : RwQ Q (w3.drew.alloc (.cells #[.slice (some ⟨g7, 0, none⟩) sz cap7] 27)) (.slice (some ⟨g7, 0, none⟩) sz cap7) b := (HX.out w3 _ _ (Nat.le_refl _) HO7.out).same (fun j cu fz _ hh => (hb4.block j (lt_at hh)).trans hh) (fun _ _ h => h)
        have hvs4 := orow_same (w' := w3.drew.alloc (.cells #[.slice (some ⟨g7, 0, none⟩) sz cap7] 27)) HVS.out (fun j cu _ hh => (hb4.block j (lt_at hh)).trans hh)
        have hvr4 : ∀ j, j < (t.step.since i).length → RwQ Q (w3.drew.alloc (.cells #[.slice (some ⟨g7, 0, none⟩) sz cap7] 27)) (vs.getD j undef) ((t.step.since i).getD j []) := fun j hj => (HVR.out j hj).same (fun k cu fz _ hh => (hb4.block k (lt_at hh)).trans hh) (fun _ _ h => h)
        have hbn : BytesN t.step.size b := HBN.out
        have hsv' : sv i = .slice asv sl caps := by rw [HSV.out, HSL.out]
        have hput := h4.put (i := i) HI.out hbn (by rw [HSL.out]; show sl + 1 ≤ t.ops + 1; omega) hx4 hvs4 hvr4 (by rw [hsv']; exact hgrow5) (by rw [HSL.out]; exact hown5) (by
          rw [hsv']
          rcases hat5 with e | e
          · exact .inl e
          · right; rw [e]; exact Nat.le_of_eq (World.size_alloc _ _))
        rw [HW.out]
        refine ⟨?_, ?_⟩
        · have := TapeAt.mk' hput; rw [HSL.out] at this; exact this
        · have hq3 : Off Q w1 w3 := Off.of_below HB3.out
          exact ((HF1.out.trans (hq3.trans (Off.of_below hb4))).trans (off_of_grown hgrow5 (fun j e => by
            obtain ⟨_, _, hq, _⟩ := H3.out.rs i HI.out
            exact (hq j (by rw [hsv']; exact e)).1))).setCell (p := ⟨S, i, none⟩) HQS.out _)
      go_region_law (refine step_append_lies _ (by rfl) (.tmp 61) (.tmp 63) 22 (by rfl) 0 27 i0 (.slice none 0 0) 1 24 Try.underlying22 hi0 hz0 hz1 hz2 (by rfl) (by decide) (.slice asv sl caps) sl vs (by rfl) (by exact (HVS2.out.drew).alloc _) ⟨w3.heap.size, 0, none⟩ 1 1 [.slice (some ⟨g7, 0, none⟩) sz cap7] (by rfl) (by rfl) (by exact World.news_of_block (alloc_new w3.drew _)) (by intro u hu; simp at hu; subst hu; rfl) (by omega) (by unfold maxLen; omega) (by omega) (by simp) (w3.heap.size + 1) (by exact World.size_alloc _ _) ?_
                     intro g5 cap5 w5 hown5 hgrow5 hat5 hlt5
                     have m2 := (hgrow5.cell_far ⟨T, 2, none⟩ (by simp; omega) hTn).trans ((World.cell?_of_block (a := ⟨T, 2, none⟩) (alloc_old (w := w3.drew) hTl)).trans c2)
                     have mi := (hgrow5.cell_far ⟨S, i, none⟩ (by simp; omega) hSn).trans ((World.cell?_of_block (a := ⟨S, i, none⟩) (alloc_old (w := w3.drew) hSl)).trans ci)
                     have mf := (hgrow5.frozen_far ⟨S, i, none⟩ (by simp; omega) hSn).trans ((World.frozen?_of_block (a := ⟨S, i, none⟩) (alloc_old (w := w3.drew) hSl)).trans fi))
      all_goals
        go_wp2_with fail
        go_ret
        exact ⟨rfl, HFIN.out g5 cap5 w5 hown5 hgrow5 hat5⟩
    · have HW := hid (show t.write i b = t.step from by unfold Tp.write; rw [HOF.out, HWO.out, HHF.out, if_neg (fun h => by rcases h with h | h; cases h; exact hw h)])
      cases wo with
      | true =>
        go_wp2_with fail
        go_ret
        rw [HW.out]
        exact ⟨rfl, TapeAt.mk' H1.out, HF1.out⟩
      | false =>
        cases hf with
        | true => exact absurd ⟨rfl, rfl⟩ hw
        | false =>
          go_wp2_with fail
          go_ret
          rw [HW.out]
          exact ⟨rfl, TapeAt.mk' H1.out, HF1.out⟩
end Go.Proofs.Ytkdjefnnhanhhaa
