/- Walks over the document's tape: keep, Sync. -/
import Derived.Test.YtkdjefnnhanhhaaZTe
import Derived.StillTail
set_option linter.unusedVariables false
namespace Go.Proofs.Ytkdjefnnhanhhaa
open Go Go.RowKit Go.Mem
set_option linter.unusedVariables false

/-- The first I blocks are kept as ch says. -/
def Tp.setI (t : Tp) (ch : Nat → List Nat) (I : Nat) : Tp := { t with kept := fun i => if i < I then ch i else t.kept i, since := fun i => if i < I then [] else t.since i }
theorem setI_zero (t : Tp) (ch : Nat → List Nat) : t.setI ch 0 = t := rfl
theorem setI_succ (t : Tp) (ch : Nat → List Nat) (I : Nat) : t.setI ch (I + 1) = { t with kept := upf (t.setI ch I).kept I (ch I), since := upf (t.setI ch I).since I [] } := by
  unfold Tp.setI
  congr 1
  · funext i
    unfold upf
    by_cases e : i = I
    · subst e; rw [if_pos (by omega), if_pos rfl]
    · rw [if_neg e]
      by_cases h : i < I
      · rw [if_pos (by omega)]; exact (if_pos h).symm
      · rw [if_neg (by omega)]; exact (if_neg h).symm
  · funext i
    unfold upf
    by_cases e : i = I
    · subst e; rw [if_pos (by omega), if_pos rfl]
    · rw [if_neg e]
      by_cases h : i < I
      · rw [if_pos (by omega)]; exact (if_pos h).symm
      · rw [if_neg (by omega)]; exact (if_neg h).symm
section
variable {Q Q' : Nat → Prop} {w w5 : World} {T K S ck cs : Nat} {t : Tp} {ka sa : Option Addr} {kv sv : Nat → Value}
/-- A block is kept. -/
theorem TpC.kset (h : TpC Q w T t ka sa K S ck cs kv sv) {i : Nat} (hi : i < t.nb) {u : Value} {x : List Nat} (hx : RwQ Q w u x) (hb : BytesN t.size x) :
    TpC Q (w.setCell ⟨K, i, none⟩ u) T { t with kept := upf t.kept i x } ka sa K S ck cs (upf kv i u) sv := by
  have h0 : 0 < t.nb := by omega
  obtain ⟨kcur, hk1, hk2⟩ := h.hk h0
  obtain ⟨scur, hs1, hs2⟩ := h.hs h0
  have keep : ∀ (j : Nat) (cu : Array Value) (tt : TypeId) (fz : Nat × Nat), w.heap[j]? = some (Obj.cells cu tt fz) → j ≠ K → (w.setCell ⟨K, i, none⟩ u).heap[j]? = some (Obj.cells cu tt fz) := fun j cu tt fz hj h2 => (set_other (a := ⟨K, i, none⟩) h2).trans hj
  have keepT : ∀ (j : Nat) (cu : Array Value) (tt : TypeId) (fz : Nat × Nat), w.heap[j]? = some (Obj.cells cu tt fz) → tt ≠ 27 → (w.setCell ⟨K, i, none⟩ u).heap[j]? = some (Obj.cells cu tt fz) := fun j cu tt fz hj h2 => keep j cu tt fz hj (ty_ne hj hk1 h2)
  exact { h with
    hp := keepT _ _ _ _ h.hp (by decide)
    hk := fun _ => ⟨_, set_at hk1 i _, fun j hj => by
      rw [Array.getElem?_setIfInBounds]
      by_cases e : i = j
      · subst e; rw [if_pos rfl, upf_same, if_pos (Array.getElem?_eq_some_iff.1 (hk2 i hi)).1]
      · rw [if_neg e, upf_other (fun h => e h.symm)]; exact hk2 j hj⟩
    hs := fun _ => ⟨scur, keepT _ _ _ _ hs1 (by decide), hs2⟩
    rk := fun j hj => by
      by_cases e : j = i
      · subst e; simp only [upf_same]; exact hx.same (fun j cu fz _ hh => keepT j _ _ _ hh (by decide)) (fun _ _ h => h)
      · simp only [upf_other e]; exact (h.rk j hj).same (fun j cu fz _ hh => keepT j _ _ _ hh (by decide)) (fun _ _ h => h)
    rs := fun j hj => by
      obtain ⟨_, _, hq, _⟩ := h.rs j hj
      refine (h.rs j hj).same (fun k cu tt fz hk hh ht => ?_) (fun _ _ h => h)
      rcases ht with rfl | ⟨rfl, hb⟩
      · exact keepT _ _ _ _ hh (by decide)
      · exact keep _ _ _ _ hh (fun e => (hq _ hb).2 e)
    up := fun j hj => h.up j (by simpa using hj)
    fk := fun j hj => by
      by_cases e : j = i
      · subst e; simp only [upf_same]; exact hb
      · simp only [upf_other e]; exact h.fk j hj }
/-- Nothing was written to a block since. -/
theorem TpC.sclr (h : TpC Q w T t ka sa K S ck cs kv sv) {i : Nat} (hi : i < t.nb) :
    TpC Q (w.setCell ⟨S, i, none⟩ (.slice none 0 0)) T { t with since := upf t.since i [] } ka sa K S ck cs kv (upf sv i (.slice none 0 0)) := by
  have h0 : 0 < t.nb := by omega
  obtain ⟨kcur, hk1, hk2⟩ := h.hk h0
  obtain ⟨scur, hs1, hs2⟩ := h.hs h0
  have keepT : ∀ (j : Nat) (cu : Array Value) (tt : TypeId) (fz : Nat × Nat), w.heap[j]? = some (Obj.cells cu tt fz) → tt ≠ 22 → (w.setCell ⟨S, i, none⟩ (.slice none 0 0)).heap[j]? = some (Obj.cells cu tt fz) := fun j cu tt fz hj h2 => (set_other (a := ⟨S, i, none⟩) (ty_ne hj hs1 h2)).trans hj
  exact { h with
    hp := keepT _ _ _ _ h.hp (by decide)
    hk := fun _ => ⟨kcur, keepT _ _ _ _ hk1 (by decide), hk2⟩
    hs := fun _ => ⟨_, set_at hs1 i _, fun j hj => by
      rw [Array.getElem?_setIfInBounds]
      by_cases e : i = j
      · subst e; rw [if_pos rfl, upf_same, if_pos (Array.getElem?_eq_some_iff.1 (hs2 i hi)).1]
      · rw [if_neg e, upf_other (fun h => e h.symm)]; exact hs2 j hj⟩
    rk := fun j hj => (h.rk j hj).same (fun j cu fz _ hh => keepT j _ _ _ hh (by decide)) (fun _ _ h => h)
    rs := fun j hj => by
      by_cases e : j = i
      · subst e; simp only [upf_same]
        exact ⟨[], ⟨rfl, .inl ⟨rfl, rfl⟩⟩, fun g hg => (by cases hg), fun k hk => (by cases hk)⟩
      · simp only [upf_other e]
        refine (h.rs j hj).same (fun k cu tt fz hk hh ht => ?_) (fun _ _ h => h)
        rcases ht with rfl | ⟨rfl, hb⟩
        · exact keepT _ _ _ _ hh (by decide)
        · exact keepT _ _ _ _ hh (by decide)
    dj := fun j k g hj hk e1 e2 => by
      by_cases ej : j = i
      · rw [ej, upf_same] at e1; cases e1
      · by_cases ek : k = i
        · rw [ek, upf_same] at e2; cases e2
        · rw [upf_other ej] at e1; rw [upf_other ek] at e2; exact h.dj _ _ _ hj hk e1 e2
    ln := fun j hj => by
      by_cases e : j = i
      · subst e; simp only [upf_same]; exact Nat.zero_le _
      · simp only [upf_other e]; exact h.ln j hj
    up := fun j hj => h.up j (by simpa using hj)
    fs := fun j hj y hy => by
      by_cases e : j = i
      · subst e; simp only [upf_same] at hy; cases hy
      · simp only [upf_other e] at hy; exact h.fs j hj y hy }
theorem setI_keep (t : Tp) (ch : Nat → List Nat) (I : Nat) (h : ch I = t.kept I) : t.setI ch (I + 1) = { t.setI ch I with since := upf (t.setI ch I).since I [] } := by
  rw [setI_succ]
  have e : upf (t.setI ch I).kept I (ch I) = (t.setI ch I).kept := by
    funext j
    unfold upf
    by_cases e : j = I
    · subst e; rw [if_pos rfl, h]; unfold Tp.setI; simp
    · rw [if_neg e]
  rw [e]; rfl
end
theorem last_mem {t : Tp} {i : Nat} (h : 0 < (t.since i).length) : t.last i ∈ t.since i := by
  rw [last_pos h, List.getD, List.getElem?_eq_getElem (by omega)]; simp
set_option maxRecDepth 100000 in
set_option maxHeartbeats 3200000 in
theorem keep_any {Q : Nat → Prop} {w : World} {T K S ck cs : Nat} {t : Tp} {ka sa : Option Addr} {kv sv : Nat → Value} (h : TpC Q w T t ka sa K S ck cs kv sv) (h0 : 0 < t.nb) (hn : t.nb ≤ 1000000) (ho : t.ops ≤ 5000000000000) :
    Calls Try.prog 100 #[.pointer (some ⟨T, 0, none⟩)] w fun e w' => (∃ v, e = .returned v) ∧ TapeAt Q w' T (t.setI t.last t.nb) ∧ Off Q w w' := by
  obtain ⟨rfl, rfl⟩ : ka = some ⟨K, 0, none⟩ ∧ sa = some ⟨S, 0, none⟩ := by
    rcases h.ha with h | h
    · omega
    · exact h
  obtain ⟨nb, hnb⟩ : ∃ n, t.nb = n := ⟨_, rfl⟩
  have HNB := hid hnb
  have H := hid h
  have HO := hid ho
  have HQK := hid (h.q.2 h0).1
  have HQS := hid (h.q.2 h0).2
  rw [hnb] at h0 hn ⊢
  clear h hnb ho
  go_enter Try.func100, Try.ntmps100
  go_wp2_with fail
  go_loopg [2] nb (fun gk vi wr => ∃ (I : Nat) (kv' sv' : Nat → Value), I + gk = nb ∧ vi = .int .i64 (I : Nat) ∧ TpC Q wr T (t.setI t.last I) (some ⟨K, 0, none⟩) (some ⟨S, 0, none⟩) K S ck cs kv' sv' ∧ Off Q w wr)
  case atStart => exact ⟨0, kv, sv, by omega, rfl, H.out, Off.refl _ _⟩
  case round =>
    obtain ⟨I, kv', sv', hI, rfl, h1, hf⟩ := hrel
    have H1 := hid h1
    have HF := hid hf
    have c1 : wr.cell? ⟨T, 1, none⟩ = some (.slice (some ⟨K, 0, none⟩) nb ck) := h1.c1.trans (by rw [← HNB.out]; rfl)
    have c2 : wr.cell? ⟨T, 2, none⟩ = some (.slice (some ⟨S, 0, none⟩) nb cs) := h1.c2.trans (by rw [← HNB.out]; rfl)
    by_cases hlt : I < nb
    · have hi' : I < (t.setI t.last I).nb := by show I < t.nb; rw [HNB.out]; exact hlt
      have hs := h1.rs I hi'
      have hse : (t.setI t.last I).since I = t.since I := by unfold Tp.setI; simp
      have hke : (t.setI t.last I).kept I = t.kept I := by unfold Tp.setI; simp
      rw [hse] at hs
      have csI := h1.sc hi'
      have fsI := h1.sf (by show 0 < t.nb; rw [HNB.out]; exact h0) I
      have fkI := h1.kf (by show 0 < t.nb; rw [HNB.out]; exact h0) I
      obtain ⟨asv, caps, hsv, hsc1, hsc2⟩ := hs.form
      rw [hsv] at csI
      have i3 : (I : Int) < (nb : Int) := by omega
      obtain ⟨sl, hsl⟩ : ∃ n, (t.since I).length = n := ⟨_, rfl⟩
      have HSL := hid hsl
      have HSN := hid hs
      have HSV := hid hsv
      rw [hsl] at csI hsc1
      have HFS := hid (fun x hx => h1.fs I hi' x hx)
      clear h1 hf hs hsv hsl
      by_cases hz : sl = 0
      · have hLA := hid (last_nil (t := t) (i := I) (HSL.out.trans hz))
        subst hz
        go_wp2_with fail
        go_roundg (gk - 1)
        case measure => omega
        case rel =>
          have h9 := H1.out.sclr hi'
          rw [← setI_keep t t.last I hLA.out] at h9
          exact ⟨I + 1, _, _, by omega, by go_num, h9, HF.out.setCell (p := ⟨S, I, none⟩) HQS.out _⟩
      · have hz' : 0 < sl := by omega
        have hz2 : (0 : Int) < (sl : Int) := by omega
        obtain ⟨gs, cp, u, hu1, hu2, hu3, hu4, hu5⟩ := HSN.out.at (j := sl - 1) (by rw [HSL.out]; omega)
        have hue := HSV.out.symm.trans hu1
        simp only [Value.slice.injEq] at hue
        obtain ⟨rfl, _, rfl⟩ := hue
        have hlast := last_pos (t := t) (i := I) (by rw [HSL.out]; exact hz')
        rw [HSL.out] at hlast
        rw [← hlast] at hu5
        have hbn : BytesN t.size (t.last I) := HFS.out _ (by rw [hse]; exact last_mem (by rw [HSL.out]; exact hz'))
        have HRW := hid hu5
        have HBN := hid hbn
        obtain ⟨sm, hsm⟩ : ∃ m, sl - 1 = m := ⟨_, rfl⟩
        have e5 : (sl : Int) - 1 = (sm : Int) := by omega
        have e6 : (sm : Int) < (sl : Int) := by omega
        have e7 : IntKind.i64.wrap (sm : Int) = (sm : Int) := by exact IntWalk.i64_in _ ⟨by omega, by have := hsc2; unfold maxLen at this; have := hu2; rw [HSL.out] at this; omega⟩
        rw [hsm] at hu4
        obtain ⟨gu, cu, rfl, _⟩ := hu5.form
        have ckI := H1.out.kc hi'
        obtain ⟨gk', ck'', hkv, _⟩ := (H1.out.rk I hi').form
        rw [hkv] at ckI
        obtain ⟨ul, hul⟩ : ∃ n, (t.last I).length = n := ⟨_, rfl⟩
        obtain ⟨kl, hkl⟩ : ∃ n, ((t.setI t.last I).kept I).length = n := ⟨_, rfl⟩
        rw [hul] at hu4 HRW
        rw [hkl] at ckI
        clear hu1 hu5 hlast hbn hsm hu2 hu3 hsc2 hkv hul hkl
        go_upto_region 4 with (fail)
        refine wp_region_quiet_tail 24 (by kernel_rfl) (by kernel_rfl) ?_
        simp only [List.take_succ_cons, List.take_zero, List.drop_succ_cons, List.drop_zero]
        repeat (go_big_quiet_step (fail))
        refine wpQuiet_nil ?_
        intro _ hw'
        obtain ⟨nq, hw''⟩ := hw'
        subst hw''
        have h8 := (H1.out.below ((Below.refl _ _).drewN nq)).kset hi' ((HRW.out).same (fun j cu fz _ hh => hh) (fun _ _ h => h)) HBN.out
        have H8 := hid h8
        have d2 := h8.c2.trans (show _ = some (Value.slice (some ⟨S, 0, none⟩) nb cs) from by rw [← HNB.out]; rfl)
        have dsf := h8.sf (by show 0 < t.nb; rw [HNB.out]; exact h0) I
        have dsc := h8.sc hi'
        clear h8 c2 csI fsI c1
        go_wp2_with fail
        go_roundg (gk - 1)
        case measure => omega
        case rel =>
          have h9 := H8.out.sclr hi'
          have h10 := setI_succ t t.last I
          rw [show ({ ({ t.setI t.last I with kept := upf (t.setI t.last I).kept I (t.last I) } : Tp) with since := upf ({ t.setI t.last I with kept := upf (t.setI t.last I).kept I (t.last I) } : Tp).since I [] } : Tp) = t.setI t.last (I + 1) from h10.symm] at h9
          refine ⟨I + 1, _, _, by omega, by go_num, h9, ((HF.out.drewN nq).setCell (p := ⟨K, I, none⟩) HQK.out _).setCell (p := ⟨S, I, none⟩) HQS.out _⟩
    · obtain rfl : I = nb := by omega
      clear h1 hf
      go_wp2_with fail
      go_end0
      exact ⟨⟨_, rfl⟩, TapeAt.mk' H1.out, HF.out⟩
/-- Sync. -/
def Tp.sync (t : Tp) : Tp := if t.step.off = false ∨ (t.off = false ∧ t.half = true) then t.step.setI t.step.last t.nb else t.step
set_option maxRecDepth 100000 in
set_option maxHeartbeats 3200000 in
theorem tsync_any {Q : Nat → Prop} {w : World} {T : Nat} {t : Tp} (hT : TapeAt Q w T t) (ho : t.ops < 5000000000000) (h0 : 0 < t.nb) (hn : t.nb ≤ 1000000) :
    Calls Try.prog 98 #[.pointer (some ⟨T, 0, none⟩)] w fun e w' => e = .returned (.int .i64 (if t.step.off = true then 40 else 0)) ∧ TapeAt Q w' T t.sync ∧ Off Q w w' := by
  obtain ⟨ka, sa, K, S, ck, cs, kv, sv, h⟩ := hT
  have HS := hid (step_any h ho)
  have c6 := h.c6
  obtain ⟨of, hof⟩ : ∃ o, t.step.off = o := ⟨_, rfl⟩
  obtain ⟨wo, hwo⟩ : ∃ o, t.off = o := ⟨_, rfl⟩
  obtain ⟨hf, hhf⟩ : ∃ o, t.half = o := ⟨_, rfl⟩
  have HOF := hid hof
  have HWO := hid hwo
  have HHF := hid hhf
  have HQT := hid h.q.1
  have HO := hid ho
  have H0 := hid h0
  have HN := hid hn
  rw [hof] at HS ⊢
  rw [hwo] at c6
  clear h ho hof hwo hhf h0 hn
  go_enter Try.func98, Try.ntmps98
  go_wp2_with fail
  refine HS.out.mono ?_
  rintro e w1 ⟨rfl, h1, hg1⟩
  have d5 : w1.cell? ⟨T, 5, none⟩ = some (.bool hf) := h1.c5.trans (by rw [← HHF.out]; rfl)
  have HF1 := hid (show Off Q w w1 from off_of_grown hg1 (fun j e => by cases e; exact HQT.out))
  have HK := hid (keep_any h1 H0.out HN.out HO.out)
  have H1 := hid h1
  clear h1 hg1
  cases of with
  | false =>
    have HW := hid (show t.sync = t.step.setI t.step.last t.nb from by unfold Tp.sync; rw [if_pos (.inl HOF.out)])
    go_wp2_with fail
    refine HK.out.mono ?_
    rintro e w2 ⟨⟨v, rfl⟩, h2, hf2⟩
    have H2 := hid h2
    have HF2 := hid hf2
    clear h2 hf2
    go_wp2_with fail
    go_ret
    rw [HW.out]
    exact ⟨rfl, H2.out, HF1.out.trans HF2.out⟩
  | true =>
    by_cases hw : wo = false ∧ hf = true
    · have HW := hid (show t.sync = t.step.setI t.step.last t.nb from by unfold Tp.sync; rw [HOF.out, HWO.out, HHF.out, if_pos (.inr hw)])
      obtain ⟨rfl, rfl⟩ := hw
      go_wp2_with fail
      refine HK.out.mono ?_
      rintro e w2 ⟨⟨v, rfl⟩, h2, hf2⟩
      have H2 := hid h2
      have HF2 := hid hf2
      clear h2 hf2
      go_wp2_with fail
      go_ret
      rw [HW.out]
      exact ⟨rfl, H2.out, HF1.out.trans HF2.out⟩
    · have HW := hid (show t.sync = t.step from by unfold Tp.sync; rw [HOF.out, HWO.out, HHF.out, if_neg (fun h => by rcases h with h | h; cases h; exact hw h)])
      cases wo with
      | true =>
        go_wp2_with fail
        go_ret
        rw [HW.out]
        exact ⟨rfl, TapeAt.mk' H1.out, HF1.out⟩
      | false =>
        cases hf with
        | true => exact absurd ⟨rfl, rfl⟩ hw
        | false =>
          go_wp2_with fail
          go_ret
          rw [HW.out]
          exact ⟨rfl, TapeAt.mk' H1.out, HF1.out⟩
end Go.Proofs.Ytkdjefnnhanhhaa
