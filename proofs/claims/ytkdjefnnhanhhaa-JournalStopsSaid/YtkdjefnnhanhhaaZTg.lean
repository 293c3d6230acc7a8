/- Walks over the document's tape: Leave. -/
import Derived.Test.YtkdjefnnhanhhaaZTf
import Derived.Test.YtkdjefnnhanhhaaUa
import Derived.Deep.CutBlock
set_option linter.unusedVariables false
namespace Go.Proofs.Ytkdjefnnhanhhaa
open Go Go.RowKit Go.Mem
set_option linter.unusedVariables false

def absN' (z : Int) : Nat := if z < 0 then (-(z + 1)).toNat else z.toNat
/-- What is left of a block. -/
def Tp.choice (t : Tp) (zs : List Int) (i : Nat) : List Nat :=
  if absN' (zs.getD i 0) % ((t.since i).length + 1) = 0 then t.kept i else (t.since i).getD (absN' (zs.getD i 0) % ((t.since i).length + 1) - 1) []
def Tp.leave (t : Tp) (zs : List Int) : Tp := { t.setI (t.choice zs) t.nb with off := false, cut := -1 }
theorem choice_mem (t : Tp) (zs : List Int) (i : Nat) : t.choice zs i = t.kept i ∨ t.choice zs i ∈ t.since i := by
  unfold Tp.choice
  split
  · exact .inl rfl
  · right
    have h := Nat.mod_lt (absN' (zs.getD i 0)) (show 0 < (t.since i).length + 1 by omega)
    rw [List.getD, List.getElem?_eq_getElem (by omega)]
    simp
set_option maxRecDepth 100000 in
set_option maxHeartbeats 6400000 in
theorem leave_any {Q : Nat → Prop} {w : World} {T : Nat} {t : Tp} (hT : TapeAt Q w T t) (h0 : 0 < t.nb) (hn : t.nb ≤ 1000000) (ho : t.ops ≤ 5000000000000) (v : Value) (zs : List Int) (hp : ∀ W, Off Q w W → RdI .i64 W v zs) (hz : ∀ y ∈ zs, (Lit.int .i64 y).wf = true) :
    Calls Try.prog 21 #[.pointer (some ⟨T, 0, none⟩), v] w fun e w' => (∃ v, e = .returned v) ∧ TapeAt Q w' T (t.leave zs) ∧ Off Q w w' := by
  obtain ⟨ka, sa, K, S, ck, cs, kv, sv, h⟩ := hT
  obtain ⟨rfl, rfl⟩ : ka = some ⟨K, 0, none⟩ ∧ sa = some ⟨S, 0, none⟩ := by
    rcases h.ha with h | h
    · omega
    · exact h
  obtain ⟨ap, cp, rfl, hp1, hp2, _⟩ := hp w (Off.refl _ _)
  have HP := hid hp
  have HZ := hid hz
  have hp3 : (zs.length : Int) ≤ 9223372036854775807 := by unfold maxLen at hp2; omega
  obtain ⟨nb, hnb⟩ : ∃ n, t.nb = n := ⟨_, rfl⟩
  have HNB := hid hnb
  have H := hid h
  have HO := hid ho
  have HQT := hid h.q.1
  have HQK := hid (h.q.2 h0).1
  have HQS := hid (h.q.2 h0).2
  rw [hnb] at h0 hn
  clear h hnb ho hp hz hp2
  go_enter Try.func21, Try.ntmps21
  go_wp2_with fail
  go_loopg [4] nb (fun gk vi wr => ∃ (I : Nat) (kv' sv' : Nat → Value), I + gk = nb ∧ vi = .int .i64 (I : Nat) ∧ TpC Q wr T (t.setI (t.choice zs) I) (some ⟨K, 0, none⟩) (some ⟨S, 0, none⟩) K S ck cs kv' sv' ∧ Off Q w wr)
  case atStart => exact ⟨0, kv, sv, by omega, rfl, H.out, Off.refl _ _⟩
  case round =>
    obtain ⟨I, kv', sv', hI, rfl, h1, hf⟩ := hrel
    have H1 := hid h1
    have HF := hid hf
    have c1 : wr.cell? ⟨T, 1, none⟩ = some (.slice (some ⟨K, 0, none⟩) nb ck) := h1.c1.trans (by rw [← HNB.out]; rfl)
    have c2 : wr.cell? ⟨T, 2, none⟩ = some (.slice (some ⟨S, 0, none⟩) nb cs) := h1.c2.trans (by rw [← HNB.out]; rfl)
    by_cases hlt : I < nb
    · have hi' : I < (t.setI (t.choice zs) I).nb := by show I < t.nb; rw [HNB.out]; exact hlt
      have hs := h1.rs I hi'
      have hse : (t.setI (t.choice zs) I).since I = t.since I := by unfold Tp.setI; simp
      have hke : (t.setI (t.choice zs) I).kept I = t.kept I := by unfold Tp.setI; simp
      rw [hse] at hs
      have csI := h1.sc hi'
      have fsI := h1.sf (by show 0 < t.nb; rw [HNB.out]; exact h0) I
      have fkI := h1.kf (by show 0 < t.nb; rw [HNB.out]; exact h0) I
      have hln := h1.ln I hi'
      rw [hse] at hln
      obtain ⟨asv, caps, hsv, hsc1, hsc2⟩ := hs.form
      rw [hsv] at csI
      have i3 : (I : Int) < (nb : Int) := by omega
      obtain ⟨sl, hsl⟩ : ∃ n, (t.since I).length = n := ⟨_, rfl⟩
      have HSL := hid hsl
      have HSN := hid hs
      have HSV := hid hsv
      rw [hsl] at csI hsc1 hln
      have hsm : sl ≤ 5000000000000 := Nat.le_trans hln HO.out
      have HFS := hid (fun x hx => h1.fs I hi' x hx)
      obtain ⟨z, hzz⟩ : ∃ z, zs.getD I 0 = z := ⟨_, rfl⟩
      have hzb : -9223372036854775808 ≤ z ∧ z ≤ 9223372036854775807 := by
        rw [← hzz]
        by_cases h : I < zs.length
        · have h1 := HZ.out (zs.getD I 0) (by rw [List.getD, List.getElem?_eq_getElem h]; simp)
          simp only [Lit.wf, Bool.and_eq_true, decide_eq_true_eq] at h1
          exact ⟨h1.1, h1.2⟩
        · rw [List.getD, List.getElem?_eq_none (by omega)]; simp
      have HZZ := hid hzz
      have HHE := hid hke
      have HSE := hid hse
      clear h1 hf hs hsv hsl hln hke hse
      go_upto_if 18 with (fail)
      go_cut [5] from 6 to 63 (fun v wx => v = .int .i64 z ∧ wx = wr)
      case first =>
        by_cases hpl : I < zs.length
        · obtain ⟨_, _, e9, _, _, hce⟩ := HP.out wr HF.out
          obtain ⟨g9, o9, e8, hcz⟩ := hce I hpl
          cases e9
          subst e8
          rw [HZZ.out] at hcz
          clear hce
          have k1 : (I : Int) < (zs.length : Int) := by omega
          go_wp2_with fail
          go_meet
          exact ⟨rfl, rfl⟩
        · have k1 : ¬ (I : Int) < (zs.length : Int) := by omega
          have hz0 : z = 0 := by rw [← HZZ.out, List.getD, List.getElem?_eq_none (by omega)]; rfl
          subst hz0
          go_wp2_with fail
          go_meet
          exact ⟨rfl, rfl⟩
      case rest =>
      obtain ⟨rfl, rfl⟩ := hcut
      go_upto_if 24 with (fail)
      obtain ⟨az, haz⟩ : ∃ a, absN' z = a := ⟨_, rfl⟩
      have hazb : az ≤ 9223372036854775807 := by rw [← haz]; unfold absN'; split <;> omega
      go_cut [5] from 6 to 63 (fun v wx => v = .int .i64 (az : Nat) ∧ wx = wc)
      case first =>
        by_cases hz0 : z < 0
        · have e9 : (az : Int) = -(z + 1) := by rw [← haz]; unfold absN'; rw [if_pos hz0]; omega
          have w1 : IntKind.i64.wrap (z + 1) = z + 1 := IntWalk.i64_in _ ⟨by omega, by omega⟩
          have w2 : IntKind.i64.wrap (-(z + 1)) = -(z + 1) := IntWalk.i64_in _ ⟨by omega, by omega⟩
          go_wp2_with fail
          go_meet
          exact ⟨by rw [e9], rfl⟩
        · have e9 : (az : Int) = z := by rw [← haz]; unfold absN'; rw [if_neg hz0]; omega
          go_wp2_with fail
          go_meet
          exact ⟨by rw [e9], rfl⟩
      case rest =>
      obtain ⟨rfl, rfl⟩ := hcut
      have em : (az : Int).tmod ((sl : Int) + 1) = ((az % (sl + 1) : Nat) : Int) := by
        rw [show ((sl : Int) + 1) = ((sl + 1 : Nat) : Int) from by omega]; rfl
      have em' : (az : Int) % ((sl : Int) + 1) = ((az % (sl + 1) : Nat) : Int) := by
        rw [show ((sl : Int) + 1) = ((sl + 1 : Nat) : Int) from by omega]; rfl
      have w1 : IntKind.i64.wrap ((sl : Int) + 1) = (sl : Int) + 1 := IntWalk.i64_in _ ⟨by omega, by omega⟩
      have hkl := Nat.mod_lt az (show 0 < sl + 1 by omega)
      have HCH := hid (show t.choice zs I = if az % (sl + 1) = 0 then t.kept I else (t.since I).getD (az % (sl + 1) - 1) [] from by unfold Tp.choice; rw [HZZ.out, haz, HSL.out])
      obtain ⟨k, hk⟩ : ∃ k, az % (sl + 1) = k := ⟨_, rfl⟩
      rw [hk] at em em' hkl HCH
      clear haz hk
      by_cases hz : k = 0
      · have hce := HCH.out.trans (if_pos hz)
        have HCE := hid hce
        have k0 : ¬ (0 : Int) < (k : Int) := by omega
        clear hce
        go_wp2_with fail
        go_roundg (gk - 1)
        case measure => omega
        case rel =>
          have h9 := H1.out.sclr hi'
          rw [← setI_keep t (t.choice zs) I HCE.out] at h9
          exact ⟨I + 1, _, _, by omega, by go_num, h9, HF.out.setCell (p := ⟨S, I, none⟩) HQS.out _⟩
      · have hce := HCH.out.trans (if_neg hz)
        have hz' : 0 < k := by omega
        have hz2 : (0 : Int) < (k : Int) := by omega
        obtain ⟨gs, cpp, u, hu1, hu2, hu3, hu4, hu5⟩ := HSN.out.at (j := k - 1) (by rw [HSL.out]; omega)
        have hue := HSV.out.symm.trans hu1
        simp only [Value.slice.injEq] at hue
        obtain ⟨rfl, _, rfl⟩ := hue
        rw [← hce] at hu5
        have hbn : BytesN t.size (t.choice zs I) := HFS.out _ (by rw [HSE.out, hce, List.getD, List.getElem?_eq_getElem (by rw [HSL.out]; omega)]; simp)
        have HRW := hid hu5
        have HBN := hid hbn
        obtain ⟨sm, hsm⟩ : ∃ m, k - 1 = m := ⟨_, rfl⟩
        have e5 : (k : Int) - 1 = (sm : Int) := by omega
        have e6 : (sm : Int) < (sl : Int) := by omega
        have e7 : IntKind.i64.wrap (sm : Int) = (sm : Int) := by exact IntWalk.i64_in _ ⟨by omega, by have := hsc2; unfold maxLen at this; have := hu2; rw [HSL.out] at this; omega⟩
        rw [hsm] at hu4
        obtain ⟨gu, cu, rfl, _⟩ := hu5.form
        have ckI := H1.out.kc hi'
        obtain ⟨gk', ck'', hkv, _⟩ := (H1.out.rk I hi').form
        rw [hkv] at ckI
        obtain ⟨ul, hul⟩ : ∃ n, (t.choice zs I).length = n := ⟨_, rfl⟩
        obtain ⟨kl, hkl⟩ : ∃ n, ((t.setI (t.choice zs) I).kept I).length = n := ⟨_, rfl⟩
        rw [hul] at hu4 HRW
        rw [hkl] at ckI
        clear hu1 hu5 hce hbn hsm hu2 hu3 hsc2 hkv hul hkl
        go_upto_region 10 with (fail)
        refine wp_region_quiet_tail 17 (by kernel_rfl) (by kernel_rfl) ?_
        simp only [List.take_succ_cons, List.take_zero, List.drop_succ_cons, List.drop_zero]
        repeat (go_big_quiet_step (fail))
        refine wpQuiet_nil ?_
        intro _ hw'
        obtain ⟨nq, hw''⟩ := hw'
        subst hw''
        have h8 := (H1.out.below ((Below.refl _ _).drewN nq)).kset hi' ((HRW.out).same (fun j cu fz _ hh => hh) (fun _ _ h => h)) HBN.out
        have H8 := hid h8
        have d2 := h8.c2.trans (show _ = some (Value.slice (some ⟨S, 0, none⟩) nb cs) from by rw [← HNB.out]; rfl)
        have dsf := h8.sf (by show 0 < t.nb; rw [HNB.out]; exact h0) I
        have dsc := h8.sc hi'
        clear h8 c2 csI fsI c1
        go_wp2_with fail
        go_roundg (gk - 1)
        case measure => omega
        case rel =>
          have h9 := H8.out.sclr hi'
          have h10 := setI_succ t (t.choice zs) I
          rw [show ({ ({ t.setI (t.choice zs) I with kept := upf (t.setI (t.choice zs) I).kept I (t.choice zs I) } : Tp) with since := upf ({ t.setI (t.choice zs) I with kept := upf (t.setI (t.choice zs) I).kept I (t.choice zs I) } : Tp).since I [] } : Tp) = t.setI (t.choice zs) (I + 1) from h10.symm] at h9
          refine ⟨I + 1, _, _, by omega, by go_num, h9, ((HF.out.drewN nq).setCell (p := ⟨K, I, none⟩) HQK.out _).setCell (p := ⟨S, I, none⟩) HQS.out _⟩
    · obtain rfl : I = nb := by omega
      have c6 := h1.c6
      have f6 := h1.ff 6
      have h2 := h1.head (t' := { t.setI (t.choice zs) I with off := false }) 6 (.bool false) rfl rfl rfl rfl (Nat.le_refl _) rfl
      have d4 := h2.c4
      have g4 := h2.ff 4
      have H3 := hid (h2.head (t' := { t.setI (t.choice zs) I with off := false, cut := -1 }) 4 (.int .i64 (-1)) rfl rfl rfl rfl (Nat.le_refl _) rfl)
      clear h1 h2 hf
      go_wp2_with fail
      go_end0
      refine ⟨⟨_, rfl⟩, ?_, (HF.out.setCell (p := ⟨T, 6, none⟩) HQT.out _).setCell (p := ⟨T, 4, none⟩) HQT.out _⟩
      have := TapeAt.mk' H3.out
      rw [← HNB.out] at this
      exact this
end Go.Proofs.Ytkdjefnnhanhhaa
