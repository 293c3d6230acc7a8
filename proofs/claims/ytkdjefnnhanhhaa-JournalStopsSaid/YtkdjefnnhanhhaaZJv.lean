/- Walks over journal: checkpoint. -/
import Derived.Test.YtkdjefnnhanhhaaUx
import Derived.BigRegion
set_option linter.unusedVariables false
namespace Go.Proofs.Ytkdjefnnhanhhaa
open Go Go.RowKit Go.Mem Go.Jn
set_option linter.unusedVariables false

section
variable {Q Q' : Nat → Prop} {w w' : World} {J T b : Nat} {j : Jo} {t : Tp} {rv : Value} {s : JS}
/-- A block that is neither the journal's nor its tape's. -/
theorem JSt.less (h : JSt Q w J T s) {kv : Value} (hk : kv.ownBlock = none ∨ ∃ g cu, kv.ownBlock = some g ∧ w.heap[g]? = some (Obj.cells cu 38 (0, 0))) : JSt (fun i => Q i ∧ kv.ownBlock ≠ some i) w J T s := by
  obtain ⟨hT, b, rv, hJ⟩ := h
  rcases hk with hk | ⟨g, cu, hk, hg⟩
  · refine ⟨hT.shiftT (fun i cs tt fz ht hq hh => ⟨hh, hq, by rw [hk]; exact fun e => (by cases e)⟩) (fun i hi => ⟨hT.upq i hi, by rw [hk]; exact fun e => (by cases e)⟩), b, rv, hJ.shift (fun i hi h' => ⟨rfl, ?_, by rw [hk]; exact fun e => (by cases e)⟩)⟩
    rcases h' with rfl | rfl | h'
    · exact hJ.qj
    · exact hJ.qb
    · exact hJ.qr _ h'
  · have hgl := lt_at hg
    refine ⟨hT.shiftT (fun i cs tt fz ht hq hh => ⟨hh, hq, by
        rw [hk]; intro e; cases e
        exact ty_ne hh hg (fun e => by subst e; revert ht; unfold TT; decide) rfl⟩) (fun i hi => ⟨hT.upq i hi, by rw [hk]; intro e; cases e; omega⟩), b, rv, hJ.shift (fun i hi h' => ⟨rfl, ?_, ?_⟩)⟩
    · rcases h' with rfl | rfl | h'
      · exact hJ.qj
      · exact hJ.qb
      · exact hJ.qr _ h'
    · rw [hk]; intro e; cases e
      rcases h' with rfl | rfl | h'
      · exact ty_ne hg hJ.hp (by decide) rfl
      · obtain ⟨es, c, hb⟩ := hJ.mp.isMap; rw [hg] at hb; cases hb
      · rcases orec_own hJ.ro with e' | ⟨g', cu', e', hg'⟩
        · rw [e'] at h'; cases h'
        · rw [e'] at h'; cases h'; exact ty_ne hg hg' (by decide) rfl
theorem JSt.more (h : JSt Q' w J T s) (hq : ∀ i, Q' i → Q i) (up : ∀ i, w.heap.size ≤ i → Q i) : JSt Q w J T s := by
  obtain ⟨hT, b, rv, hJ⟩ := h
  refine ⟨hT.shiftT (fun i cs tt fz ht h' hh => ⟨hh, hq _ h'⟩) up, b, rv, hJ.shift (fun i hi h' => ⟨rfl, hq _ ?_⟩)⟩
  rcases h' with rfl | rfl | h'
  · exact hJ.qj
  · exact hJ.qb
  · exact hJ.qr _ h'
theorem JSt.up (h : JSt Q w J T s) : ∀ i, w.heap.size ≤ i → Q i := h.1.upq
theorem JSt.below (h : JSt Q w J T s) (hb : Below w.heap.size w w') : JSt Q w' J T s := by
  obtain ⟨hT, b, rv, hJ⟩ := h
  exact ⟨hT.below hb, b, rv, hJ.below hb⟩
theorem own_u64 {B : Nat} {v : Value} {xs : List Nat} (h : Mem.Own .u64 38 B w v xs) : v.ownBlock = none ∨ ∃ g cu, v.ownBlock = some g ∧ w.heap[g]? = some (Obj.cells cu 38 (0, 0)) := by
  rcases h.2 with ⟨rfl, _⟩ | ⟨g, cap, cur, rfl, h1, h2, _⟩
  · exact .inl rfl
  · exact .inr ⟨g, _, rfl, h2⟩
theorem own_kept {B : Nat} {v : Value} {xs : List Nat} (h : Mem.Own .u64 38 B w v xs) (hw : ∀ g, g < w.heap.size → v.ownBlock = some g → w'.heap[g]? = w.heap[g]?) : Mem.Own .u64 38 B w' v xs := by
  refine ⟨h.1, ?_⟩
  rcases h.2 with h' | ⟨g, cap, cur, rfl, h1, h2, h3⟩
  · exact .inl h'
  · exact .inr ⟨g, cap, cur, rfl, h1, (hw g (lt_at h2) rfl).trans h2, h3⟩
set_option maxRecDepth 100000 in
set_option maxHeartbeats 6400000 in
theorem jcheck_any {s : JS} (h : JSt Q w J T s) (ho : s.t.Ok) (hj : s.j.Ok s.t) (hops : s.t.ops + s.j.m.length + 10 < 5000000000000) (hsq : s.j.seq + s.j.m.length < 1000000000000000000) (htop : s.j.top + 1 < 1000000000000000000) (hm : s.j.m.length ≤ s.t.sz * s.t.per) :
    Calls Try.prog 28 #[.pointer (some ⟨J, 0, none⟩)] w fun e w' => e = .returned (.int .i64 s.checkpoint.1) ∧ JSt Q w' J T s.checkpoint.2 ∧ Off Q w w' := by
  obtain ⟨hT, b, rv, hJ⟩ := h
  obtain ⟨j, t⟩ := s
  dsimp only at hT hJ ho hj hops hsq htop hm
  have hok := start_ok hj ho htop
  have c3 := hJ.c3
  have f3 := hJ.ff 3
  obtain ⟨tp, htp⟩ : ∃ n, j.top = n := ⟨_, rfl⟩
  have HTP := hid htp
  rw [htp] at c3 htop
  have J1 := hJ.headS (j' := { j with top := tp + 1 }) 3 (.int .u64 ((tp + 1 : Nat) : Int)) rfl rfl rfl
  have T1 := hT.setJ hJ 3 (.int .u64 ((tp + 1 : Nat) : Int))
  have d9 := J1.c9
  have f9 := J1.ff 9
  have J2 := J1.headS (j' := { j with top := tp + 1, late := false }) 9 (.bool false) rfl rfl rfl
  have T2 := T1.setJ J1 9 (.bool false)
  have F2 := ((Off.refl Q w).setCell (p := ⟨J, 3, none⟩) hJ.qj (.int .u64 ((tp + 1 : Nat) : Int))).setCell (p := ⟨J, 9, none⟩) hJ.qj (.bool false)
  obtain ⟨W2, hW2⟩ : ∃ W, (w.setCell ⟨J, 3, none⟩ (.int .u64 ((tp + 1 : Nat) : Int))).setCell ⟨J, 9, none⟩ (.bool false) = W := ⟨_, rfl⟩
  rw [hW2] at J2 T2 F2
  have hW2' : (w.setCell ⟨J, 3, none⟩ (.int .u64 ((tp : Int) + 1))).setCell ⟨J, 9, none⟩ (.bool false) = W2 := by rw [← hW2]; rfl
  rw [show ((tp + 1 : Nat) : Int) = (tp : Int) + 1 from rfl] at d9 f9
  have e2 := J2.c2
  have e3 := J2.c3
  have e4 := J2.c4
  have e5 := J2.c5
  have e6 := J2.c6
  have g2 := J2.ff 2
  have g4 := J2.ff 4
  have g5 := J2.ff 5
  have g6 := J2.ff 6
  obtain ⟨av, cv, hrv⟩ := orec_form hJ.ro
  rw [hrv] at e6
  have hab := hj.area
  obtain ⟨ar, har⟩ : ∃ n, j.area = n := ⟨_, rfl⟩
  have HAR := hid har
  rw [har] at hab
  dsimp only at e2 e4 e5
  rw [har] at e4
  have x1 : (1 : Int) - (ar : Int) = ((1 - ar : Nat) : Int) := by omega
  have HJ2 := hid J2
  have HT2 := hid T2
  have HF2 := hid F2
  have HOK := hid hok
  have HO := hid ho
  have HJO := hid hj
  have HOPS := hid hops
  have HSQ := hid hsq
  have HM := hid hm
  have HQJ := hid hJ.qj
  have HUP := hid hT.upq
  clear hT hJ J1 T1 J2 T2 F2 hW2 hok hj ho hops hsq hm htp har hrv
  go_enter Try.func28, Try.ntmps28
  go_upto_region 3 with (fail)
  go_region
  obtain ⟨W3, hW3⟩ : ∃ W, ((((W2.setCell ⟨J, 2, none⟩ (.int .u64 ((tp : Int) + 1))).setCell ⟨J, 4, none⟩ (.int .i64 ((1 - ar : Nat) : Int))).setCell ⟨J, 5, none⟩ (.int .i64 0)).setCell ⟨J, 6, none⟩ (.slice none 0 0)).drew = W := ⟨_, rfl⟩
  have J3 := HJ2.out.headS (j' := { j with top := tp + 1, late := false, gen := tp + 1 }) 2 (.int .u64 ((tp : Int) + 1)) rfl rfl rfl
  have T3 := HT2.out.setJ HJ2.out 2 (.int .u64 ((tp : Int) + 1))
  have J4 := J3.headS (j' := { j with top := tp + 1, late := false, gen := tp + 1, area := 1 - ar }) 4 (.int .i64 ((1 - ar : Nat) : Int)) rfl rfl rfl
  have T4 := T3.setJ J3 4 (.int .i64 ((1 - ar : Nat) : Int))
  have J5 := J4.headS (j' := { j with top := tp + 1, late := false, gen := tp + 1, area := 1 - ar, block := 0 }) 5 (.int .i64 0) rfl rfl rfl
  have T5 := T4.setJ J4 5 (.int .i64 0)
  have J6 := (J5.head (j' := { j with top := tp + 1, late := false, gen := tp + 1, area := 1 - ar, block := 0, rows := [] }) (rv' := .slice none 0 0) 6 (.slice none 0 0) rfl rfl (orec_nil _ _) (fun g e => by cases e)).below (Below.refl _ _).drew
  have T6 := (T5.setJ J5 6 (.slice none 0 0)).below (Below.refl _ _).drew
  have F6 := ((((HF2.out.setCell (p := ⟨J, 2, none⟩) HQJ.out (.int .u64 ((tp : Int) + 1))).setCell (p := ⟨J, 4, none⟩) HQJ.out (.int .i64 ((1 - ar : Nat) : Int))).setCell (p := ⟨J, 5, none⟩) HQJ.out (.int .i64 0)).setCell (p := ⟨J, 6, none⟩) HQJ.out (.slice none 0 0)).drew
  rw [hW3] at J6 T6 F6
  have c8 := J6.c8
  have f8 := J6.ff 8
  have hst : ({ j with top := tp + 1, late := false, gen := tp + 1, area := 1 - ar, block := 0, rows := [], dirty := true } : Jo) = j.start := by unfold Jo.start; rw [HTP.out, HAR.out]
  have J7 := J6.headS (j' := j.start) 8 (.bool true) (by rw [← hst]; rfl) (by rw [← hst]) (by rw [← hst])
  have T7 := T6.setJ J6 8 (.bool true)
  have F7 := F6.setCell (p := ⟨J, 8, none⟩) HQJ.out (.bool true)
  obtain ⟨W7, hW7⟩ : ∃ W, W3.setCell ⟨J, 8, none⟩ (.bool true) = W := ⟨_, rfl⟩
  rw [hW7] at J7 T7 F7
  have d1 := J7.c1
  have hmp := J7.mp
  have hmm : j.start.m = j.m := rfl
  rw [hmm] at hmp
  have HK := hid (keysM_any b W7)
  have hb8 : Below W7.heap.size W7 (W7.alloc (.cells #[.map (some b)] 44)) := (Below.refl _ _).alloc (Nat.le_refl _) _
  have HSD := hid (sortedM_any j.m HJO.out.few W7.heap.size b (W7.alloc (.cells #[.map (some b)] 44)) (by simp) (by rw [cell_at (alloc_new _ _)]; rfl) (hmp.below hb8))
  have HB8 := hid hb8
  have HST := hid (show JSt Q W7 J T ⟨j.start, t⟩ from ⟨T7, b, _, J7⟩)
  have HF7 := hid F7
  clear J3 T3 J4 T4 J5 T5 J6 T6 F6 hst J7 T7 F7 hmp hmm hb8 HF2 HT2 HJ2 c3 d9 e2 e3 e4 e5 e6 g2 g4 g5 g6
  go_wp2_with fail
  refine HK.out.mono ?_
  rintro e w8 ⟨rfl, rfl⟩
  clear c8 f8 HK
  go_wp2_with fail
  refine HSD.out.mono ?_
  rintro e w9 ⟨⟨kv, rfl, hkv⟩, hb9⟩
  have hB9 : Below W7.heap.size W7 w9 := HB8.out.comp hb9
  have hlen : (keysM j.m).length = j.m.length := by simp [keysM]
  obtain ⟨ka, kc, hkf⟩ : ∃ a c, kv = .slice a j.m.length c := by obtain ⟨a, c, e, _⟩ := hkv.rd; exact ⟨a, c, by rw [e, hlen]⟩
  have S9 := HST.out.below hB9
  have hko := own_u64 (w := w9) hkv
  have S9' := S9.less hko
  obtain ⟨N, hN⟩ : ∃ N, j.m.length = N := ⟨_, rfl⟩
  have HN := hid hN
  rw [hN] at hkf
  subst hkf
  have HS9 := hid S9'
  have HKV := hid hkv
  have HU9 := hid S9.up
  have HF9 := hid (HF7.out.trans (Off.of_below hB9))
  have HKL := hid (show ∀ g, (Value.slice ka N kc).ownBlock = some g → g < w9.heap.size from fun g e => by
    rcases hko with e' | ⟨g', cu, e', hg⟩
    · rw [e'] at e; cases e
    · rw [e'] at e; cases e; exact lt_at hg)
  have hNb : N ≤ 60000 := by rw [← hN]; exact HJO.out.few
  obtain ⟨Q1, hQ1⟩ : ∃ Q1 : Nat → Prop, (fun i => Q i ∧ (Value.slice ka N kc).ownBlock ≠ some i) = Q1 := ⟨_, rfl⟩
  rw [hQ1] at HS9
  have HQ1 := hid (show (∀ i, Q1 i → Q i) ∧ ∀ g, (Value.slice ka N kc).ownBlock = some g → ¬ Q1 g from ⟨fun i h => by rw [← hQ1] at h; exact h.1, fun g e h => by rw [← hQ1] at h; exact h.2 e⟩)
  clear hB9 hlen S9 S9' hkv hko hN hb9 HSD HST HF7 HB8 hQ1
  go_wp2_with fail
  go_loopg [50] N (fun gk vi wr => ∃ (I : Nat) (sI : JS), I + gk = N ∧ vi = .int .i64 (I : Nat) ∧ PI ⟨j.start, t⟩ I sI ∧ JSt Q1 wr J T sI ∧ Off Q1 w9 wr)
  case atStart => exact ⟨0, _, by omega, rfl, PI.zero HOK.out, HS9.out, Off.refl _ _⟩
  case round =>
    obtain ⟨I, sI, hI, rfl, hPI, hS, hF⟩ := hrel
    by_cases hlt : I < N
    · have hIm : I < j.m.length := by rw [HN.out]; exact hlt
      obtain ⟨p, hp⟩ : ∃ p, j.m[I]? = some p := ⟨_, List.getElem?_eq_getElem hIm⟩
      have hpf := HJO.out.fit.2 p (List.mem_of_getElem? hp)
      have hkr := own_kept (w' := wr) HKV.out (fun g hg e => hF.block g hg (HQ1.out.2 g e))
      have hcell := hkr.rd
      obtain ⟨g, hka⟩ : ∃ g, ka = some ⟨g, 0, none⟩ := by
        rcases hkr.2 with ⟨_, h0⟩ | ⟨g, _, _, e, _⟩
        · simp [keysM] at h0; rw [h0] at hIm; simp at hIm
        · cases e; exact ⟨g, rfl⟩
      subst hka
      have hk := hcell.atc (j := I) (by simp [keysM]; exact hIm)
      rw [show (keysM j.m).getD I 0 = p.1 from by simp [keysM, List.getD, hp]] at hk
      rw [Nat.zero_add] at hk
      obtain ⟨hcl1, hcl2⟩ := hcell.caps.2
      have i1 : (I : Int) < (N : Int) := by omega
      have HPUT := hid (jput_any hS (HO.out.of hPI.nb hPI.size) hPI.ok (by have := hPI.ops; have := HOPS.out; have := HN.out; dsimp only at *; omega) (setR p) ⟨⟨by show 1 ≤ 1; omega, by show 1 ≤ 4; omega⟩, hpf.1, hpf.2, by show 0 < _; omega⟩ (by show 0 < _; omega) (hPI.room (by show 0 * _ + 0 = 0; omega) (by have := HO.out.per; show 0 < t.per; omega) (by show I < t.sz * t.per; have := HM.out; omega)) (by have := hPI.seq; have := HSQ.out; have := HN.out; dsimp only at *; show sI.j.seq + 1 < _; rw [hPI.seq]; show j.seq + I + 1 < _; omega))
      have HPP := hid (put_put (r := setR p) hPI.ok (HO.out.of hPI.nb hPI.size) (hPI.room (by show 0 * _ + 0 = 0; omega) (by have := HO.out.per; show 0 < t.per; omega) (by show I < t.sz * t.per; have := HM.out; omega)) ⟨⟨by show 1 ≤ 1; omega, by show 1 ≤ 4; omega⟩, hpf.1, hpf.2, by show 0 < _; omega⟩ (by show sI.j.seq + 1 < _; rw [hPI.seq]; show j.seq + I + 1 < _; have := HSQ.out; have := HN.out; omega))
      rw [show (setR p).val = .agg #[.int .i64 1, .int .u64 0, .int .u64 (p.1 : Nat), .int .u64 (p.2 : Nat), .int .u64 0] from rfl] at HPUT
      obtain ⟨hTr, b9, rv9, hJr⟩ := hS
      have y1 := hJr.c1
      have hlk := hJr.mp.look tm_u64 hpf.1
      have hmI : sI.j.m = j.m := hPI.m
      rw [hmI, getM_at HJO.out.fit.1 hp, Option.getD_some] at hlk
      have HPI := hid hPI
      have HFr := hid hF
      have HPE := hid hp
      obtain ⟨R, hR⟩ : ∃ R, sI.put (setR p) = R := ⟨_, rfl⟩
      have HR := hid hR
      rw [hR] at HPUT HPP
      obtain ⟨er, s2⟩ := R
      have her : er = 0 ∨ er = 40 := HPP.out.err
      dsimp only at HPUT
      clear hPI hF hTr hJr hkr hcell hp hR hIm hpf hmI
      go_wp2_with fail
      refine HPUT.out.mono ?_
      rintro e w3 ⟨rfl, hS3, hF3⟩
      have HS3 := hid hS3
      have HF3 := hid (HFr.out.trans hF3)
      clear hS3 hF3
      rcases her with rfl | rfl
      · go_wp2_with fail
        go_roundg (gk - 1)
        case measure => omega
        case rel =>
          have h9 := HPI.out.step (p := p) HPE.out (by rw [HR.out]; exact HPP.out) (by rw [HR.out])
          rw [HR.out] at h9
          exact ⟨I + 1, s2, by omega, by go_num, h9, HS3.out, HF3.out⟩
      · have HCE := hid (check_a (s := ⟨j, t⟩) (s2 := s2) (e := 40) ((HPI.out.stop (p := p) HPE.out (by rw [HR.out]; show (40 : Int) ≠ 0; decide)).trans HR.out) (by decide))
        go_wp2_with fail
        try rw [Exit.noGoto_ret]
        go_ret
        rw [HCE.out]
        exact ⟨rfl, HS3.out.more HQ1.out.1 (fun i hi => HU9.out i (Nat.le_trans HF3.out.size hi)), HF9.out.trans (HF3.out.imp (fun i _ h => HQ1.out.1 i h))⟩
    · obtain rfl : I = N := by omega
      have hPD : (JS.mk j.start t).puts j.m = (0, sI) := by
        have h9 := hPI.run
        rw [List.take_of_length_le (by show j.m.length ≤ I; rw [HN.out]; exact Nat.le_refl _)] at h9
        exact h9
      have hS2 : JSt Q wr J T sI := hS.more HQ1.out.1 (fun i hi => HU9.out i (Nat.le_trans hF.size hi))
      have HF := hid (HF9.out.trans (hF.imp (fun i _ h => HQ1.out.1 i h)))
      have hopsN : sI.t.ops + 9 < 5000000000000 := by have := hPI.ops; have := HOPS.out; have := HN.out; dsimp only at *; omega
      have HFL := hid (jflush_any hS2 (HO.out.of hPI.nb hPI.size) hPI.ok (by omega))
      have HFK := hid (flush_kept sI)
      have HPD := hid hPD
      have HPI := hid hPI
      have HOPN := hid hopsN
      obtain ⟨R2, hR2⟩ : ∃ R, sI.flush = R := ⟨_, rfl⟩
      have HR2 := hid hR2
      rw [hR2] at HFL HFK
      obtain ⟨e2, s2⟩ := R2
      have he2 : e2 = 0 ∨ e2 = 40 := HFK.out.err
      dsimp only at HFL
      clear hPD hS2 hPI hS hF hR2 hopsN HKV HKL HQ1 HS9
      go_wp2_with fail
      refine HFL.out.mono ?_
      rintro e w3 ⟨rfl, hS3, hF3⟩
      have HF3 := hid (HF.out.trans hF3)
      rcases he2 with rfl | rfl
      · obtain ⟨hT3, b3, rv3, hJ3⟩ := hS3
        have hok2 := HFK.out.ok HPI.out.ok
        have hto2 : s2.t.Ok := HO.out.of (HFK.out.nb.trans HPI.out.nb) (HFK.out.size.trans HPI.out.size)
        have hops2 : s2.t.ops + 5 < 5000000000000 := by have := HFK.out.ops; have := HOPN.out; omega
        have HCD := hid (fun (s3 : JS) (h : s2.root = (0, s3)) => check_d (s := ⟨j, t⟩) HPD.out HR2.out h)
        have HCC := hid (fun (s3 : JS) (h : s2.root = (40, s3)) => check_c (s := ⟨j, t⟩) HPD.out HR2.out h (by decide))
        clear hF3 HFL HFK HPI HPD HR2 HOPN HF HU9 HF9 HUP HOPS HSQ HM HJO HOK HN hI hlt hNb htop hab x1
        obtain ⟨⟨m2, gn, tp2, ar2, bk2, rows2, sq2, dy2, lt2, bd2⟩, t2⟩ := s2
        dsimp only at hT3 hJ3 hok2 hto2 hops2
        have hgb := hok2.gen
        have hab2 := hok2.area
        dsimp only at hgb hab2
        have hm1 := meth_bytes T
        have hm2 := meth_write T
        have hm3 := meth_sync T
        have hsl := hto2.sl
        have hs1 := hto2.s128
        obtain ⟨ts, hts⟩ : ∃ n, t2.size = n := ⟨_, rfl⟩
        have HTS := hid hts
        rw [hts] at hsl hs1
        obtain ⟨B, hB⟩ : ∃ B, w3.heap.size = B := ⟨_, rfl⟩
        have HBE := hid hB
        have u1 : IntKind.u32.wrap (ar2 : Int) = (ar2 : Int) := by rw [IntKind.wrap_u32]; omega
        have HJ := hid hJ3
        have HT := hid hT3
        have HA := hid (append32_any B (.slice none 0 0) [] magicN w3 (Own.nil _ _ _ _) (by omega) (by simp) (by decide))
        rw [show ((magicN : Nat) : Int) = 1179798321 from rfl] at HA
        have HTO := hid hto2
        have HOP2 := hid hops2
        clear hT3 hJ3 hok2 hto2 hops2 hts
        go_wp2_with fail
        refine HA.out.mono ?_
        rintro e w4 ⟨v1, rfl, a1, a2, _⟩
        have hb1 : Below B w3 w4 := grow_below (Below.refl _ _) (by omega) a2 (fun g hg => by cases hg)
        rw [List.nil_append] at a1
        have J1 := HJ.out.below (hB ▸ hb1)
        have c4 := J1.c4
        have HB1 := hid hb1
        have HA2 := hid (append32_any B v1 _ ar2 w4 a1 (by have := hb1.size; omega) (by simp [Pg.low_len]) (by omega))
        have HV := hid a1
        dsimp only at c4
        clear HA a1 a2 hb1 J1
        go_wp2_with fail
        refine HA2.out.mono ?_
        rintro e w5 ⟨v2, rfl, a1, a2, _⟩
        have hb2 : Below B w3 w5 := grow_below HB1.out (by have := HB1.out.size; have := HBE.out; omega) a2 (fun g hg => (HV.out.blk g hg).1)
        have J2 := HJ.out.below (hB ▸ hb2)
        have c2 := J2.c2
        have HB2 := hid hb2
        have HA3 := hid (append64_any B v2 _ gn w5 a1 (by have := hb2.size; omega) (by simp [Pg.low_len]) (by omega))
        have HV2 := hid a1
        dsimp only at c2
        clear HA2 HV a1 a2 hb2 J2 c4
        go_wp2_with fail
        refine HA3.out.mono ?_
        rintro e w6 ⟨v3, rfl, a1, a2, _⟩
        have hb3 : Below B w3 w6 := grow_below HB2.out (by have := HB2.out.size; have := HBE.out; omega) a2 (fun g hg => (HV2.out.blk g hg).1)
        have J3 := HJ.out.below (hB ▸ hb3)
        have hcc := J3.st
        have HB3 := hid hb3
        have hHOB : Mem.Own .u8 5 B w6 v3 (rawR gn ar2) := a1
        have hxl := rawR_len gn ar2
        have HBLK := hid (show rootB ts gn ar2 = sealB (padTo (ts - 4) (rawR gn ar2)) from rfl)
        have hXlt : ∀ y ∈ rawR gn ar2, y < 256 := rawR_lt
        obtain ⟨X, hX⟩ : ∃ X, rawR gn ar2 = X := ⟨_, rfl⟩
        rw [hX] at hHOB hxl HBLK hXlt
        obtain ⟨gx, cx, hbv, hgx, _, _, hcx1, hcx2, _⟩ := hHOB.ow (by omega)
        rw [hxl] at hbv
        have HXL := hid hxl
        have HOBc := hid hHOB
        have HXLT := hid hXlt
        obtain ⟨mm, hmm⟩ : ∃ n, ts - 4 - 16 = n := ⟨_, rfl⟩
        have em : (ts : Int) - 4 - 16 = (mm : Int) := by omega
        have HMM := hid hmm
        have hTr := HT.out.below (hB ▸ hb3)
        obtain ⟨ka', sa', K', S', ck', cs', kv', sv', hTC⟩ := id hTr
        have hTc0 := hTC.c0
        rw [HTS.out] at hTc0
        have HBY := hid (bytes_any hTc0)
        have hmml : mm ≤ 1000000 := by omega
        have hBs : B ≤ w6.heap.size := by have := hb3.size; omega
        subst hbv
        clear HA3 HV2 a1 a2 hb3 J3 hHOB hxl hXlt hX hgx hcx1 hcx2 hmm hTC hTr hTc0 c2
        go_wp2_with (first
          | (go_at_call 96; refine HBY.out.mono ?_; rintro e _ ⟨rfl, rfl⟩)
          | (at_builtin; refine app_zerosN rfl el_b8 Try.underlying3 _ _ rfl B _ X rfl HOBc.out (by rw [HXL.out]; omega) mm rfl hmml (by rw [HXL.out]; omega) hBs ?_; intro v7 w7 hown7 hgrow7)
          | fail)
        have hb7 : Below B w3 w7 := grow_below HB3.out (by omega) hgrow7 (fun g hg => (HOBc.out.blk g hg).1)
        have J7 := HJ.out.below (hB ▸ hb7)
        have T7 := HT.out.below (hB ▸ hb7)
        have e0 := J7.st
        have e2 := J7.c2
        dsimp only at e2
        have hpad : padTo (ts - 4) X = X ++ List.replicate mm 0 := by unfold padTo; rw [HXL.out, HMM.out]
        have hYlen : (X ++ List.replicate mm 0).length = 16 + mm := by rw [List.length_append, HXL.out, List.length_replicate]
        have hsum : 16 + mm = ts - 4 := by have := HMM.out; omega
        have hYlt : ∀ y ∈ X ++ List.replicate mm 0, y < 256 := fun y hy => by
          rcases List.mem_append.1 hy with hy | hy
          · exact HXLT.out y hy
          · rw [(List.mem_replicate.1 hy).2]; omega
        have HSEAL := hid (seal_any v7 (X ++ List.replicate mm 0) w7.drew (hown7.rd.below (Below.refl _ _).drew) hYlt (by rw [hYlen]; omega) (by rw [hYlen]; omega))
        have HBOK := hid (show BytesN t2.size (sealB (X ++ List.replicate mm 0)) from by rw [← hpad, ← HBLK.out, ← HTS.out]; exact rootB_ok (by rw [HTS.out]; omega))
        have HBEQ := hid (show rootB ts gn ar2 = sealB (X ++ List.replicate mm 0) from by rw [HBLK.out, hpad])
        obtain ⟨ix, hix⟩ : ∃ n, gn % 2 = n := ⟨_, rfl⟩
        have x1 : (gn : Int) % 2 = (ix : Int) := by rw [← hix]; omega
        have x1' : (gn : Int).tmod 2 = (ix : Int) := by rw [← hix]; rfl
        have hix2 : ix < 2 := by omega
        have x2 : IntKind.i64.wrap (ix : Int) = (ix : Int) := IntWalk.i64_in _ ⟨by omega, by omega⟩
        have x3 : IntKind.u64.wrap (ix : Int) = (ix : Int) := by rw [IntKind.wrap_u64]; omega
        have HIX := hid hix
        have HIDX := hid (show ix < t2.nb from by have := HTO.out.n8; omega)
        have HB7 := hid hb7
        have HJ7 := hid J7
        have HT7 := hid T7
        have hB7s : B ≤ w7.heap.size := by have := hb7.size; omega
        have hnb : t2.nb ≤ 1000000 := by have := HTO.out.nl; omega
        have htss : 0 < t2.size ∧ t2.size ≤ 1000000 := by rw [HTS.out]; omega
        obtain ⟨er, her⟩ : ∃ e, t2.err = e := ⟨_, rfl⟩
        have HER := hid her
        have HER2 := hid (show (if t2.step.off = true then (40 : Int) else 0) = er from her)
        have herc : er = 0 ∨ er = 40 := her ▸ err_cases t2
        clear hb7 J7 T7 hpad hYlen hsum hYlt hix hown7 hgrow7 hcc her
        go_region_held3 (fun w' => w'.cell? ⟨J, 0, none⟩ = some (.iface 25 (.pointer (some ⟨T, 0, none⟩))) ∧ w'.cell? ⟨J, 2, none⟩ = some (.int .u64 (gn : Nat)))
          (first | exact ⟨e0, e2⟩ | exact ⟨d0, d2⟩ | exact ⟨y0, y2⟩ | exact ⟨z0, z2⟩)
          (first
          | (go_at_call 43; refine HSEAL.out.mono ?_; rintro e w8 ⟨⟨v8, rfl, ho8⟩, hb8⟩; have hsb : Below w7.heap.size w7 w8 := (Below.refl _ _).drew.trans hb8; have J8 := HJ7.out.below hsb; have T8 := HT7.out.below hsb; have d0 := J8.st; have d2 := J8.c2)
          | (go_at_call 99; refine (twrite_any (tape_part T8 J8) (by have := HOP2.out; omega) ix HIDX.out hnb htss v8 _ _ ho8 HBOK.out).mono ?_; rw [HER2.out]; rintro e w9 ⟨rfl, hT9, hF9⟩; obtain ⟨T9, J9, F9⟩ := tape_back T8 J8 hT9 hF9; have y0 := J9.st; have y2 := J9.c2)
          | (go_at_call 42; refine (fail_any T9 J9 _).mono ?_; rintro e w10 ⟨rfl, T10, J10, F10⟩; have z0 := J10.st; have z2 := J10.c2; rw [(fail_fields _ _).2.1] at z2)
          | fail)
        all_goals
          have hbw8 := HB7.out.trans (hsb.mono hB7s)
          have HF10 := hid (((HF3.out.trans (Off.of_below (hB ▸ hbw8))).trans F9).trans F10)
          have HRT := hid (show (JS.mk ⟨m2, gn, tp2, ar2, bk2, rows2, sq2, dy2, lt2, bd2⟩ t2).root = (er, ⟨Jo.fail ⟨m2, gn, tp2, ar2, bk2, rows2, sq2, dy2, lt2, bd2⟩ er, t2.write ix (sealB (X ++ List.replicate mm 0))⟩) from by
            show (t2.err, JS.mk (Jo.fail _ t2.err) (t2.write (gn % 2) (rootB t2.size gn ar2))) = _
            rw [HER.out, HIX.out, HTS.out, HBEQ.out])
          obtain ⟨t3, ht3⟩ : ∃ t3, t2.write ix (sealB (X ++ List.replicate mm 0)) = t3 := ⟨_, rfl⟩
          obtain ⟨j3, hj3⟩ : ∃ j3, Jo.fail ⟨m2, gn, tp2, ar2, bk2, rows2, sq2, dy2, lt2, bd2⟩ er = j3 := ⟨_, rfl⟩
          have HOK3 := hid (show t3.Ok ∧ t3.ops < 5000000000000 from by rw [← ht3]; exact ⟨HTO.out.of (write_nb _ _ _) (write_size _ _ _), by rw [write_ops]; have := HOP2.out; omega⟩)
          rw [ht3, hj3] at HRT
          rw [ht3] at T10
          rw [hj3] at J10
          have HT10 := hid T10
          have HJ10 := hid J10
          have w0 := J10.st
          clear T10 J10 F10 hT9 hF9 T9 J9 F9 T8 J8 d0 d2 y0 y2 z0 z2 e0 e2 ht3 hj3
          rcases herc with rfl | rfl
          · have HS := hid (jsync_step HT10.out HJ10.out HOK3.out.1 HOK3.out.2)
            have HEE := hid (HCD.out _ HRT.out)
            obtain ⟨es, hes⟩ : ∃ e, t3.err = e := ⟨_, rfl⟩
            have HES := hid hes
            rw [hes] at HS
            clear hes
            go_wp2_with fail
            refine HS.out.mono ?_
            rintro e w11 ⟨rfl, T11, J11, F11⟩
            have HFA := hid (fail_any T11 J11 es)
            have HF11 := hid F11
            clear T11 J11 F11
            go_wp2_with fail
            refine HFA.out.mono ?_
            rintro e w12 ⟨rfl, T12, J12, F12⟩
            have HT12 := hid T12
            have HJ12 := hid J12
            have HF12 := hid F12
            clear T12 J12 F12
            go_wp2_with fail
            go_ret
            have h8 := HJ12.out
            rw [← HES.out] at h8
            rw [HEE.out]
            refine ⟨?_, ⟨HT12.out, b3, _, h8⟩, (HF10.out.trans HF11.out).trans HF12.out⟩
            show _ = Ending.returned (.int .i64 t3.err); rw [HES.out]; rfl
          · have HEE := hid (HCC.out _ HRT.out)
            go_wp2_with fail
            try rw [Exit.noGoto_ret]
            go_ret
            rw [HEE.out]
            exact ⟨rfl, ⟨HT10.out, b3, _, HJ10.out⟩, HF10.out⟩
      · have HCE := hid (check_b (s := ⟨j, t⟩) HPD.out HR2.out (by decide))
        go_wp2_with fail
        try rw [Exit.noGoto_ret]
        go_ret
        rw [HCE.out]
        exact ⟨rfl, hS3, HF3.out⟩
end
end Go.Proofs.Ytkdjefnnhanhhaa
