/- Walks over firkinlaw05: PageErased. -/
import Derived.Test.YtoanopegoilcnaaZKq
import Derived.Test.YtoanopegoilcnaaZPlc
set_option linter.unusedVariables false
namespace Go.Proofs.Ytoanopegoilcnaa
open Go.RowKit Go.Mem Go.Pg Go.Maps

theorem not_clr : ∀ x : Nat, x < 256 → ∀ j : Nat, j < 8 → bits .andNot .u8 (x : Int) ((2 : Int) ^ j % 256) = ((clr x j : Nat) : Int) := by decide +kernel
set_option maxRecDepth 100000 in
set_option maxHeartbeats 6400000 in
theorem pageErased_walk (a b c : Int) (za : Option Addr) (zn zc : Nat) (zs : List Int) (w : World) (ha : (Lit.int .i64 a).wf = true) (hb : (Lit.int .i64 b).wf = true) (hc : (Lit.int .i64 c).wf = true)
    (hz : RdI .i64 w (.slice za zn zc) zs) (hzl : zs.length = zn) (hzw : ∀ y ∈ zs, (Lit.int .i64 y).wf = true) :
    Calls Try.prog 3 #[.agg #[.int .i64 a, .int .i64 b, .int .i64 c], .slice za zn zc] w fun e w' => e = .returned (.bool true) ∧ Below w.heap.size w w' := by
  obtain ⟨mw, mh, hL⟩ := small_lay (absN a) (absN b) (absN c)
  have hS12 : smA (absN a) 12 ≤ 12 := by unfold smA; omega
  have HSM := hid (fun w => small_any a b c w ha hb hc)
  generalize smA (absN a) 12 = S at *
  generalize smA (absN b) 3 = N at *
  generalize smA (absN c) 3 = T at *
  have HNEW := hid (new_any S N T mw mh · hL.pw hL.ph hL.s1 hL.s2 hL.n1 hL.n2)
  have hT8 := hL.t2
  have hN8 := hL.n2
  have hpg := pageB_le hL
  have hby : byB S N T mw mh ≤ 4096 := by rw [byB_page]; omega
  have hpg1 : 1 ≤ pageB S N T mw mh := by unfold pageB; omega
  have hmm := @run_makeMap Try.prog
  have HL := hid hL
  have HZ := hid hz
  have HZW := hid hzw
  have hcz : zn ≤ zc ∧ zc ≤ maxLen := by obtain ⟨a', c', he, h1, h2, _⟩ := hz; cases he; exact ⟨by omega, h2⟩
  have hcz1 : (zn : Int) ≤ (zc : Int) := by omega
  have hcz2 : (zc : Int) ≤ 9223372036854775807 := by have := hcz.2; unfold maxLen at this; omega
  have HZL := hid hzl
  clear hL hz hzw ha hb hc hcz hzl
  go_enter Try.func3, Try.ntmps3
  go_wp2_with fail
  obtain ⟨W, hW⟩ : ∃ W, w.alloc (.cells #[.int .i64 a, .int .i64 b, .int .i64 c] 23) = W := ⟨_, rfl⟩
  have hlb : W.heap[w.heap.size]? = some (.cells #[.int .i64 a, .int .i64 b, .int .i64 c] 23 (0, 0)) := by rw [← hW]; exact alloc_new w _
  have hbW : Below w.heap.size w W := by rw [← hW]; exact (Below.refl _ _).alloc (Nat.le_refl _) _
  rw [hW]
  refine (awake_any _).mono ?_
  rintro e w1 ⟨rfl, hb1⟩
  obtain ⟨lb, hlE⟩ : ∃ b, w.heap.size = b := ⟨_, rfl⟩
  rw [hlE] at hlb ⊢
  have hlb1 := (hb1.block lb (lt_at hlb)).trans hlb
  have HB1 := hid (hbW.comp hb1)
  have HLE := hid hlE
  have q0 := cell_at hlb1 0
  have q1 := cell_at hlb1 1
  have q2 := cell_at hlb1 2
  have HLB1 := hid hlb1
  clear hW hbW hlb hb1 hlb1 hlE
  go_wp2_with fail
  refine (HSM.out _).mono ?_
  rintro e w2 ⟨rfl, hb2⟩
  have hlb2 := (hb2.block lb (lt_at HLB1.out)).trans HLB1.out
  have p0 := cell_at hlb2 0
  have p1 := cell_at hlb2 1
  have p2 := cell_at hlb2 2
  have f0 := free_at hlb2 0
  have f1 := free_at hlb2 1
  have f2 := free_at hlb2 2
  have HLB2 := hid hlb2
  have HB2 := hid (HB1.out.comp hb2)
  clear hb2 hlb2 q0 q1 q2
  go_upto_region 5 with (fail)
  have hge : w.heap.size ≤ lb := Nat.le_of_eq HLE.out
  have s2 := set_at (set_at (set_at HLB2.out 0 (.int .i64 (S : Nat))) 1 (.int .i64 (N : Nat))) 2 (.int .i64 (T : Nat))
  have hb3 := bl_set (bl_set (bl_set HB2.out (p := ⟨lb, 0, none⟩) hge (.int .i64 (S : Nat))) (p := ⟨lb, 1, none⟩) hge (.int .i64 (N : Nat))) (p := ⟨lb, 2, none⟩) hge (.int .i64 (T : Nat))
  obtain ⟨W3, hW3⟩ : ∃ W3, ((w2.setCell ⟨lb, 0, none⟩ (.int .i64 (S : Nat))).setCell ⟨lb, 1, none⟩ (.int .i64 (N : Nat))).setCell ⟨lb, 2, none⟩ (.int .i64 (T : Nat)) = W3 := ⟨_, rfl⟩
  rw [hW3] at s2 hb3 ⊢
  have hlb3 : W3.heap[lb]? = some (.cells #[.int .i64 (S : Nat), .int .i64 (N : Nat), .int .i64 (T : Nat)] 23 (0, 0)) := s2
  have HLB3 := hid hlb3
  have HB3 := hid hb3
  have q0 := cell_at hlb3 0
  have q1 := cell_at hlb3 1
  have q2 := cell_at hlb3 2
  clear hW3 s2 hb3 hlb3 p0 p1 p2 f0 f1 f2
  go_wp2_with fail
  refine (HNEW.out _).mono ?_
  rintro e w4 ⟨hr, hb4⟩
  rw [if_pos hby] at hr
  obtain ⟨f, hf0, rfl, hf⟩ := hr
  have HF := hid hf
  have HLB4 := hid ((hb4.block lb (lt_at HLB3.out)).trans HLB3.out)
  have HB4 := hid (HB3.out.comp hb4)
  clear hf hb4 q0 q1 q2
  go_wp2_with fail
  refine (bytes_any f S N T mw mh w4 HF.out HL.out.pw HL.out.ph HL.out.s2 hN8).mono ?_
  rintro e w5 ⟨rfl, nb, rfl⟩
  rw [byB_page]
  obtain ⟨n, hn⟩ : ∃ n, pageB S N T mw mh = n := ⟨_, rfl⟩
  rw [hn] at hpg hpg1 ⊢
  have HN := hid hn
  have hmk := fun w => mk_bytes n (by omega) w
  clear hn hby
  go_upto_region 9 with (fail)
  obtain ⟨gb, hgb⟩ : ∃ b, w4.heap.size = b := ⟨_, rfl⟩
  obtain ⟨W5, hW5⟩ : ∃ W5, (w4.drewN nb).alloc (.cells (fa .u8 n (fun _ => 0)) 5) = W5 := ⟨_, rfl⟩
  have hg5 : W5.heap[gb]? = some (.cells (fa .u8 n (fun _ => 0)) 5 (0, 0)) := by rw [← hW5]; exact alloc_at (w := w4.drewN nb) hgb.symm
  have hb5 : Below w4.heap.size w4 W5 := by rw [← hW5]; exact ((Below.refl w4.heap.size w4).drewN nb).alloc (Nat.le_refl _) _
  rw [hW5, hgb]
  have HG5 := hid hg5
  have HB5 := hid hb5
  have HGB := hid hgb
  clear hW5 hg5 hb5 hgb hmk
  go_wp2_with fail
  go_outline
  go_loopg [9] n (fun gk v wr => ∃ k : Nat, k + gk = n ∧ v = .int .i64 k ∧ wr.heap[gb]? = some (.cells (fa .u8 n (fun j => if j < k then 255 else 0)) 5 (0, 0)) ∧ Below w4.heap.size w4 wr)
  case atStart => exact ⟨0, by omega, rfl, by simpa using HG5.out, HB5.out⟩
  case round =>
    obtain ⟨k, hk, rfl, hgc, hbel⟩ := hrel
    have HGC := hid hgc
    have HBE := hid hbel
    clear HG5 HB5 hgc hbel
    by_cases hlt : k < n
    · have c1 := fa_cell HGC.out hlt
      have z1 := free_at HGC.out k
      have i1 : (k : Int) < (n : Int) := by omega
      go_wp2_with fail
      go_roundg (gk - 1)
      case measure => omega
      case rel =>
        have h1 := set_fa HGC.out k 255
        rw [upd_ext (fun _ => 255) k] at h1
        exact ⟨k + 1, by omega, by go_num, h1, bl_set HBE.out (Nat.le_of_eq HGB.out) _⟩
    · obtain rfl : k = n := by omega
      go_upto_block 2 with (fail)
      obtain ⟨mb, hmb⟩ : ∃ b, wr.heap.size = b := ⟨_, rfl⟩
      obtain ⟨W6, hW6⟩ : ∃ W6, wr.alloc (.map #[] 0) = W6 := ⟨_, rfl⟩
      have hgmb : gb < mb := by rw [← hmb]; exact lt_at HGC.out
      have hmade : W6.ownsMap Try.prog 3 (plainElem (H := Unit) Try.prog 3) mb 0 (.map []) := by rw [← hW6, ← hmb]; exact World.ownsMap_made _ _ _ _
      have hg6 : W6.heap[gb]? = some (.cells (fa .u8 k (fun _ => 255)) 5 (0, 0)) := by
        rw [← hW6]
        refine (alloc_old (lt_at HGC.out)).trans (HGC.out.trans ?_)
        rw [fa_congr (g := fun _ => 255) (fun j hj => if_pos hj)]
      have hb6 : Below w4.heap.size w4 W6 := by rw [← hW6]; exact bl_alloc HBE.out _
      have her : Er k ((List.range k).map (fun _ => 255)) [] := by
        have e : (List.range k).map (fun _ => 255) = List.replicate k 255 := List.eq_replicate_iff.2 ⟨by simp, by simp⟩
        rw [e]; exact Er.start k
      obtain ⟨mx, m1, m2, m3⟩ := mx_of zn 10
      rw [hW6, hmb]
      have HMADE := hid hmade
      have HG6 := hid hg6
      have HB6 := hid hb6
      have HER := hid her
      clear HGC HBE hmade hg6 hb6 her hW6 hmb hmm
      go_cut [] (fun wx => ∃ (I : Nat) (F : Nat → Nat) (M : List Nat) (D : DataW Unit), I ≤ 10 ∧ wx.ownsMap Try.prog 3 (plainElem Try.prog 3) mb I D ∧ wx.heap[gb]? = some (.cells (fa .u8 k F) 5 (0, 0)) ∧
        Er k ((List.range k).map F) M ∧ Maps.size D = M.length ∧ M.length ≤ I ∧ Below w4.heap.size w4 wx)
      case first =>
        go_wp2_with fail
        go_loopg [11] mx (fun gk i wr => ∃ (I : Nat) (F : Nat → Nat) (M : List Nat) (D : DataW Unit), I + gk = mx ∧ i = .int .i64 I ∧ wr.ownsMap Try.prog 3 (plainElem Try.prog 3) mb I D ∧ wr.heap[gb]? = some (.cells (fa .u8 k F) 5 (0, 0)) ∧
          Er k ((List.range k).map F) M ∧ (∀ j, j < 8 * k → Maps.has D (.int .i64 (j : Nat)) = decide (j ∈ M)) ∧ Maps.size D = M.length ∧ M.length ≤ I ∧ Below w4.heap.size w4 wr)
        case atStart =>
          exact ⟨0, _, [], _, by omega, rfl, HMADE.out, HG6.out, HER.out, fun j _ => by simp [Maps.has], rfl, Nat.le_refl _, HB6.out⟩
        case round =>
          clear HMADE HG6 HB6 HER
          obtain ⟨I, F, M, D, hI, rfl, hown, hgc, her, hkeys, hsz, hMI, hbx⟩ := hrel
          have HOWN := hid hown
          have HGC := hid hgc
          have HER := hid her
          have HKEYS := hid hkeys
          have HSZ := hid hsz
          have HBX := hid hbx
          clear hown hgc her hkeys hsz hbx
          by_cases hlt2 : I < mx
          · have j1 : (I : Int) < (zn : Int) := by omega
            have j2 : (I : Int) < 10 := by omega
            have hIz : I < zs.length := by rw [HZL.out]; omega
            have hzI : (Lit.int .i64 (zs.getD I 0)).wf = true := HZW.out _ (by rw [List.getD_eq_getElem?_getD, List.getElem?_eq_getElem hIz]; exact List.getElem_mem hIz)
            have hzr := HZ.out.below (HB4.out.comp HBX.out)
            obtain ⟨a', c', he, h1, h2, hc⟩ := hzr
            cases he
            obtain ⟨zg, zo, rfl, hcz⟩ := hc I hIz
            have HAB := hid (fun w => abs_any (zs.getD I 0) w hzI)
            have hab := absN_le hzI
            obtain ⟨zv, hzv⟩ : ∃ zv, zs.getD I 0 = zv := ⟨_, rfl⟩
            rw [hzv] at hcz HAB hab
            obtain ⟨av, hav⟩ : ∃ av, absN zv = av := ⟨_, rfl⟩
            rw [hav] at HAB hab
            clear hc hzI hzv hav h1 h2
            go_upto_region 18 with (go_at_call 13; refine (HAB.out _).mono ?_; rintro e w' ⟨rfl, rfl⟩)
            obtain ⟨kk, hkk⟩ : ∃ kk, av % (8 * k) = kk := ⟨_, rfl⟩
            have hk8 : kk < 8 * k := by rw [← hkk]; exact Nat.mod_lt _ (by omega)
            have hmod : ((av : Nat) : Int) % (8 * (k : Int)) = ((kk : Nat) : Int) := by rw [← hkk]; push_cast; rfl
            rw [hmod]
            have hd8 : (kk : Int) / 8 < (k : Int) := by omega
            have c1 := fa_cell HGC.out (show kk / 8 < k by omega)
            have z1 := free_at HGC.out (kk / 8)
            have hF : F (kk / 8) < 256 := HER.out.lt _ (List.mem_map.2 ⟨kk / 8, List.mem_range.2 (by omega), rfl⟩)
            have hcl := not_clr (F (kk / 8)) hF (kk % 8) (Nat.mod_lt _ (by decide))
            have hkey : keyOf Try.prog 3 (.int .i64 (kk : Int)) = some (.int .i64 (kk : Int)) := keyOf_int_mk Try.underlying3 (WalkArith.wf_i64 (by omega))
            have HCL := hid hcl
            have HK8 := hid hk8
            clear hmod hkk hcl hk8
            go_wp2_with (at_mapUpdate; refine wpList_mapUpdate_own _ rfl _ _ _ 33 rfl 3 3 law_int Try.underlying33 _ mb I D rfl (HOWN.out.setCell (by simp; omega) _) (by unfold maxLen; omega) _ _ _ rfl rfl hkey _ [] (plainElem_int Try.underlying3 (WalkArith.wf_i64 (by omega))) ?_; intro w8 hown1 hgrow1; have HOWN1 := hid hown1; have HGROW1 := hid hgrow1; clear hown1 hgrow1)
            go_roundg (gk - 1)
            case measure => omega
            case rel =>
              have hst := set_fa HGC.out (kk / 8) (clr (F (kk / 8)) (kk % 8))
              have htd := HOWN.out.tidy law_int
              refine ⟨I + 1, upd F (kk / 8) (clr (F (kk / 8)) (kk % 8)), if kk ∈ M then M else kk :: M, _, by omega, by go_num, HOWN1.out, ?_, ?_, ?_, ?_, ?_, ?_⟩
              · refine (HGROW1.out.block gb (by simp; exact lt_at HGC.out) (by simp; omega)).trans ?_
                rw [HCL.out]; exact hst
              · have h9 := HER.out.step HK8.out
                rw [map_upd]
                rw [rg_getD _ _ _ (show kk / 8 < k by have := HK8.out; omega)] at h9
                exact h9
              · intro j hj
                by_cases e : j = kk
                · subst e
                  rw [has_put_same htd.isMap (by trivial)]
                  split
                  · rename_i hm; exact (decide_eq_true hm).symm
                  · simp
                · rw [has_put_other (fun he => e (by injection he with _ he; omega)), HKEYS.out j hj]
                  split
                  · rfl
                  · simp [e]
              · rw [size_put htd, HKEYS.out kk HK8.out, HSZ.out]
                by_cases hm : kk ∈ M
                · rw [if_pos (decide_eq_true hm), if_pos hm]
                · rw [if_neg (by simp [hm]), if_neg hm]; rfl
              · split
                · omega
                · simp only [List.length_cons]; omega
              · exact (bl_set HBX.out (Nat.le_of_eq HGB.out) _).grown HGROW1.out (by simp; have := HBX.out.size; omega) (fun j hj => by cases hj; have := HGB.out; omega)
          · obtain rfl : I = mx := by omega
            by_cases hIz : I < zn
            · have j1 : (I : Int) < (zn : Int) := by omega
              have j2 : ¬ (I : Int) < 10 := by omega
              clear m1 m3
              go_wp2_with fail
              go_meet
              exact ⟨I, F, M, D, m2, HOWN.out, HGC.out, HER.out, HSZ.out, hMI, HBX.out⟩
            · have j1 : ¬ (I : Int) < (zn : Int) := by omega
              clear m1 m3
              go_wp2_with fail
              go_meet
              exact ⟨I, F, M, D, m2, HOWN.out, HGC.out, HER.out, HSZ.out, hMI, HBX.out⟩
      case rest =>
        clear HMADE HG6 HB6 HER
        obtain ⟨I, F, M, D, m2, hown, hgc, her, hsz, hMI, hbx⟩ := hcut
        have HOWN := hid hown
        have HGC := hid hgc
        have HER := hid her
        have HSZ := hid hsz
        have HBX := hid hbx
        clear hown hgc her hsz hbx
        have hlen := HER.out.len
        have hone := HER.out.one
        obtain ⟨l, hl⟩ : ∃ l, (List.range k).map F = l := ⟨_, rfl⟩
        rw [hl] at hlen hone
        have hlt8 : ∀ y ∈ l, y < 256 := by rw [← hl]; exact HER.out.lt
        have hrd : Rd .u8 wc (.slice (some ⟨gb, 0, none⟩) k k) l := by rw [← hl]; exact Rd.of_fa HGC.out k k (Nat.le_refl _) (Nat.le_refl _) (by unfold maxLen; omega)
        have HUN := hid (unpack_any f S N T mw mh _ l wc HL.out (HF.out.below HBX.out) hrd (hlen.trans HN.out.symm) hlt8)
        have hml : M.length ≤ 10 := by omega
        obtain ⟨ml, hmle⟩ : ∃ ml, M.length = ml := ⟨_, rfl⟩
        rw [hmle] at hone hml
        have HONE := hid hone
        have HLEN := hid hlen
        have HML := hid hmle
        have HB7 := hid (HB4.out.comp HBX.out)
        have HLB7 := hid ((HBX.out.block lb (lt_at HLB4.out)).trans HLB4.out)
        clear hlen hone hl hlt8 hrd hmle
        have hT : (opn S N T mw mh l).erased = decide (ml ≤ T) ∧ ((opn S N T mw mh l).erased = true → (opn S N T mw mh l).whole = 0 ∧ (opn S N T mw mh l).words = []) := by
          have e8 : 8 * l.length - ones l = ml := by rw [HLEN.out]; have := HONE.out; omega
          unfold opn
          rw [e8]
          by_cases ht : ml ≤ T
          · rw [if_pos ht]; exact ⟨(decide_eq_true ht).symm, fun _ => ⟨rfl, rfl⟩⟩
          · rw [if_neg ht, decide_eq_false ht]
            split <;> exact ⟨rfl, fun h => by cases h⟩
        have HTE := hid hT
        clear hT
        go_wp2_with fail
        refine HUN.out.mono ?_
        rintro e w9 ⟨⟨ov, rfl, hov⟩, hb9⟩
        obtain ⟨sa, sc, wa, wcc, ra, rc, rfl, o1, o2, o3⟩ := hov.out
        have HB9 := hid (HB7.out.comp hb9)
        have HLB9 := hid ((hb9.block lb (lt_at HLB7.out)).trans HLB7.out)
        have HMP := hid (HOWN.out.kept (hb9.toGrown none) (by simp))
        generalize opn S N T mw mh l = o at *
        obtain ⟨ht1, ht2⟩ := HTE.out
        clear HTE hov hb9 o1 o2 o3
        obtain ⟨er, her⟩ : ∃ er, o.erased = er := ⟨_, rfl⟩
        rw [her] at ht1 ht2 ⊢
        obtain ⟨nw, hnw⟩ : ∃ nw, o.words.length = nw := ⟨_, rfl⟩
        rw [hnw]
        obtain ⟨wh, hwh⟩ : ∃ wh, o.whole = wh := ⟨_, rfl⟩
        rw [hwh]
        have h2 : er = true → wh = 0 ∧ nw = 0 := fun h => by obtain ⟨h3, h4⟩ := ht2 h; rw [← hwh, ← hnw, h3, h4]; exact ⟨rfl, rfl⟩
        generalize o.hd.slots.length = n1 at *
        generalize o.sectors.length = n3 at *
        generalize o.hd.kind = v1 at *
        generalize o.hd.id = v2 at *
        generalize o.hd.row = v3 at *
        generalize o.hd.place = v4 at *
        generalize o.hd.width = v5 at *
        generalize o.flips = v6 at *
        have HT1 := hid ht1
        have H2 := hid h2
        clear her hnw hwh ht2 ht1 h2
        go_upto_region 21 with (fail)
        obtain ⟨W, hW⟩ : ∃ W, w9.alloc (.cells #[.bool er, .int .i64 (wh : Nat), .int .i64 v1, .int .u32 (v2 : Nat), .int .i64 v3, .int .i64 v4, .int .i64 v5, .slice sa n1 sc, .slice wa nw wcc, .slice ra n3 rc, .int .i64 (v6 : Nat)] 42) = W := ⟨_, rfl⟩
        have hbW : Below w9.heap.size w9 W := by rw [← hW]; exact (Below.refl _ _).alloc (Nat.le_refl _) _
        have hob : W.heap[w9.heap.size]? = some (.cells #[.bool er, .int .i64 (wh : Nat), .int .i64 v1, .int .u32 (v2 : Nat), .int .i64 v3, .int .i64 v4, .int .i64 v5, .slice sa n1 sc, .slice wa nw wcc, .slice ra n3 rc, .int .i64 (v6 : Nat)] 42 (0, 0)) := by rw [← hW]; exact alloc_new w9 _
        rw [hW]
        obtain ⟨p0, p1, _, _, _, _, _, _, p8, _, _⟩ := op_cells hob
        have hlbW := (hbW.block lb (lt_at HLB9.out)).trans HLB9.out
        have t2 := cell_at hlbW 2
        have hmlen := (HMP.out.kept (hbW.toGrown none) (by simp)).len Try.underlying33 3
        rw [HSZ.out, HML.out] at hmlen
        have HBW := hid (HB9.out.comp hbW)
        clear hW hbW hob hlbW
        have hml10 : ml ≤ 10 := hml
        have ht1 := HT1.out
        have h2 := H2.out
        clear HT1 H2
        by_cases ht : ml ≤ T
        · rw [decide_eq_true ht] at ht1
          subst ht1
          obtain ⟨rfl, rfl⟩ := h2 rfl
          have i1 : (ml : Int) ≤ (T : Int) := by omega
          clear h2 ht
          go_wp2_with fail
          go_ret
          exact ⟨by simp, HBW.out⟩
        · rw [decide_eq_false ht] at ht1
          subst ht1
          have i1 : ¬ (ml : Int) ≤ (T : Int) := by omega
          clear h2 ht
          go_wp2_with fail
          go_ret
          exact ⟨by simp, HBW.out⟩
end Go.Proofs.Ytoanopegoilcnaa
