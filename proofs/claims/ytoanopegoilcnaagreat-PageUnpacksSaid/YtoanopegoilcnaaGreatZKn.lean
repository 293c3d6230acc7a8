/- Walks over page: Unpack of a page that is not erased, whose head is fine. -/
import Derived.Test.YtoanopegoilcnaaGreatJs
import Derived.Deep.RegionHeld3
import Derived.Deep.DrawnRows
import Derived.Lib.QuietBelow
set_option linter.unusedVariables false
namespace Go.Proofs.YtoanopegoilcnaaGreat
open Go.RowKit Go.Mem Go.Pg Go.Sort

set_option maxRecDepth 100000 in
set_option maxHeartbeats 12800000 in
theorem unpack_good (f S N T mw mh g o cap L : Nat) (l : List Nat) (w : World) (hL : Lay S N T mw mh) (hf : FrAt w f S N T mw mh) (hv : Rd .u8 w (.slice (some ⟨g, o, none⟩) L cap) l) (hl : l.length = L) (hp : L = pageB S N T mw mh) (hx : ∀ y ∈ l, y < 256) (he : ¬ 8 * L - ones l ≤ T) (hG : hdO S N T mw mh l ≠ none) :
    Calls Tryz.prog 12 #[.pointer (some ⟨f, 0, none⟩), .slice (some ⟨g, o, none⟩) L cap] w fun e w' => (∃ ov, e = .returned (.tuple #[ov, .int .i64 0]) ∧ OpV w' ov (opn S N T mw mh l)) ∧ Below w.heap.size w w' := by
  have hN8 := hL.n2
  have hS2 := hL.s2
  have hT2 := hL.t2
  have hLm : L ≤ 2500 := hp ▸ pageB_le hL
  have hE := hid he
  have HG := hid hG
  clear hG
  obtain ⟨n1, hn1⟩ : ∃ n1, ones l = n1 := ⟨_, rfl⟩
  have hn8 : n1 ≤ 8 * L := by rw [← hn1, ← hl]; exact ones_le l
  have HBY : Hid (∀ V, Below w.heap.size w V → Calls Tryz.prog 16 #[.pointer (some ⟨f, 0, none⟩)] V fun e w' => e = .returned (.int .i64 (L : Nat)) ∧ ∃ m, w' = V.drewN m) := hid fun V hV => by
    rw [hp, ← byB_page]; exact bytes_any f S N T mw mh V (hf.below hV) hL.pw hL.ph hS2 hN8
  have HON : Hid (∀ V, Below w.heap.size w V → Calls Tryz.prog 32 #[.slice (some ⟨g, o, none⟩) L cap] V fun e w' => e = .returned (.int .i64 (n1 : Nat)) ∧ V = w') := hid fun V hV => by
    rw [← hn1]; exact ones_any _ l V (hv.below hV) hx (by omega)
  rw [hn1] at he
  have hex : (T : Int) < 8 * (L : Int) - (n1 : Int) := by omega
  have HF := hid hf
  obtain ⟨c0, c1, c2⟩ := hf.cells
  have HV := hid hv
  have HX := hid hx
  have HL := hid hL
  have HLEN := hid hl
  have HP := hid hp
  obtain ⟨cw, ch, k3, k4, cdw, cdh⟩ := hf.codes
  have K3 := hid k3
  have K4 := hid k4
  have CDW := hid cdw
  have CDH := hid cdh
  clear k3 k4 cdw cdh
  have HC0 := hid c0
  have HC1 := hid c1
  have HN1 := hid hn1
  have HC2 := hid c2
  clear hf hv hx hL hl hp hn1 he c0 c1
  have hfl : f < w.heap.size := World.block_lt_of_cell? _ _ c2
  obtain ⟨W, hW⟩ : ∃ W, (w.alloc (.cells #[.slice (some ⟨g, o, none⟩) L cap] 39)).alloc (.cells op0 50) = W := ⟨_, rfl⟩
  have hbb : W.heap[w.heap.size]? = some (.cells #[.slice (some ⟨g, o, none⟩) L cap] 39 (0, 0)) := by rw [← hW]; exact (alloc_old (by simp)).trans (alloc_new w _)
  have hob : W.heap[w.heap.size + 1]? = some (.cells op0 50 (0, 0)) := by rw [← hW]; exact alloc_at (by simp)
  have hbW : Below w.heap.size w W := by rw [← hW]; exact ((Below.refl _ _).alloc (Nat.le_refl _) _).alloc (by simp) _
  unfold op0 at hW
  have HWS : Hid (W.heap.size = w.heap.size + 2) := hid (by rw [← hW]; simp)
  have HBQ : Hid (∀ n, Calls Tryz.prog 16 #[.pointer (some ⟨f, 0, none⟩)] (W.drewN n) fun e w' => e = .returned (.int .i64 (L : Nat)) ∧ ∃ m, w' = W.drewN m) := hid fun n =>
    (HBY.out _ (hbW.drewN n)).mono fun e w' ⟨h1, m, h2⟩ => ⟨h1, n + m, by rw [h2]; simp⟩
  have c2' := (hbW.cell (p := ⟨f, 2, none⟩) hfl).trans c2
  have HBW := hid hbW
  have HW := hid hW
  clear hW c2 HBY hbW
  go_enter Tryz.func12, Tryz.ntmps12
  go_wp2_with fail
  rw [HW.out]
  obtain ⟨bb, hbE⟩ : ∃ b, w.heap.size = b := ⟨_, rfl⟩
  obtain ⟨ob, hoE⟩ : ∃ b, w.heap.size + 1 = b := ⟨_, rfl⟩
  rw [hoE] at hob ⊢
  rw [hbE] at hbb ⊢
  have HBE := hid hbE
  have HOE := hid hoE
  have q0 := cell_at hbb 0
  have HOB := hid hob
  have HBB := hid hbb
  clear hbE hoE hob hbb HW
  go_quiet ((go_at_call 16; exact HBQ.out _))
  go_wp2_with fail
  have hx1 : IntKind.i64.wrap (8 * (L : Int)) = 8 * (L : Int) := IntWalk.i64_in _ (by omega)
  have hx2 : IntKind.i64.wrap (8 * (L : Int) - (n1 : Int)) = 8 * (L : Int) - (n1 : Int) := IntWalk.i64_in _ (by omega)
  obtain ⟨V, hV⟩ : ∃ V, W.drewN nq = V := ⟨_, rfl⟩
  have hbV : Below w.heap.size w V := by rw [← hV]; exact HBW.out.drewN nq
  have hbV2 : V.heap = W.heap := by rw [← hV]; rfl
  have q0' : V.cell? ⟨bb, 0, none⟩ = some (.slice (some ⟨g, o, none⟩) L cap) := by rw [← hV]; exact q0
  have c2'' : V.cell? ⟨f, 2, none⟩ = some (.int .i64 T) := by rw [← hV]; exact c2'
  rw [hV]
  have HBV := hid hbV
  have HVH := hid hbV2
  clear hV hbV hbV2 q0 c2'
  go_quiet ((go_at_call 32; exact quiet_eq (HON.out _ (HBV.out.drewN _))))
  clear hx1 hx2
  clear q0' c2''
  obtain ⟨V1, hV1⟩ : ∃ V1, V.drewN nq = V1 := ⟨_, rfl⟩
  have h1 : V1.heap = W.heap ∧ Below w.heap.size w V1 := by rw [← hV1]; exact ⟨HVH.out, HBV.out.drewN nq⟩
  rw [hV1]
  have H1 := hid h1
  clear hV1 h1
  go_upto_region 9 with (fail)
  obtain ⟨ab, haE⟩ : ∃ b, V1.heap.size = b := ⟨_, rfl⟩
  obtain ⟨W2, hW2⟩ : ∃ W2, V1.alloc (.cells #[.int .i64 0] 3) = W2 := ⟨_, rfl⟩
  have hsz1 : V1.heap.size = w.heap.size + 2 := by rw [H1.out.1]; exact HWS.out
  have i1 : W2.heap.size = w.heap.size + 3 := by rw [← hW2]; simp; exact hsz1
  have i2 : Below w.heap.size w W2 := by rw [← hW2]; exact bl_alloc H1.out.2 _
  have i3 : W2.heap[bb]? = some (.cells #[.slice (some ⟨g, o, none⟩) L cap] 39 (0, 0)) := by
    rw [← hW2]; refine (alloc_old (by have := HBE.out; omega)).trans ?_; rw [H1.out.1]; exact HBB.out
  have i4 : W2.heap[ob]? = some (.cells op0 50 (0, 0)) := by
    rw [← hW2]; refine (alloc_old (by have := HOE.out; omega)).trans ?_; rw [H1.out.1]; exact HOB.out
  have i5 : W2.heap[ab]? = some (.cells #[.int .i64 0] 3 (0, 0)) := by rw [← hW2]; exact alloc_at haE.symm
  rw [haE, hW2]
  have hdE : w.heap.size = bb ∧ w.heap.size + 1 = ob ∧ w.heap.size + 2 = ab ∧ w.heap.size + 3 = W2.heap.size := ⟨HBE.out, HOE.out, by omega, i1.symm⟩
  have c1w := (i2.cell (p := ⟨f, 1, none⟩) hfl).trans HC1.out
  have p8 : W2.cell? ⟨ob, 8, none⟩ = some (.slice none 0 0) := cell_at i4 8
  have p9 : W2.cell? ⟨ob, 9, none⟩ = some (.slice none 0 0) := cell_at i4 9
  have f8 := free_at i4 8
  have f9 := free_at i4 9
  have hk1 := hid (fun w => mk_int N (by omega) w)
  have hk2 := hid (fun w => mk_rows N (by omega) w)
  have hne1 : ob ≠ W2.heap.size := by omega
  have hne2 : ob ≠ W2.heap.size + 1 := by omega
  have hlt3 : f < W2.heap.size := by omega
  have hlt4 : ob < W2.heap.size := by omega
  have hne3 : f ≠ W2.heap.size := by omega
  have hne4 : f ≠ W2.heap.size + 1 := by omega
  have HS2 := hid hdE
  have I1 := hid i1
  have I2 := hid i2
  have I3 := hid i3
  have I4 := hid i4
  have I5 := hid i5
  clear hsz1 i1 i2 i3 i4 i5 haE hW2 hdE HBE HOE
  have hmk1 := hk1.out
  have hmk2 := hk2.out
  go_cut [] (fun wx => ∃ wb sb, Ub w.heap.size bb ob ab wb sb ∧ UsW w wx bb ob ab wb sb g o L cap N 0 #[.bool false, .int .i64 0, .int .i64 0, .int .u32 0, .int .i64 0, .int .i64 0, .int .i64 0, .slice none 0 0, .slice (some ⟨wb, 0, none⟩) N N, .slice (some ⟨sb, 0, none⟩) N N, .int .i64 0] (fun _ => 0) (fun _ => .slice none 0 0))
  case first =>
    -- {
    go_region
    all_goals
      go_wp2_with fail
      go_meet
      first
        | exact ⟨_, _, us_start HS2.out I2.out I3.out I4.out I5.out _ _ _ _ (.inl ⟨rfl, rfl, rfl, rfl⟩)⟩
        | exact ⟨_, _, us_start HS2.out I2.out I3.out I4.out I5.out _ _ _ _ (.inr ⟨rfl, rfl, rfl, rfl⟩)⟩
    -- }
  case rest =>
    obtain ⟨wb, sb, hub, hst⟩ := hcut
    have UB := hid hub
    have ST := hid hst
    clear hub hst hmk1 hmk2 hk1 hk2 p8 p9 f8 f9 hne1 hne2 hne3 hne4 hlt3 hlt4 c1w HS2 I1 I2 I3 I4 I5 HOB HBB H1 HVH HWS HBQ HBV HBW
    have bel := ST.out.bel
    have c0' := (bel.cell (p := ⟨f, 0, none⟩) hfl).trans HC0.out
    have c1' := (bel.cell (p := ⟨f, 1, none⟩) hfl).trans HC1.out
    have c3' := (bel.cell (p := ⟨f, 3, none⟩) hfl).trans K3.out
    have a0 := cell_at ST.out.ha 0
    have b0 := free_at ST.out.ha 0
    obtain ⟨pw, hpw⟩ : ∃ p, pcn mw T = p := ⟨_, rfl⟩
    have hpw14 : pw ≤ 14 := by have := HL.out.pw.r.2.2.2.1; rw [← hpw]; unfold pcn; omega
    have HPARW : Hid (∀ V, Below w.heap.size w V → Calls Tryz.prog 34 #[.pointer (some ⟨cw, 0, none⟩)] V fun e w' => e = .returned (.int .i64 (pw : Nat)) ∧ V = w') := hid fun V hV => by
      rw [← hpw]; exact codeParity_any cw (S + 4) T mw V (CDW.out.below hV) HL.out.pw
    obtain ⟨K, hK⟩ : ∃ K, N * (S + 4 + pw) = K := ⟨_, rfl⟩
    have hK2 : K ≤ 2192 := by rw [← hK]; exact Nat.mul_le_mul hN8 (show S + 4 + pw ≤ 274 by omega)
    have hKi : (N : Int) * ((S : Int) + 4 + (pw : Int)) = (K : Int) := by rw [← hK]; push_cast; rfl
    have hx1 : IntKind.i64.wrap ((S : Int) + 4) = (S : Int) + 4 := IntWalk.i64_in _ (by omega)
    have hx2 : IntKind.i64.wrap ((S : Int) + 4 + (pw : Int)) = (S : Int) + 4 + (pw : Int) := IntWalk.i64_in _ (by omega)
    have hx3 : IntKind.i64.wrap ((N : Int) * ((S : Int) + 4 + (pw : Int))) = (K : Int) := by rw [hKi]; exact IntWalk.i64_in _ (by omega)
    have BEL := hid bel
    have HPW := hid hpw
    have HK := hid hK
    have HKW : Hid (N * wdB S T mw = K) := hid (by rw [← hK, ← hpw]; rfl)
    have ha : wc.heap[ab]? = some (.cells #[.int .i64 0] 3 (0, 0)) := ST.out.ha
    have HA := hid ha
    clear bel hpw hK hKi ha
    go_wp2_with fail
    refine wp_region_quiet_tail 18 (by kernel_rfl) (by kernel_rfl) ?_
    simp only [List.take_succ_cons, List.take_zero, List.drop_succ_cons, List.drop_zero]
    repeat (go_big_quiet_step ((go_at_call 34; exact quiet_eq (HPARW.out _ (BEL.out.drewN _)))))
    refine wpQuiet_nil ?_
    intro _ hw'
    obtain ⟨nq2, hw''⟩ := hw'
    subst hw''
    go_wp2_with fail
    have hst1 := (ST.out.drewN nq2).setA UB.out K
    obtain ⟨Z1, hZ1⟩ : ∃ Z, (wc.drewN nq2).setCell ⟨ab, 0, none⟩ (.int .i64 (K : Nat)) = Z := ⟨_, rfl⟩
    rw [hZ1] at hst1 ⊢
    have ST1 := hid hst1.1
    have bel1 := hst1.1.bel
    have d1' := (bel1.cell (p := ⟨f, 1, none⟩) hfl).trans HC1.out
    have d4' := (bel1.cell (p := ⟨f, 4, none⟩) hfl).trans K4.out
    have BEL1 := hid bel1
    clear hst1 hZ1 bel1 c0' c1' c3' a0 b0 hx1 hx2 hx3 ST HA BEL
    have hy1 : IntKind.i64.wrap (11 * (N : Int)) = 11 * (N : Int) := IntWalk.i64_in _ (by omega)
    have hy2 : IntKind.i64.wrap (9 + 11 * (N : Int)) = 9 + 11 * (N : Int) := IntWalk.i64_in _ (by omega)
    go_cut [9, 10, 11, 12] (fun x s k fn wx => ∃ A', UsW w wx bb ob ab wb sb g o L cap N A' #[.bool false, .int .i64 0, .int .i64 0, .int .u32 0, .int .i64 0, .int .i64 0, .int .i64 0, .slice none 0 0, .slice (some ⟨wb, 0, none⟩) N N, .slice (some ⟨sb, 0, none⟩) N N, .int .i64 0] (fun _ => 0) (fun _ => .slice none 0 0) ∧
      NextU (w.heap.size + 5) mh T (9 + 11 * N) (cut l K (9 + 11 * N + 4 + pcn mh T)) wx x s k fn)
    case first =>
      -- {
      have hS1 := HL.out.s1
      have hK4 : K + (9 + 11 * N + 4 + pcn mh T) ≤ L := by
        rw [HP.out]; unfold pageB lastB wdB; rw [HPW.out, HK.out]; omega
      have HNX : Hid (∀ V, UsW w V bb ob ab wb sb g o L cap N K #[.bool false, .int .i64 0, .int .i64 0, .int .u32 0, .int .i64 0, .int .i64 0, .int .i64 0, .slice none 0 0, .slice (some ⟨wb, 0, none⟩) N N, .slice (some ⟨sb, 0, none⟩) N N, .int .i64 0] (fun _ => 0) (fun _ => .slice none 0 0) →
          Calls Tryz.prog 33 #[.pointer (some ⟨ch, 0, none⟩), .int .i64 (9 + 11 * (N : Int)), .pointer (some ⟨bb, 0, none⟩), .pointer (some ⟨ab, 0, none⟩)] V fun e w' => ∃ x s k fn, e = .returned (.tuple #[x, s, k, fn]) ∧
            NextU (w.heap.size + 5) mh T (9 + 11 * N) (cut l K (9 + 11 * N + 4 + pcn mh T)) w' x s k fn ∧ UsW w w' bb ob ab wb sb g o L cap N (K + (9 + 11 * N + 4 + pcn mh T)) #[.bool false, .int .i64 0, .int .i64 0, .int .u32 0, .int .i64 0, .int .i64 0, .int .i64 0, .slice none 0 0, .slice (some ⟨wb, 0, none⟩) N N, .slice (some ⟨sb, 0, none⟩) N N, .int .i64 0] (fun _ => 0) (fun _ => .slice none 0 0)) := hid fun V hV => by
        have e9 : (9 + 11 * (N : Int)) = ((9 + 11 * N : Nat) : Int) := by omega
        have hgw : g < w.heap.size := by
          have := World.block_lt_of_cell? _ _ (HV.out.atc (j := 0) (by rw [HLEN.out]; omega))
          exact this
        rw [e9]
        refine (next_u (w.heap.size + 5) ch (9 + 11 * N) T mh g o L cap bb ab K l V HL.out.ph (CDH.out.below hV.bel) hV.hb hV.ha (HV.out.below hV.bel) HLEN.out HX.out hK4 (by omega) (by have := UB.out.hab; omega) (fun U hU => CDH.out.below (below_grown hV.bel hU (by have := UB.out.hab; omega) hV.bel.size)) (by omega) hV.siz).mono ?_
        rintro e w' ⟨x, s, k, fn, rfl, h1, h2⟩
        exact ⟨x, s, k, fn, rfl, h1, (UsW.next UB.out hV h2).1⟩
      have hz0 : UsW w Z1.drew bb ob ab wb sb g o L cap N K #[.bool false, .int .i64 0, .int .i64 0, .int .u32 0, .int .i64 0, .int .i64 0, .int .i64 0, .slice none 0 0, .slice (some ⟨wb, 0, none⟩) N N, .slice (some ⟨sb, 0, none⟩) N N, .int .i64 0] (fun _ => 0) (fun _ => .slice none 0 0) := ST1.out.drewN 1
      have HZ0 := hid hz0
      clear hz0
      go_region_held3 (fun w' => w'.cell? ⟨f, 1, none⟩ = some (.int .i64 N) ∧ w'.cell? ⟨f, 4, none⟩ = some (.pointer (some ⟨ch, 0, none⟩)))
        (first | exact ⟨d1', d4'⟩ | assumption)
        (first
        | (go_at_call 33; refine (HNX.out _ HZ0.out).mono ?_; rintro e w3 ⟨x3, s3, k3, fn3, rfl, hnx, hus⟩; have HNX3 := hid hnx; have HUS3 := hid hus; have z1 := (hus.bel.cell (p := ⟨f, 1, none⟩) hfl).trans HC1.out; have z4 := (hus.bel.cell (p := ⟨f, 4, none⟩) hfl).trans K4.out; have z14 := And.intro z1 z4; clear hnx hus)
        | fail)
      all_goals
        go_wp2_with fail
        go_meet
        exact ⟨_, HUS3.out, HNX3.out⟩
      -- }
    case rest =>
      obtain ⟨A', hst2, kN, rfl, hkT, hnx⟩ := hcut
      have ST2 := hid hst2
      have NX := hid hnx
      clear hst2 hnx hy1 hy2 d1' d4' ST1 BEL1
      go_wp2_with fail
      have e1' := (ST2.out.bel.cell (p := ⟨f, 2, none⟩) hfl).trans HC2.out
      have e2' := cell_at ST2.out.hb 0
      go_cut [12] (fun fn wx => UsW w wx bb ob ab wb sb g o L cap N A' #[.bool false, .int .i64 0, .int .i64 0, .int .u32 0, .int .i64 0, .int .i64 0, .int .i64 0, .slice none 0 0, .slice (some ⟨wb, 0, none⟩) N N, .slice (some ⟨sb, 0, none⟩) N N, .int .i64 0] (fun _ => 0) (fun _ => .slice none 0 0) ∧ HdU S N T mw mh l wx (w.heap.size + 5) u9 fn kN)
      case first =>
        -- {
        rcases NX.out with ⟨gx, cx, xs, sN, rfl, x1, x2, x3, x4, rfl, rfl, x5, x6, x7, x8, x9⟩ | ⟨rfl, x9⟩
        · have RX := hid x5
          have XB := hid x7
          have X9 : Hid (opnB mh T (9 + 11 * N) (cut l (N * wdB S T mw) (9 + 11 * N + 4 + pcn mh T)) = some (xs, sN, kN)) := hid (by rw [HKW.out]; exact x9)
          have XL := hid x6
          have HSUM : Hid (∀ V, Below wc.heap.size wc V → Calls Tryz.prog 21 #[.slice (some ⟨gx, 0, none⟩) (9 + 11 * N) cx] V fun e w' => e = .returned (.int .u32 (sum xs : Nat)) ∧ Below V.heap.size V w') := hid fun V hV => crcSum_any _ xs V (RX.out.below hV) XB.out
          have e1q : ∀ d os, (grow (redrawn wc d) os).cell? ⟨f, 2, none⟩ = some (.int .i64 T) := fun d os => cell_regrown e1' d os
          have e2q : ∀ d os, (grow (redrawn wc d) os).cell? ⟨bb, 0, none⟩ = some (.slice (some ⟨g, o, none⟩) L cap) := fun d os => cell_regrown e2' d os
          have hsl : sum xs < 4294967296 := sum_lt x7
          have HSL := hid hsl
          clear x5 x7 x9 x6 NX hsl
          obtain ⟨E, hE1⟩ : ∃ E, T / 4 + 1 = E := ⟨_, rfl⟩
          have hE2 : E ≤ 3 := by omega
          have hLl : L = lastB S N T mw mh + E := by rw [← hE1]; exact HP.out
          obtain ⟨la, hla⟩ : ∃ la, lastB S N T mw mh = la := ⟨_, rfl⟩
          rw [hla] at hLl
          have hcp := HV.out.caps
          have hcap1 : L ≤ cap := by have := hcp.2.1; rw [HLEN.out] at this; exact this
          have hcap2 := hcp.2.2
          have hcap3 : (cap : Int) ≤ 9223372036854775807 := by unfold maxLen at hcap2; omega
          have HEND : Hid (∀ V, Below wc.heap.size wc V → Calls Tryz.prog 24 #[.pointer (some ⟨f, 0, none⟩)] V fun e w' => e = .returned (.int .i64 (E : Nat)) ∧ Below V.heap.size V w') := hid fun V hV => by
            rw [← hE1]
            exact (end_any f S N T mw mh V (HF.out.below (ST2.out.bel.comp hV)) hT2).mono fun e w' ⟨h1, h2⟩ => ⟨h1, h2 ▸ Below.refl _ _⟩
          have HONE : Hid (∀ V, Below wc.heap.size wc V → Calls Tryz.prog 32 #[.slice (some ⟨g, o + la, none⟩) (L - la) (cap - la)] V fun e w' => e = .returned (.int .i64 (ones (l.drop la) : Nat)) ∧ Below V.heap.size V w') := hid fun V hV => by
            rw [show L - la = E by omega]
            have hr := rd_cut (HV.out.below (ST2.out.bel.comp hV)) HLEN.out la E (cap - la) (by omega) (by omega) (by omega)
            have hd : cut l la E = l.drop la := by unfold cut; exact List.take_of_length_le (by rw [List.length_drop, HLEN.out]; omega)
            rw [hd] at hr
            exact (ones_any _ _ V hr (drop_lt HX.out la) (by rw [List.length_drop, HLEN.out]; omega)).mono fun e w' ⟨h1, h2⟩ => ⟨h1, h2 ▸ Below.refl _ _⟩
          have ho8 := ones_le (l.drop la)
          obtain ⟨on, hon⟩ : ∃ on, ones (l.drop la) = on := ⟨_, rfl⟩
          rw [hon] at HONE
          have HLL := hid hLl
          have HLA := hid hla
          have HON2 := hid hon
          have hz1 : IntKind.i64.wrap ((L : Int) - (E : Int)) = (la : Int) := by rw [hLl]; exact (IntWalk.i64_in _ (by omega)).trans (by omega)
          have hz2 : (la : Int) ≤ (L : Int) := by omega
          have hz3 : (L : Int) ≤ (cap : Int) := by omega
          have hz4 : (0 : Int) ≤ (la : Int) := by omega
          have hz5 : ¬ cap = la := by omega
          clear hE1 hcp hcap2 ho8 hon hla hLl
          by_cases hsum : sum xs = sN
          · have hd : ((sum xs : Int) == (sN : Int)) = true := by rw [hsum]; exact beq_self_eq_true _
            have HS := hid hsum
            clear hsum
            generalize hsx : sum xs = sx at *
            have HSX := hid hsx
            clear hsx
            refine wp_region_quiet_below (by kernel_rfl) (by kernel_rfl) ?_
            repeat (go_big_quiet_step ((first | (go_at_call 21; exact Calls.regrown_of (HSUM.out _ (below_regrown _ _ _))) | (go_at_call 24; exact Calls.regrown_of (HEND.out _ (below_regrown _ _ _))) | (go_at_call 32; with_reducible exact Calls.regrown_of (HONE.out _ (below_regrown _ _ _))))))
            refine wpQuiet_nil ?_
            intro _ hw'
            obtain ⟨⟨dq, osq⟩, hw''⟩ := hw'
            subst hw''
            have hbq := below_regrown wc dq osq
            clear hz1 hz2 hz3 hz4 hz5
            by_cases hot : on ≤ T
            · have hot2 : decide (on ≤ T) = true := decide_eq_true hot
              have HOT := hid hot
              have HOT2 := hid hot2
              clear hot hot2
              go_wp2_with fail
              go_meet
              rw [HOT2.out]
              exact ⟨ST2.out.below hbq, .inl ⟨gx, cx, xs, rfl, x1, Nat.lt_of_lt_of_le x2 hbq.size, rfl, RX.out.below hbq, XL.out, XB.out, hdo_yes X9.out (HSX.out.trans HS.out) (by rw [HLA.out, HON2.out]; exact HOT.out)⟩⟩
            · exact (HG.out (hdo_no X9.out (fun e => hot (by rw [← HON2.out, ← HLA.out]; exact e.2)))).elim
          · have hd : ((sum xs : Int) == (sN : Int)) = false := by rw [beq_eq_false_iff_ne]; omega
            exact (HG.out (hdo_no X9.out (fun e => hsum e.1))).elim
        · exact (HG.out (hdo_none (by rw [HKW.out]; exact x9))).elim
        -- }
      case rest =>
        obtain ⟨hst3, hhd⟩ := hcut
        have ST3 := hid hst3
        have HD3 := hid hhd
        clear hst3 hhd e1' e2' NX ST2
        go_upto_if 119 with (fail)
        go_cut [12] (fun fn wx => ∃ h sv, UsW w wx bb ob ab wb sb g o L cap N A' (opA 0 h sv wb sb N 0) (fun _ => 0) (fun _ => .slice none 0 0) ∧ ((fn = .bool true ∧ hdO S N T mw mh l = some (h, kN) ∧ h.slots.length = N ∧ (h.May N ∧ h.Wf) ∧ SlM (w.heap.size + 5) wx sv h.slots) ∨ (fn = .bool false ∧ hdO S N T mw mh l = none)))
        case first =>
          -- {
          rcases HD3.out with ⟨gx, cx, xs, rfl, x1, x2, rfl, x5, x6, x7, x8⟩ | ⟨rfl, x8⟩
          · have RX := hid x5
            have XL := hid x6
            have XB := hid x7
            have X8 := hid x8
            have hN1 := HL.out.n1
            clear x5 x6 x7 x8 HD3
            go_wp2_with fail
            refine (parse_any f S N T mw mh gx 0 cx xs _ (HF.out.below ST3.out.bel) hN1 hN8 RX.out XL.out XB.out).mono ?_
            rintro e w4 ⟨⟨sv, rfl, hos⟩, hb4⟩
            have hst4 := ST3.out.below hb4
            obtain ⟨p0, p1, p2, p3, p4, p5, p6, p7, p8, p9, p10⟩ := opA_cells (h := Head.zero) (wh := 0) (F := 0) hst4.ho
            obtain ⟨f0, f1, f2, f3, f4, f5, f6, f7, f8, f9, f10⟩ := op_free hst4.ho
            have ST4 := hid hst4
            have hsl : (headP N xs).slots.length = N := by unfold headP; simp
            have hsm := (hos.slm (by rw [hsl]; exact hN1)).mono (show w.heap.size + 5 ≤ wc.heap.size + 1 by have := ST3.out.siz; omega)
            obtain ⟨sg, sc, y1, y2, rfl, y3⟩ := hsm
            rw [hsl]
            have HSM : Hid (SlM (w.heap.size + 5) w4 (.slice (some ⟨sg, 0, none⟩) N sc) (headP N xs).slots) := hid ⟨sg, sc, y1, y2, by rw [hsl], by rw [hsl] at y3; exact y3⟩
            have HSL := hid hsl
            have HB4 := hid hb4
            clear hst4 hos hb4 hsl y1 y2 y3 p0 p1 p8 p9 p10 f0 f1 f8 f9 f10
            obtain ⟨hp, hhp⟩ : ∃ hp, headP N xs = hp := ⟨_, rfl⟩
            rw [hhp] at X8 HSM HSL ⊢
            have HHP := hid hhp
            clear hhp
            go_wp2_with fail
            go_meet
            obtain ⟨r1, r2⟩ := ST4.out.setHead (h := Head.zero) (wh := 0) (F := 0) UB.out hp (.slice (some ⟨sg, 0, none⟩) N sc)
            by_cases hmay : hp.May N
            · refine ⟨hp, _, r1, .inl ⟨congrArg Value.bool (decide_eq_true hmay), by rw [X8.out, if_pos hmay], HSL.out, ⟨hmay, HHP.out ▸ headP_wf XL.out XB.out⟩, HSM.out.keep r2⟩⟩
            · refine ⟨hp, _, r1, .inr ⟨congrArg Value.bool (decide_eq_false hmay), by rw [X8.out, if_neg hmay]⟩⟩
          · exact (HG.out x8).elim
          -- }
        case rest =>
          obtain ⟨h, sv, hst5, hor⟩ := hcut
          have ST5 := hid hst5
          clear HD3 ST3
          rcases hor with ⟨rfl, x1, x2, x3, x4⟩ | ⟨rfl, x1⟩
          · have X1 := hid x1
            have X2 := hid x2
            have X3 := hid x3
            obtain ⟨sc, sg, hsv⟩ : ∃ sc sg, sv = .slice (some ⟨sg, 0, none⟩) N sc := by
              obtain ⟨sg, sc, _, _, e, _⟩ := x4
              exact ⟨sc, sg, by rw [e, x2]⟩
            subst hsv
            have X4 := hid x4
            clear x1 x2 x3 x4 hst5
            have p1 := (opA_cells ST5.out.ho).2.1
            have f1 := free_at ST5.out.ho 1
            have hVD : Hid (Calls Tryz.prog 37 #[.int .i64 kN, .bool true, .pointer (some ⟨ob, 0, none⟩)] wc fun e w' => e = .returned (.int .i64 (vd kN : Nat)) ∧ UsW w w' bb ob ab wb sb g o L cap N A' (opA 0 h (.slice (some ⟨sg, 0, none⟩) N sc) wb sb N kN) (fun _ => 0) (fun _ => .slice none 0 0) ∧ SlM (w.heap.size + 5) w' (.slice (some ⟨sg, 0, none⟩) N sc) h.slots) := hid (by
              refine (verdict_any true kN 0 ob _ wc (by omega) (by omega) ST5.out.ho rfl).mono ?_
              rintro e w' ⟨rfl, rfl⟩
              have := ST5.out.setFlips UB.out (0 + flb true kN)
              refine ⟨rfl, ?_, X4.out.keep this.2⟩
              have e0 : 0 + flb true kN = kN := by simp [flb]
              rw [e0] at this ⊢
              exact this.1)
            obtain ⟨vk, hvk⟩ : ∃ vk, vd kN = vk := ⟨_, rfl⟩
            rw [hvk] at hVD
            have HVK := hid hvk
            clear hvk
            go_wp2_with fail
            refine hVD.out.mono ?_
            rintro e w6 ⟨rfl, hst6, hsl6⟩
            have ST6 := hid hst6
            have SL6 := hid hsl6
            obtain ⟨p0, p1, p2, p3, p4, p5, p6, p7, p8, p9, p10⟩ := opA_cells hst6.ho
            have f1 := free_at hst6.ho 1
            have a0 := cell_at hst6.ha 0
            have az := free_at hst6.ha 0
            clear hst6 hsl6 p0 p2 p3 p4 p5 p6 p8 p9 p10
            go_upto_region 24 with (fail)
            have t1 := ST6.out.setWhole UB.out vk
            obtain ⟨W7, hW7⟩ : ∃ W7, w6.setCell ⟨ob, 1, none⟩ (.int .i64 (vk : Nat)) = W7 := ⟨_, rfl⟩
            rw [hW7] at t1 ⊢
            have t2 := t1.1.setA UB.out 0
            have SL7 := SL6.out.keep t1.2
            have a0 := cell_at t1.1.ha 0
            have az := free_at t1.1.ha 0
            obtain ⟨W8, hW8⟩ : ∃ W8, W7.setCell ⟨ab, 0, none⟩ (.int .i64 0) = W8 := ⟨_, rfl⟩
            have st8 : UsW w W8 bb ob ab wb sb g o L cap N 0 (opA vk h (.slice (some ⟨sg, 0, none⟩) N sc) wb sb N kN) (fun _ => 0) (fun _ => .slice none 0 0) := by rw [← hW8]; exact t2.1
            have sl8 : SlM (w.heap.size + 5) W8 (.slice (some ⟨sg, 0, none⟩) N sc) h.slots := by rw [← hW8]; exact SL7.keep t2.2
            have HS8 := hid hW8
            have ST8 := hid st8
            have SL8 := hid sl8
            clear t1 t2 hW7 hW8 st8 sl8 p1 p7 f1 SL6 SL7 ST6 ST5 hVD
            go_upto_region 25 with (fail)
            rw [HS8.out]
            have p7 := (opA_cells ST8.out.ho).2.2.2.2.2.2.2.1
            have hN1 := HL.out.n1
            have hS1 := HL.out.s1
            clear a0 az
            go_wp2_with fail
            go_loopg [152] N (fun gk v wr => ∃ I : Nat, I + gk = N ∧ v = .int .i64 I ∧ SecU w wr bb ob ab wb sb g o L cap S N T mw kN l h (.slice (some ⟨sg, 0, none⟩) N sc) I)
            case atStart =>
              refine ⟨0, by omega, rfl, fun _ => .slice none 0 0, ?_, SL8.out, fun j _ => RowM.nil _ _, ?_⟩
              · have e1 : flS S T mw l h 0 = 0 := rfl
                rw [Nat.zero_mul, HVK.out, e1]
                simpa using ST8.out
              · have e1 : flS S T mw l h 0 = 0 := rfl
                rw [e1]; omega
            case round =>
              obtain ⟨I, hI, rfl, hsec⟩ := hrel
              have SEC := hid hsec
              clear hsec p7 ST8 SL8 HS8
              by_cases hlt : I < N
              · obtain ⟨q, hst, hsl, hrows, hF⟩ := SEC.out
                obtain ⟨c1, c2, y0, y1, y2⟩ := hsl.cells X2.out hlt
                have hfit := X3.out.2.2 _ (getD_slot (by rw [X2.out]; exact hlt) : h.slots.getD I Slot.zero ∈ h.slots)
                have hsok := X3.out.1.2 _ (getD_slot (by rw [X2.out]; exact hlt) : h.slots.getD I Slot.zero ∈ h.slots)
                obtain ⟨s, hs⟩ : ∃ s, h.slots.getD I Slot.zero = s := ⟨_, rfl⟩
                rw [hs] at y0 y1 y2 hfit hsok
                have hkey := hfit.1
                have HFIT := hid hfit
                have HOK := hid hsok
                have HSE := hid hs
                have HST := hid hst
                have HSL := hid hsl
                have HROWS := hid hrows
                have HFF := hid hF
                have i1 : (I : Int) < (N : Int) := by omega
                have i2 : (N : Int) ≤ (sc : Int) := by omega
                have i3 : (sc : Int) ≤ 9223372036854775807 := by unfold maxLen at c2; omega
                clear hst hsl hrows hF c1 c2 hfit hsok hs SEC
                go_upto_region 28 with (fail)
                obtain ⟨sx, hsx⟩ : ∃ sx, wr.heap.size = sx := ⟨_, rfl⟩
                obtain ⟨V1, hV1⟩ : ∃ V1, wr.alloc (.cells #[.int .u32 (s.key : Nat), .int .i64 s.st, .int .u64 (s.seq : Nat)] 61) = V1 := ⟨_, rfl⟩
                have hbV1 : Below wr.heap.size wr V1 := by rw [← hV1]; exact bl_alloc (Below.refl _ _) _
                have hbox : V1.heap[sx]? = some (.cells #[.int .u32 (s.key : Nat), .int .i64 s.st, .int .u64 (s.seq : Nat)] 61 (0, 0)) := by rw [← hV1]; exact alloc_at hsx.symm
                have st1 := HST.out.below hbV1
                have hsx5 : w.heap.size + 5 ≤ sx := by rw [← hsx]; exact HST.out.siz
                have kp1 : Keep (w.heap.size + 5) wr V1 := Keep.of_below hbV1
                rw [hV1, hsx]
                have d0' := (st1.bel.cell (p := ⟨f, 0, none⟩) hfl).trans HC0.out
                have d3' := (st1.bel.cell (p := ⟨f, 3, none⟩) hfl).trans K3.out
                have HBOX := hid hbox
                have SV1 := hid st1
                have KP1 := hid kp1
                clear hV1 hbV1 hbox st1 kp1 y0 y1 y2 hsx
                obtain ⟨F, hFe⟩ : ∃ F, kN + flS S T mw l h I = F := ⟨_, rfl⟩
                rw [hFe] at SV1 HFF
                have HFE := hid hFe
                clear hFe
                go_cut [16, 17, 18, 19] (fun x sv k fn wx => UsW w wx bb ob ab wb sb g o L cap N ((I + 1) * wdB S T mw) (opA (vd kN) h (.slice (some ⟨sg, 0, none⟩) N sc) wb sb N F) (fun j => if j < I then vdO (scO S T mw l h j) else 0) q ∧ Keep (w.heap.size + 5) wr wx ∧ wx.heap[sx]? = some (.cells #[.int .u32 (s.key : Nat), .int .i64 s.st, .int .u64 (s.seq : Nat)] 61 (0, 0)) ∧
                  NextU (w.heap.size + 5) mw T S (cut l (I * wdB S T mw) (S + 4 + pcn mw T)) wx x sv k fn)
                case first =>
                  -- {
                  have hA4 : I * wdB S T mw + (S + 4 + pcn mw T) ≤ L := by
                    have h1 : (I + 1) * wdB S T mw ≤ N * wdB S T mw := Nat.mul_le_mul_right _ hlt
                    have h2 : (I + 1) * wdB S T mw = I * wdB S T mw + (S + 4 + pcn mw T) := by rw [Nat.succ_mul]; rfl
                    have h3 : N * wdB S T mw ≤ L := by rw [HP.out]; unfold pageB lastB; omega
                    omega
                  have HNX : Hid (∀ V, UsW w V bb ob ab wb sb g o L cap N (I * wdB S T mw) (opA (vd kN) h (.slice (some ⟨sg, 0, none⟩) N sc) wb sb N F) (fun j => if j < I then vdO (scO S T mw l h j) else 0) q →
                      Calls Tryz.prog 33 #[.pointer (some ⟨cw, 0, none⟩), .int .i64 (S : Nat), .pointer (some ⟨bb, 0, none⟩), .pointer (some ⟨ab, 0, none⟩)] V fun e w' => ∃ x s k fn, e = .returned (.tuple #[x, s, k, fn]) ∧
                        NextU (w.heap.size + 5) mw T S (cut l (I * wdB S T mw) (S + 4 + pcn mw T)) w' x s k fn ∧ UsW w w' bb ob ab wb sb g o L cap N ((I + 1) * wdB S T mw) (opA (vd kN) h (.slice (some ⟨sg, 0, none⟩) N sc) wb sb N F) (fun j => if j < I then vdO (scO S T mw l h j) else 0) q ∧ Keep (w.heap.size + 5) V w') := hid fun V hV => by
                    have hgw : g < w.heap.size := World.block_lt_of_cell? _ _ (HV.out.atc (j := 0) (by rw [HLEN.out]; omega))
                    refine (next_u (w.heap.size + 5) cw S T mw g o L cap bb ab (I * wdB S T mw) l V HL.out.pw (CDW.out.below hV.bel) hV.hb hV.ha (HV.out.below hV.bel) HLEN.out HX.out hA4 (by omega) (by have := UB.out.hab; omega) (fun U hU => CDW.out.below (below_grown hV.bel hU (by have := UB.out.hab; omega) hV.bel.size)) hS1 hV.siz).mono ?_
                    rintro e w' ⟨x, s, k, fn, rfl, h1, h2⟩
                    have h3 := UsW.next UB.out hV h2
                    have e1 : I * wdB S T mw + (S + 4 + pcn mw T) = (I + 1) * wdB S T mw := by rw [Nat.succ_mul]; rfl
                    rw [e1] at h3
                    exact ⟨x, s, k, fn, rfl, h1, h3⟩
                  have HZ0 := hid (SV1.out.drewN 1)
                  clear i1 i2 i3
                  go_region_held3 (fun w' => w'.cell? ⟨f, 0, none⟩ = some (.int .i64 S) ∧ w'.cell? ⟨f, 3, none⟩ = some (.pointer (some ⟨cw, 0, none⟩)))
                    (first | exact ⟨d0', d3'⟩ | assumption)
                    (first
                    | (go_at_call 33; refine (HNX.out _ HZ0.out).mono ?_; rintro e w3 ⟨x3, s3, k3, fn3, rfl, hnx, hus, hkp⟩; have HNX3 := hid hnx; have HUS3 := hid hus; have HKP3 := hid hkp; have z1 := (hus.bel.cell (p := ⟨f, 0, none⟩) hfl).trans HC0.out; have z4 := (hus.bel.cell (p := ⟨f, 3, none⟩) hfl).trans K3.out; have z14 := And.intro z1 z4; clear hnx hus hkp)
                    | fail)
                  all_goals
                    go_wp2_with fail
                    go_meet
                    have hkd : Keep (w.heap.size + 5) V1 V1.drew := Keep.of_below (Below.refl _ _).drew
                    exact ⟨HUS3.out, KP1.out.trans (hkd.trans HKP3.out), (HKP3.out.block sx hsx5 (lt_at HBOX.out)).trans HBOX.out, HNX3.out⟩
                  -- }
                case rest =>
                  obtain ⟨hst2, hkp2, hbx2, kI, rfl, hkI, hnx⟩ := hcut
                  have SW := hid hst2
                  have KP2 := hid hkp2
                  have NX := hid hnx
                  have p0 := cell_at hbx2 0
                  have p1 := cell_at hbx2 1
                  have p2 := cell_at hbx2 2
                  clear hst2 hkp2 hbx2 hnx KP1 SV1 HBOX HST d0' d3' hsx5
                  go_upto_region 29 with (fail)
                  go_cut [19] (fun fn wx => ∃ b, fn = .bool b ∧ UsW w wx bb ob ab wb sb g o L cap N ((I + 1) * wdB S T mw) (opA (vd kN) h (.slice (some ⟨sg, 0, none⟩) N sc) wb sb N F) (fun j => if j < I then vdO (scO S T mw l h j) else 0) q ∧ Keep (w.heap.size + 5) wr wx ∧ ScU S T mw l h I (w.heap.size + 5) wx u16 kI b)
                  case first =>
                    -- {
                    rcases NX.out with ⟨gx, cx, xs, sN, rfl, x1, x2, x3, x4, rfl, rfl, x5, x6, x7, x8, x9⟩ | ⟨rfl, x9⟩
                    · have RX := hid x5
                      have XL := hid x6
                      have XB := hid x7
                      have X9 := hid x9
                      clear x5 x6 x7 x9 NX
                      go_wp2_with fail
                      refine (slot_nil s _ HOK.out hkey).mono ?_
                      rintro e w4 ⟨v4, rfl, hr4, hb4⟩
                      have HR4 := hid hr4
                      have HB4 := hid hb4
                      clear hr4 hb4 p0 p1 p2
                      go_wp2_with fail
                      refine (crcSum_any v4 (slotB s) w4 HR4.out (slotB_lt HOK.out)).mono ?_
                      rintro e w5 ⟨rfl, hb5⟩
                      have HB5 := hid (HB4.out.comp hb5)
                      clear hb5
                      go_wp2_with fail
                      refine (crcMore_any (sum (slotB s)) _ xs w5 (sum_lt (slotB_lt HOK.out)) (RX.out.below HB5.out) XB.out).mono ?_
                      rintro e w6 ⟨rfl, hb6⟩
                      have HB6 := hid (HB5.out.comp hb6)
                      clear hb6
                      have hk6 : Keep (w.heap.size + 5) wc w6 := Keep.of_below HB6.out
                      have HK6 := hid hk6
                      clear hk6
                      obtain ⟨mm, hmm⟩ : ∃ mm, more (sum (slotB s)) xs = mm := ⟨_, rfl⟩
                      have hsb : sumB (h.slots.getD I Slot.zero) xs = mm := by unfold sumB; rw [HSE.out]; exact hmm
                      rw [hmm]
                      have HSB := hid hsb
                      clear hsb hmm
                      by_cases hq : mm = sN
                      · have hd : ((mm : Int) == (sN : Int)) = true := by rw [hq]; exact beq_self_eq_true _
                        have HQ := hid hq
                        clear hq
                        go_wp2_with fail
                        go_meet
                        refine ⟨true, rfl, SW.out.below HB6.out, KP2.out.trans HK6.out, .inl ⟨rfl, xs, sco_yes X9.out (HSB.out.trans HQ.out), .inr ⟨gx, cx, x1, Nat.lt_of_lt_of_le x2 HB6.out.size, by rw [XL.out], RX.out.below HB6.out⟩⟩⟩
                      · have hd : ((mm : Int) == (sN : Int)) = false := by rw [beq_eq_false_iff_ne]; omega
                        have HQ := hid hq
                        clear hq
                        go_wp2_with fail
                        go_meet
                        exact ⟨false, rfl, SW.out.below HB6.out, KP2.out.trans HK6.out, .inr ⟨rfl, sco_no X9.out (fun e => HQ.out (HSB.out.symm.trans e))⟩⟩
                    · have X9 := hid x9
                      clear x9 NX p0 p1 p2
                      go_wp2_with fail
                      go_meet
                      exact ⟨false, rfl, SW.out, KP2.out, .inr ⟨rfl, sco_none X9.out⟩⟩
                    -- }
                  case rest =>
                    obtain ⟨fb, rfl, hst3, hkp3, hsc3⟩ := hcut
                    have SX := hid hst3
                    have KP3 := hid hkp3
                    have SC3 := hid hsc3
                    have g8 := (opA_cells hst3.ho).2.2.2.2.2.2.2.2.1
                    have gc := fa_cell hst3.hw hlt
                    have gz := free_at hst3.hw I
                    obtain ⟨vb, hvb⟩ : ∃ vb, vdb fb kI = vb := ⟨_, rfl⟩
                    have HVB := hid hvb
                    clear hst3 hkp3 hsc3 NX SW KP2 p0 p1 p2 hvb
                    go_upto_region 30 with (fail)
                    go_cut [] (fun wx => UsW w wx bb ob ab wb sb g o L cap N ((I + 1) * wdB S T mw) (opA (vd kN) h (.slice (some ⟨sg, 0, none⟩) N sc) wb sb N (F + flb fb kI)) (fun j => if j < I + 1 then vdO (scO S T mw l h j) else 0) q ∧ Keep (w.heap.size + 5) wr wx ∧ ScU S T mw l h I (w.heap.size + 5) wx u16 kI fb)
                    case first =>
                      -- {
                      have HVD : Hid (∀ V, UsW w V bb ob ab wb sb g o L cap N ((I + 1) * wdB S T mw) (opA (vd kN) h (.slice (some ⟨sg, 0, none⟩) N sc) wb sb N F) (fun j => if j < I then vdO (scO S T mw l h j) else 0) q →
                          Calls Tryz.prog 37 #[.int .i64 kI, .bool fb, .pointer (some ⟨ob, 0, none⟩)] V fun e w' => e = .returned (.int .i64 (vb : Nat)) ∧ UsW w w' bb ob ab wb sb g o L cap N ((I + 1) * wdB S T mw) (opA (vd kN) h (.slice (some ⟨sg, 0, none⟩) N sc) wb sb N (F + flb fb kI)) (fun j => if j < I then vdO (scO S T mw l h j) else 0) q ∧ Keep (w.heap.size + 5) V w') := hid fun V hV => by
                        have hF8 := HFF.out
                        refine (verdict_any fb kI F ob _ V (by omega) (by omega) hV.ho rfl).mono ?_
                        rintro e w' ⟨rfl, rfl⟩
                        have h1 := hV.setFlips UB.out (F + flb fb kI)
                        exact ⟨by rw [HVB.out], h1.1, h1.2⟩
                      have HZ0 := hid (SX.out.drewN 1)
                      have HOE : Hid (ob ≠ wb) := hid (by obtain ⟨u1, u2, u3, u4⟩ := UB.out; omega)
                      go_region_held3 (fun w' => w'.cell? ⟨ob, 8, none⟩ = some (.slice (some ⟨wb, 0, none⟩) N N))
                        (first | exact g8 | assumption)
                        (first
                        | (go_at_call 37; refine (HVD.out _ HZ0.out).mono ?_; rintro e w3 ⟨rfl, hus, hkp⟩; have HUS3 := hid hus; have HKP3 := hid hkp; have z8 := (opA_cells hus.ho).2.2.2.2.2.2.2.2.1; have zc := fa_cell hus.hw hlt; have zf := free_at hus.hw I; have z9 := (World.cell?_of_block (a := ⟨ob, 8, none⟩) (set_other (w := w3) (a := ⟨wb, I, none⟩) (v := .int .i64 (vb : Nat)) HOE.out)).trans z8; clear hus hkp)
                        | fail)
                      all_goals
                        go_wp2_with fail
                        go_meet
                        have h9 := HUS3.out.setW UB.out I vb
                        have hv9 : vb = vdO (scO S T mw l h I) := HVB.out.symm.trans SC3.out.vd.1
                        have hk9 : Keep (w.heap.size + 5) wc (w3.setCell ⟨wb, I, none⟩ (.int .i64 (vb : Nat))) := (Keep.of_below (Below.refl _ _).drew : Keep (w.heap.size + 5) wc wc.drew).trans (HKP3.out.trans h9.2)
                        refine ⟨?_, KP3.out.trans hk9, SC3.out.keep hk9⟩
                        have h10 := h9.1
                        have hx := upd_ext (fun j => vdO (scO S T mw l h j)) I
                        rw [← hv9] at hx
                        rw [hx] at h10
                        exact h10
                      -- }
                    case rest =>
                      obtain ⟨hst4, hkp4, hsc4⟩ := hcut
                      have SY := hid hst4
                      have KP4 := hid hkp4
                      have hfl4 : flb fb kI = flO (scO S T mw l h I) := hsc4.vd.2
                      have HFL4 := hid hfl4
                      have g9 := (opA_cells hst4.ho).2.2.2.2.2.2.2.2.2.1
                      have gc : wc.cell? ⟨sb, I, none⟩ = some (q I) := by rw [cell_at hst4.hs, fv_get hlt]
                      have gz := free_at hst4.hs I
                      have hkI8 : flO (scO S T mw l h I) ≤ 8 := by rw [← hfl4]; unfold flb; split <;> omega
                      have fin : ∀ (W : World) (q' : Nat → Value), UsW w W bb ob ab wb sb g o L cap N ((I + 1) * wdB S T mw) (opA (vd kN) h (.slice (some ⟨sg, 0, none⟩) N sc) wb sb N (F + flb fb kI)) (fun j => if j < I + 1 then vdO (scO S T mw l h j) else 0) q' → Keep (w.heap.size + 5) wr W → (∀ j, j < N → RowM (w.heap.size + 5) W (q' j) (if j < I + 1 then ((scO S T mw l h j).map (·.1)).getD [] else [])) →
                          SecU w W bb ob ab wb sb g o L cap S N T mw kN l h (.slice (some ⟨sg, 0, none⟩) N sc) (I + 1) := by
                        intro W q' h1 h2 h3
                        have hF8 := HFF.out
                        have e1 : F + flb fb kI = kN + flS S T mw l h (I + 1) := by rw [flS_succ, ← HFL4.out, ← HFE.out]; omega
                        rw [e1] at h1
                        exact ⟨q', h1, HSL.out.keep h2, h3, by rw [flS_succ, ← Nat.add_assoc, HFE.out]; omega⟩
                      have FIN := hid fin
                      have SC4 := hid hsc4
                      clear hst4 hkp4 hfl4 fin hsc4 SX KP3 SC3 g8
                      rcases SC4.out with ⟨rfl, xs, y1, y2⟩ | ⟨rfl, y1⟩
                      · have Y1 := hid y1
                        have Y2 := hid y2
                        have rows : ∀ (W : World) (v : Value), RowM (w.heap.size + 5) W v xs → Keep (w.heap.size + 5) wr W → ∀ j, j < N → RowM (w.heap.size + 5) W (updv q I v j) (if j < I + 1 then ((scO S T mw l h j).map (·.1)).getD [] else []) := by
                          intro W v hr hk j hj
                          unfold updv
                          by_cases he : j = I
                          · subst he
                            rw [if_pos rfl, if_pos (by omega), Y1.out]; exact hr
                          · rw [if_neg he]
                            have h1 := (HROWS.out j hj).keep hk
                            by_cases h2 : j < I
                            · rw [if_pos h2] at h1; rw [if_pos (by omega)]; exact h1
                            · rw [if_neg h2] at h1; rw [if_neg (by omega)]; exact h1
                        have ROWS := hid rows
                        clear rows y1
                        rcases y2 with ⟨rfl, rfl⟩ | ⟨gx, cx, z1, z2, rfl, z3⟩
                        · go_wp2_with fail
                          go_roundg (gk - 1)
                          case measure => omega
                          case rel =>
                            have h9 := SY.out.setS UB.out I (.slice none 0 0)
                            exact ⟨I + 1, by omega, by go_num, FIN.out _ _ h9.1 (KP4.out.trans h9.2) (ROWS.out _ _ (RowM.nil _ _) (KP4.out.trans h9.2))⟩
                        · have Z3 := hid z3
                          clear z3
                          go_wp2_with fail
                          go_roundg (gk - 1)
                          case measure => omega
                          case rel =>
                            have h9 := SY.out.setS UB.out I (.slice (some ⟨gx, 0, none⟩) xs.length cx)
                            exact ⟨I + 1, by omega, by go_num, FIN.out _ _ h9.1 (KP4.out.trans h9.2) (ROWS.out _ _ (Y2.out.keep h9.2) (KP4.out.trans h9.2))⟩
                      · have Y1 := hid y1
                        clear y1
                        go_wp2_with fail
                        go_roundg (gk - 1)
                        case measure => omega
                        case rel =>
                          refine ⟨I + 1, by omega, by go_num, FIN.out _ q SY.out KP4.out (fun j hj => ?_)⟩
                          have h1 := (HROWS.out j hj).keep KP4.out
                          by_cases he : j = I
                          · subst he
                            rw [if_neg (Nat.lt_irrefl _)] at h1
                            rw [if_pos (by omega), Y1.out]; exact h1
                          · by_cases h2 : j < I
                            · rw [if_pos h2] at h1; rw [if_pos (by omega)]; exact h1
                            · rw [if_neg h2] at h1; rw [if_neg (by omega)]; exact h1
              · -- {
                obtain rfl : I = N := by omega
                obtain ⟨q, hst, hsl, hrows, hF⟩ := SEC.out
                obtain ⟨F, hFe⟩ : ∃ F, kN + flS S T mw l h I = F := ⟨_, rfl⟩
                rw [hFe] at hst
                have HFE := hid hFe
                have ST9 := hid hst
                have SL9 := hid hsl
                have ROWS := hid hrows
                rw [HVK.out] at hst
                have ho : wr.heap[ob]? = some (.cells #[.bool false, .int .i64 (vk : Nat), .int .i64 h.kind, .int .u32 (h.id : Nat), .int .i64 h.row, .int .i64 h.place, .int .i64 h.width, .slice (some ⟨sg, 0, none⟩) I sc, .slice (some ⟨wb, 0, none⟩) I I, .slice (some ⟨sb, 0, none⟩) I I, .int .i64 (F : Nat)] 50 (0, 0)) := hst.ho
                obtain ⟨p0, p1, p2, p3, p4, p5, p6, p7, p8, p9, p10⟩ := op_cells ho
                obtain ⟨f0, f1, f2, f3, f4, f5, f6, f7, f8, f9, f10⟩ := op_free ho
                have HO := hid ho
                clear ho hst hsl hrows hF hFe SEC
                go_wp2_with fail
                rw [op_same (t := 50) HO.out]
                refine bodyPost_ret (v := .tuple #[.agg #[.bool false, .int .i64 (vk : Nat), .int .i64 h.kind, .int .u32 (h.id : Nat), .int .i64 h.row, .int .i64 h.place, .int .i64 h.width, .slice (some ⟨sg, 0, none⟩) I sc, .slice (some ⟨wb, 0, none⟩) I I, .slice (some ⟨sb, 0, none⟩) I I, .int .i64 (F : Nat)], .int .i64 0]) (by simp [results, Tryz.results12, go_sem, p0, p1, p2, p3, p4, p5, p6, p7, p8, p9, p10]) rfl ⟨⟨_, rfl, ?_⟩, ST9.out.bel⟩
                rw [opn_good (by rw [HLEN.out]; exact hE.out) X1.out]
                have hm : I ≤ maxLen := by unfold maxLen; omega
                have r1 := rd_of_if (F := fun j => vdO (scO S T mw l h j)) ST9.out.hw hm
                have r2 : RB wr (.slice (some ⟨sb, 0, none⟩) I I) (((List.range I).map (fun i => (scO S T mw l h i).map (·.1))).map (·.getD [])) := rb_of_fv ST9.out.hs (by simp) hm (fun j hj => by
                  have e : (((List.range I).map (fun i => (scO S T mw l h i).map (·.1))).map (·.getD [])).getD j [] = ((scO S T mw l h j).map (·.1)).getD [] := by
                    rw [List.map_map, List.getD_eq_getElem?_getD, List.getElem?_map, List.getElem?_range hj]; rfl
                  rw [e]
                  have := (ROWS.out j hj).rd
                  rwa [if_pos hj] at this)
                have hF' : kN + ((List.range I).map fun i => flO (scO S T mw l h i)).sum = F := by have := HFE.out; unfold flS at this; exact this
                have hsr : SlR wr (.slice (some ⟨sg, 0, none⟩) I sc) h.slots := by obtain ⟨_, _, _, _, _, hr⟩ := SL9.out; exact hr
                rw [hF', HVK.out]
                exact opv_mk hsr r1 r2
                -- }
          · exact (HG.out x1).elim
end Go.Proofs.YtoanopegoilcnaaGreat
