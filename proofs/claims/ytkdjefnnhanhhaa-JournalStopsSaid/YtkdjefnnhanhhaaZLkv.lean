/- Walks over the journal's laws: JournalStops. -/
import Derived.Test.YtkdjefnnhanhhaaUb
set_option linter.unusedVariables false
namespace Go.Proofs.Ytkdjefnnhanhhaa
open Go Go.RowKit Go.Mem Go.Jn Go.Shelf
set_option linter.unusedVariables false
attribute [local go_sem] Oper.semAt_some

set_option maxRecDepth 1000000 in
set_option maxHeartbeats 12800000 in
theorem journalStops_walk (zp : Option Addr) (zlen zcap : Nat) (zs : List Int) (c : Int) (w : World) (hz : RdI .i64 w (.slice zp zlen zcap) zs) (hzl : zs.length = zlen) (hzw : ∀ y ∈ zs, (Lit.int .i64 y).wf = true) (hrc : zcap * 8 ≤ 140737488351232) (h3 : (Lit.int .i64 c).wf = true) :
    Calls Try.prog 5 #[.slice zp zlen zcap, .int .i64 c] w fun e w' => e = .returned (.bool true) ∧ Below w.heap.size w w' := by
  have hmm := @run_makeMap Try.prog
  have hq := fun (f : Fn) (x y : Array Value) (w : World) => run_eql_func_nil (P := Try.prog) Try.underlying47 f x y w
  have A1 := hid (labs_any c · h3)
  obtain ⟨c0, hc0⟩ : ∃ n, absN' c = n := ⟨_, rfl⟩
  rw [hc0] at A1
  obtain ⟨n, hn⟩ : ∃ n, c0 % 30 = n := ⟨_, rfl⟩
  have m1 : (c0 : Int) % 30 = (n : Int) := by omega
  have m1' : (c0 : Int).tmod 30 = (n : Int) := by rw [← hn]; rfl
  have hnl : n < 30 := by omega
  have hzb : zlen ≤ 17592186044416 := by
    obtain ⟨_, _, e, h1, h2, _⟩ := hz
    simp only [Value.slice.injEq] at e
    omega
  have hzb' : (zlen : Int) ≤ 9223372036854775807 := by omega
  obtain ⟨B, hB⟩ : ∃ B, w.heap.size = B := ⟨_, rfl⟩
  obtain ⟨W0, hW0⟩ : ∃ W, (w.alloc (.cells #[.int .i64 c] 3)).alloc (.cells #[.bool false] 4) = W := ⟨_, rfl⟩
  have hb0 : Below w.heap.size w W0 := by rw [← hW0]; exact ((Below.refl _ _).alloc (Nat.le_refl _) _).alloc (by simp) _
  have hs0 : W0.heap.size = B + 2 := by rw [← hW0, ← hB]; simp
  have hx0 : W0.heap[B]? = some (.cells #[.int .i64 c] 3 (0, 0)) := by rw [← hW0, ← hB]; exact (alloc_old (by simp)).trans (alloc_new _ _)
  have hx1 : W0.heap[B + 1]? = some (.cells #[.bool false] 4 (0, 0)) := by rw [← hW0, ← hB]; exact alloc_at (by simp)
  have HB0 := hid hb0
  have HX0 := hid hx0
  have HX1 := hid hx1
  have HBE := hid hB
  have HS0 := hid hs0
  have HZ := hid (hz.below hb0)
  have HZW := hid hzw
  have HZL := hid hzl
  clear hc0 hn hz hzl hzw h3 hrc hb0 hx0 hx1 hs0
  refine enter_marks Try.func5 rfl ?_
  simp only [Try.ntmps5, List.size_toArray, List.length_cons, List.length_nil, Nat.reduceAdd, Nat.reduceSub, Array.replicate_succ, Array.replicate_zero, List.push_toArray, List.append_toArray, List.nil_append, List.cons_append]
  go_wp2_with fail
  refine (jawake_any _).mono ?_
  rintro e w1 ⟨rfl, hb1⟩
  have HB1 := hid hb1
  clear hb1 hW0
  go_wp2_with fail
  refine (tnew_any 40 400 (by omega) (by omega) w1).mono ?_
  rintro e w2 ⟨rfl, hT, hb2⟩
  have HOP := hid (openNew_any (nb := 40) (size := 400) (by omega) (by omega) (by omega) (by omega) hT)
  obtain ⟨T, hTe⟩ : ∃ T, w1.heap.size = T := ⟨_, rfl⟩
  have HB2 := hid (HB1.out.trans (hb2.mono HB1.out.size))
  have hTw : W0.heap.size ≤ T := by rw [← hTe]; exact HB1.out.size
  rw [hTe] at HOP ⊢
  clear hT hb2
  go_wp2_with fail
  refine HOP.out.mono ?_
  rintro e w3 ⟨J, s, rfl, hJ, hS, hF, hm, hI, hO, hn4, hs4⟩
  have HB3 := HB2.out.trans (hF.below (B := W0.heap.size) HB2.out.size (fun j hj h => by omega))
  have HP := hid (Px.made (w := W0) hS (Sx.new hI hO hn4 hs4 hm) HB3 hTw hm)
  have HV := hid (show V3 s.j.m from by rw [hm]; exact V3.nil)
  obtain ⟨mb, hmb⟩ : ∃ m, w3.heap.size = m := ⟨_, rfl⟩
  rw [hmb] at HP
  clear hS hF hm hJ hI hO hn4 hs4 HOP HB1 HB3 HB2
  go_wp2_with fail
  refine Code.wp_mono NoPanic.imp ?_
  refine stops_sets J T mb zlen zcap zp zs W0 _ s _ _ _ _ _ _ _ _ _ _ _ _ _ _ _ _ _ _ _ _ _ _ _ _ _ _ _ _ _ _ _ _ _ _ _ _ _ _ _ _ _ _ _ _ _ _ _ _ _ _ _ _ _ _ _ _ _ _ _ _ _ _ _ _ _ _ _ _ _ _ _ _ _ _ _ _ _ _ _ _ _ _ _ _ _ _ _ _ _ _ _ _ _ _ _ _ _ _ _ _ _ _ _ _ _ _ _ _ _ _ _ _ _ _ _ _ _ _ _ HZ.out HZL.out HZW.out hzb HP.out HV.out ?_
  intro aF iv wr s2 hfr hP2 hV2
  obtain ⟨u11, hfr⟩ := hfr
  obtain ⟨u36, hfr⟩ := hfr
  obtain ⟨u37, hfr⟩ := hfr
  obtain ⟨u38, hfr⟩ := hfr
  obtain ⟨u39, hfr⟩ := hfr
  obtain ⟨u40, hfr⟩ := hfr
  obtain ⟨u41, hfr⟩ := hfr
  obtain ⟨u42, hfr⟩ := hfr
  obtain ⟨u43, hfr⟩ := hfr
  obtain ⟨u44, hfr⟩ := hfr
  obtain ⟨u45, hfr⟩ := hfr
  obtain ⟨u46, hfr⟩ := hfr
  obtain ⟨u47, hfr⟩ := hfr
  obtain ⟨u48, hfr⟩ := hfr
  obtain ⟨u49, hfr⟩ := hfr
  obtain ⟨u50, hfr⟩ := hfr
  obtain ⟨u51, hfr⟩ := hfr
  obtain ⟨u52, hfr⟩ := hfr
  obtain ⟨u53, hfr⟩ := hfr
  obtain ⟨u54, hfr⟩ := hfr
  obtain ⟨u55, hfr⟩ := hfr
  obtain ⟨u56, hfr⟩ := hfr
  obtain ⟨u57, hfr⟩ := hfr
  obtain ⟨u58, hfr⟩ := hfr
  obtain ⟨u59, hfr⟩ := hfr
  obtain ⟨u60, hfr⟩ := hfr
  obtain ⟨u61, hfr⟩ := hfr
  obtain ⟨u62, hfr⟩ := hfr
  obtain ⟨u63, hfr⟩ := hfr
  obtain ⟨u64, hfr⟩ := hfr
  subst hfr
  have HP2 := hid hP2
  have HV2 := hid hV2
  have hb2 := hP2.b
  have HBX := hid hb2
  have hx0 := (hb2.block B (by rw [HS0.out]; omega)).trans HX0.out
  have hx1 := (hb2.block (B + 1) (by rw [HS0.out]; omega)).trans HX1.out
  have c3 := cell_at hx0 0
  have f3 := free_at hx0 0
  simp only [List.getElem?_toArray, List.getElem?_cons_zero] at c3
  have HY0 := hid hx0
  have HY1 := hid hx1
  clear hP2 hV2 hb2 hx0 hx1 HP HV
  go_wp2_with fail
  refine (A1.out _).mono ?_
  rintro e w5 ⟨rfl, rfl⟩
  go_wp2_with fail
  obtain ⟨G, hG⟩ : ∃ G, wr.heap.size = G := ⟨_, rfl⟩
  rw [hG]
  obtain ⟨W5, hW5⟩ : ∃ W, (wr.setCell ⟨B, 0, none⟩ (.int .i64 (n : Nat))).alloc (.cells #[.slice none 0 0] 45) = W := ⟨_, rfl⟩
  have hs5 : W5.heap.size = G + 1 := by rw [← hW5]; simp [hG]
  have hxG : W5.heap[G]? = some (.cells #[.slice none 0 0] 45 (0, 0)) := by rw [← hW5]; exact alloc_at (by simp [hG])
  have hBG : B + 2 ≤ G := by have := HBX.out.size; have := HS0.out; omega
  have hO5 : Off (fun i => i = B) wr W5 := by rw [← hW5]; exact (((Off.refl _ _).setCell (Q := fun i => i = B) (p := ⟨B, 0, none⟩) rfl _).alloc _)
  have hx0 : W5.heap[B]? = some (.cells #[.int .i64 (n : Nat)] 3 (0, 0)) := by rw [← hW5]; exact (alloc_old (by simp; omega)).trans (set_at HY0.out 0 (.int .i64 (n : Nat)))
  have hx1 : W5.heap[B + 1]? = some (.cells #[.bool false] 4 (0, 0)) := (hO5.block (B + 1) (by omega) (by omega)).trans HY1.out
  have hb5 : Below w.heap.size w W5 := (HB0.out.comp HBX.out).trans (hO5.below (by have := HBE.out; omega) (fun j hj e => by have := HBE.out; omega))
  refine (jall_any J _).mono ?_
  rintro e w6 ⟨rfl, rfl⟩
  rw [hW5, hs5]
  obtain ⟨W6, hW6⟩ : ∃ W, W5.alloc (.cells #[.pointer (some ⟨J, 0, none⟩)] 31) = W := ⟨_, rfl⟩
  have hs6 : W6.heap.size = G + 2 := by rw [← hW6]; simp [hs5]
  have hb6 : Below W5.heap.size W5 W6 := by rw [← hW6]; exact (Below.refl _ _).alloc (Nat.le_refl _) _
  have hxJ : W6.heap[G + 1]? = some (.cells #[.pointer (some ⟨J, 0, none⟩)] 31 (0, 0)) := by rw [← hW6]; exact alloc_at hs5.symm
  obtain ⟨hT2, b2, rv2, hJ2⟩ := HP2.out.st
  have hBT : B + 2 ≤ T := by have := HS0.out; omega
  have hJl := lt_at hJ2.hp
  have hbl := hJ2.mp.lt
  have hml := HP2.out.m.lt
  have hmB : B + 2 ≤ mb := by have := HP2.out.h.2.2; have := HS0.out; omega
  have hJq : T ≤ J := hJ2.qj.1
  have hbq : T ≤ b2 := hJ2.qb.1
  have hJ6 : W6.heap[J]? = wr.heap[J]? := (hb6.block J (by omega)).trans (hO5.block J hJl (by omega))
  have hmp6 : MAt Try.prog 38 38 W6 b2 s2.j.m := (hJ2.mp.same (hO5.block b2 hbl (by omega))).below hb6
  have hm6 : MAt Try.prog 38 38 W6 mb s2.j.m := (HP2.out.m.same (hO5.block mb hml (by omega))).below hb6
  have hw6 : Below w.heap.size w W6 := hb5.trans (hb6.mono hb5.size)
  have hx0' := (hb6.block B (by omega)).trans hx0
  have hx1' := (hb6.block (B + 1) (by omega)).trans hx1
  have hxG' := (hb6.block G (by omega)).trans hxG
  obtain ⟨M, hM⟩ : ∃ M, s2.j.m = M := ⟨_, rfl⟩
  have hfew : M.length ≤ 95 := by rw [← hM]; exact HP2.out.x.few
  have HV3 := hid (show V3 M from by rw [← hM]; exact HV2.out)
  rw [hM] at hmp6 hm6
  rw [hG] at hJl hbl hml
  have hJc : W6.cell? ⟨J, 1, none⟩ = some (.map (some b2)) := by rw [World.cell?_of_block (a := ⟨J, 1, none⟩) hJ6, cell_at hJ2.hp]; rfl
  have hst : SeqStopsK Fence.wide 9 Try.prog 30 #[.pointer (some ⟨G + 1, 0, none⟩)] (kvE M) (KpR W6.heap.size (fun i => i = G) (gotR G)) (fun ys => ys = List.range M.length) (fun pre => pre <+: List.range M.length) M.length W6 := by
    intro l0 Jv Jx W hbW hJv hJx hY h0
    refine jall1_inR 9 (by omega) l0 (G + 1) J b2 W6.heap.size (fun i => i = G) (gotR G) M (by omega) Jv Jx hY W hJv ?_ ?_ (hmp6.below hbW) hbW.size ⟨by omega, by omega, by omega⟩ ⟨by omega, by omega, by omega⟩ ?_ ?_ h0
    · rw [cell_at ((hbW.block _ (by omega)).trans hxJ)]; rfl
    · exact (hbW.cell (p := ⟨J, 1, none⟩) (show J < _ by omega)).trans hJc
    · intro i hi e; have := hbW.size; omega
    · rintro w9 hb9 j ⟨l, c, hc⟩
      have h9 : w9.heap[G]? = some (.cells #[.slice none 0 0] 45 (0, 0)) := (hb9.block G (by have := hbW.size; omega)).trans ((hbW.block G (by omega)).trans hxG')
      rw [cell_at h9] at hc
      simp at hc
  have HST := hid hst
  have HM6 := hid hm6
  have HW6 := hid hw6
  have HZ0 := hid hx0'
  have HZ1 := hid hx1'
  have HZG := hid hxG'
  have hMf := hm6.2
  have HMF := hid hMf
  clear hst hm6 hw6 hx0' hx1' hxG' hmp6 hJc hJ6 hx0 hx1 hxG hxJ hb5 hb6 hO5 hJ2 hT2 hW5 HY0 HY1 HBX HP2 HV2 f3 c3 HX0 HX1 hJl hbl hJq hbq hM hMf
  rw [hW6]
  clear hW6
  go_wp2_with fail
  refine wpIn_wide.1 (wpIn_rangeFunc_ownG (n := 10) (a₁ := ?fr) rfl (by omega) (gf := 30) (lb := #[.pointer (some ⟨G + 1, 0, none⟩)]) rfl trivial (enters_of Try.func30 (by kernel_rfl) rfl) HST.out
    KpR.trans (fun W l o o' hl ho hc _ => KpR.putObj o' ho hc hl (by omega)) (Below.refl _ _) (fun _ => rfl)
    (fun pre W => Sn W6 G n M pre W)
    (fun c pre W => c = .exit 2 ∧ ∃ l' x, pre = l' ++ [x] ∧ l'.length = n ∧ Sn W6 G n M l' W)
    ?own ?ownx ?start ?assign ?body ?done ?stop)
  case assign =>
    intro l0 x W K hK
    unfold kvE
    gi_wp2
    exact hK
  case own =>
    rintro pre A C row h hg hrow
    exact h.kept hg hrow
  case ownx =>
    rintro c pre A C row ⟨rfl, l', x, h1, h2, h3⟩ hg hrow
    exact ⟨rfl, l', x, h1, h2, h3.kept hg hrow⟩
  case start => exact ⟨Off.refl _ _, Nat.zero_le _, _, HZG.out, Mem.Own.nil _ _ _ _⟩
  case body =>
    rintro l0 pre x W h hlt
    obtain ⟨gv, g1, g2⟩ := h.own
    obtain ⟨a9, c9, hgv, g3, g4, g5⟩ := g2.rd
    have cG := cell_at g1 0
    have fG := free_at g1 0
    have cB := cell_at ((h.off.block B (by omega) (by omega)).trans HZ0.out) 0
    simp only [List.getElem?_toArray, List.getElem?_cons_zero] at cG cB
    have hv : (M[x]?.getD (0, 0)).2 = keyI M x * 3 % 18446744073709551616 := HV3.out.at x
    have hkf : (M[x]?.getD (0, 0)).1 < 18446744073709551616 := (getD_fit HMF.out x).1
    obtain ⟨v, hve⟩ : ∃ v, (M[x]?.getD (0, 0)).2 = v := ⟨_, rfl⟩
    have hke : (M[x]?.getD (0, 0)).1 = keyI M x := rfl
    rw [hve] at hv
    rw [hve, hke]
    rw [hke] at hkf
    obtain ⟨k, hk⟩ : ∃ k, keyI M x = k := ⟨_, rfl⟩
    rw [hk] at hv hkf ⊢
    have w2 : IntKind.u64.wrap ((k : Int) * 3) = (v : Int) := by
      rw [hv]; unfold IntKind.wrap IntKind.bits IntKind.signed; simp
    have e1 : ((v : Int) != (v : Int)) = false := by simp
    obtain ⟨pn, hpn⟩ : ∃ p, pre.length = p := ⟨_, rfl⟩
    rw [List.length_map, hpn] at hgv
    subst hgv
    have HK := hid hk
    have HPN := hid hpn
    have HSN := hid h
    have HG1 := hid g1
    have HG2 := hid g2
    have hple := h.le
    rw [hpn] at hple
    clear h g1 g2 g3 g4 g5 hk hpn hve hke hv
    by_cases hpe : pn = n
    · subst hpe
      gi_wp2_with fail
      exact ⟨KeepsFrom.refl _ _, rfl, pre, x, rfl, HPN.out, HSN.out⟩
    · have j1 : ((pn : Int) == (n : Int)) = false := beq_eq_false_iff_ne.2 (by omega)
      obtain ⟨i0, hi, hz0, hz1, hz2⟩ := info_parts info_u64
      have h2 := HG2.out
      unfold Mem.Own at h2
      rw [List.length_map, HPN.out] at h2
      have H2 := hid h2
      clear h2
      gi_wp2_with (first
        | (gi_at_builtin; refine wpListIn_append_own_at _ rfl _ _ 45 rfl W6.heap.size 38 i0 (.int .u64 0) 1 8 Try.underlying45 hi hz0 hz1 hz2 rfl (by decide) _ pn _ rfl (H2.out.alloc _) ⟨W.heap.size, 0, none⟩ 1 1 [.int .u64 (k : Nat)] rfl rfl (cell_one_new _ _ _) (fun u hu => by simp at hu; subst hu; rfl) (by unfold maxLen; omega) (by omega) (by have := HSN.out.off.size; simp; omega) ?_; intro v' w3 hown' hg3 hnil3 hat3
           have hG3 : w3.heap[G]? = some (.cells #[.slice a9 pn c9] 45 (0, 0)) := (hg3.block G (by simp; have := lt_at HG1.out; omega) (fun e => by have := (HG2.out.blk G e.symm).1; omega)).trans ((alloc_old (lt_at HG1.out)).trans HG1.out)
           have c3 := cell_at hG3 0
           have f3 := free_at hG3 0
           simp only [List.getElem?_toArray, List.getElem?_cons_zero] at c3
           obtain ⟨g', cap', rfl⟩ : ∃ g' cap', v' = .slice (some ⟨g', 0, none⟩) (pn + 1) cap' := by
             rcases hown'.2 with ⟨_, h0⟩ | ⟨g', cap', _, e, _⟩
             · exact absurd h0 (by omega)
             · exact ⟨g', cap', e⟩
           have HOWN := hid hown'
           have HGR3 := hid hg3
           have HAT := hid (show (Value.slice (some ⟨g', 0, none⟩) (pn + 1) cap').ownBlock = (Value.slice a9 pn c9).ownBlock ∨ (Value.slice (some ⟨g', 0, none⟩) (pn + 1) cap').ownBlock = some (W.heap.size + 1) from by have h9 := hat3; rw [World.size_alloc] at h9; exact h9)
           clear hown' hg3 hnil3 hat3 hG3
           go_frame)
        | fail)
      have hfin := Sn.snoc (x := x) HSN.out (by omega) (by rw [HPN.out]; omega) HG1.out HG2.out (by rw [HK.out]; exact HGR3.out) (by rw [HPN.out]) (by rw [HPN.out, HK.out]; exact HOWN.out) HAT.out
      exact hfin
  case done =>
    rintro D ys W hD hys h hK
    obtain ⟨h1, gv, g1, hrd⟩ := h.row (L := M.length) hys (Nat.le_refl _)
    have hMW : MAt Try.prog 38 38 W mb M := HM6.out.same (h.off.block mb (by omega) (by omega))
    have hgvf : ∃ a c, gv = .slice a (M.length) c := by
      obtain ⟨a, c, e, _⟩ := hrd
      refine ⟨a, c, ?_⟩
      rw [e, List.length_take, Nat.min_eq_left (by simp [keysM]; try omega)]
    obtain ⟨a9, c9', rfl⟩ := hgvf
    have HOFF := hid h.off
    have HG1 := hid g1
    have HRD := hid hrd
    have HMW := hid hMW
    have HKD := hid hK
    have HDD := hid hD
    clear h g1 hrd hMW hK hD
    dsimp only
    go_wp2_with fail
    refine Code.wp_mono NoPanic.imp ?_
    refine stops_loop G mb (M.length) M _ W _ _ _ _ _ _ _ _ _ _ _ _ _ _ _ _ _ _ _ _ _ _ _ _ _ _ _ _ _ _ _ _ _ _ _ _ _ _ _ _ _ _ _ _ _ _ _ _ _ _ _ _ _ _ _ _ _ _ _ _ _ _ _ _ _ _ _ _ _ _ _ _ _ _ _ _ _ _ _ _ _ _ _ _ _ _ _ _ _ _ _ _ _ _ _ _ _ _ _ _ _ _ _ _ _ _ _ _ _ _ _ _ _ _ _ _ _ _ _ _ HG1.out HRD.out (Nat.le_refl _) (by omega) HMW.out (by omega) ?_
    intro aF iv9 wr9 hfr hb9
    obtain ⟨y17, hfr⟩ := hfr
    obtain ⟨y18, hfr⟩ := hfr
    obtain ⟨y87, hfr⟩ := hfr
    obtain ⟨y88, hfr⟩ := hfr
    obtain ⟨y89, hfr⟩ := hfr
    obtain ⟨y90, hfr⟩ := hfr
    obtain ⟨y91, hfr⟩ := hfr
    obtain ⟨y92, hfr⟩ := hfr
    obtain ⟨y93, hfr⟩ := hfr
    obtain ⟨y94, hfr⟩ := hfr
    obtain ⟨y95, hfr⟩ := hfr
    obtain ⟨y96, hfr⟩ := hfr
    obtain ⟨y97, hfr⟩ := hfr
    obtain ⟨y98, hfr⟩ := hfr
    obtain ⟨y99, hfr⟩ := hfr
    obtain ⟨y100, hfr⟩ := hfr
    obtain ⟨y101, hfr⟩ := hfr
    obtain ⟨y102, hfr⟩ := hfr
    obtain ⟨y103, hfr⟩ := hfr
    obtain ⟨y104, hfr⟩ := hfr
    obtain ⟨y105, hfr⟩ := hfr
    obtain ⟨y106, hfr⟩ := hfr
    obtain ⟨y107, hfr⟩ := hfr
    obtain ⟨y108, hfr⟩ := hfr
    obtain ⟨y109, hfr⟩ := hfr
    subst hfr
    have HB9 := hid hb9
    have q3 := cell_at ((hb9.block B (by have := HOFF.out.size; omega)).trans ((HOFF.out.block B (by omega) (by omega)).trans HZ0.out)) 0
    have hx4 := (hb9.block (B + 1) (by have := HOFF.out.size; omega)).trans ((HOFF.out.block (B + 1) (by omega) (by omega)).trans HZ1.out)
    have HX4 := hid hx4
    have f4 := free_at hx4 0
    have q4 := cell_at hx4 0
    have qG := cell_at ((hb9.block G (lt_at HG1.out)).trans HG1.out) 0
    simp only [List.getElem?_toArray, List.getElem?_cons_zero] at q3 q4 qG
    have hlen := fun ty => (HMW.out.below hb9).len tm_u64 ty
    have HKD9 := hid ((hb9.block D (lt_at HKD.out)).trans HKD.out)
    clear hb9 hx4
    have hBD : B + 1 ≠ D := by have := HDD.out; omega
    have hend : ∀ V, V = wr9.setCell ⟨B + 1, 0, none⟩ (.bool true) → V.heap[D]? = some (.deferred (some [])) ∧ (V.putObj D (.deferred none)).cell? ⟨B + 1, 0, none⟩ = some (.bool true) ∧ Below w.heap.size w (V.putObj D (.deferred none)) := fun V hV => by
      subst hV
      refine ⟨(set_other (a := ⟨B + 1, 0, none⟩) (fun e => hBD e.symm)).trans HKD9.out, ?_, ?_⟩
      · rw [World.cell?_of_block (a := ⟨B + 1, 0, none⟩) (World.putObj_heap_other hBD), cell_at (set_at HX4.out 0 (.bool true))]
        rfl
      · have b1 := HBE.out
        have b2 := HOFF.out.size
        have b3 := HB9.out.size
        have b4 := HDD.out
        have k1 : Below w.heap.size w wr9 := (HW6.out.trans (HOFF.out.below HW6.out.size (fun j hj e => by omega))).trans (HB9.out.mono (by omega))
        exact (k1.setCell (p := ⟨B + 1, 0, none⟩) (show w.heap.size ≤ B + 1 by omega) _).grown (grownBy_putObj' _ _ _) (by simp; omega) (fun k e => by cases e; omega)
    have HEND := hid hend
    clear hend
    have hcm : ((M.length : Int) == (n : Int)) = false ∨ ((M.length : Int) == (n : Int)) = true := by cases ((M.length : Int) == (n : Int)) <;> simp
    rcases hcm with hcm | hcm
    all_goals (
      go_wp2_with fail
      obtain ⟨e1, e2, e3⟩ := HEND.out _ rfl
      exact postM_ret1 e1 (v := .bool true) (by simp [results, Try.results5, go_sem, e2]) ⟨rfl, e3⟩)
  case stop =>
    rintro D c9 pre W hD hsp ⟨rfl, l', x, rfl, hl', h⟩ hK
    obtain ⟨hr1, hr2⟩ := pre_range hsp
    refine wpIn_wide.2 ?_
    obtain ⟨h1, gv, g1, hrd⟩ := h.row (L := n) (by rw [← hl']; exact hr1) (by omega)
    have hMW : MAt Try.prog 38 38 W mb M := HM6.out.same (h.off.block mb (by omega) (by omega))
    have hgvf : ∃ a c, gv = .slice a (n) c := by
      obtain ⟨a, c, e, _⟩ := hrd
      refine ⟨a, c, ?_⟩
      rw [e, List.length_take, Nat.min_eq_left (by simp [keysM]; try omega)]
    obtain ⟨a9, c9', rfl⟩ := hgvf
    have HOFF := hid h.off
    have HG1 := hid g1
    have HRD := hid hrd
    have HMW := hid hMW
    have HKD := hid hK
    have HDD := hid hD
    clear h g1 hrd hMW hK hD
    dsimp only
    go_wp2_with fail
    refine Code.wp_mono NoPanic.imp ?_
    refine stops_loop G mb (n) M _ W _ _ _ _ _ _ _ _ _ _ _ _ _ _ _ _ _ _ _ _ _ _ _ _ _ _ _ _ _ _ _ _ _ _ _ _ _ _ _ _ _ _ _ _ _ _ _ _ _ _ _ _ _ _ _ _ _ _ _ _ _ _ _ _ _ _ _ _ _ _ _ _ _ _ _ _ _ _ _ _ _ _ _ _ _ _ _ _ _ _ _ _ _ _ _ _ _ _ _ _ _ _ _ _ _ _ _ _ _ _ _ _ _ _ _ _ _ _ _ _ HG1.out HRD.out (by omega) (by omega) HMW.out (by omega) ?_
    intro aF iv9 wr9 hfr hb9
    obtain ⟨y17, hfr⟩ := hfr
    obtain ⟨y18, hfr⟩ := hfr
    obtain ⟨y87, hfr⟩ := hfr
    obtain ⟨y88, hfr⟩ := hfr
    obtain ⟨y89, hfr⟩ := hfr
    obtain ⟨y90, hfr⟩ := hfr
    obtain ⟨y91, hfr⟩ := hfr
    obtain ⟨y92, hfr⟩ := hfr
    obtain ⟨y93, hfr⟩ := hfr
    obtain ⟨y94, hfr⟩ := hfr
    obtain ⟨y95, hfr⟩ := hfr
    obtain ⟨y96, hfr⟩ := hfr
    obtain ⟨y97, hfr⟩ := hfr
    obtain ⟨y98, hfr⟩ := hfr
    obtain ⟨y99, hfr⟩ := hfr
    obtain ⟨y100, hfr⟩ := hfr
    obtain ⟨y101, hfr⟩ := hfr
    obtain ⟨y102, hfr⟩ := hfr
    obtain ⟨y103, hfr⟩ := hfr
    obtain ⟨y104, hfr⟩ := hfr
    obtain ⟨y105, hfr⟩ := hfr
    obtain ⟨y106, hfr⟩ := hfr
    obtain ⟨y107, hfr⟩ := hfr
    obtain ⟨y108, hfr⟩ := hfr
    obtain ⟨y109, hfr⟩ := hfr
    subst hfr
    have HB9 := hid hb9
    have q3 := cell_at ((hb9.block B (by have := HOFF.out.size; omega)).trans ((HOFF.out.block B (by omega) (by omega)).trans HZ0.out)) 0
    have hx4 := (hb9.block (B + 1) (by have := HOFF.out.size; omega)).trans ((HOFF.out.block (B + 1) (by omega) (by omega)).trans HZ1.out)
    have HX4 := hid hx4
    have f4 := free_at hx4 0
    have q4 := cell_at hx4 0
    have qG := cell_at ((hb9.block G (lt_at HG1.out)).trans HG1.out) 0
    simp only [List.getElem?_toArray, List.getElem?_cons_zero] at q3 q4 qG
    have hlen := fun ty => (HMW.out.below hb9).len tm_u64 ty
    have HKD9 := hid ((hb9.block D (lt_at HKD.out)).trans HKD.out)
    clear hb9 hx4
    have hBD : B + 1 ≠ D := by have := HDD.out; omega
    have hend : ∀ V, V = wr9.setCell ⟨B + 1, 0, none⟩ (.bool true) → V.heap[D]? = some (.deferred (some [])) ∧ (V.putObj D (.deferred none)).cell? ⟨B + 1, 0, none⟩ = some (.bool true) ∧ Below w.heap.size w (V.putObj D (.deferred none)) := fun V hV => by
      subst hV
      refine ⟨(set_other (a := ⟨B + 1, 0, none⟩) (fun e => hBD e.symm)).trans HKD9.out, ?_, ?_⟩
      · rw [World.cell?_of_block (a := ⟨B + 1, 0, none⟩) (World.putObj_heap_other hBD), cell_at (set_at HX4.out 0 (.bool true))]
        rfl
      · have b1 := HBE.out
        have b2 := HOFF.out.size
        have b3 := HB9.out.size
        have b4 := HDD.out
        have k1 : Below w.heap.size w wr9 := (HW6.out.trans (HOFF.out.below HW6.out.size (fun j hj e => by omega))).trans (HB9.out.mono (by omega))
        exact (k1.setCell (p := ⟨B + 1, 0, none⟩) (show w.heap.size ≤ B + 1 by omega) _).grown (grownBy_putObj' _ _ _) (by simp; omega) (fun k e => by cases e; omega)
    have HEND := hid hend
    clear hend
    have hcm : ((n : Int) == (n : Int)) = true := by simp
    all_goals (
      go_wp2_with fail
      obtain ⟨e1, e2, e3⟩ := HEND.out _ rfl
      exact postM_ret1 e1 (v := .bool true) (by simp [results, Try.results5, go_sem, e2]) ⟨rfl, e3⟩)
end Go.Proofs.Ytkdjefnnhanhhaa
