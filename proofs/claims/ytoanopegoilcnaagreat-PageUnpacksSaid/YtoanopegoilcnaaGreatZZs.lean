/- Walks over firkinref05: the same is read of two pages. -/
import Derived.Test.YtoanopegoilcnaaGreatJw
import Derived.Test.YtoanopegoilcnaaGreatZKt
import Derived.Test.YtoanopegoilcnaaGreatZKq
set_option linter.unusedVariables false
namespace Go.Proofs.YtoanopegoilcnaaGreat
open Go.RowKit Go.Mem Go.Pg

set_option maxRecDepth 100000 in
set_option maxHeartbeats 6400000 in
theorem r5same_any (v1 v2 : Value) (o : Opn) (w : World) (h1 : OpV w v1 o) (h2 : OpV w v2 o) (hw : o.hd.Wf) :
    Calls Tryz.prog 14 #[v1, v2] w fun e w' => e = .returned (.bool true) ∧ Below w.heap.size w w' := by
  obtain ⟨sa1, sc1, wa1, wc1, ra1, rc1, rfl, s1, t1, u1⟩ := h1.out
  obtain ⟨sa2, sc2, wa2, wc2, ra2, rc2, rfl, s2, t2, u2⟩ := h2.out
  obtain ⟨H, hH⟩ : ∃ H, o.hd = H := ⟨_, rfl⟩
  rw [hH] at s1 s2 hw ⊢
  obtain ⟨Wd, hWd⟩ : ∃ W, o.words = W := ⟨_, rfl⟩
  rw [hWd] at t1 t2 ⊢
  obtain ⟨R, hR⟩ : ∃ R, o.sectors.map (·.getD []) = R := ⟨_, rfl⟩
  have hRl : o.sectors.length = R.length := by rw [← hR, List.length_map]
  rw [hR, hRl] at u1 u2
  rw [hRl]
  obtain ⟨nw, hnw⟩ : ∃ n, Wd.length = n := ⟨_, rfl⟩
  obtain ⟨ns, hns⟩ : ∃ n, R.length = n := ⟨_, rfl⟩
  rw [hnw] at t1 t2 ⊢
  rw [hns] at u1 u2 ⊢
  generalize o.erased = er
  generalize o.whole = wh
  generalize o.flips = fl
  have S1 := hid s1
  have S2 := hid s2
  have T1 := hid t1
  have T2 := hid t2
  have U1 := hid u1
  have U2 := hid u2
  have HWF := hid hw
  have HNW := hid hnw
  have HNS := hid hns
  clear h1 h2 s1 s2 t1 t2 u1 u2 hw hH hWd hR hRl hnw hns
  go_enter Tryz.func14, Tryz.ntmps14
  go_upto_region 1 with (fail)
  obtain ⟨W, hW⟩ : ∃ W, (w.alloc (.cells #[.bool er, .int .i64 (wh : Nat), .int .i64 H.kind, .int .u32 (H.id : Nat), .int .i64 H.row, .int .i64 H.place, .int .i64 H.width, .slice sa1 H.slots.length sc1, .slice wa1 nw wc1, .slice ra1 ns rc1, .int .i64 (fl : Nat)] 50)).alloc (.cells #[.bool er, .int .i64 (wh : Nat), .int .i64 H.kind, .int .u32 (H.id : Nat), .int .i64 H.row, .int .i64 H.place, .int .i64 H.width, .slice sa2 H.slots.length sc2, .slice wa2 nw wc2, .slice ra2 ns rc2, .int .i64 (fl : Nat)] 50) = W := ⟨_, rfl⟩
  have hx1 : W.heap[w.heap.size]? = some (.cells #[.bool er, .int .i64 (wh : Nat), .int .i64 H.kind, .int .u32 (H.id : Nat), .int .i64 H.row, .int .i64 H.place, .int .i64 H.width, .slice sa1 H.slots.length sc1, .slice wa1 nw wc1, .slice ra1 ns rc1, .int .i64 (fl : Nat)] 50 (0, 0)) := by rw [← hW]; exact (alloc_old (by simp)).trans (alloc_new w _)
  have hx2 : W.heap[w.heap.size + 1]? = some (.cells #[.bool er, .int .i64 (wh : Nat), .int .i64 H.kind, .int .u32 (H.id : Nat), .int .i64 H.row, .int .i64 H.place, .int .i64 H.width, .slice sa2 H.slots.length sc2, .slice wa2 nw wc2, .slice ra2 ns rc2, .int .i64 (fl : Nat)] 50 (0, 0)) := by rw [← hW]; exact alloc_at (by simp)
  have hbW : Below w.heap.size w W := by rw [← hW]; exact bl_alloc (bl_alloc (Below.refl _ _) _) _
  rw [hW]
  obtain ⟨b2, hE2⟩ : ∃ b, w.heap.size + 1 = b := ⟨_, rfl⟩
  rw [hE2] at hx2 ⊢
  obtain ⟨b1, hE1⟩ : ∃ b, w.heap.size = b := ⟨_, rfl⟩
  rw [hE1] at hx1 ⊢
  obtain ⟨p0, p1, p2, p3, p4, p5, p6, p7, p8, p9, p10⟩ := op_cells hx1
  obtain ⟨q0, q1, q2, q3, q4, q5, q6, q7, q8, q9, q10⟩ := op_cells hx2
  have HX1 := hid hx1
  have HX2 := hid hx2
  have HBW := hid hbW
  have HSH := hid (sameHead_any _ _ H H W ⟨_, rfl, S1.out.below hbW⟩ ⟨_, rfl, S2.out.below hbW⟩ HWF.out HWF.out)
  clear hW hx1 hx2 hbW hE1 hE2
  go_wp2_with fail
  refine HSH.out.mono ?_
  rintro e w2 ⟨rs, rfl, hrs, hb2⟩
  obtain rfl : rs = true := by first | exact hrs.2 rfl | exact hrs.2 trivial
  have hy1 := (hb2.block b1 (lt_at HX1.out)).trans HX1.out
  have hy2 := (hb2.block b2 (lt_at HX2.out)).trans HX2.out
  have HY1 := hid hy1
  have HY2 := hid hy2
  have HB2 := hid (HBW.out.comp hb2)
  clear p0 p1 p2 p3 p4 p5 p6 p7 p8 p9 p10 q0 q1 q2 q3 q4 q5 q6 q7 q8 q9 q10 hrs hb2 HSH
  obtain ⟨p0, p1, p2, p3, p4, p5, p6, p7, p8, p9, p10⟩ := op_cells hy1
  obtain ⟨q0, q1, q2, q3, q4, q5, q6, q7, q8, q9, q10⟩ := op_cells hy2
  clear hy1 hy2 p2 p3 p4 p5 p6 p7 q2 q3 q4 q5 q6 q7
  go_wp2_with fail
  go_loopg [6] nw (fun gk i wr => ∃ I : Nat, I + gk = nw ∧ i = .int .i64 I ∧ Below w2.heap.size w2 wr)
  case atStart => exact ⟨0, by omega, rfl, Below.refl _ _⟩
  case round =>
    clear p0 p1 p8 p9 p10 q0 q1 q8 q9 q10
    obtain ⟨I, hI, rfl, hb⟩ := hrel
    have HB := hid hb
    obtain ⟨p0, p1, p2, p3, p4, p5, p6, p7, p8, p9, p10⟩ := op_cells ((hb.block b1 (lt_at HY1.out)).trans HY1.out)
    obtain ⟨q0, q1, q2, q3, q4, q5, q6, q7, q8, q9, q10⟩ := op_cells ((hb.block b2 (lt_at HY2.out)).trans HY2.out)
    clear hb p0 p1 p2 p3 p4 p5 p6 p7 p10 q0 q1 q2 q3 q4 q5 q6 q7 q10
    by_cases hlt : I < nw
    · have hIi : (I : Int) < (nw : Int) := by omega
      obtain ⟨a1, c1, he1, x1, x2, x3⟩ := T1.out.below (HB2.out.comp HB.out)
      obtain ⟨a2, c2, he2, y1, y2, y3⟩ := T2.out.below (HB2.out.comp HB.out)
      rw [HNW.out] at he1 x1 he2 y1
      cases he1
      cases he2
      obtain ⟨g1, o1, rfl, z1⟩ := x3 I (by rw [HNW.out]; exact hlt)
      obtain ⟨g2, o2, rfl, z2⟩ := y3 I (by rw [HNW.out]; exact hlt)
      generalize Wd.getD I 0 = wv at *
      have x1' : (nw : Int) ≤ (wc1 : Int) := by omega
      have x2' : (wc1 : Int) ≤ 9223372036854775807 := by unfold maxLen at x2; omega
      have y1' : (nw : Int) ≤ (wc2 : Int) := by omega
      have y2' : (wc2 : Int) ≤ 9223372036854775807 := by unfold maxLen at y2; omega
      clear x1 x2 x3 y1 y2 y3
      go_wp2_with fail
      go_quiet (fail)
      go_wp2_with fail
      go_roundg (gk - 1)
      case measure => omega
      case rel => exact ⟨I + 1, by omega, by go_num, HB.out.drewN nq⟩
    · obtain rfl : I = nw := by omega
      have HB3 := hid (HB2.out.comp HB.out)
      obtain ⟨wo, rfl⟩ : ∃ wo : World, wo = wr := ⟨_, rfl⟩
      go_wp2_with fail
      go_loopg [7] ns (fun gk2 i wr2 => ∃ J : Nat, J + gk2 = ns ∧ i = .int .i64 J ∧ Below wo.heap.size wo wr2)
      case atStart => exact ⟨0, by omega, rfl, Below.refl _ _⟩
      case round =>
        clear p8 p9 q8 q9
        obtain ⟨J, hJ, rfl, hb⟩ := hrel
        have HBJ := hid hb
        obtain ⟨p0, p1, p2, p3, p4, p5, p6, p7, p8, p9, p10⟩ := op_cells (((HB.out.comp hb).block b1 (lt_at HY1.out)).trans HY1.out)
        obtain ⟨q0, q1, q2, q3, q4, q5, q6, q7, q8, q9, q10⟩ := op_cells (((HB.out.comp hb).block b2 (lt_at HY2.out)).trans HY2.out)
        clear hb p0 p1 p2 p3 p4 p5 p6 p7 p8 p10 q0 q1 q2 q3 q4 q5 q6 q7 q8 q10
        by_cases hlt2 : J < ns
        · have hJi : (J : Int) < (ns : Int) := by omega
          obtain ⟨a1, c1, he1, x1, x2, x3⟩ := U1.out.below (HB3.out.comp HBJ.out)
          obtain ⟨a2, c2, he2, y1, y2, y3⟩ := U2.out.below (HB3.out.comp HBJ.out)
          rw [HNS.out] at he1 x1 he2 y1
          cases he1
          cases he2
          obtain ⟨g1, o1, v1', rfl, z1, r1⟩ := x3 J (by rw [HNS.out]; exact hlt2)
          obtain ⟨g2, o2, v2', rfl, z2, r2⟩ := y3 J (by rw [HNS.out]; exact hlt2)
          have k1 : ∀ n, (convert 39 9 v1').run Tryz.prog (wr.drewN n) = .ok (.string (sv (R.getD J []))) (wr.drewN n) := fun n => conv_rd (r1.drewN n)
          have k2 : ∀ n, (convert 39 9 v2').run Tryz.prog (wr.drewN n) = .ok (.string (sv (R.getD J []))) (wr.drewN n) := fun n => conv_rd (r2.drewN n)
          obtain ⟨pa1, pc1, e1, _⟩ := r1
          obtain ⟨pa2, pc2, e2, _⟩ := r2
          subst e1 e2
          obtain ⟨n1, hn1⟩ : ∃ n, (R.getD J []).length = n := ⟨_, rfl⟩
          rw [hn1] at k1 z1 k2 z2
          generalize sv (R.getD J []) = str at *
          have x1' : (ns : Int) ≤ (rc1 : Int) := by omega
          have x2' : (rc1 : Int) ≤ 9223372036854775807 := by unfold maxLen at x2; omega
          have y1' : (ns : Int) ≤ (rc2 : Int) := by omega
          have y2' : (rc2 : Int) ≤ 9223372036854775807 := by unfold maxLen at y2; omega
          clear hn1 x1 x2 x3 y1 y2 y3
          go_wp2_with fail
          go_quiet (fail)
          go_wp2_with fail
          go_roundg (gk - 1)
          case measure => omega
          case rel => exact ⟨J + 1, by omega, by go_num, HBJ.out.drewN nq⟩
        · obtain rfl : J = ns := by omega
          go_wp2_with fail
          go_ret
          exact ⟨rfl, HB3.out.comp HBJ.out⟩
end Go.Proofs.YtoanopegoilcnaaGreat
