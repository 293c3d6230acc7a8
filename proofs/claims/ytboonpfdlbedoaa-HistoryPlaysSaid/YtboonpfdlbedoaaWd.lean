/- Walks over firkinref19: Begin, Write, Read, Sync, Cut. (Printed by a program.) -/
import Derived.Test.YtboonpfdlbedoaaWc
import Derived.Deep.RegionWith
namespace Go.Proofs.Ytboonpfdlbedoaa.Qv
open Go Go.RowKit Go.Mem Go.Hs Go.Proofs Go.Proofs.Ytboonpfdlbedoaa
set_option linter.unusedVariables false
theorem RwS.sl {Q : Nat → Prop} {w : World} {q gv gr : Nat} {v : Value} {S : List Nat} (h : RwS Q w q gv gr v S) : ∃ a l c, v = .slice a l c := by
  rcases h with ⟨rfl, _⟩ | ⟨g, cap, rfl, _⟩
  · exact ⟨_, _, _, rfl⟩
  · exact ⟨_, _, _, rfl⟩
theorem own_sl {B : Nat} {w : World} {v : Value} {S : List Nat} (h : Own .u64 31 B w v S) : ∃ a l c, v = .slice a l c := by
  obtain ⟨h1, h2 | ⟨g, cap, cur, rfl, _⟩⟩ := h
  · exact ⟨_, _, _, h2.1⟩
  · exact ⟨_, _, _, rfl⟩
section
variable {Q : Nat → Prop} {w : World} {q n gv cv gr cr i v : Nat} {vv rr : Nat → Value} {V R : Nat → List Nat}
set_option maxRecDepth 100000 in
set_option maxHeartbeats 12800000 in
theorem rbegin_in (h : RfAt Q w q n gv cv gr cr vv rr V R) (hi : i < n) (hv : v < 18446744073709551616) (hS : Rising (V i)) (hT : Rising (R i)) (hlS : (V i).length ≤ 100000) (hlT : (R i).length ≤ 100000) :
    Calls Try.prog 14 #[.pointer (some ⟨q, 0, none⟩), .int .i64 (i : Nat), .int .u64 (v : Nat)] w fun e w' => e = .returned (.int .i64 0) ∧ (∃ vv' rr', RfAt Q w' q n gv cv gr cr vv' rr' (updf V i (ins v (V i))) (updf R i (ins v (R i)))) ∧ Off Q w w' := by
  have i1 : (i : Int) < (n : Int) := by omega
  have i0 : (0 : Int) ≤ (i : Int) := by omega
  have i3 : (n : Int) ≤ (cv : Int) := by have := h.hc.1.1; omega
  have i4 : (cv : Int) ≤ 9223372036854775807 := by have := h.hc.1.2; unfold maxLen at this; omega
  have i5 : (n : Int) ≤ (cr : Int) := by have := h.hc.2.1; omega
  have i6 : (cr : Int) ≤ 9223372036854775807 := by have := h.hc.2.2; unfold maxLen at this; omega
  have HIN := Lib.hid (in_yes h hi)
  have HM := Lib.hid h
  have HO := Lib.hid (Off.refl Q w)
  have HSV := Lib.hid hS
  have HSR := Lib.hid hT
  have HLV := Lib.hid hlS
  have HLR := Lib.hid hlT
  clear h hS hT hlS hlT
  go_enter Try.func14, Try.ntmps14
  go_wp2_with fail
  refine HIN.out.mono ?_
  rintro e w1 ⟨rfl, rfl⟩
  go_wp2_with fail
  go_cut [] from 13 to 27 (fun wx => (∃ vv', RfAt Q wx q n gv cv gr cr vv' rr (updf V i (ins v (V i))) R) ∧ Off Q w wx)
  case first =>
    have c0 := HM.out.cells.1
    have d0 := HM.out.cellV hi
    obtain ⟨sa, sl, sc, hsl⟩ := (HM.out.sv i hi).sl
    rw [hsl] at d0
    have HSL := Lib.hid hsl
    have HRD := Lib.hid (show Rd .u64 w.drew (.slice sa sl sc) (V i) from hsl ▸ (HM.out.sv i hi).rd)
    clear hsl
    have HLT := Lib.hid (show w.drew.heap.size = w.heap.size from rfl)
    have HW := Lib.hid (with_any (.slice sa sl sc) (V i) v w.drew HRD.out HSV.out HLV.out hv)
    go_region_with
      (first
      | (go_at_call 26; refine HW.out.mono ?_; rintro e wa ⟨⟨o, rfl, ho⟩, hb⟩; obtain ⟨oa, ol, oc, rfl⟩ := own_sl ho; have hbl : Below w.heap.size w wa := ((Below.refl w.heap.size w).drew).trans hb; have hma := HM.out.below hbl; have x0 := hma.cells.1; have x1 := hma.cellV hi; rw [HSL.out] at x1; have zz := hma.freeV i; have hms := hma.setV hi (RwS.of_own ho (fun g hg => HM.out.up g hg) HM.out.lts); have HMS := Lib.hid hms; have HBA := Lib.hid (show Off Q w (wa.setCell ⟨gv, i, none⟩ (.slice oa ol oc)) from ((HO.out.trans (Off.of_below hbl))).setCell HM.out.hb.1.2.1 _); have y0 : (wa.setCell ⟨gv, i, none⟩ (.slice oa ol oc)).cell? ⟨q, 0, none⟩ = some (.slice (some ⟨gv, 0, none⟩) n cv) := hms.cells.1; clear ho hb hbl hma hms)
      | fail)
    all_goals
      go_wp2_with fail
      go_meet
      exact ⟨⟨_, HMS.out⟩, HBA.out⟩
  case rest =>
    clear HM HO HIN
    obtain ⟨⟨vv', hm⟩, ho⟩ := hcut
    have HM := Lib.hid hm
    have HO := Lib.hid ho
    clear hm ho
    go_wp2_with fail
    have c0 := HM.out.cells.2
    have d0 := HM.out.cellR hi
    obtain ⟨sa, sl, sc, hsl⟩ := (HM.out.sr i hi).sl
    rw [hsl] at d0
    have HSL := Lib.hid hsl
    have HRD := Lib.hid (show Rd .u64 wc.drew (.slice sa sl sc) (R i) from hsl ▸ (HM.out.sr i hi).rd)
    clear hsl
    have HLT := Lib.hid (show wc.drew.heap.size = wc.heap.size from rfl)
    have HW := Lib.hid (with_any (.slice sa sl sc) (R i) v wc.drew HRD.out HSR.out HLR.out hv)
    go_region_with
      (first
      | (go_at_call 26; refine HW.out.mono ?_; rintro e wa ⟨⟨o, rfl, ho⟩, hb⟩; obtain ⟨oa, ol, oc, rfl⟩ := own_sl ho; have hbl : Below wc.heap.size wc wa := ((Below.refl wc.heap.size wc).drew).trans hb; have hma := HM.out.below hbl; have x0 := hma.cells.2; have x1 := hma.cellR hi; rw [HSL.out] at x1; have zz := hma.freeR i; have hms := hma.setR hi (RwS.of_own ho (fun g hg => HM.out.up g hg) HM.out.lts); have HMS := Lib.hid hms; have HBA := Lib.hid (show Off Q w (wa.setCell ⟨gr, i, none⟩ (.slice oa ol oc)) from ((HO.out.trans (Off.of_below hbl))).setCell HM.out.hb.1.2.2 _); have y0 : (wa.setCell ⟨gr, i, none⟩ (.slice oa ol oc)).cell? ⟨q, 1, none⟩ = some (.slice (some ⟨gr, 0, none⟩) n cr) := hms.cells.2; clear ho hb hbl hma hms)
      | fail)
    all_goals
      go_wp2_with fail
      go_ret
      exact ⟨rfl, ⟨_, _, HMS.out⟩, HBA.out⟩
set_option maxHeartbeats 3200000 in
theorem rbegin_out (h : RfAt Q w q n gv cv gr cr vv rr V R) {z : Int} (hz : z < 0 ∨ (n : Int) ≤ z) (x : Value) :
    Calls Try.prog 14 #[.pointer (some ⟨q, 0, none⟩), .int .i64 z, x] w fun e w' => e = .returned (.int .i64 1) ∧ w = w' := by
  have HIN := Lib.hid (in_no h hz)
  clear h
  go_enter Try.func14, Try.ntmps14
  go_wp2_with fail
  refine HIN.out.mono ?_
  rintro e w' ⟨rfl, rfl⟩
  go_wp2_with fail
  go_ret
  exact ⟨rfl, rfl⟩
set_option maxHeartbeats 3200000 in
theorem rwrite_out (h : RfAt Q w q n gv cv gr cr vv rr V R) {z : Int} (hz : z < 0 ∨ (n : Int) ≤ z) (x y : Value) :
    Calls Try.prog 12 #[.pointer (some ⟨q, 0, none⟩), .int .i64 z, x, y] w fun e w' => e = .returned (.int .i64 1) ∧ w = w' := by
  have HIN := Lib.hid (in_no h hz)
  clear h
  go_enter Try.func12, Try.ntmps12
  go_wp2_with fail
  refine HIN.out.mono ?_
  rintro e w' ⟨rfl, rfl⟩
  go_wp2_with fail
  go_ret
  exact ⟨rfl, rfl⟩
set_option maxHeartbeats 3200000 in
theorem rread_out (h : RfAt Q w q n gv cv gr cr vv rr V R) {z : Int} (hz : z < 0 ∨ (n : Int) ≤ z) (x : Value) :
    Calls Try.prog 20 #[.pointer (some ⟨q, 0, none⟩), .int .i64 z, x] w fun e w' => e = .returned (.int .i64 1) ∧ w = w' := by
  have HIN := Lib.hid (in_no h hz)
  clear h
  go_enter Try.func20, Try.ntmps20
  go_wp2_with fail
  refine HIN.out.mono ?_
  rintro e w' ⟨rfl, rfl⟩
  go_wp2_with fail
  go_ret
  exact ⟨rfl, rfl⟩
theorem one_row (w : World) (v : Nat) : Own .u64 31 w.heap.size (w.alloc (.cells #[.int .u64 (v : Nat)] 31)) (.slice (some ⟨w.heap.size, 0, none⟩) 1 1) [v] := by
  have h : Ow .u64 31 (w.alloc (.cells #[.int .u64 (v : Nat)] 31)) w.heap.size 1 1 (fun _ => v) := ⟨_, alloc_new w _, rfl, Nat.le_refl _, by unfold maxLen; omega, fun j hj => by
    obtain rfl : j = 0 := by omega
    rfl⟩
  exact Own.of_ow h (Nat.le_refl _)
theorem RfAt.one (h : RfAt Q w q n gv cv gr cr vv rr V R) (hi : i < n) (v : Nat) : RfAt Q ((w.alloc (.cells #[.int .u64 (v : Nat)] 31)).setCell ⟨gv, i, none⟩ (.slice (some ⟨w.heap.size, 0, none⟩) 1 1)) q n gv cv gr cr (updf vv i (.slice (some ⟨w.heap.size, 0, none⟩) 1 1)) rr (updf V i [v]) R :=
  (h.below ((Below.refl _ _).alloc (Nat.le_refl _) _)).setV hi (RwS.of_own (one_row w v) (fun g hg => h.up g hg) h.lts)
set_option maxRecDepth 100000 in
set_option maxHeartbeats 6400000 in
theorem rread_yes (h : RfAt Q w q n gv cv gr cr vv rr V R) (hi : i < n) (hv : v < 18446744073709551616) (hm : v ∈ V i) :
    Calls Try.prog 20 #[.pointer (some ⟨q, 0, none⟩), .int .i64 (i : Nat), .int .u64 (v : Nat)] w fun e w' => e = .returned (.int .i64 0) ∧ (∃ vv', RfAt Q w' q n gv cv gr cr vv' rr (updf V i [v]) R) ∧ Off Q w w' := by
  have i1 : (i : Int) < (n : Int) := by omega
  have i0 : (0 : Int) ≤ (i : Int) := by omega
  have i3 : (n : Int) ≤ (cv : Int) := by have := h.hc.1.1; omega
  have i4 : (cv : Int) ≤ 9223372036854775807 := by have := h.hc.1.2; unfold maxLen at this; omega
  have i5 : (n : Int) ≤ (cr : Int) := by have := h.hc.2.1; omega
  have i6 : (cr : Int) ≤ 9223372036854775807 := by have := h.hc.2.2; unfold maxLen at this; omega
  have HIN := Lib.hid (in_yes h hi)
  have HM := Lib.hid h
  have c0 := h.cells.1
  have d0 := h.cellV hi
  obtain ⟨sa, sl, sc, hsl⟩ := (h.sv i hi).sl
  rw [hsl] at d0
  have HH := Lib.hid (has_any (.slice sa sl sc) (V i) v w (hsl ▸ (h.sv i hi).rd) hv)
  clear hsl
  rw [decide_eq_true hm] at HH
  have zz : (w.alloc (.cells #[.int .u64 (v : Nat)] 31)).frozen? ⟨gv, i, none⟩ = false := (frozen?_alloc_cells _ _ _ _).trans (h.freeV i)
  have dz : (w.alloc (.cells #[.int .u64 (v : Nat)] 31)).cell? ⟨gv, i, none⟩ = some (.slice sa sl sc) := (World.cell?_of_block (a := ⟨gv, i, none⟩) (alloc_old h.lts.2.1)).trans d0
  have H1 := Lib.hid (h.one hi v)
  have HOF := Lib.hid ((((Off.refl Q w).alloc (.cells #[.int .u64 (v : Nat)] 31))).setCell (p := ⟨gv, i, none⟩) h.hb.1.2.1 (.slice (some ⟨w.heap.size, 0, none⟩) 1 1))
  clear h hm
  go_enter Try.func20, Try.ntmps20
  go_wp2_with fail
  refine HIN.out.mono ?_
  rintro e w1 ⟨rfl, rfl⟩
  go_wp2_with fail
  refine HH.out.mono ?_
  rintro e w1 ⟨rfl, rfl⟩
  go_wp2_with fail
  go_ret
  exact ⟨rfl, ⟨_, H1.out⟩, HOF.out⟩
set_option maxRecDepth 100000 in
set_option maxHeartbeats 6400000 in
theorem rread_no (h : RfAt Q w q n gv cv gr cr vv rr V R) (hi : i < n) (hv : v < 18446744073709551616) (hm : ¬ v ∈ V i) :
    Calls Try.prog 20 #[.pointer (some ⟨q, 0, none⟩), .int .i64 (i : Nat), .int .u64 (v : Nat)] w fun e w' => e = .returned (.int .i64 190) ∧ w = w' := by
  have i1 : (i : Int) < (n : Int) := by omega
  have i0 : (0 : Int) ≤ (i : Int) := by omega
  have i3 : (n : Int) ≤ (cv : Int) := by have := h.hc.1.1; omega
  have i4 : (cv : Int) ≤ 9223372036854775807 := by have := h.hc.1.2; unfold maxLen at this; omega
  have i5 : (n : Int) ≤ (cr : Int) := by have := h.hc.2.1; omega
  have i6 : (cr : Int) ≤ 9223372036854775807 := by have := h.hc.2.2; unfold maxLen at this; omega
  have HIN := Lib.hid (in_yes h hi)
  have HM := Lib.hid h
  have c0 := h.cells.1
  have d0 := h.cellV hi
  obtain ⟨sa, sl, sc, hsl⟩ := (h.sv i hi).sl
  rw [hsl] at d0
  have HH := Lib.hid (has_any (.slice sa sl sc) (V i) v w (hsl ▸ (h.sv i hi).rd) hv)
  clear hsl
  rw [decide_eq_false hm] at HH
  clear h hm
  go_enter Try.func20, Try.ntmps20
  go_wp2_with fail
  refine HIN.out.mono ?_
  rintro e w1 ⟨rfl, rfl⟩
  go_wp2_with fail
  refine HH.out.mono ?_
  rintro e w1 ⟨rfl, rfl⟩
  go_wp2_with fail
  go_ret
  exact ⟨rfl, rfl⟩
set_option maxRecDepth 100000 in
set_option maxHeartbeats 12800000 in
theorem rwrite_plain (h : RfAt Q w q n gv cv gr cr vv rr V R) (hi : i < n) (hv : v < 18446744073709551616) (hT : Rising (R i)) (hlT : (R i).length ≤ 100000) :
    Calls Try.prog 12 #[.pointer (some ⟨q, 0, none⟩), .int .i64 (i : Nat), .int .u64 (v : Nat), .bool false] w fun e w' => e = .returned (.int .i64 0) ∧ (∃ vv' rr', RfAt Q w' q n gv cv gr cr vv' rr' (updf V i [v]) (updf R i (ins v (R i)))) ∧ Off Q w w' := by
  have i1 : (i : Int) < (n : Int) := by omega
  have i0 : (0 : Int) ≤ (i : Int) := by omega
  have i3 : (n : Int) ≤ (cv : Int) := by have := h.hc.1.1; omega
  have i4 : (cv : Int) ≤ 9223372036854775807 := by have := h.hc.1.2; unfold maxLen at this; omega
  have i5 : (n : Int) ≤ (cr : Int) := by have := h.hc.2.1; omega
  have i6 : (cr : Int) ≤ 9223372036854775807 := by have := h.hc.2.2; unfold maxLen at this; omega
  have HIN := Lib.hid (in_yes h hi)
  have c0 := h.cells.1
  have c1 := h.cells.2
  have zv := h.freeV i
  have zr := h.freeR i
  have dv := h.cellV hi
  have dr := h.cellR hi
  obtain ⟨sa1, sl1, sc1, hsl1⟩ := (h.sv i hi).sl
  obtain ⟨sa2, sl2, sc2, hsl2⟩ := (h.sr i hi).sl
  rw [hsl1] at dv
  rw [hsl2] at dr
  have HG := Lib.hid h.hb.2
  obtain ⟨W0, rfl⟩ : ∃ W, W = w := ⟨_, rfl⟩
  have h0 := h
  have o0 := Off.refl Q W0
  have zz : (W0.alloc (.cells #[.int .u64 (v : Nat)] 31)).frozen? ⟨gv, i, none⟩ = false := (frozen?_alloc_cells _ _ _ _).trans zv
  have dz : (W0.alloc (.cells #[.int .u64 (v : Nat)] 31)).cell? ⟨gv, i, none⟩ = some (.slice sa1 sl1 sc1) := (World.cell?_of_block (a := ⟨gv, i, none⟩) (alloc_old h0.lts.2.1)).trans dv
  have hm1 := h0.one hi v
  have ho1 := (o0.alloc (.cells #[.int .u64 (v : Nat)] 31)).setCell (p := ⟨gv, i, none⟩) h0.hb.1.2.1 (.slice (some ⟨W0.heap.size, 0, none⟩) 1 1)
  obtain ⟨W1, hW1⟩ : ∃ W, (W0.alloc (.cells #[.int .u64 (v : Nat)] 31)).setCell ⟨gv, i, none⟩ (.slice (some ⟨W0.heap.size, 0, none⟩) 1 1) = W := ⟨_, rfl⟩
  rw [hW1] at hm1 ho1
  have HM := Lib.hid hm1
  have HO := Lib.hid ho1
  have HSR := Lib.hid (show Rising (R i) from hT)
  have HLR := Lib.hid (show (R i).length ≤ 100000 from hlT)
  clear h h0 hm1 ho1 hT hlT o0 hsl1 hsl2
  go_enter Try.func12, Try.ntmps12
  go_wp2_with fail
  refine HIN.out.mono ?_
  rintro e w1 ⟨rfl, rfl⟩
  go_wp2_with fail
  try rw [hW1]
  clear c0 c1 zv zr dv dr zz dz hW1
  have c0 := HM.out.cells.2
  have d0 := HM.out.cellR hi
  obtain ⟨sa, sl, sc, hsl⟩ := (HM.out.sr i hi).sl
  rw [hsl] at d0
  have HSL := Lib.hid hsl
  have HRD := Lib.hid (show Rd .u64 W1.drew (.slice sa sl sc) (R i) from hsl ▸ (HM.out.sr i hi).rd)
  clear hsl
  have HLT := Lib.hid (show W1.drew.heap.size = W1.heap.size from rfl)
  have HW := Lib.hid (with_any (.slice sa sl sc) (R i) v W1.drew HRD.out HSR.out HLR.out hv)
  go_region_with
    (first
    | (go_at_call 26; refine HW.out.mono ?_; rintro e wa ⟨⟨o, rfl, ho⟩, hb⟩; obtain ⟨oa, ol, oc, rfl⟩ := own_sl ho; have hbl : Below W1.heap.size W1 wa := ((Below.refl W1.heap.size W1).drew).trans hb; have hma := HM.out.below hbl; have x0 := hma.cells.2; have x1 := hma.cellR hi; rw [HSL.out] at x1; have zz := hma.freeR i; have hms := hma.setR hi (RwS.of_own ho (fun g hg => HM.out.up g hg) HM.out.lts); have HMS := Lib.hid hms; have HBA := Lib.hid (show Off Q W0 (wa.setCell ⟨gr, i, none⟩ (.slice oa ol oc)) from ((HO.out.trans (Off.of_below hbl))).setCell HM.out.hb.1.2.2 _); have y0 : (wa.setCell ⟨gr, i, none⟩ (.slice oa ol oc)).cell? ⟨q, 1, none⟩ = some (.slice (some ⟨gr, 0, none⟩) n cr) := hms.cells.2; clear ho hb hbl hma hms)
    | fail)
  all_goals
    go_wp2_with fail
    go_ret
    have h9 := HMS.out
    have e9 : updf R i (ins v (R i)) = updf R i (ins v (R i)) := by rfl
    rw [e9] at h9
    exact ⟨rfl, ⟨_, _, h9⟩, HBA.out⟩
set_option maxRecDepth 100000 in
set_option maxHeartbeats 12800000 in
theorem rwrite_forced (h : RfAt Q w q n gv cv gr cr vv rr V R) (hi : i < n) (hv : v < 18446744073709551616) (hT : Rising (R i)) (hlT : (R i).length ≤ 100000) :
    Calls Try.prog 12 #[.pointer (some ⟨q, 0, none⟩), .int .i64 (i : Nat), .int .u64 (v : Nat), .bool true] w fun e w' => e = .returned (.int .i64 0) ∧ (∃ vv' rr', RfAt Q w' q n gv cv gr cr vv' rr' (updf V i [v]) (updf R i [v])) ∧ Off Q w w' := by
  have i1 : (i : Int) < (n : Int) := by omega
  have i0 : (0 : Int) ≤ (i : Int) := by omega
  have i3 : (n : Int) ≤ (cv : Int) := by have := h.hc.1.1; omega
  have i4 : (cv : Int) ≤ 9223372036854775807 := by have := h.hc.1.2; unfold maxLen at this; omega
  have i5 : (n : Int) ≤ (cr : Int) := by have := h.hc.2.1; omega
  have i6 : (cr : Int) ≤ 9223372036854775807 := by have := h.hc.2.2; unfold maxLen at this; omega
  have HIN := Lib.hid (in_yes h hi)
  have c0 := h.cells.1
  have c1 := h.cells.2
  have zv := h.freeV i
  have zr := h.freeR i
  have dv := h.cellV hi
  have dr := h.cellR hi
  obtain ⟨sa1, sl1, sc1, hsl1⟩ := (h.sv i hi).sl
  obtain ⟨sa2, sl2, sc2, hsl2⟩ := (h.sr i hi).sl
  rw [hsl1] at dv
  rw [hsl2] at dr
  have HG := Lib.hid h.hb.2
  have h0 : RfAt Q (w.setCell ⟨gr, i, none⟩ (.slice none 0 0)) q n gv cv gr cr vv (updf rr i (.slice none 0 0)) V (updf R i []) := h.setR hi (.inl ⟨rfl, rfl⟩)
  obtain ⟨W0, hW0⟩ : ∃ W, w.setCell ⟨gr, i, none⟩ (.slice none 0 0) = W := ⟨_, rfl⟩
  have o0 : Off Q w W0 := hW0 ▸ (Off.refl Q w).setCell (p := ⟨gr, i, none⟩) h.hb.1.2.2 _
  rw [hW0] at h0
  have c0 := h0.cells.1
  have zv := h0.freeV i
  have dv := h0.cellV hi
  rw [hsl1] at dv
  have zz : (W0.alloc (.cells #[.int .u64 (v : Nat)] 31)).frozen? ⟨gv, i, none⟩ = false := (frozen?_alloc_cells _ _ _ _).trans zv
  have dz : (W0.alloc (.cells #[.int .u64 (v : Nat)] 31)).cell? ⟨gv, i, none⟩ = some (.slice sa1 sl1 sc1) := (World.cell?_of_block (a := ⟨gv, i, none⟩) (alloc_old h0.lts.2.1)).trans dv
  have hm1 := h0.one hi v
  have ho1 := (o0.alloc (.cells #[.int .u64 (v : Nat)] 31)).setCell (p := ⟨gv, i, none⟩) h0.hb.1.2.1 (.slice (some ⟨W0.heap.size, 0, none⟩) 1 1)
  obtain ⟨W1, hW1⟩ : ∃ W, (W0.alloc (.cells #[.int .u64 (v : Nat)] 31)).setCell ⟨gv, i, none⟩ (.slice (some ⟨W0.heap.size, 0, none⟩) 1 1) = W := ⟨_, rfl⟩
  rw [hW1] at hm1 ho1
  have HM := Lib.hid hm1
  have HO := Lib.hid ho1
  have HSR := Lib.hid (show Rising ((updf R i []) i) from by rw [updf_same]; exact rising_nil)
  have HLR := Lib.hid (show ((updf R i []) i).length ≤ 100000 from by rw [updf_same]; simp)
  clear h h0 hm1 ho1 hT hlT o0 hsl1 hsl2
  go_enter Try.func12, Try.ntmps12
  go_wp2_with fail
  refine HIN.out.mono ?_
  rintro e w1 ⟨rfl, rfl⟩
  go_wp2_with fail
  try rw [hW1]
  clear c0 c1 zv zr dv dr zz dz hW1 hW0
  have c0 := HM.out.cells.2
  have d0 := HM.out.cellR hi
  obtain ⟨sa, sl, sc, hsl⟩ := (HM.out.sr i hi).sl
  rw [hsl] at d0
  have HSL := Lib.hid hsl
  have HRD := Lib.hid (show Rd .u64 W1.drew (.slice sa sl sc) ((updf R i []) i) from hsl ▸ (HM.out.sr i hi).rd)
  clear hsl
  have HLT := Lib.hid (show W1.drew.heap.size = W1.heap.size from rfl)
  have HW := Lib.hid (with_any (.slice sa sl sc) ((updf R i []) i) v W1.drew HRD.out HSR.out HLR.out hv)
  go_region_with
    (first
    | (go_at_call 26; refine HW.out.mono ?_; rintro e wa ⟨⟨o, rfl, ho⟩, hb⟩; obtain ⟨oa, ol, oc, rfl⟩ := own_sl ho; have hbl : Below W1.heap.size W1 wa := ((Below.refl W1.heap.size W1).drew).trans hb; have hma := HM.out.below hbl; have x0 := hma.cells.2; have x1 := hma.cellR hi; rw [HSL.out] at x1; have zz := hma.freeR i; have hms := hma.setR hi (RwS.of_own ho (fun g hg => HM.out.up g hg) HM.out.lts); have HMS := Lib.hid hms; have HBA := Lib.hid (show Off Q w (wa.setCell ⟨gr, i, none⟩ (.slice oa ol oc)) from ((HO.out.trans (Off.of_below hbl))).setCell HM.out.hb.1.2.2 _); have y0 : (wa.setCell ⟨gr, i, none⟩ (.slice oa ol oc)).cell? ⟨q, 1, none⟩ = some (.slice (some ⟨gr, 0, none⟩) n cr) := hms.cells.2; clear ho hb hbl hma hms)
    | fail)
  all_goals
    go_wp2_with fail
    go_ret
    have h9 := HMS.out
    have e9 : updf (updf R i []) i (ins v ((updf R i []) i)) = updf R i [v] := by rw [updf_updf, updf_same]; rfl
    rw [e9] at h9
    exact ⟨rfl, ⟨_, _, h9⟩, HBA.out⟩
set_option maxRecDepth 100000 in
set_option maxHeartbeats 6400000 in
theorem rsync_any (h : RfAt Q w q n gv cv gr cr vv rr V R) :
    Calls Try.prog 16 #[.pointer (some ⟨q, 0, none⟩)] w fun e w' => e = .returned (.tuple #[]) ∧ (∃ r2, RfAt Q w' q n gv cv gr cr vv r2 V V) ∧ Off Q w w' := by
  have HH := Lib.hid h
  have i3 : (n : Int) ≤ (cv : Int) := by have := h.hc.1.1; omega
  have i4 : (cv : Int) ≤ 9223372036854775807 := by have := h.hc.1.2; unfold maxLen at this; omega
  have i5 : (n : Int) ≤ (cr : Int) := by have := h.hc.2.1; omega
  have i6 : (cr : Int) ≤ 9223372036854775807 := by have := h.hc.2.2; unfold maxLen at this; omega
  clear h
  go_enter Try.func16, Try.ntmps16
  go_wp2_with fail
  go_loopg [2] n (fun gk x wr => ∃ (I : Nat) (r2 : Nat → Value), I + gk = n ∧ x = .int .i64 (I : Nat) ∧ RfAt Q wr q n gv cv gr cr vv r2 V (mixf I V R) ∧ Off Q w wr)
  case atStart => exact ⟨0, _, by omega, rfl, HH.out.congr (fun _ _ => rfl) (fun _ _ => rfl), Off.refl _ _⟩
  case round =>
    obtain ⟨I, r2, hI, rfl, hm, hb⟩ := hrel
    have HM := Lib.hid hm
    have HB := Lib.hid hb
    obtain ⟨c0, c1⟩ := hm.cells
    clear hm hb
    by_cases hlt : I < n
    · have i1 : (I : Int) < (n : Int) := by omega
      have i0 : (0 : Int) ≤ (I : Int) := by omega
      have d1 := HM.out.cellV hlt
      have d2 := HM.out.cellR hlt
      obtain ⟨sa1, sl1, sc1, hsl1⟩ := (HM.out.sv I hlt).sl
      obtain ⟨sa2, sl2, sc2, hsl2⟩ := (HM.out.sr I hlt).sl
      rw [hsl1] at d1
      rw [hsl2] at d2
      have z2 := HM.out.freeR I
      have hms := HM.out.setR hlt (HM.out.sv I hlt)
      rw [hsl1] at hms
      have HMS := Lib.hid hms
      have HBA := Lib.hid (HB.out.setCell (p := ⟨gr, I, none⟩) HM.out.hb.1.2.2 (.slice sa1 sl1 sc1))
      clear hsl1 hsl2 hms
      have HLT := Lib.hid hlt
      go_wp2_with fail
      go_region
      all_goals
        go_wp2_with fail
        go_roundg (gk - 1)
        case measure => omega
        case rel =>
          have h9 := HMS.out
          rw [mixf_succ] at h9
          exact ⟨I + 1, _, by omega, by go_num, h9.below ((Below.refl _ _).drew), HBA.out.drew⟩
    · obtain rfl : n = I := by omega
      go_wp2_with fail
      go_end0
      exact ⟨rfl, ⟨_, HM.out.congr (fun i hi => rfl) (fun i hi => if_pos hi)⟩, HB.out⟩
set_option maxRecDepth 100000 in
set_option maxHeartbeats 6400000 in
theorem rcut_any (h : RfAt Q w q n gv cv gr cr vv rr V R) :
    Calls Try.prog 18 #[.pointer (some ⟨q, 0, none⟩)] w fun e w' => e = .returned (.tuple #[]) ∧ (∃ r2, RfAt Q w' q n gv cv gr cr r2 rr R R) ∧ Off Q w w' := by
  have HH := Lib.hid h
  have i3 : (n : Int) ≤ (cv : Int) := by have := h.hc.1.1; omega
  have i4 : (cv : Int) ≤ 9223372036854775807 := by have := h.hc.1.2; unfold maxLen at this; omega
  have i5 : (n : Int) ≤ (cr : Int) := by have := h.hc.2.1; omega
  have i6 : (cr : Int) ≤ 9223372036854775807 := by have := h.hc.2.2; unfold maxLen at this; omega
  clear h
  go_enter Try.func18, Try.ntmps18
  go_wp2_with fail
  go_loopg [2] n (fun gk x wr => ∃ (I : Nat) (r2 : Nat → Value), I + gk = n ∧ x = .int .i64 (I : Nat) ∧ RfAt Q wr q n gv cv gr cr r2 rr (mixf I R V) R ∧ Off Q w wr)
  case atStart => exact ⟨0, _, by omega, rfl, HH.out.congr (fun _ _ => rfl) (fun _ _ => rfl), Off.refl _ _⟩
  case round =>
    obtain ⟨I, r2, hI, rfl, hm, hb⟩ := hrel
    have HM := Lib.hid hm
    have HB := Lib.hid hb
    obtain ⟨c0, c1⟩ := hm.cells
    clear hm hb
    by_cases hlt : I < n
    · have i1 : (I : Int) < (n : Int) := by omega
      have i0 : (0 : Int) ≤ (I : Int) := by omega
      have d1 := HM.out.cellR hlt
      have d2 := HM.out.cellV hlt
      obtain ⟨sa1, sl1, sc1, hsl1⟩ := (HM.out.sr I hlt).sl
      obtain ⟨sa2, sl2, sc2, hsl2⟩ := (HM.out.sv I hlt).sl
      rw [hsl1] at d1
      rw [hsl2] at d2
      have z2 := HM.out.freeV I
      have hms := HM.out.setV hlt (HM.out.sr I hlt)
      rw [hsl1] at hms
      have HMS := Lib.hid hms
      have HBA := Lib.hid (HB.out.setCell (p := ⟨gv, I, none⟩) HM.out.hb.1.2.1 (.slice sa1 sl1 sc1))
      clear hsl1 hsl2 hms
      have HLT := Lib.hid hlt
      go_wp2_with fail
      go_region
      all_goals
        go_wp2_with fail
        go_roundg (gk - 1)
        case measure => omega
        case rel =>
          have h9 := HMS.out
          rw [mixf_succ] at h9
          exact ⟨I + 1, _, by omega, by go_num, h9.below ((Below.refl _ _).drew), HBA.out.drew⟩
    · obtain rfl : n = I := by omega
      go_wp2_with fail
      go_end0
      exact ⟨rfl, ⟨_, HM.out.congr (fun i hi => if_pos hi) (fun i hi => rfl)⟩, HB.out⟩
end
end Go.Proofs.Ytboonpfdlbedoaa.Qv
