/- Walks over history: Begin; Read; Write. -/
import Derived.Test.YtboonpfdlbedoaaHd
namespace Go.Proofs.Ytboonpfdlbedoaa
open Go Go.RowKit Go.Mem Go.Hs

theorem below_of_grown {B b : Nat} {w w' : World} (hg : w.grownBy w' (some b)) (hb : B ≤ b) (hs : B ≤ w.heap.size) : Below B w w' :=
  ⟨hg.os, hg.tape, hg.output, hg.size, fun j hj => hg.block j (by omega) (fun e => by cases e; omega)⟩
section
variable {B : Nat} {w : World} {p n K gl cap : Nat} {bv br : Nat → Nat} {V R : Nat → List Nat} {i v : Nat}
theorem MdAt.base (h : MdAt B w p n K gl cap bv br V R) : B ≤ w.heap.size := by have h1 := h.hb.1; have h2 := lt_at h.hp; omega

set_option maxHeartbeats 3200000 in
theorem begin_in (h : MdAt B w p n K gl cap bv br V R) (hi : i < n) (hv : v < 18446744073709551616) (hK : K ≤ 1000) :
    Calls Try.prog 13 #[.pointer (some ⟨p, 0, none⟩), .int .i64 (i : Nat), .int .u64 (v : Nat)] w fun e w' => e = .returned (.int .i64 0) ∧ MdAt B w' p n (K + 1) gl cap bv br (updf V i (ins v (V i))) (updf R i (ins v (R i))) ∧ Below B w w' := by
  have hl1 := h.lv i hi
  have hl2 := h.lr i hi
  have hd : MdAt B w.drew p n (K + 1) gl cap bv br V R := (h.below (Below.refl _ _).drew).more (by omega)
  obtain ⟨v0, st, W1, W2, r1, s1, t1, g1⟩ := (hd.sv i hi).entry2 tset hv (by unfold maxLen; omega)
  have hd2 := hd.inV hi g1 t1 (by have := ins_len v (V i); omega)
  obtain ⟨v1, st2, W3, W4, r2, s2, t2, g2⟩ := (hd2.sr i hi).entry2 tset hv (by unfold maxLen; omega)
  have hd4 := hd2.inR hi g2 t2 (by have := ins_len v (R i); omega)
  have HD4 := Lib.hid hd4
  have hb4 : Below B w W4 := ((Below.refl B w).drew).trans ((below_of_grown g1 (h.nv i hi).1 hd.base).trans (below_of_grown g2 (h.nr i hi).1 hd2.base))
  have HB4 := Lib.hid hb4
  have hat := Lib.hid (at_in h hi)
  have cV := h.cellV hi
  have cR := h.cellR hi
  clear hd hd2 hd4 hb4 t1 t2 g1 g2 hl1 hl2 h
  go_enter Try.func13, Try.ntmps13
  go_wp2_with fail
  refine hat.out.mono ?_
  rintro e w' ⟨rfl, rfl⟩
  go_wp2_with fail
  go_region
  all_goals
    go_wp2_with fail
    go_ret
    exact ⟨rfl, HD4.out, HB4.out⟩

set_option maxHeartbeats 1600000 in
theorem begin_out (h : MdAt B w p n K gl cap bv br V R) {z : Int} (hz : z < 0 ∨ (n : Int) ≤ z) (x : Value) :
    Calls Try.prog 13 #[.pointer (some ⟨p, 0, none⟩), .int .i64 z, x] w fun e w' => e = .returned (.int .i64 1) ∧ w = w' := by
  have hat := Lib.hid (at_out h hz)
  clear h
  go_enter Try.func13, Try.ntmps13
  go_wp2_with fail
  refine hat.out.mono ?_
  rintro e w' ⟨rfl, rfl⟩
  go_wp2_with fail
  go_ret
  exact ⟨rfl, rfl⟩

set_option maxHeartbeats 1600000 in
theorem read_out (h : MdAt B w p n K gl cap bv br V R) {z : Int} (hz : z < 0 ∨ (n : Int) ≤ z) (x : Value) :
    Calls Try.prog 19 #[.pointer (some ⟨p, 0, none⟩), .int .i64 z, x] w fun e w' => e = .returned (.int .i64 1) ∧ w = w' := by
  have hat := Lib.hid (at_out h hz)
  clear h
  go_enter Try.func19, Try.ntmps19
  go_wp2_with fail
  refine hat.out.mono ?_
  rintro e w' ⟨rfl, rfl⟩
  go_wp2_with fail
  go_ret
  exact ⟨rfl, rfl⟩

set_option maxHeartbeats 1600000 in
theorem write_out (h : MdAt B w p n K gl cap bv br V R) {z : Int} (hz : z < 0 ∨ (n : Int) ≤ z) (x y : Value) :
    Calls Try.prog 11 #[.pointer (some ⟨p, 0, none⟩), .int .i64 z, x, y] w fun e w' => e = .returned (.int .i64 1) ∧ w = w' := by
  have hat := Lib.hid (at_out h hz)
  clear h
  go_enter Try.func11, Try.ntmps11
  go_wp2_with fail
  refine hat.out.mono ?_
  rintro e w' ⟨rfl, rfl⟩
  go_wp2_with fail
  go_ret
  exact ⟨rfl, rfl⟩

set_option maxHeartbeats 3200000 in
theorem read_no (h : MdAt B w p n K gl cap bv br V R) (hi : i < n) (hv : v < 18446744073709551616) (hm : ¬ v ∈ V i) :
    Calls Try.prog 19 #[.pointer (some ⟨p, 0, none⟩), .int .i64 (i : Nat), .int .u64 (v : Nat)] w fun e w' => e = .returned (.int .i64 190) ∧ w = w' := by
  have hat := Lib.hid (at_in h hi)
  have cV := h.cellV hi
  have r1 := (h.sv i hi).look tset hv
  rw [decide_eq_false hm] at r1
  clear h hm
  go_enter Try.func19, Try.ntmps19
  go_wp2_with fail
  refine hat.out.mono ?_
  rintro e w' ⟨rfl, rfl⟩
  go_wp2_with fail
  go_ret
  exact ⟨rfl, rfl⟩

set_option maxHeartbeats 3200000 in
theorem read_yes (h : MdAt B w p n K gl cap bv br V R) (hi : i < n) (hv : v < 18446744073709551616) (hm : v ∈ V i) (hK : 1 ≤ K) :
    Calls Try.prog 19 #[.pointer (some ⟨p, 0, none⟩), .int .i64 (i : Nat), .int .u64 (v : Nat)] w fun e w' => e = .returned (.int .i64 0) ∧ (∃ bv', MdAt B w' p n K gl cap bv' br (updf V i [v]) R) ∧ Below B w w' := by
  have hat := Lib.hid (at_in h hi)
  have cV := h.cellV hi
  have zV := h.free (i * 2)
  have r1 := (h.sv i hi).look tset hv
  rw [decide_eq_true hm] at r1
  obtain ⟨es, c, r2, s2⟩ := set_one tset w hv
  have ha : Below w.heap.size w (w.alloc (.map es c)) := (Below.refl _ _).alloc (Nat.le_refl _) _
  have h2 := h.below ha
  have h3 := h2.setV hi (h.new (Nat.le_refl _)) s2 (by simpa using hK)
  have hgl : gl < w.heap.size := by obtain ⟨_, h1, _⟩ := h.hg; exact lt_at h1
  have hb3 : Below B w ((w.alloc (.map es c)).setCell ⟨gl, i * 2, none⟩ (.map (some w.heap.size))) := ((Below.refl B w).alloc h.base _).setCell h.hb.2.1 _
  rw [World.setCell_alloc_past _ _ _ _ hgl] at h3 hb3
  have H3 := Lib.hid h3
  have HB := Lib.hid hb3
  clear h h2 h3 s2 ha hm hb3
  have hmm := @run_makeMap Try.prog
  go_enter Try.func19, Try.ntmps19
  go_wp2_with fail
  refine hat.out.mono ?_
  rintro e w' ⟨rfl, rfl⟩
  go_wp2_with fail
  go_ret
  exact ⟨rfl, ⟨_, H3.out⟩, HB.out⟩
end
end Go.Proofs.Ytboonpfdlbedoaa
