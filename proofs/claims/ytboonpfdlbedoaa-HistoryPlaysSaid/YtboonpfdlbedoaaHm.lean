/- Walks over history and its law: May; abs; awake. -/
import Derived.Test.YtboonpfdlbedoaaHh
import Derived.Test.YtboonpfdlbedoaaSe
namespace Go.Proofs.Ytboonpfdlbedoaa
open Go Go.RowKit Go.Mem Go.Sort Go.Hs Go.Proofs
section
variable {B : Nat} {w : World} {p n K gl cap : Nat} {bv br : Nat → Nat} {V R : Nat → List Nat} {i v : Nat}
set_option maxHeartbeats 1600000 in
theorem may_in (N : Nat) (hok : SortOk N) (hN : N ≤ 1000000) (h : MdAt B w p n K gl cap bv br V R) (hi : i < n) (h0 : V i ≠ []) (hl : (V i).length ≤ N) :
    Calls Try.prog 22 #[.pointer (some ⟨p, 0, none⟩), .int .i64 (i : Nat)] w fun e w' => (∃ v, e = .returned v ∧ Own .u64 31 w.heap.size w' v (V i)) ∧ Below w.heap.size w w' := by
  have hat := Lib.hid (at_in h hi)
  have cV := h.cellV hi
  have HR := Lib.hid (rising_any N hok hN (h.sv i hi) h0 hl)
  clear h h0 hl
  go_enter Try.func22, Try.ntmps22
  go_wp2_with fail
  refine hat.out.mono ?_
  rintro e w' ⟨rfl, rfl⟩
  go_wp2_with fail
  refine HR.out.mono ?_
  rintro e w' ⟨⟨v, rfl, hv⟩, hb⟩
  have HV := Lib.hid hv
  have HB := Lib.hid hb
  clear hv hb
  go_wp2_with fail
  go_ret
  exact ⟨⟨v, rfl, HV.out⟩, HB.out⟩
set_option maxHeartbeats 1600000 in
theorem may_out (h : MdAt B w p n K gl cap bv br V R) {z : Int} (hz : z < 0 ∨ (n : Int) ≤ z) :
    Calls Try.prog 22 #[.pointer (some ⟨p, 0, none⟩), .int .i64 z] w fun e w' => e = .returned (.slice none 0 0) ∧ w = w' := by
  have hat := Lib.hid (at_out h hz)
  clear h
  go_enter Try.func22, Try.ntmps22
  go_wp2_with fail
  refine hat.out.mono ?_
  rintro e w' ⟨rfl, rfl⟩
  go_wp2_with fail
  go_ret
  exact ⟨rfl, rfl⟩
end
def absH (n : Int) : Nat := if n < 0 then (-(n + 1)).toNat else n.toNat
theorem absH_le {n : Int} (h : (Lit.int .i64 n).wf = true) : absH n ≤ 9223372036854775807 := by
  simp only [Lit.wf, Bool.and_eq_true, decide_eq_true_eq] at h
  have h1 : -9223372036854775808 ≤ n := h.1
  have h2 : n ≤ 9223372036854775807 := h.2
  unfold absH
  split <;> omega
set_option maxHeartbeats 1600000 in
theorem absH_any (n : Int) (w : World) (h : (Lit.int .i64 n).wf = true) : Calls Try.prog 10 #[.int .i64 n] w fun e w' => e = .returned (.int .i64 (absH n : Nat)) ∧ w = w' := by
  simp only [Lit.wf, Bool.and_eq_true, decide_eq_true_eq] at h
  have h1 : -9223372036854775808 ≤ n := h.1
  have h2 : n ≤ 9223372036854775807 := h.2
  clear h
  by_cases hn : n < 0
  · have e : ((absH n : Nat) : Int) = -(n + 1) := by unfold absH; rw [if_pos hn]; omega
    rw [e]
    clear e
    go_enter Try.func10, Try.ntmps10
    go_wp2_with fail
    go_ret
    exact ⟨rfl, rfl⟩
  · have e : ((absH n : Nat) : Int) = n := by unfold absH; rw [if_neg hn]; omega
    rw [e]
    clear e
    go_enter Try.func10, Try.ntmps10
    go_wp2_with fail
    go_ret
    exact ⟨rfl, rfl⟩
theorem sort12 : SortOk 12 := sort_short
set_option maxRecDepth 100000 in
set_option maxHeartbeats 6400000 in
theorem awakeH_any (w : World) : Calls Try.prog 7 #[] w fun e w' => e = .returned (.bool true) ∧ Below w.heap.size w w' := by
  obtain ⟨B, hB⟩ : ∃ B, w.heap.size = B := ⟨_, rfl⟩
  have HN := Lib.hid (new_any 2 w (by omega) (by omega))
  rw [hB] at HN ⊢
  have HB := Lib.hid hB
  clear hB
  go_enter Try.func7, Try.ntmps7
  go_wp2_with fail
  refine HN.out.mono ?_
  rintro e w1 ⟨rfl, ⟨gl, cap, bv, br, m1⟩, b1⟩
  have M1 := Lib.hid m1
  have B1 := Lib.hid b1
  clear m1 b1 HN
  go_wp2_with fail
  refine (write_plain (v := 5) M1.out (show 0 < 2 by omega) (by omega) (by omega)).mono ?_
  rintro e w2 ⟨rfl, ⟨bv2, m2⟩, b2⟩
  have M2 := Lib.hid m2
  have B2 := Lib.hid (B1.out.trans b2)
  clear m2 b2
  go_wp2_with fail
  refine (sync_any M2.out).mono ?_
  rintro e w3 ⟨rfl, ⟨br3, m3⟩, b3⟩
  have M3 := Lib.hid m3
  have B3 := Lib.hid (B2.out.trans b3)
  clear m3 b3
  go_wp2_with fail
  refine (write_plain (v := 6) M3.out (show 0 < 2 by omega) (by omega) (by omega)).mono ?_
  rintro e w4 ⟨rfl, ⟨bv4, m4⟩, b4⟩
  have M4 := Lib.hid m4
  have B4 := Lib.hid (B3.out.trans b4)
  clear m4 b4
  go_wp2_with fail
  refine (cut_any M4.out).mono ?_
  rintro e w5 ⟨rfl, ⟨bv5, m5⟩, b5⟩
  have e5 : updf (updf (fun _ => [0]) 0 [5]) 0 (ins 6 (updf (fun _ => [0]) 0 [5] 0)) 0 = [5, 6] := rfl
  have M5 := Lib.hid m5
  have B5 := Lib.hid (B4.out.trans b5)
  have E5 := Lib.hid e5
  clear m5 b5 e5
  go_wp2_with fail
  refine (may_in 12 sort12 (by omega) M5.out (show 0 < 2 by omega) (by rw [E5.out]; simp) (by rw [E5.out]; simp)).mono ?_
  rintro e w6 ⟨⟨v, rfl, hv⟩, b6⟩
  rw [E5.out] at hv
  obtain ⟨g, cp, rfl, hg, how⟩ := hv.ow (by simp)
  have c0 : w6.cell? ⟨g, 0, none⟩ = some (.int .u64 5) := how.cell (j := 0) (by simp)
  have c1 : w6.cell? ⟨g, 1, none⟩ = some (.int .u64 6) := how.cell (j := 1) (by simp)
  have hcp : 2 ≤ cp := by obtain ⟨_, _, _, h, _⟩ := how; simpa using h
  have M6 := Lib.hid (M5.out.below b6)
  have B6 := Lib.hid (B5.out.trans (b6.mono M5.out.base))
  clear hv hg how b6
  go_wp2_with fail
  refine (read_no (v := 7) M6.out (show 0 < 2 by omega) (by omega) (by rw [E5.out]; simp)).mono ?_
  rintro e w7 ⟨rfl, rfl⟩
  go_wp2_with fail
  refine (read_yes (v := 6) M6.out (show 0 < 2 by omega) (by omega) (by rw [E5.out]; simp) (by omega)).mono ?_
  rintro e w8 ⟨rfl, _, b8⟩
  have B8 := Lib.hid (B6.out.trans b8)
  clear b8
  go_wp2_with fail
  go_ret
  exact ⟨rfl, B8.out⟩
end Go.Proofs.Ytboonpfdlbedoaa
