/- Walks over history: at; Clone; Begin; Read. -/
import Derived.Test.YtboonpfdlbedoaaHc
import Derived.WalkKit
import Derived.RegionTactic
import Derived.ChangeAlike
import Derived.BigRegion
import Derived.Lib.Hide
import Derived.Outline
namespace Go.Proofs.Ytboonpfdlbedoaa
open Go Go.RowKit Go.Mem Go.Hs

set_option maxHeartbeats 1600000 in
theorem at_in {B : Nat} {w : World} {p n K gl cap : Nat} {bv br : Nat → Nat} {V R : Nat → List Nat} (h : MdAt B w p n K gl cap bv br V R) {i : Nat} (hi : i < n) :
    Calls Try.prog 25 #[.pointer (some ⟨p, 0, none⟩), .int .i64 (i : Nat)] w fun e w' => e = .returned (.pointer (some ⟨gl, i * 2, none⟩)) ∧ w = w' := by
  have c0 := h.cell0
  have i1 : (i : Int) < (n : Int) := by omega
  have i3 : (n : Int) ≤ (cap : Int) := by have := h.hc.1; omega
  have i4 : (cap : Int) ≤ 9223372036854775807 := by have := h.hc.2; unfold maxLen at this; omega
  clear h
  go_enter Try.func25, Try.ntmps25
  go_wp2_with fail
  go_ret
  exact ⟨rfl, rfl⟩

set_option maxHeartbeats 1600000 in
theorem at_out {B : Nat} {w : World} {p n K gl cap : Nat} {bv br : Nat → Nat} {V R : Nat → List Nat} (h : MdAt B w p n K gl cap bv br V R) {z : Int} (hz : z < 0 ∨ (n : Int) ≤ z) :
    Calls Try.prog 25 #[.pointer (some ⟨p, 0, none⟩), .int .i64 z] w fun e w' => e = .returned (.pointer none) ∧ w = w' := by
  have c0 := h.cell0
  clear h
  rcases hz with hz | hz
  · go_enter Try.func25, Try.ntmps25
    go_wp2_with fail
    go_ret
    exact ⟨rfl, rfl⟩
  · have h0 : ¬ z < 0 := by omega
    go_enter Try.func25, Try.ntmps25
    go_wp2_with fail
    go_ret
    exact ⟨rfl, rfl⟩

set_option maxHeartbeats 1600000 in
theorem clone_any {w : World} {b : Nat} {S : List Nat} (h : SAt w b S) :
    Calls Try.prog 27 #[.map (some b)] w fun e w' => e = .returned (.map (some w.heap.size)) ∧ ∃ es c, w' = w.alloc (.map es c) ∧ SAt w' w.heap.size S := by
  obtain ⟨es, c, h1, h2⟩ := h.clone 54
  have hq := fun w => run_eql_map_nil_sl (P := Try.prog) w 54 _ _ (some b) Try.underlying54
  have H2 := Lib.hid h2
  clear h h2
  go_enter Try.func27, Try.ntmps27
  go_wp2_with fail
  rw [run_callFunc_extern Try.func30 (by kernel_rfl) (by kernel_rfl) (by kernel_rfl) (e := Extern.MapsClone.clone) (by kernel_rfl), h1]
  simp only [Result.andThen]
  rw [Oper.upon_value]
  go_wp2_with fail
  rw [run_typeAssert_map_sl _ _ _ _ _ _ Try.underlying54]
  simp only [Result.andThen]
  rw [Oper.upon_value]
  go_wp2_with fail
  go_ret
  exact ⟨rfl, es, c, rfl, H2.out⟩
end Go.Proofs.Ytboonpfdlbedoaa
