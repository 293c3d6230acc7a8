/- Walks over firkinlaw19: rows; a model behind a cut. -/
import Derived.Test.YtboonpfdlbedoaaVe
import Derived.Test.YtboonpfdlbedoaaVf
namespace Go.Proofs.Ytboonpfdlbedoaa.Qv
open Go Go.RowKit Go.Mem Go.Hs Go.Proofs Go.Proofs.Ytboonpfdlbedoaa
set_option linter.unusedVariables false

set_option maxRecDepth 100000 in
set_option maxHeartbeats 3200000 in
theorem rows_same (a a' : Value) (xs : List Nat) (w : World) (h : Rd .u64 w a xs) (h' : Rd .u64 w a' xs) :
    Calls Try.prog 23 #[a, a'] w fun e w' => e = .returned (.bool true) ∧ Below w.heap.size w w' := by
  obtain ⟨p, cap, rfl, h1, h2, h3⟩ := h
  obtain ⟨p', cap', rfl, h1', h2', h3'⟩ := h'
  obtain ⟨N, hN⟩ : ∃ N, xs.length = N := ⟨_, rfl⟩
  rw [hN] at h1 h3 h1' h3' ⊢
  have l1 : (N : Int) ≤ (cap : Int) := by omega
  have l2 : (cap : Int) ≤ 9223372036854775807 := by unfold maxLen at h2; omega
  have l1' : (N : Int) ≤ (cap' : Int) := by omega
  have l2' : (cap' : Int) ≤ 9223372036854775807 := by unfold maxLen at h2'; omega
  have C := Lib.hid h3
  have C' := Lib.hid h3'
  clear h3 h3' h2 h2' hN
  go_enter Try.func23, Try.ntmps23
  go_wp2_with fail
  go_loopg [5] N (fun gk vi wr => ∃ i, i + gk = N ∧ vi = .int .i64 (i : Nat) ∧ Below w.heap.size w wr)
  case atStart => exact ⟨0, by omega, rfl, Below.refl _ _⟩
  case round =>
    obtain ⟨i, hi, rfl, hb⟩ := hrel
    have HB := Lib.hid hb
    by_cases hlt : i < N
    · have i1 : (i : Int) < (N : Int) := by omega
      have i0 : (0 : Int) ≤ (i : Int) := by omega
      obtain ⟨g, o, rfl, x1⟩ := C.out i hlt
      obtain ⟨g', o', rfl, x2⟩ := C'.out i hlt
      have y1 : wr.cell? ⟨g, o + i, none⟩ = some (.int .u64 ((xs.getD i 0 : Nat) : Int)) := by rw [hb.cell (World.block_lt_of_cell? _ _ x1)]; exact x1
      have y2 : wr.cell? ⟨g', o' + i, none⟩ = some (.int .u64 ((xs.getD i 0 : Nat) : Int)) := by rw [hb.cell (World.block_lt_of_cell? _ _ x2)]; exact x2
      obtain ⟨x, hx⟩ : ∃ x, xs.getD i 0 = x := ⟨_, rfl⟩
      rw [hx] at y1 y2
      clear x1 x2 hx hb
      go_wp2_with fail
      go_quiet (fail)
      go_wp2_with fail
      go_roundg (gk - 1)
      case measure => omega
      case rel => exact ⟨i + 1, by omega, by go_num, HB.out.drewN _⟩
    · have i1 : ¬ (i : Int) < (N : Int) := by omega
      go_wp2_with fail
      go_ret
      exact ⟨rfl, HB.out⟩

/-- A model behind a cut. -/
def CutS (Q : Nat → Prop) (w : World) (p K : Nat) (R : Nat → List Nat) : Prop := ∃ gl cap bv br, MdAt Q w p 4 K gl cap bv br R R
section
variable {Q Q' : Nat → Prop} {w w' : World} {p K i : Nat} {R : Nat → List Nat}
theorem CutS.cut (h : CutS Q w p K R) : Calls Try.prog 17 #[.pointer (some ⟨p, 0, none⟩)] w fun e w' => e = .returned (.tuple #[]) ∧ CutS Q w' p K R ∧ Off Q w w' := by
  obtain ⟨gl, cap, bv, br, h1⟩ := h
  exact (cut_any h1).mono fun e w' ⟨he, ⟨b', hm⟩, hb⟩ => ⟨he, ⟨_, _, _, _, hm⟩, hb⟩
theorem CutS.of (P : Nat → List Nat → Prop) (h : MdP P Q w p 4 K) : Calls Try.prog 17 #[.pointer (some ⟨p, 0, none⟩)] w fun e w' => e = .returned (.tuple #[]) ∧ (∃ R, CutS Q w' p K R ∧ ∀ i, i < 4 → P i (R i)) ∧ Off Q w w' := by
  obtain ⟨gl, cap, bv, br, V, R, h1, h2⟩ := h
  exact (cut_any h1).mono fun e w' ⟨he, ⟨b', hm⟩, hb⟩ => ⟨he, ⟨R, ⟨_, _, _, _, hm⟩, fun i hi => (h2 i hi).2⟩, hb⟩
theorem CutS.imp (h : CutS Q w p K R) (hb : Below w.heap.size w w') (hQ : ∀ j, j < w.heap.size → Q j → Q' j) (up : ∀ j, w'.heap.size ≤ j → Q' j) : CutS Q' w' p K R := by
  obtain ⟨gl, cap, bv, br, h1⟩ := h
  exact ⟨gl, cap, bv, br, h1.conv (fun j hj => hb.block j (h1.mdB hj).2) (fun j hj => hQ j (h1.mdB hj).2 (h1.mdB hj).1) up⟩
theorem CutS.up (h : CutS Q w p K R) : ∀ j, w.heap.size ≤ j → Q j := by
  obtain ⟨gl, cap, bv, br, h1⟩ := h
  exact h1.up
theorem CutS.sets (h : CutS Q w p K R) (hi : i < 4) : Rising (R i) ∧ (∀ x ∈ R i, x < 18446744073709551616) ∧ (R i).length ≤ K := by
  obtain ⟨gl, cap, bv, br, h1⟩ := h
  exact ⟨(h1.sv i hi).2.1, (h1.sv i hi).2.2, h1.lv i hi⟩
theorem CutS.may (h : CutS Q w p K R) (hi : i < 4) (h0 : R i ≠ []) (hK : K ≤ 60000) :
    Calls Try.prog 22 #[.pointer (some ⟨p, 0, none⟩), .int .i64 (i : Nat)] w fun e w' => ∃ g cp, e = .returned (.slice (some ⟨g, 0, none⟩) (R i).length cp) ∧ w.heap.size ≤ g ∧ Ow .u64 31 w' g (R i).length cp ((R i).getD · 0) ∧ Below w.heap.size w w' := by
  obtain ⟨gl, cap, bv, br, h1⟩ := h
  refine (may_in 60000 sort_long (by omega) h1 hi h0 (by have := h1.lv i hi; omega)).mono ?_
  rintro e w' ⟨⟨v, rfl, hv⟩, hb⟩
  obtain ⟨g, cp, rfl, hg, how⟩ := hv.ow (List.length_pos_iff.2 h0)
  exact ⟨g, cp, rfl, hg, how, hb⟩
end
end Go.Proofs.Ytboonpfdlbedoaa.Qv
