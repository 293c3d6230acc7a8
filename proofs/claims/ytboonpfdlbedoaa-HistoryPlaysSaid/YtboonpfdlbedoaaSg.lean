/- Walks over slices: reverseRangeOrdered, order2Ordered at numbers. -/
import Derived.Test.YtboonpfdlbedoaaSf
namespace Go.Proofs.Ytboonpfdlbedoaa
open Go Go.RowKit Go.Mem Go.Sort
set_option linter.unusedVariables false

set_option maxRecDepth 100000 in
set_option maxHeartbeats 6400000 in
theorem rev_any (g cap a b : Nat) (d : Array Nat) (w : World) (h : RwU w g cap d) (h1 : 1 ≤ b) (hb : b ≤ d.size) (hsz : d.size ≤ 1000000000) (ha : a ≤ b) :
    Calls Try.prog 43 #[.slice (some ⟨g, 0, none⟩) d.size cap, .int .i64 (a : Nat), .int .i64 (b : Nat)] w fun e w' => e = .returned (.tuple #[]) ∧ RwU w' g cap (reverseRange d a b) ∧ (reverseRange d a b).size = d.size ∧ w.grownBy w' (some g) := by
  obtain ⟨N, hN⟩ : ∃ N, d.size = N := ⟨_, rfl⟩
  have hca : N ≤ cap ∧ cap ≤ maxLen := by obtain ⟨_, _, _, h1, h2, _⟩ := h; exact ⟨by omega, h2⟩
  have hc1 : (N : Int) ≤ (cap : Int) := by omega
  have hc2 : (cap : Int) ≤ 9223372036854775807 := by have := hca.2; unfold maxLen at this; omega
  have H := Lib.hid h
  have HN := Lib.hid hN
  rw [hN] at hb hsz ⊢
  clear h hca hN
  obtain ⟨b1, hb1⟩ : ∃ b1, b - 1 = b1 := ⟨_, rfl⟩
  have hb2 : (b : Int) - 1 = (b1 : Nat) := by omega
  have hE : reverseRange d a b = reverseLoop a b1 d := by unfold reverseRange; rw [hb1]
  rw [hE]
  clear hE
  go_enter Try.func43, Try.ntmps43
  go_wp2_with fail
  go_loopg [6, 7] (b1 - a) (fun gk vi vj wr => ∃ (i j : Nat) (dk : Array Nat), gk = j - i ∧ i ≤ 1000000000 ∧ j < N ∧ vi = .int .i64 (i : Nat) ∧ vj = .int .i64 (j : Nat) ∧ dk.size = N ∧ RwU wr g cap dk ∧ w.grownBy wr (some g) ∧ reverseLoop i j dk = reverseLoop a b1 d)
  case atStart => exact ⟨a, b1, d, rfl, by omega, by omega, rfl, rfl, HN.out, H.out, ((Below.refl w.heap.size w)).toGrown _, rfl⟩
  case round =>
    obtain ⟨i, j, dk, rfl, hi1, hj1, rfl, rfl, hsk, hrk, hgk, hO⟩ := hrel
    have HSK := Lib.hid hsk
    have HRK := Lib.hid hrk
    have HGK := Lib.hid hgk
    have HO := Lib.hid hO
    clear hsk hrk hgk hO
    by_cases hlt : i < j
    · have i1 : (i : Int) < (j : Int) := by omega
      have i2 : (j : Int) < (N : Int) := by omega
      have i3 : (i : Int) < (N : Int) := by omega
      have m1 : j < dk.size := by rw [HSK.out]; omega
      have m0 : i < dk.size := by rw [HSK.out]; omega
      have M01 := Lib.hid (And.intro m0 m1)
      have hj3 : ¬ i = j := by omega
      have hj4 : ¬ j = i := by omega
      have c1 := HRK.out.cell (j := j) m1
      have c2 := HRK.out.cell (j := i) m0
      have z1 := HRK.out.free j
      have z2 := HRK.out.free i
      obtain ⟨x, hx⟩ : ∃ x, dk[i]! = x := ⟨_, rfl⟩
      obtain ⟨y, hy⟩ : ∃ y, dk[j]! = y := ⟨_, rfl⟩
      have HXY := Lib.hid (And.intro hx hy)
      rw [hx] at c2
      rw [hy] at c1
      clear hx hy m0 m1
      go_wp2_with fail
      go_region
      all_goals
        go_wp2_with fail
        go_roundg (j - 1 - (i + 1))
        case measure => omega
        case rel =>
          have h1 := (show RwU (wr.drew) g cap dk from HRK.out).swap (j := i) (k := j) M01.out.1 M01.out.2
          rw [HXY.out.1, HXY.out.2] at h1
          exact ⟨i + 1, j - 1, swp dk i j, rfl, by omega, by omega, by go_num, by congr 1; omega, by rw [swp_size]; exact HSK.out, h1, grow_tr HGK.out (grow_tr (grow_drewN _ 1 _) (grow_swap _ g i j _ _)), by rw [← HO.out]; conv => rhs; rw [reverseLoop, if_pos hlt]⟩
    · have i1 : ¬ (i : Int) < (j : Int) := by omega
      have hst : reverseLoop i j dk = dk := by rw [reverseLoop, if_neg hlt]
      have HST := Lib.hid hst
      clear hst
      go_wp2_with fail
      go_end0
      rw [← HO.out, HST.out]
      exact ⟨rfl, HRK.out, HSK.out, HGK.out⟩
end Go.Proofs.Ytboonpfdlbedoaa
