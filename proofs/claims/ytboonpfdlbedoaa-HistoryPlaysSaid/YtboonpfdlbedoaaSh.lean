/- Walks over slices: heapSortOrdered at numbers. -/
import Derived.Test.YtboonpfdlbedoaaSg
namespace Go.Proofs.Ytboonpfdlbedoaa
open Go Go.RowKit Go.Mem Go.Sort
set_option linter.unusedVariables false

set_option maxRecDepth 100000 in
set_option maxHeartbeats 6400000 in
theorem heap_any (g cap a b : Nat) (d : Array Nat) (w : World) (h : RwU w g cap d) (hab : a < b) (hb : b ≤ d.size) (hsz : d.size ≤ 1000000000) :
    Calls Try.prog 40 #[.slice (some ⟨g, 0, none⟩) d.size cap, .int .i64 (a : Nat), .int .i64 (b : Nat)] w fun e w' => e = .returned (.tuple #[]) ∧ RwU w' g cap (heapSort ltN d a b) ∧ (heapSort ltN d a b).size = d.size ∧ w.grownBy w' (some g) := by
  obtain ⟨N, hN⟩ : ∃ N, d.size = N := ⟨_, rfl⟩
  have hca : N ≤ cap ∧ cap ≤ maxLen := by obtain ⟨_, _, _, h1, h2, _⟩ := h; exact ⟨by omega, h2⟩
  have hc1 : (N : Int) ≤ (cap : Int) := by omega
  have hc2 : (cap : Int) ≤ 9223372036854775807 := by have := hca.2; unfold maxLen at this; omega
  have H := Lib.hid h
  have HN := Lib.hid hN
  rw [hN] at hb hsz ⊢
  clear h hca hN
  obtain ⟨hi, hhi⟩ : ∃ hi, b - a = hi := ⟨_, rfl⟩
  have hh2 : (b : Int) - (a : Int) = (hi : Nat) := by omega
  obtain ⟨k0, hk0⟩ : ∃ k0, (hi - 1) / 2 = k0 := ⟨_, rfl⟩
  have hh1 : 1 ≤ hi := by omega
  have hE : heapSort ltN d a b = heapPop ltN a hi (heapBuild ltN hi a (k0 + 1) d) := by unfold heapSort; rw [hhi, hk0]
  have HE := Lib.hid hE
  obtain ⟨m0, hm0⟩ : ∃ m0, hi - 1 = m0 := ⟨_, rfl⟩
  have hm1 : (hi : Int) - 1 = (m0 : Nat) := by omega
  have hk1 : (m0 : Int) / 2 = (k0 : Nat) := by omega
  clear hE hk0 hhi
  go_enter Try.func40, Try.ntmps40
  go_wp2_with fail
  go_loopg [9] (k0 + 1) (fun gk vi wr => ∃ (dk : Array Nat), gk ≤ k0 + 1 ∧ vi = .int .i64 ((gk : Int) - 1) ∧ dk.size = N ∧ RwU wr g cap dk ∧ w.grownBy wr (some g) ∧ heapBuild ltN hi a gk dk = heapBuild ltN hi a (k0 + 1) d)
  case atStart => exact ⟨d, Nat.le_refl _, by congr 1; omega, HN.out, H.out, ((Below.refl w.heap.size w)).toGrown _, rfl⟩
  case round =>
    obtain ⟨dk, hg, rfl, hsk, hrk, hgk, hO⟩ := hrel
    have HSK := Lib.hid hsk
    have HRK := Lib.hid hrk
    have HGK := Lib.hid hgk
    have HO := Lib.hid hO
    clear hsk hrk hgk hO
    obtain ⟨gk0, rfl⟩ : ∃ V, V = gk := ⟨_, rfl⟩
    cases gk0 with
    | zero =>
      rw [show (((0 : Nat) : Int) - 1) = -1 from rfl]
      have HO1 := Lib.hid (show heapPop ltN a hi dk = heapSort ltN d a b from by rw [HE.out, ← HO.out]; rfl)
      clear HO HE
      obtain ⟨wo, rfl⟩ : ∃ wo : World, wo = wr := ⟨_, rfl⟩
      go_wp2_with fail
      go_loopg [10] hi (fun gk vi wr => ∃ (dk : Array Nat), gk ≤ hi ∧ vi = .int .i64 ((gk : Int) - 1) ∧ dk.size = N ∧ RwU wr g cap dk ∧ w.grownBy wr (some g) ∧ heapPop ltN a gk dk = heapSort ltN d a b)
      case atStart => exact ⟨dk, Nat.le_refl _, by congr 1; omega, HSK.out, HRK.out, HGK.out, HO1.out⟩
      case round =>
        clear HSK HRK HGK HO1
        obtain ⟨dk, hg, rfl, hsk, hrk, hgk, hO⟩ := hrel
        have HSK := Lib.hid hsk
        have HRK := Lib.hid hrk
        have HGK := Lib.hid hgk
        have HO := Lib.hid hO
        clear hsk hrk hgk hO
        obtain ⟨gk0, rfl⟩ : ∃ V, V = gk := ⟨_, rfl⟩
        cases gk0 with
        | zero =>
          rw [show (((0 : Nat) : Int) - 1) = -1 from rfl]
          go_wp2_with fail
          go_end0
          have e := HO.out
          rw [show heapPop ltN a 0 dk = dk from rfl] at e
          rw [← e]
          exact ⟨rfl, HRK.out, HSK.out, HGK.out⟩
        | succ r =>
          have i1 : (((r + 1 : Nat) : Int) - 1) = (r : Nat) := by omega
          rw [i1]
          clear i1
          have i0 : (0 : Int) ≤ (r : Int) := by omega
          obtain ⟨e1, he1⟩ : ∃ e1, a + r = e1 := ⟨_, rfl⟩
          have q1 : (a : Int) + (r : Int) = (e1 : Nat) := by omega
          have l1 : (e1 : Int) < (N : Int) := by omega
          have l0 : (a : Int) < (N : Int) := by omega
          have m1 : e1 < dk.size := by rw [HSK.out]; omega
          have m0 : a < dk.size := by rw [HSK.out]; omega
          have M01 := Lib.hid (And.intro m0 m1)
          have c1 := HRK.out.cell (j := e1) m1
          have c2 := HRK.out.cell (j := a) m0
          have z1 := HRK.out.free e1
          have z2 := HRK.out.free a
          have hO2 : heapPop ltN a r (siftDown ltN r a 0 (swp dk a e1)) = heapSort ltN d a b := by rw [← HO.out, ← he1]; rfl
          have HO2 := Lib.hid hO2
          clear hO2
          by_cases hr0 : r = 0
          · subst hr0
            obtain rfl : a = e1 := by omega
            have q2 : (a : Int) + 0 = (a : Nat) := by omega
            obtain ⟨x, hx⟩ : ∃ x, dk[a]! = x := ⟨_, rfl⟩
            have HX := Lib.hid hx
            rw [hx] at c2
            clear hx m0 m1 c1 z1 q1 l1
            go_wp2_with fail
            go_region
            all_goals
              have h1 := HRK.out.swap (j := a) (k := a) M01.out.1 M01.out.1
              rw [HX.out] at h1
              obtain ⟨W1, hW1⟩ : ∃ W1, ((wr.setCell ⟨g, a, none⟩ (.int .u64 (x : Nat))).setCell ⟨g, a, none⟩ (.int .u64 (x : Nat))).drew = W1 := ⟨_, rfl⟩
              have G1 := Lib.hid (show w.grownBy W1 (some g) from hW1 ▸ grow_tr HGK.out (grow_tr (grow_swap _ g a a _ _) (grow_drewN _ 1 _)))
              replace h1 : RwU W1 g cap (swp dk a a) := hW1 ▸ h1
              rw [hW1]
              have HSI := Lib.hid (sift_any g cap 0 a 0 (swp dk a a) W1 h1 (by rw [swp_size, HSK.out]; omega) (by rw [swp_size, HSK.out]; omega) (by omega))
              rw [swp_size, HSK.out] at HSI
              clear hW1 h1
              go_wp2_with fail
              refine HSI.out.mono ?_
              rintro e w2 ⟨rfl, r2, s2, g2⟩
              have R2 := Lib.hid r2
              have S2 := Lib.hid s2
              have G2 := Lib.hid g2
              clear r2 s2 g2
              go_wp2_with fail
              go_roundg 0
              case measure => omega
              case rel => exact ⟨_, by omega, by go_num, S2.out, R2.out, grow_tr G1.out G2.out, HO2.out⟩
          · have hj3 : ¬ a = e1 := by omega
            have hj4 : ¬ e1 = a := by omega
            obtain ⟨x, hx⟩ : ∃ x, dk[a]! = x := ⟨_, rfl⟩
            obtain ⟨y, hy⟩ : ∃ y, dk[e1]! = y := ⟨_, rfl⟩
            have HXY := Lib.hid (And.intro hx hy)
            rw [hx] at c2
            rw [hy] at c1
            clear hx hy m0 m1
            go_wp2_with fail
            go_region
            all_goals
              have h1 := HRK.out.swap (j := a) (k := e1) M01.out.1 M01.out.2
              rw [HXY.out.1, HXY.out.2] at h1
              obtain ⟨W1, hW1⟩ : ∃ W1, ((wr.setCell ⟨g, a, none⟩ (.int .u64 (y : Nat))).setCell ⟨g, e1, none⟩ (.int .u64 (x : Nat))).drew = W1 := ⟨_, rfl⟩
              have G1 := Lib.hid (show w.grownBy W1 (some g) from hW1 ▸ grow_tr HGK.out (grow_tr (grow_swap _ g a e1 _ _) (grow_drewN _ 1 _)))
              replace h1 : RwU W1 g cap (swp dk a e1) := hW1 ▸ h1
              rw [hW1]
              have HSI := Lib.hid (sift_any g cap r a 0 (swp dk a e1) W1 h1 (by rw [swp_size, HSK.out]; omega) (by rw [swp_size, HSK.out]; omega) (by omega))
              rw [swp_size, HSK.out] at HSI
              clear hW1 h1
              go_wp2_with fail
              refine HSI.out.mono ?_
              rintro e w2 ⟨rfl, r2, s2, g2⟩
              have R2 := Lib.hid r2
              have S2 := Lib.hid s2
              have G2 := Lib.hid g2
              clear r2 s2 g2
              go_wp2_with fail
              go_roundg r
              case measure => omega
              case rel => exact ⟨_, by omega, by go_num, S2.out, R2.out, grow_tr G1.out G2.out, HO2.out⟩
    | succ r =>
      have i1 : (((r + 1 : Nat) : Int) - 1) = (r : Nat) := by omega
      rw [i1]
      clear i1
      have i0 : (0 : Int) ≤ (r : Int) := by omega
      have HSI := Lib.hid (sift_any g cap hi a r dk wr HRK.out (by rw [HSK.out]; omega) (by rw [HSK.out]; omega) (by omega))
      rw [HSK.out] at HSI
      go_wp2_with fail
      refine HSI.out.mono ?_
      rintro e w2 ⟨rfl, r2, s2, g2⟩
      have R2 := Lib.hid r2
      have S2 := Lib.hid s2
      have G2 := Lib.hid g2
      clear r2 s2 g2
      go_wp2_with fail
      go_roundg r
      case measure => omega
      case rel => exact ⟨_, by omega, by go_num, S2.out, R2.out, grow_tr HGK.out G2.out, HO.out⟩
end Go.Proofs.Ytboonpfdlbedoaa
