/- Walks over slices: insertionSortOrdered at numbers. -/
import Derived.Test.YtboonpfdlbedoaaSa
namespace Go.Proofs.Ytboonpfdlbedoaa
open Go Go.RowKit Go.Mem Go.Sort

set_option maxRecDepth 100000 in
set_option maxHeartbeats 3200000 in
theorem ins_any (g cap a b : Nat) (d : Array Nat) (w : World) (h : RwU w g cap d) (hab : a ≤ b) (hb : b ≤ d.size) (hsz : d.size ≤ 1000000000) :
    Calls Try.prog 39 #[.slice (some ⟨g, 0, none⟩) d.size cap, .int .i64 (a : Nat), .int .i64 (b : Nat)] w fun e w' => e = .returned (.tuple #[]) ∧ RwU w' g cap (insertionSort ltN d a b) ∧ (insertionSort ltN d a b).size = d.size ∧ w.grownBy w' (some g) := by
  obtain ⟨N, hN⟩ : ∃ N, d.size = N := ⟨_, rfl⟩
  have hca : N ≤ cap ∧ cap ≤ maxLen := by obtain ⟨_, _, _, h1, h2, _⟩ := h; exact ⟨by omega, h2⟩
  have hc1 : (N : Int) ≤ (cap : Int) := by omega
  have hc2 : (cap : Int) ≤ 9223372036854775807 := by have := hca.2; unfold maxLen at this; omega
  have H := Lib.hid h
  have HN := Lib.hid hN
  rw [hN] at hb hsz ⊢
  clear h hca hN
  go_enter Try.func39, Try.ntmps39
  go_wp2_with fail
  go_loopg [6] (b - a) (fun gk vi wr => ∃ (i : Nat) (dk : Array Nat), a < i ∧ i + gk = b + 1 ∧ vi = .int .i64 (i : Nat) ∧ dk.size = N ∧ RwU wr g cap dk ∧ w.grownBy wr (some g) ∧ insOuter ltN a b i dk = insOuter ltN a b (a + 1) d)
  case atStart => exact ⟨a + 1, d, by omega, by omega, by go_num, HN.out, H.out, ((Below.refl w.heap.size w)).toGrown _, rfl⟩
  case round =>
    obtain ⟨i, dk, hai, hib, rfl, hsk, hrk, hgk, hO⟩ := hrel
    have HSK := Lib.hid hsk
    have HRK := Lib.hid hrk
    have HGK := Lib.hid hgk
    have HO := Lib.hid hO
    clear hsk hrk hgk hO
    by_cases hlt : i < b
    · have i1 : (i : Int) < (b : Int) := by omega
      obtain ⟨wo, rfl⟩ : ∃ wo : World, wo = wr := ⟨_, rfl⟩
      obtain ⟨gk0, rfl⟩ : ∃ V, V = gk := ⟨_, rfl⟩
      go_wp2_with fail
      go_loopg [7] i (fun gk2 vj wr => ∃ (j : Nat) (dj : Array Nat), j = gk2 ∧ a ≤ j ∧ j ≤ i ∧ vj = .int .i64 (j : Nat) ∧ dj.size = N ∧ RwU wr g cap dj ∧ w.grownBy wr (some g) ∧ insInner ltN a j dj = insInner ltN a i dk)
      case atStart => exact ⟨i, dk, rfl, by omega, Nat.le_refl _, rfl, HSK.out, HRK.out, HGK.out, rfl⟩
      case round =>
        obtain ⟨j, dj, rfl, haj, hji, rfl, hsj, hrj, hgj, hI⟩ := hrel
        have HSJ := Lib.hid hsj
        have HRJ := Lib.hid hrj
        have HGJ := Lib.hid hgj
        have HI := Lib.hid hI
        have out : (j ≤ a ∨ ltN dj[j]! dj[j - 1]! = false) → ∀ q, ∃ (i' : Nat) (dk' : Array Nat), a < i' ∧ i' + (gk0 - 1) = b + 1 ∧ Value.int .i64 ((i : Int) + 1) = .int .i64 (i' : Nat) ∧ dk'.size = N ∧ RwU (wr.drewN q) g cap dk' ∧ w.grownBy (wr.drewN q) (some g) ∧ insOuter ltN a b i' dk' = insOuter ltN a b (a + 1) d := fun hs q =>
          ⟨i + 1, dj, by omega, by omega, by go_num, hsj, hrj, grow_tr hgj (grow_drewN _ _ _), by rw [← HO.out, insOuter_go _ _ _ _ _ hlt, ← hI, insInner_stop _ _ _ _ hs]⟩
        have OUT := Lib.hid out
        clear hsj hrj hgj hI out
        by_cases hja : a < j
        · have c1 := HRJ.out.cell (j := j) (by rw [HSJ.out]; omega)
          have c2 := HRJ.out.cell (j := j - 1) (by rw [HSJ.out]; omega)
          have z1 := HRJ.out.free j
          have z2 := HRJ.out.free (j - 1)
          obtain ⟨x, hx⟩ : ∃ x, dj[j]! = x := ⟨_, rfl⟩
          obtain ⟨y, hy⟩ : ∃ y, dj[j - 1]! = y := ⟨_, rfl⟩
          have HXY := Lib.hid (And.intro hx hy)
          rw [hx] at c1
          rw [hy] at c2
          have hj1 : (a : Int) < (j : Int) := by omega
          have hj2 : (j : Int) < (N : Int) := by omega
          have hj3 : ¬ j = j - 1 := by omega
          have hj4 : ¬ j - 1 = j := by omega
          have HL := Lib.hid (fun q => less_any x y (wr.drewN q))
          clear hx hy
          cases hl : ltN x y with
          | true =>
            have HL2 := Lib.hid (fun q => by have := HL.out q; rw [hl] at this; exact this)
            have HLT := Lib.hid hl
            clear HL hl
            go_wp2_with fail
            go_quiet ((go_at_call 45; exact quiet_eq (HL2.out _)))
            go_wp2_with fail
            go_region
            all_goals
              go_wp2_with fail
              go_roundg (j - 1)
              case measure => omega
              case rel =>
                have h1 := (show RwU ((wr.drewN nq).drew) g cap dj from HRJ.out).swap (j := j) (k := j - 1) (by rw [HSJ.out]; omega) (by rw [HSJ.out]; omega)
                rw [HXY.out.1, HXY.out.2] at h1
                exact ⟨j - 1, swp dj j (j - 1), rfl, by omega, by omega, by congr 1; omega, by rw [swp_size]; exact HSJ.out, h1, grow_tr HGJ.out (grow_tr (grow_drewN _ nq _) (grow_tr (grow_drewN _ 1 _) (grow_swap _ g j (j - 1) _ _))), by rw [← HI.out, insInner_go ltN a j dj hja (by rw [HXY.out.1, HXY.out.2]; exact HLT.out)]⟩
          | false =>
            have HL2 := Lib.hid (fun q => by have := HL.out q; rw [hl] at this; exact this)
            have HLT := Lib.hid hl
            clear HL hl
            go_wp2_with fail
            go_quiet ((go_at_call 45; exact quiet_eq (HL2.out _)))
            go_wp2_with fail
            go_roundg (gk0 - 1)
            case measure => omega
            case rel => exact OUT.out (Or.inr (by rw [HXY.out.1, HXY.out.2]; exact HLT.out)) nq
        · have hd : decide (((a : Nat) : Int) < ((j : Nat) : Int)) = false := by simpa using hja
          have hj1 : ¬ (a : Int) < (j : Int) := by omega
          go_wp2_with fail
          go_quiet (fail)
          go_wp2_with fail
          go_roundg (gk0 - 1)
          case measure => omega
          case rel => exact OUT.out (Or.inl (by omega)) nq
    · have i1 : ¬ (i : Int) < (b : Int) := by omega
      go_wp2_with fail
      go_end0
      have e := HO.out
      rw [insOuter_stop _ _ _ _ _ hlt] at e
      unfold insertionSort
      rw [← e]
      exact ⟨rfl, HRK.out, HSK.out, HGK.out⟩
end Go.Proofs.Ytboonpfdlbedoaa
