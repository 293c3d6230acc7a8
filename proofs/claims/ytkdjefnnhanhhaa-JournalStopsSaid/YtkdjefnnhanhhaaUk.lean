/- A row of numbers that is sorted in place: memory. -/
import Derived.Test.YtkdjefnnhanhhaaUa
import Derived.Test.YtkdjefnnhanhhaaZHa
import Derived.Test.YtkdjefnnhanhhaaProg
import Derived.WalkKit
import Derived.RegionTactic
import Derived.ChangeAlike
import Derived.BigRegion
import Derived.Lib.Hide
import Derived.Outline
import Derived.Sort.Defs
import Derived.Sort.WalkA
import Derived.Deep.QuietTactic
import Derived.BigQuiet
import Derived.Deep.LoopGhost
import Derived.Deep.Cut
set_option linter.unusedVariables false
namespace Go.Proofs.Ytkdjefnnhanhhaa
open Go Go.RowKit Go.Mem Go.Sort

theorem getB (d : Array Nat) (i : Nat) : d[i]! = d[i]?.getD 0 := by
  rw [getElem!_def]
  cases d[i]? <;> rfl
/-- Block g holds the row d, and room for cap. -/
abbrev RwU (w : World) (g cap : Nat) (d : Array Nat) : Prop := Ow .u64 38 w g d.size cap (fun j => d[j]!)
def ltN : Nat → Nat → Bool := fun x y => decide (x < y)
theorem swp_size (d : Array Nat) (j k : Nat) : (swp d j k).size = d.size := by simp [swp]
theorem RwU.swap {w : World} {g cap : Nat} {d : Array Nat} (h : RwU w g cap d) {j k : Nat} (hj : j < d.size) (hk : k < d.size) :
    RwU ((w.setCell ⟨g, j, none⟩ (.int .u64 ((d[k]! : Nat) : Int))).setCell ⟨g, k, none⟩ (.int .u64 ((d[j]! : Nat) : Int))) g cap (swp d j k) := by
  have h2 := (Ow.set h j d[k]!).set k d[j]!
  unfold RwU
  rw [swp_size]
  refine h2.congr (fun i hi => ?_)
  unfold upd swp
  rw [getB (Array.setIfInBounds _ _ _), Array.getElem?_setIfInBounds, Array.getElem?_setIfInBounds]
  by_cases e : k = i
  · subst e
    rw [if_pos rfl, if_pos rfl, if_pos (by simpa using hk)]
    rfl
  · rw [if_neg (fun h => e h.symm), if_neg e]
    by_cases e' : j = i
    · subst e'
      rw [if_pos rfl, if_pos rfl, if_pos hj]
      rfl
    · rw [if_neg (fun h => e' h.symm), if_neg e', ← getB]
theorem RwU.grown {w w' : World} {g cap b : Nat} {d : Array Nat} (h : RwU w g cap d) (hg : w.grownBy w' (some b)) (hne : g ≠ b) : RwU w' g cap d := Ow.same h (hg.block g h.lt (fun e => hne (Option.some.inj e)))
theorem grow_tr {w w1 w2 : World} {g : Nat} (h1 : w.grownBy w1 (some g)) (h2 : w1.grownBy w2 (some g)) : w.grownBy w2 (some g) :=
  ⟨h2.os.trans h1.os, h2.tape.trans h1.tape, h2.output.trans h1.output, Nat.le_trans h1.size h2.size, fun j hj hne => (h2.block j (Nat.lt_of_lt_of_le hj h1.size) hne).trans (h1.block j hj hne)⟩
theorem grow_drewN (w : World) (n g : Nat) : w.grownBy (w.drewN n) (some g) := ((Below.refl w.heap.size w).drewN n).toGrown _
theorem grow_swap (w : World) (g j k : Nat) (x y : Value) : w.grownBy ((w.setCell ⟨g, j, none⟩ x).setCell ⟨g, k, none⟩ y) (some g) := grow_tr (grown_set w g j x) (grown_set _ g k y)

set_option maxHeartbeats 1600000 in
theorem isNaN_any (x : Nat) (w : World) : Calls Try.prog 78 #[.int .u64 (x : Nat)] w fun e w' => e = .returned (.bool false) ∧ w = w' := by
  go_enter Try.func78, Try.ntmps78
  go_wp2_with fail
  go_ret
  exact ⟨by simp, rfl⟩
set_option maxHeartbeats 1600000 in
theorem less_any (x y : Nat) (w : World) : Calls Try.prog 67 #[.int .u64 (x : Nat), .int .u64 (y : Nat)] w fun e w' => e = .returned (.bool (ltN x y)) ∧ w = w' := by
  have HN := Lib.hid (isNaN_any x w)
  go_enter Try.func67, Try.ntmps67
  go_wp2_with fail
  refine HN.out.mono ?_
  rintro e w' ⟨rfl, rfl⟩
  go_wp2_with fail
  go_ret
  exact ⟨by unfold ltN; simp, rfl⟩
end Go.Proofs.Ytkdjefnnhanhhaa
/- Walks over slices: insertionSortOrdered at numbers. -/
namespace Go.Proofs.Ytkdjefnnhanhhaa
open Go Go.RowKit Go.Mem Go.Sort

set_option maxRecDepth 100000 in
set_option maxHeartbeats 3200000 in
theorem ins_any (g cap a b : Nat) (d : Array Nat) (w : World) (h : RwU w g cap d) (hab : a ≤ b) (hb : b ≤ d.size) (hsz : d.size ≤ 1000000000) :
    Calls Try.prog 61 #[.slice (some ⟨g, 0, none⟩) d.size cap, .int .i64 (a : Nat), .int .i64 (b : Nat)] w fun e w' => e = .returned (.tuple #[]) ∧ RwU w' g cap (insertionSort ltN d a b) ∧ (insertionSort ltN d a b).size = d.size ∧ w.grownBy w' (some g) := by
  obtain ⟨N, hN⟩ : ∃ N, d.size = N := ⟨_, rfl⟩
  have hca : N ≤ cap ∧ cap ≤ maxLen := by obtain ⟨_, _, _, h1, h2, _⟩ := h; exact ⟨by omega, h2⟩
  have hc1 : (N : Int) ≤ (cap : Int) := by omega
  have hc2 : (cap : Int) ≤ 9223372036854775807 := by have := hca.2; unfold maxLen at this; omega
  have H := Lib.hid h
  have HN := Lib.hid hN
  rw [hN] at hb hsz ⊢
  clear h hca hN
  go_enter Try.func61, Try.ntmps61
  go_wp2_with fail
  go_loopg [6] (b - a) (fun gk vi wr => ∃ (i : Nat) (dk : Array Nat), a < i ∧ i + gk = b + 1 ∧ vi = .int .i64 (i : Nat) ∧ dk.size = N ∧ RwU wr g cap dk ∧ w.grownBy wr (some g) ∧ insOuter ltN a b i dk = insOuter ltN a b (a + 1) d)
  case atStart => exact ⟨a + 1, d, by omega, by omega, by go_num, HN.out, H.out, ((Below.refl w.heap.size w)).toGrown _, rfl⟩
  case round =>
    obtain ⟨i, dk, hai, hib, rfl, hsk, hrk, hgk, hO⟩ := hrel
    have HSK := Lib.hid hsk
    have HRK := Lib.hid hrk
    have HGK := Lib.hid hgk
    have HO := Lib.hid hO
    clear hsk hrk hgk hO
    by_cases hlt : i < b
    · have i1 : (i : Int) < (b : Int) := by omega
      obtain ⟨wo, rfl⟩ : ∃ wo : World, wo = wr := ⟨_, rfl⟩
      obtain ⟨gk0, rfl⟩ : ∃ V, V = gk := ⟨_, rfl⟩
      go_wp2_with fail
      go_loopg [7] i (fun gk2 vj wr => ∃ (j : Nat) (dj : Array Nat), j = gk2 ∧ a ≤ j ∧ j ≤ i ∧ vj = .int .i64 (j : Nat) ∧ dj.size = N ∧ RwU wr g cap dj ∧ w.grownBy wr (some g) ∧ insInner ltN a j dj = insInner ltN a i dk)
      case atStart => exact ⟨i, dk, rfl, by omega, Nat.le_refl _, rfl, HSK.out, HRK.out, HGK.out, rfl⟩
      case round =>
        obtain ⟨j, dj, rfl, haj, hji, rfl, hsj, hrj, hgj, hI⟩ := hrel
        have HSJ := Lib.hid hsj
        have HRJ := Lib.hid hrj
        have HGJ := Lib.hid hgj
        have HI := Lib.hid hI
        have out : (j ≤ a ∨ ltN dj[j]! dj[j - 1]! = false) → ∀ q, ∃ (i' : Nat) (dk' : Array Nat), a < i' ∧ i' + (gk0 - 1) = b + 1 ∧ Value.int .i64 ((i : Int) + 1) = .int .i64 (i' : Nat) ∧ dk'.size = N ∧ RwU (wr.drewN q) g cap dk' ∧ w.grownBy (wr.drewN q) (some g) ∧ insOuter ltN a b i' dk' = insOuter ltN a b (a + 1) d := fun hs q =>
          ⟨i + 1, dj, by omega, by omega, by go_num, hsj, hrj, grow_tr hgj (grow_drewN _ _ _), by rw [← HO.out, insOuter_go _ _ _ _ _ hlt, ← hI, insInner_stop _ _ _ _ hs]⟩
        have OUT := Lib.hid out
        clear hsj hrj hgj hI out
        by_cases hja : a < j
        · have c1 := HRJ.out.cell (j := j) (by rw [HSJ.out]; omega)
          have c2 := HRJ.out.cell (j := j - 1) (by rw [HSJ.out]; omega)
          have z1 := HRJ.out.free j
          have z2 := HRJ.out.free (j - 1)
          obtain ⟨x, hx⟩ : ∃ x, dj[j]! = x := ⟨_, rfl⟩
          obtain ⟨y, hy⟩ : ∃ y, dj[j - 1]! = y := ⟨_, rfl⟩
          have HXY := Lib.hid (And.intro hx hy)
          rw [hx] at c1
          rw [hy] at c2
          have hj1 : (a : Int) < (j : Int) := by omega
          have hj2 : (j : Int) < (N : Int) := by omega
          have hj3 : ¬ j = j - 1 := by omega
          have hj4 : ¬ j - 1 = j := by omega
          have HL := Lib.hid (fun q => less_any x y (wr.drewN q))
          clear hx hy
          cases hl : ltN x y with
          | true =>
            have HL2 := Lib.hid (fun q => by have := HL.out q; rw [hl] at this; exact this)
            have HLT := Lib.hid hl
            clear HL hl
            go_wp2_with fail
            go_quiet ((go_at_call 67; exact quiet_eq (HL2.out _)))
            go_wp2_with fail
            go_region
            all_goals
              go_wp2_with fail
              go_roundg (j - 1)
              case measure => omega
              case rel =>
                have h1 := (show RwU ((wr.drewN nq).drew) g cap dj from HRJ.out).swap (j := j) (k := j - 1) (by rw [HSJ.out]; omega) (by rw [HSJ.out]; omega)
                rw [HXY.out.1, HXY.out.2] at h1
                exact ⟨j - 1, swp dj j (j - 1), rfl, by omega, by omega, by congr 1; omega, by rw [swp_size]; exact HSJ.out, h1, grow_tr HGJ.out (grow_tr (grow_drewN _ nq _) (grow_tr (grow_drewN _ 1 _) (grow_swap _ g j (j - 1) _ _))), by rw [← HI.out, insInner_go ltN a j dj hja (by rw [HXY.out.1, HXY.out.2]; exact HLT.out)]⟩
          | false =>
            have HL2 := Lib.hid (fun q => by have := HL.out q; rw [hl] at this; exact this)
            have HLT := Lib.hid hl
            clear HL hl
            go_wp2_with fail
            go_quiet ((go_at_call 67; exact quiet_eq (HL2.out _)))
            go_wp2_with fail
            go_roundg (gk0 - 1)
            case measure => omega
            case rel => exact OUT.out (Or.inr (by rw [HXY.out.1, HXY.out.2]; exact HLT.out)) nq
        · have hd : decide (((a : Nat) : Int) < ((j : Nat) : Int)) = false := by simpa using hja
          have hj1 : ¬ (a : Int) < (j : Int) := by omega
          go_wp2_with fail
          go_quiet (fail)
          go_wp2_with fail
          go_roundg (gk0 - 1)
          case measure => omega
          case rel => exact OUT.out (Or.inl (by omega)) nq
    · have i1 : ¬ (i : Int) < (b : Int) := by omega
      go_wp2_with fail
      go_end0
      have e := HO.out
      rw [insOuter_stop _ _ _ _ _ hlt] at e
      unfold insertionSort
      rw [← e]
      exact ⟨rfl, HRK.out, HSK.out, HGK.out⟩
end Go.Proofs.Ytkdjefnnhanhhaa
/- Walks over slices: siftDownOrdered at numbers. -/
namespace Go.Proofs.Ytkdjefnnhanhhaa
open Go Go.RowKit Go.Mem Go.Sort
set_option linter.unusedVariables false

section
variable {hi first r : Nat} {d : Array Nat}
theorem sift_stop (h : 2 * r + 1 ≥ hi) : siftDown ltN hi first r d = d := by rw [siftDown, dif_pos h]
theorem sift_l (h : 2 * r + 1 < hi) (hc : 2 * r + 1 + 1 < hi → ltN d[first + (2 * r + 1)]! d[first + (2 * r + 1) + 1]! = false) :
    siftDown ltN hi first r d = if ltN d[first + r]! d[first + (2 * r + 1)]! then siftDown ltN hi first (2 * r + 1) (swp d (first + r) (first + (2 * r + 1))) else d := by
  have hcc : (decide (2 * r + 1 + 1 < hi) && ltN d[first + (2 * r + 1)]! d[first + (2 * r + 1) + 1]!) = false := by
    by_cases h2 : 2 * r + 1 + 1 < hi
    · rw [hc h2, Bool.and_false]
    · rw [decide_eq_false h2, Bool.false_and]
  rw [siftDown, dif_neg (by omega), if_neg (by rw [hcc]; simp)]
  cases ltN d[first + r]! d[first + (2 * r + 1)]! <;> rfl
theorem sift_r (h : 2 * r + 1 + 1 < hi) (hc : ltN d[first + (2 * r + 1)]! d[first + (2 * r + 1) + 1]! = true) :
    siftDown ltN hi first r d = if ltN d[first + r]! d[first + (2 * r + 2)]! then siftDown ltN hi first (2 * r + 2) (swp d (first + r) (first + (2 * r + 2))) else d := by
  rw [siftDown, dif_neg (by omega), if_pos (by rw [hc, decide_eq_true h]; rfl), dif_pos (by omega)]
  cases ltN d[first + r]! d[first + (2 * r + 2)]! <;> rfl
end


set_option maxRecDepth 100000 in
set_option maxHeartbeats 6400000 in
theorem sift_any (g cap hi first root : Nat) (d : Array Nat) (w : World) (h : RwU w g cap d) (hb : first + hi ≤ d.size) (hsz : d.size ≤ 1000000000) (hr : root ≤ 1000000000) :
    Calls Try.prog 73 #[.slice (some ⟨g, 0, none⟩) d.size cap, .int .i64 (root : Nat), .int .i64 (hi : Nat), .int .i64 (first : Nat)] w fun e w' => e = .returned (.tuple #[]) ∧ RwU w' g cap (siftDown ltN hi first root d) ∧ (siftDown ltN hi first root d).size = d.size ∧ w.grownBy w' (some g) := by
  obtain ⟨N, hN⟩ : ∃ N, d.size = N := ⟨_, rfl⟩
  have hca : N ≤ cap ∧ cap ≤ maxLen := by obtain ⟨_, _, _, h1, h2, _⟩ := h; exact ⟨by omega, h2⟩
  have hc1 : (N : Int) ≤ (cap : Int) := by omega
  have hc2 : (cap : Int) ≤ 9223372036854775807 := by have := hca.2; unfold maxLen at this; omega
  have H := Lib.hid h
  have HN := Lib.hid hN
  rw [hN] at hb hsz ⊢
  clear h hca hN
  go_enter Try.func73, Try.ntmps73
  go_wp2_with fail
  go_loopg [8] (hi - root) (fun gk vi wr => ∃ (r : Nat) (dk : Array Nat), gk = hi - r ∧ r ≤ 1000000000 ∧ vi = .int .i64 (r : Nat) ∧ dk.size = N ∧ RwU wr g cap dk ∧ w.grownBy wr (some g) ∧ siftDown ltN hi first r dk = siftDown ltN hi first root d)
  case atStart => exact ⟨root, d, rfl, hr, rfl, HN.out, H.out, ((Below.refl w.heap.size w)).toGrown _, rfl⟩
  case round =>
    obtain ⟨r, dk, rfl, hr1, rfl, hsk, hrk, hgk, hO⟩ := hrel
    have HSK := Lib.hid hsk
    have HRK := Lib.hid hrk
    have HGK := Lib.hid hgk
    have HO := Lib.hid hO
    clear hsk hrk hgk hO
    by_cases hlt : 2 * r + 1 < hi
    · by_cases h2 : 2 * r + 1 + 1 < hi
      · cases hl : ltN dk[first + (2 * r + 1)]! dk[first + (2 * r + 1) + 1]! with
        | true =>
          have HST := Lib.hid (sift_r (first := first) (d := dk) h2 hl)
          obtain ⟨c0, hc0⟩ : ∃ c, 2 * r + 1 = c := ⟨_, rfl⟩
          obtain ⟨c, hc⟩ : ∃ c, 2 * r + 2 = c := ⟨_, rfl⟩
          rw [hc] at HST
          rw [hc0] at hl
          have hc00 : (c0 : Int) + 1 = (c : Nat) := by omega
          have hc01 : (c : Int) < (hi : Int) := by omega
          have hci0 : 2 * (r : Int) + 1 = (c0 : Nat) := by omega
          have hi1 : ¬ (hi : Int) ≤ (c0 : Int) := by omega
          have hi2 : (c0 : Int) + 1 < (hi : Int) := by omega
          obtain ⟨e3, he3⟩ : ∃ e3, first + c0 = e3 := ⟨_, rfl⟩
          have q3 : (first : Int) + (c0 : Int) = (e3 : Nat) := by omega
          have l3 : (e3 : Int) + 1 < (N : Int) := by omega
          have l4 : (e3 : Int) < (N : Int) := by omega
          have c3 := HRK.out.cell (j := e3) (by rw [HSK.out]; omega)
          have c4 := HRK.out.cell (j := e3 + 1) (by rw [HSK.out]; omega)
          rw [he3] at hl
          obtain ⟨x3, hx3⟩ : ∃ x, dk[e3]! = x := ⟨_, rfl⟩
          obtain ⟨x4, hx4⟩ : ∃ x, dk[e3 + 1]! = x := ⟨_, rfl⟩
          rw [hx3, hx4] at hl
          rw [hx3] at c3
          rw [hx4] at c4
          have HL3 := Lib.hid (fun q => by have := less_any x3 x4 (wr.drewN q); rw [hl] at this; exact this)
          clear hx3 hx4 hl he3
          go_upto_region 3 with (fail)
          go_quiet ((go_at_call 67; exact quiet_eq (HL3.out _)))
          clear q3 l3 l4 c3 c4
          obtain ⟨W1, hW1⟩ : ∃ W1, wr.drewN nq = W1 := ⟨_, rfl⟩
          have HR1 := Lib.hid (show RwU W1 g cap dk from hW1 ▸ HRK.out)
          have HG1 := Lib.hid (show w.grownBy W1 (some g) from hW1 ▸ grow_tr HGK.out (grow_drewN _ _ _))
          rw [hW1]
          clear hW1
          go_upto_region 5 with (fail)
          obtain ⟨e1, he1⟩ : ∃ e1, first + c = e1 := ⟨_, rfl⟩
          obtain ⟨e0, he0⟩ : ∃ e0, first + r = e0 := ⟨_, rfl⟩
          have q1 : (first : Int) + (c : Int) = (e1 : Nat) := by omega
          have q0 : (first : Int) + (r : Int) = (e0 : Nat) := by omega
          have l1 : (e1 : Int) < (N : Int) := by omega
          have l0 : (e0 : Int) < (N : Int) := by omega
          have m1 : e1 < dk.size := by rw [HSK.out]; omega
          have m0 : e0 < dk.size := by rw [HSK.out]; omega
          have M01 := Lib.hid (And.intro m0 m1)
          have hj3 : ¬ e0 = e1 := by omega
          have hj4 : ¬ e1 = e0 := by omega
          have c1 := HR1.out.cell (j := e1) m1
          have c2 := HR1.out.cell (j := e0) m0
          have z1 := HR1.out.free e1
          have z2 := HR1.out.free e0
          rw [he0, he1] at HST
          obtain ⟨x, hx⟩ : ∃ x, dk[e0]! = x := ⟨_, rfl⟩
          obtain ⟨y, hy⟩ : ∃ y, dk[e1]! = y := ⟨_, rfl⟩
          have HXY := Lib.hid (And.intro hx hy)
          rw [hx, hy] at HST
          rw [hx] at c2
          rw [hy] at c1
          have HRC := Lib.hid (show r < c ∧ c < hi from by omega)
          have HL := Lib.hid (fun q => less_any x y (W1.drewN q))
          clear hx hy he1 he0 m0 m1
          cases hl : ltN x y with
          | true =>
            have HL2 := Lib.hid (fun q => by have := HL.out q; rw [hl] at this; exact this)
            have HST2 := Lib.hid (show siftDown ltN hi first r dk = siftDown ltN hi first c (swp dk e0 e1) from by have := HST.out; rw [hl, if_pos rfl] at this; exact this)
            clear HL hl HST
            go_quiet ((go_at_call 67; exact quiet_eq (HL2.out _)))
            go_wp2_with fail
            go_region
            all_goals
              go_wp2_with fail
              go_roundg (hi - c)
              case measure => have := HRC.out; omega
              case rel =>
                have h1 := (show RwU ((W1.drewN nq).drew) g cap dk from HR1.out).swap (j := e0) (k := e1) M01.out.1 M01.out.2
                rw [HXY.out.1, HXY.out.2] at h1
                exact ⟨c, swp dk e0 e1, rfl, by have := HRC.out; omega, rfl, by rw [swp_size]; exact HSK.out, h1, grow_tr HG1.out (grow_tr (grow_drewN _ nq _) (grow_tr (grow_drewN _ 1 _) (grow_swap _ g e0 e1 _ _))), HST2.out.symm.trans HO.out⟩
          | false =>
            have HL2 := Lib.hid (fun q => by have := HL.out q; rw [hl] at this; exact this)
            have HST2 := Lib.hid (show siftDown ltN hi first r dk = dk from by have := HST.out; rw [hl, if_neg (by simp)] at this; exact this)
            clear HL hl HST
            go_quiet ((go_at_call 67; exact quiet_eq (HL2.out _)))
            go_wp2_with fail
            rw [← HO.out, HST2.out]
            exact bodyPost_ret (v := .tuple #[]) (by simp [results, Try.results73, go_sem]) rfl ⟨rfl, HR1.out, HSK.out, grow_tr HG1.out (grow_drewN _ _ _)⟩
        | false =>
          have HST := Lib.hid (sift_l (first := first) (d := dk) hlt (fun _ => hl))
          obtain ⟨c0, hc0⟩ : ∃ c, 2 * r + 1 = c := ⟨_, rfl⟩
          rw [hc0] at HST hl
          have hci0 : 2 * (r : Int) + 1 = (c0 : Nat) := by omega
          have hi1 : ¬ (hi : Int) ≤ (c0 : Int) := by omega
          have hi2 : (c0 : Int) + 1 < (hi : Int) := by omega
          obtain ⟨e3, he3⟩ : ∃ e3, first + c0 = e3 := ⟨_, rfl⟩
          have q3 : (first : Int) + (c0 : Int) = (e3 : Nat) := by omega
          have l3 : (e3 : Int) + 1 < (N : Int) := by omega
          have l4 : (e3 : Int) < (N : Int) := by omega
          have c3 := HRK.out.cell (j := e3) (by rw [HSK.out]; omega)
          have c4 := HRK.out.cell (j := e3 + 1) (by rw [HSK.out]; omega)
          rw [he3] at hl
          obtain ⟨x3, hx3⟩ : ∃ x, dk[e3]! = x := ⟨_, rfl⟩
          obtain ⟨x4, hx4⟩ : ∃ x, dk[e3 + 1]! = x := ⟨_, rfl⟩
          rw [hx3, hx4] at hl
          rw [hx3] at c3
          rw [hx4] at c4
          have HL3 := Lib.hid (fun q => by have := less_any x3 x4 (wr.drewN q); rw [hl] at this; exact this)
          clear hx3 hx4 hl he3
          go_upto_region 3 with (fail)
          go_quiet ((go_at_call 67; exact quiet_eq (HL3.out _)))
          clear q3 l3 l4 c3 c4
          obtain ⟨c, rfl⟩ : ∃ c, c = c0 := ⟨_, rfl⟩
          obtain ⟨W1, hW1⟩ : ∃ W1, wr.drewN nq = W1 := ⟨_, rfl⟩
          have HR1 := Lib.hid (show RwU W1 g cap dk from hW1 ▸ HRK.out)
          have HG1 := Lib.hid (show w.grownBy W1 (some g) from hW1 ▸ grow_tr HGK.out (grow_drewN _ _ _))
          rw [hW1]
          clear hW1
          go_upto_region 5 with (fail)
          obtain ⟨e1, he1⟩ : ∃ e1, first + c = e1 := ⟨_, rfl⟩
          obtain ⟨e0, he0⟩ : ∃ e0, first + r = e0 := ⟨_, rfl⟩
          have q1 : (first : Int) + (c : Int) = (e1 : Nat) := by omega
          have q0 : (first : Int) + (r : Int) = (e0 : Nat) := by omega
          have l1 : (e1 : Int) < (N : Int) := by omega
          have l0 : (e0 : Int) < (N : Int) := by omega
          have m1 : e1 < dk.size := by rw [HSK.out]; omega
          have m0 : e0 < dk.size := by rw [HSK.out]; omega
          have M01 := Lib.hid (And.intro m0 m1)
          have hj3 : ¬ e0 = e1 := by omega
          have hj4 : ¬ e1 = e0 := by omega
          have c1 := HR1.out.cell (j := e1) m1
          have c2 := HR1.out.cell (j := e0) m0
          have z1 := HR1.out.free e1
          have z2 := HR1.out.free e0
          rw [he0, he1] at HST
          obtain ⟨x, hx⟩ : ∃ x, dk[e0]! = x := ⟨_, rfl⟩
          obtain ⟨y, hy⟩ : ∃ y, dk[e1]! = y := ⟨_, rfl⟩
          have HXY := Lib.hid (And.intro hx hy)
          rw [hx, hy] at HST
          rw [hx] at c2
          rw [hy] at c1
          have HRC := Lib.hid (show r < c ∧ c < hi from by omega)
          have HL := Lib.hid (fun q => less_any x y (W1.drewN q))
          clear hx hy he1 he0 m0 m1
          cases hl : ltN x y with
          | true =>
            have HL2 := Lib.hid (fun q => by have := HL.out q; rw [hl] at this; exact this)
            have HST2 := Lib.hid (show siftDown ltN hi first r dk = siftDown ltN hi first c (swp dk e0 e1) from by have := HST.out; rw [hl, if_pos rfl] at this; exact this)
            clear HL hl HST
            go_quiet ((go_at_call 67; exact quiet_eq (HL2.out _)))
            go_wp2_with fail
            go_region
            all_goals
              go_wp2_with fail
              go_roundg (hi - c)
              case measure => have := HRC.out; omega
              case rel =>
                have h1 := (show RwU ((W1.drewN nq).drew) g cap dk from HR1.out).swap (j := e0) (k := e1) M01.out.1 M01.out.2
                rw [HXY.out.1, HXY.out.2] at h1
                exact ⟨c, swp dk e0 e1, rfl, by have := HRC.out; omega, rfl, by rw [swp_size]; exact HSK.out, h1, grow_tr HG1.out (grow_tr (grow_drewN _ nq _) (grow_tr (grow_drewN _ 1 _) (grow_swap _ g e0 e1 _ _))), HST2.out.symm.trans HO.out⟩
          | false =>
            have HL2 := Lib.hid (fun q => by have := HL.out q; rw [hl] at this; exact this)
            have HST2 := Lib.hid (show siftDown ltN hi first r dk = dk from by have := HST.out; rw [hl, if_neg (by simp)] at this; exact this)
            clear HL hl HST
            go_quiet ((go_at_call 67; exact quiet_eq (HL2.out _)))
            go_wp2_with fail
            rw [← HO.out, HST2.out]
            exact bodyPost_ret (v := .tuple #[]) (by simp [results, Try.results73, go_sem]) rfl ⟨rfl, HR1.out, HSK.out, grow_tr HG1.out (grow_drewN _ _ _)⟩
      · have HST := Lib.hid (sift_l (first := first) (d := dk) hlt (fun h => absurd h h2))
        obtain ⟨c, hc⟩ : ∃ c, 2 * r + 1 = c := ⟨_, rfl⟩
        have hci : 2 * (r : Int) + 1 = (c : Nat) := by omega
        have hi1 : ¬ (hi : Int) ≤ (c : Int) := by omega
        have hi2 : ¬ (c : Int) + 1 < (hi : Int) := by omega
        rw [hc] at HST
        go_upto_region 3 with (fail)
        go_quiet (fail)
        obtain ⟨W1, hW1⟩ : ∃ W1, wr.drewN nq = W1 := ⟨_, rfl⟩
        have HR1 := Lib.hid (show RwU W1 g cap dk from hW1 ▸ HRK.out)
        have HG1 := Lib.hid (show w.grownBy W1 (some g) from hW1 ▸ grow_tr HGK.out (grow_drewN _ _ _))
        rw [hW1]
        clear hW1
        go_upto_region 5 with (fail)
        obtain ⟨e1, he1⟩ : ∃ e1, first + c = e1 := ⟨_, rfl⟩
        obtain ⟨e0, he0⟩ : ∃ e0, first + r = e0 := ⟨_, rfl⟩
        have q1 : (first : Int) + (c : Int) = (e1 : Nat) := by omega
        have q0 : (first : Int) + (r : Int) = (e0 : Nat) := by omega
        have l1 : (e1 : Int) < (N : Int) := by omega
        have l0 : (e0 : Int) < (N : Int) := by omega
        have m1 : e1 < dk.size := by rw [HSK.out]; omega
        have m0 : e0 < dk.size := by rw [HSK.out]; omega
        have M01 := Lib.hid (And.intro m0 m1)
        have hj3 : ¬ e0 = e1 := by omega
        have hj4 : ¬ e1 = e0 := by omega
        have c1 := HR1.out.cell (j := e1) m1
        have c2 := HR1.out.cell (j := e0) m0
        have z1 := HR1.out.free e1
        have z2 := HR1.out.free e0
        rw [he0, he1] at HST
        obtain ⟨x, hx⟩ : ∃ x, dk[e0]! = x := ⟨_, rfl⟩
        obtain ⟨y, hy⟩ : ∃ y, dk[e1]! = y := ⟨_, rfl⟩
        have HXY := Lib.hid (And.intro hx hy)
        rw [hx, hy] at HST
        rw [hx] at c2
        rw [hy] at c1
        have HRC := Lib.hid (show r < c ∧ c < hi from by omega)
        have HL := Lib.hid (fun q => less_any x y (W1.drewN q))
        clear hx hy he1 he0 m0 m1
        cases hl : ltN x y with
        | true =>
          have HL2 := Lib.hid (fun q => by have := HL.out q; rw [hl] at this; exact this)
          have HST2 := Lib.hid (show siftDown ltN hi first r dk = siftDown ltN hi first c (swp dk e0 e1) from by have := HST.out; rw [hl, if_pos rfl] at this; exact this)
          clear HL hl HST
          go_quiet ((go_at_call 67; exact quiet_eq (HL2.out _)))
          go_wp2_with fail
          go_region
          all_goals
            go_wp2_with fail
            go_roundg (hi - c)
            case measure => have := HRC.out; omega
            case rel =>
              have h1 := (show RwU ((W1.drewN nq).drew) g cap dk from HR1.out).swap (j := e0) (k := e1) M01.out.1 M01.out.2
              rw [HXY.out.1, HXY.out.2] at h1
              exact ⟨c, swp dk e0 e1, rfl, by have := HRC.out; omega, rfl, by rw [swp_size]; exact HSK.out, h1, grow_tr HG1.out (grow_tr (grow_drewN _ nq _) (grow_tr (grow_drewN _ 1 _) (grow_swap _ g e0 e1 _ _))), HST2.out.symm.trans HO.out⟩
        | false =>
          have HL2 := Lib.hid (fun q => by have := HL.out q; rw [hl] at this; exact this)
          have HST2 := Lib.hid (show siftDown ltN hi first r dk = dk from by have := HST.out; rw [hl, if_neg (by simp)] at this; exact this)
          clear HL hl HST
          go_quiet ((go_at_call 67; exact quiet_eq (HL2.out _)))
          go_wp2_with fail
          rw [← HO.out, HST2.out]
          exact bodyPost_ret (v := .tuple #[]) (by simp [results, Try.results73, go_sem]) rfl ⟨rfl, HR1.out, HSK.out, grow_tr HG1.out (grow_drewN _ _ _)⟩
    · obtain ⟨c, hc⟩ : ∃ c, 2 * r + 1 = c := ⟨_, rfl⟩
      have hci : 2 * (r : Int) + 1 = (c : Nat) := by omega
      have hi1 : (hi : Int) ≤ (c : Int) := by omega
      have HST := Lib.hid (sift_stop (first := first) (d := dk) (show 2 * r + 1 ≥ hi by omega))
      go_wp2_with fail
      go_end0
      rw [← HO.out, HST.out]
      exact ⟨rfl, HRK.out, HSK.out, HGK.out⟩
end Go.Proofs.Ytkdjefnnhanhhaa
/- Walks over slices: reverseRangeOrdered, order2Ordered at numbers. -/
namespace Go.Proofs.Ytkdjefnnhanhhaa
open Go Go.RowKit Go.Mem Go.Sort
set_option linter.unusedVariables false

set_option maxRecDepth 100000 in
set_option maxHeartbeats 6400000 in
theorem rev_any (g cap a b : Nat) (d : Array Nat) (w : World) (h : RwU w g cap d) (h1 : 1 ≤ b) (hb : b ≤ d.size) (hsz : d.size ≤ 1000000000) (ha : a ≤ b) :
    Calls Try.prog 65 #[.slice (some ⟨g, 0, none⟩) d.size cap, .int .i64 (a : Nat), .int .i64 (b : Nat)] w fun e w' => e = .returned (.tuple #[]) ∧ RwU w' g cap (reverseRange d a b) ∧ (reverseRange d a b).size = d.size ∧ w.grownBy w' (some g) := by
  obtain ⟨N, hN⟩ : ∃ N, d.size = N := ⟨_, rfl⟩
  have hca : N ≤ cap ∧ cap ≤ maxLen := by obtain ⟨_, _, _, h1, h2, _⟩ := h; exact ⟨by omega, h2⟩
  have hc1 : (N : Int) ≤ (cap : Int) := by omega
  have hc2 : (cap : Int) ≤ 9223372036854775807 := by have := hca.2; unfold maxLen at this; omega
  have H := Lib.hid h
  have HN := Lib.hid hN
  rw [hN] at hb hsz ⊢
  clear h hca hN
  obtain ⟨b1, hb1⟩ : ∃ b1, b - 1 = b1 := ⟨_, rfl⟩
  have hb2 : (b : Int) - 1 = (b1 : Nat) := by omega
  have hE : reverseRange d a b = reverseLoop a b1 d := by unfold reverseRange; rw [hb1]
  rw [hE]
  clear hE
  go_enter Try.func65, Try.ntmps65
  go_wp2_with fail
  go_loopg [6, 7] (b1 - a) (fun gk vi vj wr => ∃ (i j : Nat) (dk : Array Nat), gk = j - i ∧ i ≤ 1000000000 ∧ j < N ∧ vi = .int .i64 (i : Nat) ∧ vj = .int .i64 (j : Nat) ∧ dk.size = N ∧ RwU wr g cap dk ∧ w.grownBy wr (some g) ∧ reverseLoop i j dk = reverseLoop a b1 d)
  case atStart => exact ⟨a, b1, d, rfl, by omega, by omega, rfl, rfl, HN.out, H.out, ((Below.refl w.heap.size w)).toGrown _, rfl⟩
  case round =>
    obtain ⟨i, j, dk, rfl, hi1, hj1, rfl, rfl, hsk, hrk, hgk, hO⟩ := hrel
    have HSK := Lib.hid hsk
    have HRK := Lib.hid hrk
    have HGK := Lib.hid hgk
    have HO := Lib.hid hO
    clear hsk hrk hgk hO
    by_cases hlt : i < j
    · have i1 : (i : Int) < (j : Int) := by omega
      have i2 : (j : Int) < (N : Int) := by omega
      have i3 : (i : Int) < (N : Int) := by omega
      have m1 : j < dk.size := by rw [HSK.out]; omega
      have m0 : i < dk.size := by rw [HSK.out]; omega
      have M01 := Lib.hid (And.intro m0 m1)
      have hj3 : ¬ i = j := by omega
      have hj4 : ¬ j = i := by omega
      have c1 := HRK.out.cell (j := j) m1
      have c2 := HRK.out.cell (j := i) m0
      have z1 := HRK.out.free j
      have z2 := HRK.out.free i
      obtain ⟨x, hx⟩ : ∃ x, dk[i]! = x := ⟨_, rfl⟩
      obtain ⟨y, hy⟩ : ∃ y, dk[j]! = y := ⟨_, rfl⟩
      have HXY := Lib.hid (And.intro hx hy)
      rw [hx] at c2
      rw [hy] at c1
      clear hx hy m0 m1
      go_wp2_with fail
      go_region
      all_goals
        go_wp2_with fail
        go_roundg (j - 1 - (i + 1))
        case measure => omega
        case rel =>
          have h1 := (show RwU (wr.drew) g cap dk from HRK.out).swap (j := i) (k := j) M01.out.1 M01.out.2
          rw [HXY.out.1, HXY.out.2] at h1
          exact ⟨i + 1, j - 1, swp dk i j, rfl, by omega, by omega, by go_num, by congr 1; omega, by rw [swp_size]; exact HSK.out, h1, grow_tr HGK.out (grow_tr (grow_drewN _ 1 _) (grow_swap _ g i j _ _)), by rw [← HO.out]; conv => rhs; rw [reverseLoop, if_pos hlt]⟩
    · have i1 : ¬ (i : Int) < (j : Int) := by omega
      have hst : reverseLoop i j dk = dk := by rw [reverseLoop, if_neg hlt]
      have HST := Lib.hid hst
      clear hst
      go_wp2_with fail
      go_end0
      rw [← HO.out, HST.out]
      exact ⟨rfl, HRK.out, HSK.out, HGK.out⟩
end Go.Proofs.Ytkdjefnnhanhhaa
/- Walks over slices: heapSortOrdered at numbers. -/
namespace Go.Proofs.Ytkdjefnnhanhhaa
open Go Go.RowKit Go.Mem Go.Sort
set_option linter.unusedVariables false

set_option maxRecDepth 100000 in
set_option maxHeartbeats 6400000 in
theorem heap_any (g cap a b : Nat) (d : Array Nat) (w : World) (h : RwU w g cap d) (hab : a < b) (hb : b ≤ d.size) (hsz : d.size ≤ 1000000000) :
    Calls Try.prog 62 #[.slice (some ⟨g, 0, none⟩) d.size cap, .int .i64 (a : Nat), .int .i64 (b : Nat)] w fun e w' => e = .returned (.tuple #[]) ∧ RwU w' g cap (heapSort ltN d a b) ∧ (heapSort ltN d a b).size = d.size ∧ w.grownBy w' (some g) := by
  obtain ⟨N, hN⟩ : ∃ N, d.size = N := ⟨_, rfl⟩
  have hca : N ≤ cap ∧ cap ≤ maxLen := by obtain ⟨_, _, _, h1, h2, _⟩ := h; exact ⟨by omega, h2⟩
  have hc1 : (N : Int) ≤ (cap : Int) := by omega
  have hc2 : (cap : Int) ≤ 9223372036854775807 := by have := hca.2; unfold maxLen at this; omega
  have H := Lib.hid h
  have HN := Lib.hid hN
  rw [hN] at hb hsz ⊢
  clear h hca hN
  obtain ⟨hi, hhi⟩ : ∃ hi, b - a = hi := ⟨_, rfl⟩
  have hh2 : (b : Int) - (a : Int) = (hi : Nat) := by omega
  obtain ⟨k0, hk0⟩ : ∃ k0, (hi - 1) / 2 = k0 := ⟨_, rfl⟩
  have hh1 : 1 ≤ hi := by omega
  have hE : heapSort ltN d a b = heapPop ltN a hi (heapBuild ltN hi a (k0 + 1) d) := by unfold heapSort; rw [hhi, hk0]
  have HE := Lib.hid hE
  obtain ⟨m0, hm0⟩ : ∃ m0, hi - 1 = m0 := ⟨_, rfl⟩
  have hm1 : (hi : Int) - 1 = (m0 : Nat) := by omega
  have hk1 : (m0 : Int) / 2 = (k0 : Nat) := by omega
  clear hE hk0 hhi
  go_enter Try.func62, Try.ntmps62
  go_wp2_with fail
  go_loopg [9] (k0 + 1) (fun gk vi wr => ∃ (dk : Array Nat), gk ≤ k0 + 1 ∧ vi = .int .i64 ((gk : Int) - 1) ∧ dk.size = N ∧ RwU wr g cap dk ∧ w.grownBy wr (some g) ∧ heapBuild ltN hi a gk dk = heapBuild ltN hi a (k0 + 1) d)
  case atStart => exact ⟨d, Nat.le_refl _, by congr 1; omega, HN.out, H.out, ((Below.refl w.heap.size w)).toGrown _, rfl⟩
  case round =>
    obtain ⟨dk, hg, rfl, hsk, hrk, hgk, hO⟩ := hrel
    have HSK := Lib.hid hsk
    have HRK := Lib.hid hrk
    have HGK := Lib.hid hgk
    have HO := Lib.hid hO
    clear hsk hrk hgk hO
    obtain ⟨gk0, rfl⟩ : ∃ V, V = gk := ⟨_, rfl⟩
    cases gk0 with
    | zero =>
      rw [show (((0 : Nat) : Int) - 1) = -1 from rfl]
      have HO1 := Lib.hid (show heapPop ltN a hi dk = heapSort ltN d a b from by rw [HE.out, ← HO.out]; rfl)
      clear HO HE
      obtain ⟨wo, rfl⟩ : ∃ wo : World, wo = wr := ⟨_, rfl⟩
      go_wp2_with fail
      go_loopg [10] hi (fun gk vi wr => ∃ (dk : Array Nat), gk ≤ hi ∧ vi = .int .i64 ((gk : Int) - 1) ∧ dk.size = N ∧ RwU wr g cap dk ∧ w.grownBy wr (some g) ∧ heapPop ltN a gk dk = heapSort ltN d a b)
      case atStart => exact ⟨dk, Nat.le_refl _, by congr 1; omega, HSK.out, HRK.out, HGK.out, HO1.out⟩
      case round =>
        clear HSK HRK HGK HO1
        obtain ⟨dk, hg, rfl, hsk, hrk, hgk, hO⟩ := hrel
        have HSK := Lib.hid hsk
        have HRK := Lib.hid hrk
        have HGK := Lib.hid hgk
        have HO := Lib.hid hO
        clear hsk hrk hgk hO
        obtain ⟨gk0, rfl⟩ : ∃ V, V = gk := ⟨_, rfl⟩
        cases gk0 with
        | zero =>
          rw [show (((0 : Nat) : Int) - 1) = -1 from rfl]
          go_wp2_with fail
          go_end0
          have e := HO.out
          rw [show heapPop ltN a 0 dk = dk from rfl] at e
          rw [← e]
          exact ⟨rfl, HRK.out, HSK.out, HGK.out⟩
        | succ r =>
          have i1 : (((r + 1 : Nat) : Int) - 1) = (r : Nat) := by omega
          rw [i1]
          clear i1
          have i0 : (0 : Int) ≤ (r : Int) := by omega
          obtain ⟨e1, he1⟩ : ∃ e1, a + r = e1 := ⟨_, rfl⟩
          have q1 : (a : Int) + (r : Int) = (e1 : Nat) := by omega
          have l1 : (e1 : Int) < (N : Int) := by omega
          have l0 : (a : Int) < (N : Int) := by omega
          have m1 : e1 < dk.size := by rw [HSK.out]; omega
          have m0 : a < dk.size := by rw [HSK.out]; omega
          have M01 := Lib.hid (And.intro m0 m1)
          have c1 := HRK.out.cell (j := e1) m1
          have c2 := HRK.out.cell (j := a) m0
          have z1 := HRK.out.free e1
          have z2 := HRK.out.free a
          have hO2 : heapPop ltN a r (siftDown ltN r a 0 (swp dk a e1)) = heapSort ltN d a b := by rw [← HO.out, ← he1]; rfl
          have HO2 := Lib.hid hO2
          clear hO2
          by_cases hr0 : r = 0
          · subst hr0
            obtain rfl : a = e1 := by omega
            have q2 : (a : Int) + 0 = (a : Nat) := by omega
            obtain ⟨x, hx⟩ : ∃ x, dk[a]! = x := ⟨_, rfl⟩
            have HX := Lib.hid hx
            rw [hx] at c2
            clear hx m0 m1 c1 z1 q1 l1
            go_wp2_with fail
            go_region
            all_goals
              have h1 := HRK.out.swap (j := a) (k := a) M01.out.1 M01.out.1
              rw [HX.out] at h1
              obtain ⟨W1, hW1⟩ : ∃ W1, ((wr.setCell ⟨g, a, none⟩ (.int .u64 (x : Nat))).setCell ⟨g, a, none⟩ (.int .u64 (x : Nat))).drew = W1 := ⟨_, rfl⟩
              have G1 := Lib.hid (show w.grownBy W1 (some g) from hW1 ▸ grow_tr HGK.out (grow_tr (grow_swap _ g a a _ _) (grow_drewN _ 1 _)))
              replace h1 : RwU W1 g cap (swp dk a a) := hW1 ▸ h1
              rw [hW1]
              have HSI := Lib.hid (sift_any g cap 0 a 0 (swp dk a a) W1 h1 (by rw [swp_size, HSK.out]; omega) (by rw [swp_size, HSK.out]; omega) (by omega))
              rw [swp_size, HSK.out] at HSI
              clear hW1 h1
              go_wp2_with fail
              refine HSI.out.mono ?_
              rintro e w2 ⟨rfl, r2, s2, g2⟩
              have R2 := Lib.hid r2
              have S2 := Lib.hid s2
              have G2 := Lib.hid g2
              clear r2 s2 g2
              go_wp2_with fail
              go_roundg 0
              case measure => omega
              case rel => exact ⟨_, by omega, by go_num, S2.out, R2.out, grow_tr G1.out G2.out, HO2.out⟩
          · have hj3 : ¬ a = e1 := by omega
            have hj4 : ¬ e1 = a := by omega
            obtain ⟨x, hx⟩ : ∃ x, dk[a]! = x := ⟨_, rfl⟩
            obtain ⟨y, hy⟩ : ∃ y, dk[e1]! = y := ⟨_, rfl⟩
            have HXY := Lib.hid (And.intro hx hy)
            rw [hx] at c2
            rw [hy] at c1
            clear hx hy m0 m1
            go_wp2_with fail
            go_region
            all_goals
              have h1 := HRK.out.swap (j := a) (k := e1) M01.out.1 M01.out.2
              rw [HXY.out.1, HXY.out.2] at h1
              obtain ⟨W1, hW1⟩ : ∃ W1, ((wr.setCell ⟨g, a, none⟩ (.int .u64 (y : Nat))).setCell ⟨g, e1, none⟩ (.int .u64 (x : Nat))).drew = W1 := ⟨_, rfl⟩
              have G1 := Lib.hid (show w.grownBy W1 (some g) from hW1 ▸ grow_tr HGK.out (grow_tr (grow_swap _ g a e1 _ _) (grow_drewN _ 1 _)))
              replace h1 : RwU W1 g cap (swp dk a e1) := hW1 ▸ h1
              rw [hW1]
              have HSI := Lib.hid (sift_any g cap r a 0 (swp dk a e1) W1 h1 (by rw [swp_size, HSK.out]; omega) (by rw [swp_size, HSK.out]; omega) (by omega))
              rw [swp_size, HSK.out] at HSI
              clear hW1 h1
              go_wp2_with fail
              refine HSI.out.mono ?_
              rintro e w2 ⟨rfl, r2, s2, g2⟩
              have R2 := Lib.hid r2
              have S2 := Lib.hid s2
              have G2 := Lib.hid g2
              clear r2 s2 g2
              go_wp2_with fail
              go_roundg r
              case measure => omega
              case rel => exact ⟨_, by omega, by go_num, S2.out, R2.out, grow_tr G1.out G2.out, HO2.out⟩
    | succ r =>
      have i1 : (((r + 1 : Nat) : Int) - 1) = (r : Nat) := by omega
      rw [i1]
      clear i1
      have i0 : (0 : Int) ≤ (r : Int) := by omega
      have HSI := Lib.hid (sift_any g cap hi a r dk wr HRK.out (by rw [HSK.out]; omega) (by rw [HSK.out]; omega) (by omega))
      rw [HSK.out] at HSI
      go_wp2_with fail
      refine HSI.out.mono ?_
      rintro e w2 ⟨rfl, r2, s2, g2⟩
      have R2 := Lib.hid r2
      have S2 := Lib.hid s2
      have G2 := Lib.hid g2
      clear r2 s2 g2
      go_wp2_with fail
      go_roundg r
      case measure => omega
      case rel => exact ⟨_, by omega, by go_num, S2.out, R2.out, grow_tr HGK.out G2.out, HO.out⟩
end Go.Proofs.Ytkdjefnnhanhhaa
