/- Walks over slices: siftDownOrdered at numbers. -/
import Derived.Test.YtboonpfdlbedoaaSb
import Derived.Deep.Cut
namespace Go.Proofs.Ytboonpfdlbedoaa
open Go Go.RowKit Go.Mem Go.Sort
set_option linter.unusedVariables false

section
variable {hi first r : Nat} {d : Array Nat}
theorem sift_stop (h : 2 * r + 1 ≥ hi) : siftDown ltN hi first r d = d := by rw [siftDown, dif_pos h]
theorem sift_l (h : 2 * r + 1 < hi) (hc : 2 * r + 1 + 1 < hi → ltN d[first + (2 * r + 1)]! d[first + (2 * r + 1) + 1]! = false) :
    siftDown ltN hi first r d = if ltN d[first + r]! d[first + (2 * r + 1)]! then siftDown ltN hi first (2 * r + 1) (swp d (first + r) (first + (2 * r + 1))) else d := by
  have hcc : (decide (2 * r + 1 + 1 < hi) && ltN d[first + (2 * r + 1)]! d[first + (2 * r + 1) + 1]!) = false := by
    by_cases h2 : 2 * r + 1 + 1 < hi
    · rw [hc h2, Bool.and_false]
    · rw [decide_eq_false h2, Bool.false_and]
  rw [siftDown, dif_neg (by omega), if_neg (by rw [hcc]; simp)]
  cases ltN d[first + r]! d[first + (2 * r + 1)]! <;> rfl
theorem sift_r (h : 2 * r + 1 + 1 < hi) (hc : ltN d[first + (2 * r + 1)]! d[first + (2 * r + 1) + 1]! = true) :
    siftDown ltN hi first r d = if ltN d[first + r]! d[first + (2 * r + 2)]! then siftDown ltN hi first (2 * r + 2) (swp d (first + r) (first + (2 * r + 2))) else d := by
  rw [siftDown, dif_neg (by omega), if_pos (by rw [hc, decide_eq_true h]; rfl), dif_pos (by omega)]
  cases ltN d[first + r]! d[first + (2 * r + 2)]! <;> rfl
end


set_option maxRecDepth 100000 in
set_option maxHeartbeats 6400000 in
theorem sift_any (g cap hi first root : Nat) (d : Array Nat) (w : World) (h : RwU w g cap d) (hb : first + hi ≤ d.size) (hsz : d.size ≤ 1000000000) (hr : root ≤ 1000000000) :
    Calls Try.prog 50 #[.slice (some ⟨g, 0, none⟩) d.size cap, .int .i64 (root : Nat), .int .i64 (hi : Nat), .int .i64 (first : Nat)] w fun e w' => e = .returned (.tuple #[]) ∧ RwU w' g cap (siftDown ltN hi first root d) ∧ (siftDown ltN hi first root d).size = d.size ∧ w.grownBy w' (some g) := by
  obtain ⟨N, hN⟩ : ∃ N, d.size = N := ⟨_, rfl⟩
  have hca : N ≤ cap ∧ cap ≤ maxLen := by obtain ⟨_, _, _, h1, h2, _⟩ := h; exact ⟨by omega, h2⟩
  have hc1 : (N : Int) ≤ (cap : Int) := by omega
  have hc2 : (cap : Int) ≤ 9223372036854775807 := by have := hca.2; unfold maxLen at this; omega
  have H := Lib.hid h
  have HN := Lib.hid hN
  rw [hN] at hb hsz ⊢
  clear h hca hN
  go_enter Try.func50, Try.ntmps50
  go_wp2_with fail
  go_loopg [8] (hi - root) (fun gk vi wr => ∃ (r : Nat) (dk : Array Nat), gk = hi - r ∧ r ≤ 1000000000 ∧ vi = .int .i64 (r : Nat) ∧ dk.size = N ∧ RwU wr g cap dk ∧ w.grownBy wr (some g) ∧ siftDown ltN hi first r dk = siftDown ltN hi first root d)
  case atStart => exact ⟨root, d, rfl, hr, rfl, HN.out, H.out, ((Below.refl w.heap.size w)).toGrown _, rfl⟩
  case round =>
    obtain ⟨r, dk, rfl, hr1, rfl, hsk, hrk, hgk, hO⟩ := hrel
    have HSK := Lib.hid hsk
    have HRK := Lib.hid hrk
    have HGK := Lib.hid hgk
    have HO := Lib.hid hO
    clear hsk hrk hgk hO
    by_cases hlt : 2 * r + 1 < hi
    · by_cases h2 : 2 * r + 1 + 1 < hi
      · cases hl : ltN dk[first + (2 * r + 1)]! dk[first + (2 * r + 1) + 1]! with
        | true =>
          have HST := Lib.hid (sift_r (first := first) (d := dk) h2 hl)
          obtain ⟨c0, hc0⟩ : ∃ c, 2 * r + 1 = c := ⟨_, rfl⟩
          obtain ⟨c, hc⟩ : ∃ c, 2 * r + 2 = c := ⟨_, rfl⟩
          rw [hc] at HST
          rw [hc0] at hl
          have hc00 : (c0 : Int) + 1 = (c : Nat) := by omega
          have hc01 : (c : Int) < (hi : Int) := by omega
          have hci0 : 2 * (r : Int) + 1 = (c0 : Nat) := by omega
          have hi1 : ¬ (hi : Int) ≤ (c0 : Int) := by omega
          have hi2 : (c0 : Int) + 1 < (hi : Int) := by omega
          obtain ⟨e3, he3⟩ : ∃ e3, first + c0 = e3 := ⟨_, rfl⟩
          have q3 : (first : Int) + (c0 : Int) = (e3 : Nat) := by omega
          have l3 : (e3 : Int) + 1 < (N : Int) := by omega
          have l4 : (e3 : Int) < (N : Int) := by omega
          have c3 := HRK.out.cell (j := e3) (by rw [HSK.out]; omega)
          have c4 := HRK.out.cell (j := e3 + 1) (by rw [HSK.out]; omega)
          rw [he3] at hl
          obtain ⟨x3, hx3⟩ : ∃ x, dk[e3]! = x := ⟨_, rfl⟩
          obtain ⟨x4, hx4⟩ : ∃ x, dk[e3 + 1]! = x := ⟨_, rfl⟩
          rw [hx3, hx4] at hl
          rw [hx3] at c3
          rw [hx4] at c4
          have HL3 := Lib.hid (fun q => by have := less_any x3 x4 (wr.drewN q); rw [hl] at this; exact this)
          clear hx3 hx4 hl he3
          go_upto_region 3 with (fail)
          go_quiet ((go_at_call 45; exact quiet_eq (HL3.out _)))
          clear q3 l3 l4 c3 c4
          obtain ⟨W1, hW1⟩ : ∃ W1, wr.drewN nq = W1 := ⟨_, rfl⟩
          have HR1 := Lib.hid (show RwU W1 g cap dk from hW1 ▸ HRK.out)
          have HG1 := Lib.hid (show w.grownBy W1 (some g) from hW1 ▸ grow_tr HGK.out (grow_drewN _ _ _))
          rw [hW1]
          clear hW1
          go_upto_region 5 with (fail)
          obtain ⟨e1, he1⟩ : ∃ e1, first + c = e1 := ⟨_, rfl⟩
          obtain ⟨e0, he0⟩ : ∃ e0, first + r = e0 := ⟨_, rfl⟩
          have q1 : (first : Int) + (c : Int) = (e1 : Nat) := by omega
          have q0 : (first : Int) + (r : Int) = (e0 : Nat) := by omega
          have l1 : (e1 : Int) < (N : Int) := by omega
          have l0 : (e0 : Int) < (N : Int) := by omega
          have m1 : e1 < dk.size := by rw [HSK.out]; omega
          have m0 : e0 < dk.size := by rw [HSK.out]; omega
          have M01 := Lib.hid (And.intro m0 m1)
          have hj3 : ¬ e0 = e1 := by omega
          have hj4 : ¬ e1 = e0 := by omega
          have c1 := HR1.out.cell (j := e1) m1
          have c2 := HR1.out.cell (j := e0) m0
          have z1 := HR1.out.free e1
          have z2 := HR1.out.free e0
          rw [he0, he1] at HST
          obtain ⟨x, hx⟩ : ∃ x, dk[e0]! = x := ⟨_, rfl⟩
          obtain ⟨y, hy⟩ : ∃ y, dk[e1]! = y := ⟨_, rfl⟩
          have HXY := Lib.hid (And.intro hx hy)
          rw [hx, hy] at HST
          rw [hx] at c2
          rw [hy] at c1
          have HRC := Lib.hid (show r < c ∧ c < hi from by omega)
          have HL := Lib.hid (fun q => less_any x y (W1.drewN q))
          clear hx hy he1 he0 m0 m1
          cases hl : ltN x y with
          | true =>
            have HL2 := Lib.hid (fun q => by have := HL.out q; rw [hl] at this; exact this)
            have HST2 := Lib.hid (show siftDown ltN hi first r dk = siftDown ltN hi first c (swp dk e0 e1) from by have := HST.out; rw [hl, if_pos rfl] at this; exact this)
            clear HL hl HST
            go_quiet ((go_at_call 45; exact quiet_eq (HL2.out _)))
            go_wp2_with fail
            go_region
            all_goals
              go_wp2_with fail
              go_roundg (hi - c)
              case measure => have := HRC.out; omega
              case rel =>
                have h1 := (show RwU ((W1.drewN nq).drew) g cap dk from HR1.out).swap (j := e0) (k := e1) M01.out.1 M01.out.2
                rw [HXY.out.1, HXY.out.2] at h1
                exact ⟨c, swp dk e0 e1, rfl, by have := HRC.out; omega, rfl, by rw [swp_size]; exact HSK.out, h1, grow_tr HG1.out (grow_tr (grow_drewN _ nq _) (grow_tr (grow_drewN _ 1 _) (grow_swap _ g e0 e1 _ _))), HST2.out.symm.trans HO.out⟩
          | false =>
            have HL2 := Lib.hid (fun q => by have := HL.out q; rw [hl] at this; exact this)
            have HST2 := Lib.hid (show siftDown ltN hi first r dk = dk from by have := HST.out; rw [hl, if_neg (by simp)] at this; exact this)
            clear HL hl HST
            go_quiet ((go_at_call 45; exact quiet_eq (HL2.out _)))
            go_wp2_with fail
            rw [← HO.out, HST2.out]
            exact bodyPost_ret (v := .tuple #[]) (by simp [results, Try.results50, go_sem]) rfl ⟨rfl, HR1.out, HSK.out, grow_tr HG1.out (grow_drewN _ _ _)⟩
        | false =>
          have HST := Lib.hid (sift_l (first := first) (d := dk) hlt (fun _ => hl))
          obtain ⟨c0, hc0⟩ : ∃ c, 2 * r + 1 = c := ⟨_, rfl⟩
          rw [hc0] at HST hl
          have hci0 : 2 * (r : Int) + 1 = (c0 : Nat) := by omega
          have hi1 : ¬ (hi : Int) ≤ (c0 : Int) := by omega
          have hi2 : (c0 : Int) + 1 < (hi : Int) := by omega
          obtain ⟨e3, he3⟩ : ∃ e3, first + c0 = e3 := ⟨_, rfl⟩
          have q3 : (first : Int) + (c0 : Int) = (e3 : Nat) := by omega
          have l3 : (e3 : Int) + 1 < (N : Int) := by omega
          have l4 : (e3 : Int) < (N : Int) := by omega
          have c3 := HRK.out.cell (j := e3) (by rw [HSK.out]; omega)
          have c4 := HRK.out.cell (j := e3 + 1) (by rw [HSK.out]; omega)
          rw [he3] at hl
          obtain ⟨x3, hx3⟩ : ∃ x, dk[e3]! = x := ⟨_, rfl⟩
          obtain ⟨x4, hx4⟩ : ∃ x, dk[e3 + 1]! = x := ⟨_, rfl⟩
          rw [hx3, hx4] at hl
          rw [hx3] at c3
          rw [hx4] at c4
          have HL3 := Lib.hid (fun q => by have := less_any x3 x4 (wr.drewN q); rw [hl] at this; exact this)
          clear hx3 hx4 hl he3
          go_upto_region 3 with (fail)
          go_quiet ((go_at_call 45; exact quiet_eq (HL3.out _)))
          clear q3 l3 l4 c3 c4
          obtain ⟨c, rfl⟩ : ∃ c, c = c0 := ⟨_, rfl⟩
          obtain ⟨W1, hW1⟩ : ∃ W1, wr.drewN nq = W1 := ⟨_, rfl⟩
          have HR1 := Lib.hid (show RwU W1 g cap dk from hW1 ▸ HRK.out)
          have HG1 := Lib.hid (show w.grownBy W1 (some g) from hW1 ▸ grow_tr HGK.out (grow_drewN _ _ _))
          rw [hW1]
          clear hW1
          go_upto_region 5 with (fail)
          obtain ⟨e1, he1⟩ : ∃ e1, first + c = e1 := ⟨_, rfl⟩
          obtain ⟨e0, he0⟩ : ∃ e0, first + r = e0 := ⟨_, rfl⟩
          have q1 : (first : Int) + (c : Int) = (e1 : Nat) := by omega
          have q0 : (first : Int) + (r : Int) = (e0 : Nat) := by omega
          have l1 : (e1 : Int) < (N : Int) := by omega
          have l0 : (e0 : Int) < (N : Int) := by omega
          have m1 : e1 < dk.size := by rw [HSK.out]; omega
          have m0 : e0 < dk.size := by rw [HSK.out]; omega
          have M01 := Lib.hid (And.intro m0 m1)
          have hj3 : ¬ e0 = e1 := by omega
          have hj4 : ¬ e1 = e0 := by omega
          have c1 := HR1.out.cell (j := e1) m1
          have c2 := HR1.out.cell (j := e0) m0
          have z1 := HR1.out.free e1
          have z2 := HR1.out.free e0
          rw [he0, he1] at HST
          obtain ⟨x, hx⟩ : ∃ x, dk[e0]! = x := ⟨_, rfl⟩
          obtain ⟨y, hy⟩ : ∃ y, dk[e1]! = y := ⟨_, rfl⟩
          have HXY := Lib.hid (And.intro hx hy)
          rw [hx, hy] at HST
          rw [hx] at c2
          rw [hy] at c1
          have HRC := Lib.hid (show r < c ∧ c < hi from by omega)
          have HL := Lib.hid (fun q => less_any x y (W1.drewN q))
          clear hx hy he1 he0 m0 m1
          cases hl : ltN x y with
          | true =>
            have HL2 := Lib.hid (fun q => by have := HL.out q; rw [hl] at this; exact this)
            have HST2 := Lib.hid (show siftDown ltN hi first r dk = siftDown ltN hi first c (swp dk e0 e1) from by have := HST.out; rw [hl, if_pos rfl] at this; exact this)
            clear HL hl HST
            go_quiet ((go_at_call 45; exact quiet_eq (HL2.out _)))
            go_wp2_with fail
            go_region
            all_goals
              go_wp2_with fail
              go_roundg (hi - c)
              case measure => have := HRC.out; omega
              case rel =>
                have h1 := (show RwU ((W1.drewN nq).drew) g cap dk from HR1.out).swap (j := e0) (k := e1) M01.out.1 M01.out.2
                rw [HXY.out.1, HXY.out.2] at h1
                exact ⟨c, swp dk e0 e1, rfl, by have := HRC.out; omega, rfl, by rw [swp_size]; exact HSK.out, h1, grow_tr HG1.out (grow_tr (grow_drewN _ nq _) (grow_tr (grow_drewN _ 1 _) (grow_swap _ g e0 e1 _ _))), HST2.out.symm.trans HO.out⟩
          | false =>
            have HL2 := Lib.hid (fun q => by have := HL.out q; rw [hl] at this; exact this)
            have HST2 := Lib.hid (show siftDown ltN hi first r dk = dk from by have := HST.out; rw [hl, if_neg (by simp)] at this; exact this)
            clear HL hl HST
            go_quiet ((go_at_call 45; exact quiet_eq (HL2.out _)))
            go_wp2_with fail
            rw [← HO.out, HST2.out]
            exact bodyPost_ret (v := .tuple #[]) (by simp [results, Try.results50, go_sem]) rfl ⟨rfl, HR1.out, HSK.out, grow_tr HG1.out (grow_drewN _ _ _)⟩
      · have HST := Lib.hid (sift_l (first := first) (d := dk) hlt (fun h => absurd h h2))
        obtain ⟨c, hc⟩ : ∃ c, 2 * r + 1 = c := ⟨_, rfl⟩
        have hci : 2 * (r : Int) + 1 = (c : Nat) := by omega
        have hi1 : ¬ (hi : Int) ≤ (c : Int) := by omega
        have hi2 : ¬ (c : Int) + 1 < (hi : Int) := by omega
        rw [hc] at HST
        go_upto_region 3 with (fail)
        go_quiet (fail)
        obtain ⟨W1, hW1⟩ : ∃ W1, wr.drewN nq = W1 := ⟨_, rfl⟩
        have HR1 := Lib.hid (show RwU W1 g cap dk from hW1 ▸ HRK.out)
        have HG1 := Lib.hid (show w.grownBy W1 (some g) from hW1 ▸ grow_tr HGK.out (grow_drewN _ _ _))
        rw [hW1]
        clear hW1
        go_upto_region 5 with (fail)
        obtain ⟨e1, he1⟩ : ∃ e1, first + c = e1 := ⟨_, rfl⟩
        obtain ⟨e0, he0⟩ : ∃ e0, first + r = e0 := ⟨_, rfl⟩
        have q1 : (first : Int) + (c : Int) = (e1 : Nat) := by omega
        have q0 : (first : Int) + (r : Int) = (e0 : Nat) := by omega
        have l1 : (e1 : Int) < (N : Int) := by omega
        have l0 : (e0 : Int) < (N : Int) := by omega
        have m1 : e1 < dk.size := by rw [HSK.out]; omega
        have m0 : e0 < dk.size := by rw [HSK.out]; omega
        have M01 := Lib.hid (And.intro m0 m1)
        have hj3 : ¬ e0 = e1 := by omega
        have hj4 : ¬ e1 = e0 := by omega
        have c1 := HR1.out.cell (j := e1) m1
        have c2 := HR1.out.cell (j := e0) m0
        have z1 := HR1.out.free e1
        have z2 := HR1.out.free e0
        rw [he0, he1] at HST
        obtain ⟨x, hx⟩ : ∃ x, dk[e0]! = x := ⟨_, rfl⟩
        obtain ⟨y, hy⟩ : ∃ y, dk[e1]! = y := ⟨_, rfl⟩
        have HXY := Lib.hid (And.intro hx hy)
        rw [hx, hy] at HST
        rw [hx] at c2
        rw [hy] at c1
        have HRC := Lib.hid (show r < c ∧ c < hi from by omega)
        have HL := Lib.hid (fun q => less_any x y (W1.drewN q))
        clear hx hy he1 he0 m0 m1
        cases hl : ltN x y with
        | true =>
          have HL2 := Lib.hid (fun q => by have := HL.out q; rw [hl] at this; exact this)
          have HST2 := Lib.hid (show siftDown ltN hi first r dk = siftDown ltN hi first c (swp dk e0 e1) from by have := HST.out; rw [hl, if_pos rfl] at this; exact this)
          clear HL hl HST
          go_quiet ((go_at_call 45; exact quiet_eq (HL2.out _)))
          go_wp2_with fail
          go_region
          all_goals
            go_wp2_with fail
            go_roundg (hi - c)
            case measure => have := HRC.out; omega
            case rel =>
              have h1 := (show RwU ((W1.drewN nq).drew) g cap dk from HR1.out).swap (j := e0) (k := e1) M01.out.1 M01.out.2
              rw [HXY.out.1, HXY.out.2] at h1
              exact ⟨c, swp dk e0 e1, rfl, by have := HRC.out; omega, rfl, by rw [swp_size]; exact HSK.out, h1, grow_tr HG1.out (grow_tr (grow_drewN _ nq _) (grow_tr (grow_drewN _ 1 _) (grow_swap _ g e0 e1 _ _))), HST2.out.symm.trans HO.out⟩
        | false =>
          have HL2 := Lib.hid (fun q => by have := HL.out q; rw [hl] at this; exact this)
          have HST2 := Lib.hid (show siftDown ltN hi first r dk = dk from by have := HST.out; rw [hl, if_neg (by simp)] at this; exact this)
          clear HL hl HST
          go_quiet ((go_at_call 45; exact quiet_eq (HL2.out _)))
          go_wp2_with fail
          rw [← HO.out, HST2.out]
          exact bodyPost_ret (v := .tuple #[]) (by simp [results, Try.results50, go_sem]) rfl ⟨rfl, HR1.out, HSK.out, grow_tr HG1.out (grow_drewN _ _ _)⟩
    · obtain ⟨c, hc⟩ : ∃ c, 2 * r + 1 = c := ⟨_, rfl⟩
      have hci : 2 * (r : Int) + 1 = (c : Nat) := by omega
      have hi1 : (hi : Int) ≤ (c : Int) := by omega
      have HST := Lib.hid (sift_stop (first := first) (d := dk) (show 2 * r + 1 ≥ hi by omega))
      go_wp2_with fail
      go_end0
      rw [← HO.out, HST.out]
      exact ⟨rfl, HRK.out, HSK.out, HGK.out⟩
end Go.Proofs.Ytboonpfdlbedoaa
