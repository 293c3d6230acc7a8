/- Walks over slices: choosePivotOrdered at 50 numbers and more. -/
import Derived.Test.YtboonpfdlbedoaaSk
namespace Go.Proofs.Ytboonpfdlbedoaa
open Go Go.RowKit Go.Mem Go.Sort
set_option linter.unusedVariables false

set_option maxRecDepth 100000 in
set_option maxHeartbeats 6400000 in
theorem pivot_big (g cap a b : Nat) (d : Array Nat) (w : World) (h : RwU w g cap d) (hb : b ≤ d.size) (hsz : d.size ≤ 1000000000) (hl1 : a + 50 ≤ b) :
    Calls Try.prog 42 #[.slice (some ⟨g, 0, none⟩) d.size cap, .int .i64 (a : Nat), .int .i64 (b : Nat)] w fun e w' => e = .returned (.tuple #[.int .i64 ((choosePivot ltN d a b).1 : Nat), .int .i64 (hintN (choosePivot ltN d a b).2 : Nat)]) ∧ RwU w' g cap d ∧ w.grownBy w' (some g) ∧ (choosePivot ltN d a b).1 < d.size := by
  obtain ⟨l, hl⟩ : ∃ l, b - a = l := ⟨_, rfl⟩
  have hl3 : (b : Int) - (a : Int) = (l : Nat) := by omega
  obtain ⟨t, ht⟩ : ∃ t, l / 4 = t := ⟨_, rfl⟩
  have ht1 : (l : Int) / 4 = (t : Nat) := by omega
  obtain ⟨i, hi⟩ : ∃ i, a + t * 1 = i := ⟨_, rfl⟩
  obtain ⟨j, hj⟩ : ∃ j, a + t * 2 = j := ⟨_, rfl⟩
  obtain ⟨k, hk⟩ : ∃ k, a + t * 3 = k := ⟨_, rfl⟩
  have hi1 : (a : Int) + (t : Int) = (i : Nat) := by omega
  have hj1 : (a : Int) + (t : Int) * 2 = (j : Nat) := by omega
  have hk1 : (a : Int) + (t : Int) * 3 = (k : Nat) := by omega
  have hq : BxI (w.alloc (.cells #[.int .i64 0] 3)) w.heap.size 0 := alloc_new w _
  have hgl : g < w.heap.size := h.lt
  have hr : RwU (w.alloc (.cells #[.int .i64 0] 3)) g cap d := Ow.same h (((Below.refl w.heap.size w).alloc (Nat.le_refl _) _).block g hgl)
  have hsz' := hsz
  have A1 := medianAdj_any g cap w.heap.size 0 i d _ hr hq (by omega) (by omega) (by omega) hsz (by omega)
  obtain ⟨ri, hri⟩ : ∃ r, medianAdjacent ltN d i 0 = r := ⟨_, rfl⟩
  rw [hri] at A1
  have A2 : ∀ W, RwU W g cap d → BxI W w.heap.size ri.2 → ri.2 ≤ 3 → _ := fun W hW hQ h3 => medianAdj_any g cap w.heap.size ri.2 j d W hW hQ (by omega) (by omega) (by omega) hsz (by omega)
  obtain ⟨rj, hrj⟩ : ∃ r, medianAdjacent ltN d j ri.2 = r := ⟨_, rfl⟩
  rw [hrj] at A2
  have A3 : ∀ W, RwU W g cap d → BxI W w.heap.size rj.2 → rj.2 ≤ 6 → _ := fun W hW hQ h3 => medianAdj_any g cap w.heap.size rj.2 k d W hW hQ (by omega) (by omega) (by omega) hsz (by omega)
  obtain ⟨rk, hrk⟩ : ∃ r, medianAdjacent ltN d k rj.2 = r := ⟨_, rfl⟩
  rw [hrk] at A3
  have A4 : ∀ W, RwU W g cap d → BxI W w.heap.size rk.2 → rk.2 ≤ 9 → ri.1 < d.size → rj.1 < d.size → rk.1 < d.size → _ := fun W hW hQ h3 l1 l2 l3 => median_any g cap w.heap.size rk.2 ri.1 rj.1 rk.1 d W hW hQ (by omega) l1 l2 l3 hsz (by omega)
  obtain ⟨r, hr3⟩ : ∃ r, median ltN d ri.1 rj.1 rk.1 rk.2 = r := ⟨_, rfl⟩
  rw [hr3] at A4
  have hE : choosePivot ltN d a b = (r.1, if r.2 = 0 then .increasing else if r.2 = 12 then .decreasing else .unknown) := by
    unfold choosePivot
    simp only [hl, ht, hi, hj, hk, if_pos (show l ≥ 8 by omega), if_pos (show l ≥ 50 by omega), hri, hrj, hrk, hr3]
  rw [hE]
  have H1 := Lib.hid A1
  have H2 := Lib.hid A2
  have H3 := Lib.hid A3
  have H4 := Lib.hid A4
  have l1 : (8 : Int) ≤ (l : Int) := by omega
  have l2 : (50 : Int) ≤ (l : Int) := by omega
  clear A1 A2 A3 A4 hE hr3 hri hrj hrk hq hr h
  go_enter Try.func42, Try.ntmps42
  go_wp2_with fail
  refine H1.out.mono ?_
  rintro e w1 ⟨rfl, q1, s1, g1, p1, b1⟩
  have Q1 := Lib.hid (And.intro q1 (And.intro s1 (And.intro g1 (And.intro p1 b1))))
  clear q1 s1 g1 p1 b1
  go_wp2_with fail
  refine (H2.out w1 Q1.out.2.1 Q1.out.1 (by have := Q1.out.2.2.2.2; omega)).mono ?_
  rintro e w2 ⟨rfl, q1, s1, g1, p1, b1⟩
  have Q2 := Lib.hid (And.intro q1 (And.intro s1 (And.intro (grow_tr Q1.out.2.2.1 g1) (And.intro p1 (show rj.2 ≤ 6 by have := Q1.out.2.2.2.2; omega)))))
  clear q1 s1 g1 p1 b1
  go_wp2_with fail
  refine (H3.out w2 Q2.out.2.1 Q2.out.1 Q2.out.2.2.2.2).mono ?_
  rintro e w3 ⟨rfl, q1, s1, g1, p1, b1⟩
  have Q3 := Lib.hid (And.intro q1 (And.intro s1 (And.intro (grow_tr Q2.out.2.2.1 g1) (And.intro p1 (show rk.2 ≤ 9 by have := Q2.out.2.2.2.2; omega)))))
  clear q1 s1 g1 p1 b1
  go_wp2_with fail
  refine (H4.out w3 Q3.out.2.1 Q3.out.1 Q3.out.2.2.2.2 Q1.out.2.2.2.1 Q2.out.2.2.2.1 Q3.out.2.2.2.1).mono ?_
  rintro e w4 ⟨rfl, q1, s1, g1, p1, p2⟩
  replace g1 := grow_tr Q3.out.2.2.1 g1
  have c9 : w4.cell? ⟨w.heap.size, 0, none⟩ = some (.int .i64 (r.2 : Nat)) := cell_at q1 0
  have Q := Lib.hid (And.intro s1 (And.intro (grow_new g g1) p1))
  clear q1 s1 g1
  by_cases h0 : r.2 = 0
  · have h0i : ((r.2 : Nat) : Int) = 0 := by omega
    rw [h0i] at c9
    have H0 := Lib.hid h0
    clear h0 h0i p1 p2
    go_wp2_with fail
    exact bodyPost_ret (v := .tuple #[.int .i64 (r.1 : Nat), .int .i64 1]) (by simp [results, Try.results42, go_sem]) rfl ⟨by first | rfl | simp [H0.out, hintN], Q.out⟩
  · have H0 := Lib.hid h0
    by_cases h12 : r.2 = 12
    · have H12 := Lib.hid h12
      have h0i : ((r.2 : Nat) : Int) = 12 := by omega
      rw [h0i] at c9
      clear h0 h12 h0i p1 p2
      go_wp2_with fail
      exact bodyPost_ret (v := .tuple #[.int .i64 (r.1 : Nat), .int .i64 2]) (by simp [results, Try.results42, go_sem]) rfl ⟨by first | rfl | simp [H0.out, H12.out, hintN], Q.out⟩
    · have H12 := Lib.hid h12
      clear p1 p2
      have e0 : (((r.2 : Nat) : Int) == 0) = false := beq_eq_false_iff_ne.2 (by omega)
      have e1 : (((r.2 : Nat) : Int) == 12) = false := beq_eq_false_iff_ne.2 (by omega)
      clear h0 h12
      go_wp2_with fail
      exact bodyPost_ret (v := .tuple #[.int .i64 (r.1 : Nat), .int .i64 0]) (by simp [results, Try.results42, go_sem]) rfl ⟨by first | rfl | simp [H0.out, H12.out, hintN], Q.out⟩
end Go.Proofs.Ytboonpfdlbedoaa
