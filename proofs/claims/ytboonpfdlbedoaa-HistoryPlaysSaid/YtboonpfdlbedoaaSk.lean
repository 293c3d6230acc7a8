/- Walks over slices: choosePivotOrdered at numbers. -/
import Derived.Test.YtboonpfdlbedoaaSj
namespace Go.Proofs.Ytboonpfdlbedoaa
open Go Go.RowKit Go.Mem Go.Sort
set_option linter.unusedVariables false

theorem grow_new {w w' : World} {o : Obj} (g : Nat) (h : (w.alloc o).grownBy w' (some w.heap.size)) : w.grownBy w' (some g) := by
  have hb : Below w.heap.size w (w.alloc o) := (Below.refl _ _).alloc (Nat.le_refl _) o
  exact ⟨h.os.trans hb.os, h.tape.trans hb.tape, h.output.trans hb.output, Nat.le_trans hb.size h.size, fun j hj _ => (h.block j (by have := hb.size; omega) (fun e => by cases e; omega)).trans (hb.block j hj)⟩
def hintN : Hint → Nat
  | .unknown => 0
  | .increasing => 1
  | .decreasing => 2
set_option maxRecDepth 100000 in
set_option maxHeartbeats 6400000 in
theorem pivot_small (g cap a b : Nat) (d : Array Nat) (w : World) (h : RwU w g cap d) (hb : b ≤ d.size) (hsz : d.size ≤ 1000000000) (hl1 : a + 8 ≤ b) (hl2 : b < a + 50) :
    Calls Try.prog 42 #[.slice (some ⟨g, 0, none⟩) d.size cap, .int .i64 (a : Nat), .int .i64 (b : Nat)] w fun e w' => e = .returned (.tuple #[.int .i64 ((choosePivot ltN d a b).1 : Nat), .int .i64 (hintN (choosePivot ltN d a b).2 : Nat)]) ∧ RwU w' g cap d ∧ w.grownBy w' (some g) ∧ (choosePivot ltN d a b).1 < d.size := by
  obtain ⟨l, hl⟩ : ∃ l, b - a = l := ⟨_, rfl⟩
  have hl3 : (b : Int) - (a : Int) = (l : Nat) := by omega
  obtain ⟨t, ht⟩ : ∃ t, l / 4 = t := ⟨_, rfl⟩
  have ht1 : (l : Int) / 4 = (t : Nat) := by omega
  obtain ⟨i, hi⟩ : ∃ i, a + t * 1 = i := ⟨_, rfl⟩
  obtain ⟨j, hj⟩ : ∃ j, a + t * 2 = j := ⟨_, rfl⟩
  obtain ⟨k, hk⟩ : ∃ k, a + t * 3 = k := ⟨_, rfl⟩
  have hi1 : (a : Int) + (t : Int) = (i : Nat) := by omega
  have hj1 : (a : Int) + (t : Int) * 2 = (j : Nat) := by omega
  have hk1 : (a : Int) + (t : Int) * 3 = (k : Nat) := by omega
  have hq : BxI (w.alloc (.cells #[.int .i64 0] 3)) w.heap.size 0 := alloc_new w _
  have hgl : g < w.heap.size := h.lt
  have hr : RwU (w.alloc (.cells #[.int .i64 0] 3)) g cap d := Ow.same h (((Below.refl w.heap.size w).alloc (Nat.le_refl _) _).block g hgl)
  have O := median_any g cap w.heap.size 0 i j k d _ hr hq (by omega) (by omega) (by omega) (by omega) hsz (by omega)
  obtain ⟨r, hr3⟩ : ∃ r, median ltN d i j k 0 = r := ⟨_, rfl⟩
  have hE : choosePivot ltN d a b = (r.1, if r.2 = 0 then .increasing else if r.2 = 12 then .decreasing else .unknown) := by
    unfold choosePivot
    simp only [hl, ht, hi, hj, hk, if_pos (show l ≥ 8 by omega), if_neg (show ¬ l ≥ 50 by omega), hr3]
  rw [hE]
  rw [hr3] at O
  have HO := Lib.hid O
  have l1 : (8 : Int) ≤ (l : Int) := by omega
  have l2 : (l : Int) < 50 := by omega
  clear O hE hr3 hq hr h
  go_enter Try.func42, Try.ntmps42
  go_wp2_with fail
  refine HO.out.mono ?_
  rintro e w1 ⟨rfl, q1, s1, g1, p1, p2⟩
  have c9 : w1.cell? ⟨w.heap.size, 0, none⟩ = some (.int .i64 (r.2 : Nat)) := cell_at q1 0
  have Q := Lib.hid (And.intro s1 (And.intro (grow_new g g1) p1))
  clear q1 s1 g1
  by_cases h0 : r.2 = 0
  · have h0i : ((r.2 : Nat) : Int) = 0 := by omega
    rw [h0i] at c9
    have H0 := Lib.hid h0
    clear h0 h0i p1 p2
    go_wp2_with fail
    exact bodyPost_ret (v := .tuple #[.int .i64 (r.1 : Nat), .int .i64 1]) (by simp [results, Try.results42, go_sem]) rfl ⟨by first | rfl | simp [H0.out, hintN], Q.out⟩
  · have H0 := Lib.hid h0
    have h12 : ¬ r.2 = 12 := by omega
    have H12 := Lib.hid h12
    clear p1 p2
    have e0 : (((r.2 : Nat) : Int) == 0) = false := beq_eq_false_iff_ne.2 (by omega)
    have e1 : (((r.2 : Nat) : Int) == 12) = false := beq_eq_false_iff_ne.2 (by omega)
    clear h0 h12
    go_wp2_with fail
    exact bodyPost_ret (v := .tuple #[.int .i64 (r.1 : Nat), .int .i64 0]) (by simp [results, Try.results42, go_sem]) rfl ⟨by first | rfl | simp [H0.out, H12.out, hintN], Q.out⟩
end Go.Proofs.Ytboonpfdlbedoaa
