/- Walks over slices: order2Ordered at numbers. -/
import Derived.Test.YtkdjefnnhanhhaaUk
import Derived.Deep.Cut
import Derived.Sort.AssemblyPlain
set_option linter.unusedVariables false
namespace Go.Proofs.Ytkdjefnnhanhhaa
open Go Go.RowKit Go.Mem Go.Sort
set_option linter.unusedVariables false

/-- A box that holds a count. -/
def BxI (w : World) (q n : Nat) : Prop := w.heap[q]? = some (.cells #[.int .i64 (n : Nat)] 3 (0, 0))
set_option maxRecDepth 100000 in
set_option maxHeartbeats 6400000 in
theorem order2_any (g cap q n a b : Nat) (d : Array Nat) (w : World) (h : RwU w g cap d) (hq : BxI w q n) (hgq : g ≠ q) (ha : a < d.size) (hb : b < d.size) (hsz : d.size ≤ 1000000000) (hn : n ≤ 1000) :
    Calls Try.prog 79 #[.slice (some ⟨g, 0, none⟩) d.size cap, .int .i64 (a : Nat), .int .i64 (b : Nat), .pointer (some ⟨q, 0, none⟩)] w fun e w' => e = .returned (.tuple #[.int .i64 ((order2 ltN d a b n).1 : Nat), .int .i64 ((order2 ltN d a b n).2.1 : Nat)]) ∧ BxI w' q (order2 ltN d a b n).2.2 ∧ RwU w' g cap d ∧ w.grownBy w' (some q) := by
  obtain ⟨N, hN⟩ : ∃ N, d.size = N := ⟨_, rfl⟩
  have hca : N ≤ cap ∧ cap ≤ maxLen := by obtain ⟨_, _, _, h1, h2, _⟩ := h; exact ⟨by omega, h2⟩
  have hc1 : (N : Int) ≤ (cap : Int) := by omega
  have hc2 : (cap : Int) ≤ 9223372036854775807 := by have := hca.2; unfold maxLen at this; omega
  have c1 := h.cell (j := a) ha
  have c2 := h.cell (j := b) hb
  have c3 : w.cell? ⟨q, 0, none⟩ = some (.int .i64 (n : Nat)) := cell_at hq 0
  have z3 : w.frozen? ⟨q, 0, none⟩ = false := free_at hq 0
  have H := Lib.hid h
  have HQ := Lib.hid hq
  rw [hN] at ha hb ⊢
  have l1 : (a : Int) < (N : Int) := by omega
  have l2 : (b : Int) < (N : Int) := by omega
  obtain ⟨x, hx⟩ : ∃ x, d[a]! = x := ⟨_, rfl⟩
  obtain ⟨y, hy⟩ : ∃ y, d[b]! = y := ⟨_, rfl⟩
  have hO : order2 ltN d a b n = if ltN y x then (b, a, n + 1) else (a, b, n) := by unfold order2; rw [hx, hy]
  rw [hO]
  rw [hx] at c1
  rw [hy] at c2
  have HG := Lib.hid hgq
  clear h hq hca hN hO hx hy hgq
  cases hl : ltN y x with
  | true =>
    have HL := Lib.hid (fun k => by have := less_any y x (w.drewN k); rw [hl] at this; exact this)
    clear hl
    rw [if_pos rfl]
    go_enter Try.func79, Try.ntmps79
    go_wp2_with fail
    go_quiet ((go_at_call 67; exact quiet_eq (HL.out _)))
    go_wp2_with fail
    refine bodyPost_ret (v := .tuple #[.int .i64 (b : Nat), .int .i64 (a : Nat)]) (by simp [results, Try.results79, go_sem]) rfl ⟨rfl, ?_, ?_, ?_⟩
    · exact set_at (show (w.drewN nq).heap[q]? = _ from HQ.out) 0 _
    · exact (show RwU (w.drewN nq) g cap d from H.out).grown (grown_set _ q 0 _) HG.out
    · exact grow_tr (grow_drewN _ nq _) (grown_set _ q 0 _)
  | false =>
    have HL := Lib.hid (fun k => by have := less_any y x (w.drewN k); rw [hl] at this; exact this)
    clear hl
    rw [if_neg (by simp)]
    go_enter Try.func79, Try.ntmps79
    go_wp2_with fail
    go_quiet ((go_at_call 67; exact quiet_eq (HL.out _)))
    go_wp2_with fail
    exact bodyPost_ret (v := .tuple #[.int .i64 (a : Nat), .int .i64 (b : Nat)]) (by simp [results, Try.results79, go_sem]) rfl ⟨rfl, HQ.out, H.out, grow_drewN _ _ _⟩
end Go.Proofs.Ytkdjefnnhanhhaa
/- Walks over slices: medianOrdered, medianAdjacentOrdered at numbers. -/
namespace Go.Proofs.Ytkdjefnnhanhhaa
open Go Go.RowKit Go.Mem Go.Sort
set_option linter.unusedVariables false

theorem order2_lt {d : Array Nat} {a b n N : Nat} (ha : a < N) (hb : b < N) : (order2 ltN d a b n).1 < N ∧ (order2 ltN d a b n).2.1 < N ∧ (order2 ltN d a b n).2.2 ≤ n + 1 := by
  unfold order2
  split
  · exact ⟨hb, ha, Nat.le_refl _⟩
  · exact ⟨ha, hb, Nat.le_succ _⟩
set_option maxRecDepth 100000 in
set_option maxHeartbeats 6400000 in
theorem median_any (g cap q n a b c : Nat) (d : Array Nat) (w : World) (h : RwU w g cap d) (hq : BxI w q n) (hgq : g ≠ q) (ha : a < d.size) (hb : b < d.size) (hc : c < d.size) (hsz : d.size ≤ 1000000000) (hn : n ≤ 900) :
    Calls Try.prog 77 #[.slice (some ⟨g, 0, none⟩) d.size cap, .int .i64 (a : Nat), .int .i64 (b : Nat), .int .i64 (c : Nat), .pointer (some ⟨q, 0, none⟩)] w fun e w' => e = .returned (.int .i64 ((median ltN d a b c n).1 : Nat)) ∧ BxI w' q (median ltN d a b c n).2 ∧ RwU w' g cap d ∧ w.grownBy w' (some q) ∧ (median ltN d a b c n).1 < d.size ∧ (median ltN d a b c n).2 ≤ n + 3 := by
  obtain ⟨r1, hr1⟩ : ∃ r, order2 ltN d a b n = r := ⟨_, rfl⟩
  obtain ⟨p1, p2, p3⟩ := order2_lt (d := d) (n := n) ha hb
  have O1 := order2_any g cap q n a b d w h hq hgq ha hb hsz (by omega)
  rw [hr1] at p1 p2 p3 O1
  obtain ⟨r2, hr2⟩ : ∃ r, order2 ltN d r1.2.1 c r1.2.2 = r := ⟨_, rfl⟩
  obtain ⟨p4, p5, p6⟩ := order2_lt (d := d) (n := r1.2.2) p2 hc
  obtain ⟨r3, hr3⟩ : ∃ r, order2 ltN d r1.1 r2.1 r2.2.2 = r := ⟨_, rfl⟩
  rw [hr2] at p4 p5 p6
  obtain ⟨p7, p8, p9⟩ := order2_lt (d := d) (n := r2.2.2) p1 p4
  rw [hr3] at p7 p8 p9
  have hE : median ltN d a b c n = (r3.2.1, r3.2.2) := by unfold median; simp only [hr1, hr2, hr3]
  rw [hE]
  have O2 : ∀ W, RwU W g cap d → BxI W q r1.2.2 → _ := fun W hW hQ => order2_any g cap q r1.2.2 r1.2.1 c d W hW hQ hgq p2 hc hsz (by omega)
  have O3 : ∀ W, RwU W g cap d → BxI W q r2.2.2 → _ := fun W hW hQ => order2_any g cap q r2.2.2 r1.1 r2.1 d W hW hQ hgq p1 p4 hsz (by omega)
  rw [hr2] at O2
  rw [hr3] at O3
  have H1 := Lib.hid O1
  have H2 := Lib.hid O2
  have H3 := Lib.hid O3
  have HP := Lib.hid (And.intro p8 (show r3.2.2 ≤ n + 3 by omega))
  clear O1 O2 O3 hE hr1 hr2 hr3 h hq
  go_enter Try.func77, Try.ntmps77
  go_wp2_with fail
  refine H1.out.mono ?_
  rintro e w1 ⟨rfl, q1, s1, g1⟩
  have Q1 := Lib.hid (And.intro q1 (And.intro s1 g1))
  clear q1 s1 g1
  go_wp2_with fail
  refine (H2.out w1 Q1.out.2.1 Q1.out.1).mono ?_
  rintro e w2 ⟨rfl, q2, s2, g2⟩
  have Q2 := Lib.hid (And.intro q2 (And.intro s2 (grow_tr Q1.out.2.2 g2)))
  clear q2 s2 g2
  go_wp2_with fail
  refine (H3.out w2 Q2.out.2.1 Q2.out.1).mono ?_
  rintro e w3 ⟨rfl, q3, s3, g3⟩
  have Q3 := Lib.hid (And.intro q3 (And.intro s3 (grow_tr Q2.out.2.2 g3)))
  clear q3 s3 g3
  go_wp2_with fail
  go_ret
  exact ⟨rfl, Q3.out.1, Q3.out.2.1, Q3.out.2.2, HP.out.1, HP.out.2⟩
set_option maxRecDepth 100000 in
set_option maxHeartbeats 6400000 in
theorem medianAdj_any (g cap q n a : Nat) (d : Array Nat) (w : World) (h : RwU w g cap d) (hq : BxI w q n) (hgq : g ≠ q) (h1 : 1 ≤ a) (ha : a + 1 < d.size) (hsz : d.size ≤ 1000000000) (hn : n ≤ 900) :
    Calls Try.prog 76 #[.slice (some ⟨g, 0, none⟩) d.size cap, .int .i64 (a : Nat), .pointer (some ⟨q, 0, none⟩)] w fun e w' => e = .returned (.int .i64 ((medianAdjacent ltN d a n).1 : Nat)) ∧ BxI w' q (medianAdjacent ltN d a n).2 ∧ RwU w' g cap d ∧ w.grownBy w' (some q) ∧ (medianAdjacent ltN d a n).1 < d.size ∧ (medianAdjacent ltN d a n).2 ≤ n + 3 := by
  have O := Lib.hid (median_any g cap q n (a - 1) a (a + 1) d w h hq hgq (by omega) (by omega) ha hsz hn)
  unfold medianAdjacent
  obtain ⟨r, hr⟩ : ∃ r, median ltN d (a - 1) a (a + 1) n = r := ⟨_, rfl⟩
  rw [hr] at O ⊢
  obtain ⟨a0, ha0⟩ : ∃ a0, a - 1 = a0 := ⟨_, rfl⟩
  have ha1 : (a : Int) - 1 = (a0 : Nat) := by omega
  obtain ⟨N, hN⟩ : ∃ N, d.size = N := ⟨_, rfl⟩
  rw [ha0] at O
  rw [hN] at O ha hsz ⊢
  have hal : (a : Int) + 1 < (N : Int) := by omega
  clear hr h hq ha0 hN
  go_enter Try.func76, Try.ntmps76
  go_wp2_with fail
  refine O.out.mono ?_
  rintro e w1 ⟨rfl, q1⟩
  have Q1 := Lib.hid q1
  clear q1
  go_wp2_with fail
  go_ret
  exact ⟨rfl, Q1.out⟩
end Go.Proofs.Ytkdjefnnhanhhaa
/- Walks over slices: choosePivotOrdered at numbers. -/
namespace Go.Proofs.Ytkdjefnnhanhhaa
open Go Go.RowKit Go.Mem Go.Sort
set_option linter.unusedVariables false

theorem grow_new {w w' : World} {o : Obj} (g : Nat) (h : (w.alloc o).grownBy w' (some w.heap.size)) : w.grownBy w' (some g) := by
  have hb : Below w.heap.size w (w.alloc o) := (Below.refl _ _).alloc (Nat.le_refl _) o
  exact ⟨h.os.trans hb.os, h.tape.trans hb.tape, h.output.trans hb.output, Nat.le_trans hb.size h.size, fun j hj _ => (h.block j (by have := hb.size; omega) (fun e => by cases e; omega)).trans (hb.block j hj)⟩
def hintN : Hint → Nat
  | .unknown => 0
  | .increasing => 1
  | .decreasing => 2
set_option maxRecDepth 100000 in
set_option maxHeartbeats 6400000 in
theorem pivot_small (g cap a b : Nat) (d : Array Nat) (w : World) (h : RwU w g cap d) (hb : b ≤ d.size) (hsz : d.size ≤ 1000000000) (hl1 : a + 8 ≤ b) (hl2 : b < a + 50) :
    Calls Try.prog 64 #[.slice (some ⟨g, 0, none⟩) d.size cap, .int .i64 (a : Nat), .int .i64 (b : Nat)] w fun e w' => e = .returned (.tuple #[.int .i64 ((choosePivot ltN d a b).1 : Nat), .int .i64 (hintN (choosePivot ltN d a b).2 : Nat)]) ∧ RwU w' g cap d ∧ w.grownBy w' (some g) ∧ (choosePivot ltN d a b).1 < d.size := by
  obtain ⟨l, hl⟩ : ∃ l, b - a = l := ⟨_, rfl⟩
  have hl3 : (b : Int) - (a : Int) = (l : Nat) := by omega
  obtain ⟨t, ht⟩ : ∃ t, l / 4 = t := ⟨_, rfl⟩
  have ht1 : (l : Int) / 4 = (t : Nat) := by omega
  obtain ⟨i, hi⟩ : ∃ i, a + t * 1 = i := ⟨_, rfl⟩
  obtain ⟨j, hj⟩ : ∃ j, a + t * 2 = j := ⟨_, rfl⟩
  obtain ⟨k, hk⟩ : ∃ k, a + t * 3 = k := ⟨_, rfl⟩
  have hi1 : (a : Int) + (t : Int) = (i : Nat) := by omega
  have hj1 : (a : Int) + (t : Int) * 2 = (j : Nat) := by omega
  have hk1 : (a : Int) + (t : Int) * 3 = (k : Nat) := by omega
  have hq : BxI (w.alloc (.cells #[.int .i64 0] 3)) w.heap.size 0 := alloc_new w _
  have hgl : g < w.heap.size := h.lt
  have hr : RwU (w.alloc (.cells #[.int .i64 0] 3)) g cap d := Ow.same h (((Below.refl w.heap.size w).alloc (Nat.le_refl _) _).block g hgl)
  have O := median_any g cap w.heap.size 0 i j k d _ hr hq (by omega) (by omega) (by omega) (by omega) hsz (by omega)
  obtain ⟨r, hr3⟩ : ∃ r, median ltN d i j k 0 = r := ⟨_, rfl⟩
  have hE : choosePivot ltN d a b = (r.1, if r.2 = 0 then .increasing else if r.2 = 12 then .decreasing else .unknown) := by
    unfold choosePivot
    simp only [hl, ht, hi, hj, hk, if_pos (show l ≥ 8 by omega), if_neg (show ¬ l ≥ 50 by omega), hr3]
  rw [hE]
  rw [hr3] at O
  have HO := Lib.hid O
  have l1 : (8 : Int) ≤ (l : Int) := by omega
  have l2 : (l : Int) < 50 := by omega
  clear O hE hr3 hq hr h
  go_enter Try.func64, Try.ntmps64
  go_wp2_with fail
  refine HO.out.mono ?_
  rintro e w1 ⟨rfl, q1, s1, g1, p1, p2⟩
  have c9 : w1.cell? ⟨w.heap.size, 0, none⟩ = some (.int .i64 (r.2 : Nat)) := cell_at q1 0
  have Q := Lib.hid (And.intro s1 (And.intro (grow_new g g1) p1))
  clear q1 s1 g1
  by_cases h0 : r.2 = 0
  · have h0i : ((r.2 : Nat) : Int) = 0 := by omega
    rw [h0i] at c9
    have H0 := Lib.hid h0
    clear h0 h0i p1 p2
    go_wp2_with fail
    exact bodyPost_ret (v := .tuple #[.int .i64 (r.1 : Nat), .int .i64 1]) (by simp [results, Try.results64, go_sem]) rfl ⟨by first | rfl | simp [H0.out, hintN], Q.out⟩
  · have H0 := Lib.hid h0
    have h12 : ¬ r.2 = 12 := by omega
    have H12 := Lib.hid h12
    clear p1 p2
    have e0 : (((r.2 : Nat) : Int) == 0) = false := beq_eq_false_iff_ne.2 (by omega)
    have e1 : (((r.2 : Nat) : Int) == 12) = false := beq_eq_false_iff_ne.2 (by omega)
    clear h0 h12
    go_wp2_with fail
    exact bodyPost_ret (v := .tuple #[.int .i64 (r.1 : Nat), .int .i64 0]) (by simp [results, Try.results64, go_sem]) rfl ⟨by first | rfl | simp [H0.out, H12.out, hintN], Q.out⟩
end Go.Proofs.Ytkdjefnnhanhhaa
/- Walks over slices: choosePivotOrdered at 50 numbers and more. -/
namespace Go.Proofs.Ytkdjefnnhanhhaa
open Go Go.RowKit Go.Mem Go.Sort
set_option linter.unusedVariables false

set_option maxRecDepth 100000 in
set_option maxHeartbeats 6400000 in
theorem pivot_big (g cap a b : Nat) (d : Array Nat) (w : World) (h : RwU w g cap d) (hb : b ≤ d.size) (hsz : d.size ≤ 1000000000) (hl1 : a + 50 ≤ b) :
    Calls Try.prog 64 #[.slice (some ⟨g, 0, none⟩) d.size cap, .int .i64 (a : Nat), .int .i64 (b : Nat)] w fun e w' => e = .returned (.tuple #[.int .i64 ((choosePivot ltN d a b).1 : Nat), .int .i64 (hintN (choosePivot ltN d a b).2 : Nat)]) ∧ RwU w' g cap d ∧ w.grownBy w' (some g) ∧ (choosePivot ltN d a b).1 < d.size := by
  obtain ⟨l, hl⟩ : ∃ l, b - a = l := ⟨_, rfl⟩
  have hl3 : (b : Int) - (a : Int) = (l : Nat) := by omega
  obtain ⟨t, ht⟩ : ∃ t, l / 4 = t := ⟨_, rfl⟩
  have ht1 : (l : Int) / 4 = (t : Nat) := by omega
  obtain ⟨i, hi⟩ : ∃ i, a + t * 1 = i := ⟨_, rfl⟩
  obtain ⟨j, hj⟩ : ∃ j, a + t * 2 = j := ⟨_, rfl⟩
  obtain ⟨k, hk⟩ : ∃ k, a + t * 3 = k := ⟨_, rfl⟩
  have hi1 : (a : Int) + (t : Int) = (i : Nat) := by omega
  have hj1 : (a : Int) + (t : Int) * 2 = (j : Nat) := by omega
  have hk1 : (a : Int) + (t : Int) * 3 = (k : Nat) := by omega
  have hq : BxI (w.alloc (.cells #[.int .i64 0] 3)) w.heap.size 0 := alloc_new w _
  have hgl : g < w.heap.size := h.lt
  have hr : RwU (w.alloc (.cells #[.int .i64 0] 3)) g cap d := Ow.same h (((Below.refl w.heap.size w).alloc (Nat.le_refl _) _).block g hgl)
  have hsz' := hsz
  have A1 := medianAdj_any g cap w.heap.size 0 i d _ hr hq (by omega) (by omega) (by omega) hsz (by omega)
  obtain ⟨ri, hri⟩ : ∃ r, medianAdjacent ltN d i 0 = r := ⟨_, rfl⟩
  rw [hri] at A1
  have A2 : ∀ W, RwU W g cap d → BxI W w.heap.size ri.2 → ri.2 ≤ 3 → _ := fun W hW hQ h3 => medianAdj_any g cap w.heap.size ri.2 j d W hW hQ (by omega) (by omega) (by omega) hsz (by omega)
  obtain ⟨rj, hrj⟩ : ∃ r, medianAdjacent ltN d j ri.2 = r := ⟨_, rfl⟩
  rw [hrj] at A2
  have A3 : ∀ W, RwU W g cap d → BxI W w.heap.size rj.2 → rj.2 ≤ 6 → _ := fun W hW hQ h3 => medianAdj_any g cap w.heap.size rj.2 k d W hW hQ (by omega) (by omega) (by omega) hsz (by omega)
  obtain ⟨rk, hrk⟩ : ∃ r, medianAdjacent ltN d k rj.2 = r := ⟨_, rfl⟩
  rw [hrk] at A3
  have A4 : ∀ W, RwU W g cap d → BxI W w.heap.size rk.2 → rk.2 ≤ 9 → ri.1 < d.size → rj.1 < d.size → rk.1 < d.size → _ := fun W hW hQ h3 l1 l2 l3 => median_any g cap w.heap.size rk.2 ri.1 rj.1 rk.1 d W hW hQ (by omega) l1 l2 l3 hsz (by omega)
  obtain ⟨r, hr3⟩ : ∃ r, median ltN d ri.1 rj.1 rk.1 rk.2 = r := ⟨_, rfl⟩
  rw [hr3] at A4
  have hE : choosePivot ltN d a b = (r.1, if r.2 = 0 then .increasing else if r.2 = 12 then .decreasing else .unknown) := by
    unfold choosePivot
    simp only [hl, ht, hi, hj, hk, if_pos (show l ≥ 8 by omega), if_pos (show l ≥ 50 by omega), hri, hrj, hrk, hr3]
  rw [hE]
  have H1 := Lib.hid A1
  have H2 := Lib.hid A2
  have H3 := Lib.hid A3
  have H4 := Lib.hid A4
  have l1 : (8 : Int) ≤ (l : Int) := by omega
  have l2 : (50 : Int) ≤ (l : Int) := by omega
  clear A1 A2 A3 A4 hE hr3 hri hrj hrk hq hr h
  go_enter Try.func64, Try.ntmps64
  go_wp2_with fail
  refine H1.out.mono ?_
  rintro e w1 ⟨rfl, q1, s1, g1, p1, b1⟩
  have Q1 := Lib.hid (And.intro q1 (And.intro s1 (And.intro g1 (And.intro p1 b1))))
  clear q1 s1 g1 p1 b1
  go_wp2_with fail
  refine (H2.out w1 Q1.out.2.1 Q1.out.1 (by have := Q1.out.2.2.2.2; omega)).mono ?_
  rintro e w2 ⟨rfl, q1, s1, g1, p1, b1⟩
  have Q2 := Lib.hid (And.intro q1 (And.intro s1 (And.intro (grow_tr Q1.out.2.2.1 g1) (And.intro p1 (show rj.2 ≤ 6 by have := Q1.out.2.2.2.2; omega)))))
  clear q1 s1 g1 p1 b1
  go_wp2_with fail
  refine (H3.out w2 Q2.out.2.1 Q2.out.1 Q2.out.2.2.2.2).mono ?_
  rintro e w3 ⟨rfl, q1, s1, g1, p1, b1⟩
  have Q3 := Lib.hid (And.intro q1 (And.intro s1 (And.intro (grow_tr Q2.out.2.2.1 g1) (And.intro p1 (show rk.2 ≤ 9 by have := Q2.out.2.2.2.2; omega)))))
  clear q1 s1 g1 p1 b1
  go_wp2_with fail
  refine (H4.out w3 Q3.out.2.1 Q3.out.1 Q3.out.2.2.2.2 Q1.out.2.2.2.1 Q2.out.2.2.2.1 Q3.out.2.2.2.1).mono ?_
  rintro e w4 ⟨rfl, q1, s1, g1, p1, p2⟩
  replace g1 := grow_tr Q3.out.2.2.1 g1
  have c9 : w4.cell? ⟨w.heap.size, 0, none⟩ = some (.int .i64 (r.2 : Nat)) := cell_at q1 0
  have Q := Lib.hid (And.intro s1 (And.intro (grow_new g g1) p1))
  clear q1 s1 g1
  by_cases h0 : r.2 = 0
  · have h0i : ((r.2 : Nat) : Int) = 0 := by omega
    rw [h0i] at c9
    have H0 := Lib.hid h0
    clear h0 h0i p1 p2
    go_wp2_with fail
    exact bodyPost_ret (v := .tuple #[.int .i64 (r.1 : Nat), .int .i64 1]) (by simp [results, Try.results64, go_sem]) rfl ⟨by first | rfl | simp [H0.out, hintN], Q.out⟩
  · have H0 := Lib.hid h0
    by_cases h12 : r.2 = 12
    · have H12 := Lib.hid h12
      have h0i : ((r.2 : Nat) : Int) = 12 := by omega
      rw [h0i] at c9
      clear h0 h12 h0i p1 p2
      go_wp2_with fail
      exact bodyPost_ret (v := .tuple #[.int .i64 (r.1 : Nat), .int .i64 2]) (by simp [results, Try.results64, go_sem]) rfl ⟨by first | rfl | simp [H0.out, H12.out, hintN], Q.out⟩
    · have H12 := Lib.hid h12
      clear p1 p2
      have e0 : (((r.2 : Nat) : Int) == 0) = false := beq_eq_false_iff_ne.2 (by omega)
      have e1 : (((r.2 : Nat) : Int) == 12) = false := beq_eq_false_iff_ne.2 (by omega)
      clear h0 h12
      go_wp2_with fail
      exact bodyPost_ret (v := .tuple #[.int .i64 (r.1 : Nat), .int .i64 0]) (by simp [results, Try.results64, go_sem]) rfl ⟨by first | rfl | simp [H0.out, H12.out, hintN], Q.out⟩
end Go.Proofs.Ytkdjefnnhanhhaa
/- Walks over bits: Len of what is below 65536: some number. -/
namespace Go.Proofs.Ytkdjefnnhanhhaa
open Go Go.RowKit Go.Mem Go.Sort

theorem len_w (b : UInt8) : ∃ L : Nat, Ending.returned (.int .i64 (wrap64 (wrap64 (b.toNat : Int)))) = Ending.returned (.int .i64 (L : Nat)) ∧ L ≤ 300 := by
  have h := b.toNat_lt
  refine ⟨b.toNat, ?_, by omega⟩
  have e := IntWalk.wrap64_in (b.toNat : Int) ⟨by omega, by omega⟩
  rw [e, e]
theorem len_w8 (b : UInt8) : ∃ L : Nat, Ending.returned (.int .i64 (wrap64 (8 + wrap64 (b.toNat : Int)))) = Ending.returned (.int .i64 (L : Nat)) ∧ L ≤ 300 := by
  have h := b.toNat_lt
  refine ⟨8 + b.toNat, ?_, by omega⟩
  have e := IntWalk.wrap64_in (b.toNat : Int) ⟨by omega, by omega⟩
  have e2 := IntWalk.wrap64_in (8 + (b.toNat : Int)) ⟨by omega, by omega⟩
  rw [e, e2]
  simp
set_option maxRecDepth 100000 in
set_option maxHeartbeats 3200000 in
theorem len64_any (x : Nat) (w : World) (hx : x < 65536) :
    Calls Try.prog 71 #[.int .u64 (x : Nat)] w fun e w' => (∃ L : Nat, e = .returned (.int .i64 (L : Nat)) ∧ L ≤ 300) ∧ w = w' := by
  have h1 : ¬ (4294967296 : Int) ≤ (x : Int) := by omega
  have h2 : ¬ (65536 : Int) ≤ (x : Int) := by omega
  by_cases h3 : x < 256
  · have h4 : ¬ (256 : Int) ≤ (x : Int) := by omega
    go_enter Try.func71, Try.ntmps71
    go_wp2_with fail
    go_ret
    exact ⟨len_w _, rfl⟩
  · have h4 : (256 : Int) ≤ (x : Int) := by omega
    go_enter Try.func71, Try.ntmps71
    go_upto_region 10 with (fail)
    obtain ⟨y, hy⟩ : ∃ y, x / 256 = y := ⟨_, rfl⟩
    have hy2 : y < 256 := by omega
    have hy3 : (x : Int) / 256 = (y : Int) := by omega
    rw [hy3]
    have hy4 : (y : Int) < 256 := by omega
    clear hy hy3 h1 h2 h3 h4 hx hy2
    go_wp2_with fail
    go_ret
    exact ⟨len_w8 _, rfl⟩
set_option maxHeartbeats 3200000 in
theorem len_any (x : Nat) (w : World) (hx : x < 65536) :
    Calls Try.prog 58 #[.int .u64 (x : Nat)] w fun e w' => (∃ L : Nat, e = .returned (.int .i64 (L : Nat)) ∧ L ≤ 300) ∧ w = w' := by
  have HL := Lib.hid (len64_any x w hx)
  go_enter Try.func58, Try.ntmps58
  go_wp2_with fail
  refine HL.out.mono ?_
  rintro e w' ⟨⟨L, rfl, hL⟩, rfl⟩
  go_wp2_with fail
  go_ret
  exact ⟨⟨L, rfl, hL⟩, rfl⟩
end Go.Proofs.Ytkdjefnnhanhhaa
/- Walks over slices: Sort of a short row of numbers; what is sorted and rising is one. -/
namespace Go.Proofs.Ytkdjefnnhanhhaa
open Go Go.RowKit Go.Mem Go.Sort Go.Hs

theorem swo_ltN : SWO ltN := ⟨fun x => by simp [ltN], fun x y z h1 h2 => by simp only [ltN, decide_eq_true_eq] at *; omega, fun x y z h1 h2 => by simp only [ltN, decide_eq_false_iff_not] at *; omega⟩
/-- What is sorted and has the numbers of a rising row is that row. -/
theorem sorted_eq {d d' : Array Nat} {S : List Nat} (hP : PermIn 0 d.size d d') (hs : SortedIn ltN 0 d.size d') (hd : d.toList.Perm S) (hS : Rising S) : d'.toList = S := by
  have hsz := hP.1
  have hp : d'.toList.Perm S := by
    have h1 := hP.2.2
    rw [show d'.extract 0 d.size = d' by rw [← hsz]; simp, show d.extract 0 d.size = d by simp] at h1
    exact h1.trans hd
  refine List.Perm.eq_of_pairwise (le := fun a b => a ≤ b) (fun a b _ _ h1 h2 => Nat.le_antisymm h1 h2) ?_ (hS.imp (fun h => Nat.le_of_lt h)) hp
  rw [List.pairwise_iff_getElem]
  intro i j hi hj hij
  have hj' : j < d'.size := by simpa using hj
  have h2 := hs i j (Nat.zero_le _) hij (by omega)
  simp only [ltN, decide_eq_false_iff_not] at h2
  rw [getElem!_pos d' j hj', getElem!_pos d' i (by omega)] at h2
  simp only [Array.getElem_toList]
  omega
/-- slices.Sort does what it should, at rows of at most N numbers. -/
def SortOk (N : Nat) : Prop := ∀ (g cap : Nat) (d : Array Nat) (w : World), RwU w g cap d → d.size ≤ N →
  Calls Try.prog 46 #[.slice (some ⟨g, 0, none⟩) d.size cap] w fun e w' => e = .returned (.tuple #[]) ∧ ∃ d', RwU w' g cap d' ∧ PermIn 0 d.size d d' ∧ SortedIn ltN 0 d.size d' ∧ w.grownBy w' (some g)

set_option maxRecDepth 100000 in
set_option maxHeartbeats 3200000 in
theorem pdq_short (g cap L : Nat) (d : Array Nat) (w : World) (h : RwU w g cap d) (hs : d.size ≤ 12) :
    Calls Try.prog 57 #[.slice (some ⟨g, 0, none⟩) d.size cap, .int .i64 0, .int .i64 (d.size : Nat), .int .i64 (L : Nat)] w fun e w' => e = .returned (.tuple #[]) ∧ RwU w' g cap (insertionSort ltN d 0 d.size) ∧ w.grownBy w' (some g) := by
  have HI := Lib.hid (ins_any g cap 0 d.size d w h (Nat.zero_le _) (Nat.le_refl _) (by omega))
  obtain ⟨n, hn⟩ : ∃ n, d.size = n := ⟨_, rfl⟩
  rw [hn] at HI hs ⊢
  have h1 : (n : Int) ≤ 12 := by omega
  clear h hn hs
  go_enter Try.func57, Try.ntmps57
  go_wp2_with fail
  refine wp_loop_rounds 1 ?_
  rw [rounds_succ]
  go_wp2_with fail
  refine HI.out.mono ?_
  rintro e w' ⟨rfl, h2, _, h3⟩
  have H2 := Lib.hid h2
  have H3 := Lib.hid h3
  clear h2 h3
  go_wp2_with fail
  exact bodyPost_ret (v := .tuple #[]) (by simp [results, Try.results57, go_sem]) rfl ⟨rfl, H2.out, H3.out⟩
set_option maxHeartbeats 3200000 in
theorem sort_short : SortOk 12 := by
  intro g cap d w h hs
  have HP := Lib.hid (fun L => pdq_short g cap L d w h hs)
  have HL := Lib.hid (len_any d.size w (by omega))
  obtain ⟨hp, hq⟩ := insertionSort_holds swo_ltN d 0 d.size (Nat.zero_le _) (Nat.le_refl _)
  have HPQ := Lib.hid (And.intro hp hq)
  obtain ⟨n, hn⟩ : ∃ n, d.size = n := ⟨_, rfl⟩
  rw [hn] at HP HL HPQ hs ⊢
  clear h hn hp hq
  go_enter Try.func46, Try.ntmps46
  go_wp2_with fail
  refine HL.out.mono ?_
  rintro e w' ⟨⟨L, rfl, hL⟩, rfl⟩
  go_wp2_with fail
  refine (HP.out L).mono ?_
  rintro e w' ⟨rfl, h2, h3⟩
  have H2 := Lib.hid h2
  have H3 := Lib.hid h3
  clear h2 h3
  go_wp2_with fail
  go_end0
  exact ⟨rfl, _, H2.out, HPQ.out.1, HPQ.out.2, H3.out⟩
end Go.Proofs.Ytkdjefnnhanhhaa
