/- Walks over slices: medianOrdered, medianAdjacentOrdered at numbers. -/
import Derived.Test.YtboonpfdlbedoaaSi
namespace Go.Proofs.Ytboonpfdlbedoaa
open Go Go.RowKit Go.Mem Go.Sort
set_option linter.unusedVariables false

theorem order2_lt {d : Array Nat} {a b n N : Nat} (ha : a < N) (hb : b < N) : (order2 ltN d a b n).1 < N ∧ (order2 ltN d a b n).2.1 < N ∧ (order2 ltN d a b n).2.2 ≤ n + 1 := by
  unfold order2
  split
  · exact ⟨hb, ha, Nat.le_refl _⟩
  · exact ⟨ha, hb, Nat.le_succ _⟩
set_option maxRecDepth 100000 in
set_option maxHeartbeats 6400000 in
theorem median_any (g cap q n a b c : Nat) (d : Array Nat) (w : World) (h : RwU w g cap d) (hq : BxI w q n) (hgq : g ≠ q) (ha : a < d.size) (hb : b < d.size) (hc : c < d.size) (hsz : d.size ≤ 1000000000) (hn : n ≤ 900) :
    Calls Try.prog 54 #[.slice (some ⟨g, 0, none⟩) d.size cap, .int .i64 (a : Nat), .int .i64 (b : Nat), .int .i64 (c : Nat), .pointer (some ⟨q, 0, none⟩)] w fun e w' => e = .returned (.int .i64 ((median ltN d a b c n).1 : Nat)) ∧ BxI w' q (median ltN d a b c n).2 ∧ RwU w' g cap d ∧ w.grownBy w' (some q) ∧ (median ltN d a b c n).1 < d.size ∧ (median ltN d a b c n).2 ≤ n + 3 := by
  obtain ⟨r1, hr1⟩ : ∃ r, order2 ltN d a b n = r := ⟨_, rfl⟩
  obtain ⟨p1, p2, p3⟩ := order2_lt (d := d) (n := n) ha hb
  have O1 := order2_any g cap q n a b d w h hq hgq ha hb hsz (by omega)
  rw [hr1] at p1 p2 p3 O1
  obtain ⟨r2, hr2⟩ : ∃ r, order2 ltN d r1.2.1 c r1.2.2 = r := ⟨_, rfl⟩
  obtain ⟨p4, p5, p6⟩ := order2_lt (d := d) (n := r1.2.2) p2 hc
  obtain ⟨r3, hr3⟩ : ∃ r, order2 ltN d r1.1 r2.1 r2.2.2 = r := ⟨_, rfl⟩
  rw [hr2] at p4 p5 p6
  obtain ⟨p7, p8, p9⟩ := order2_lt (d := d) (n := r2.2.2) p1 p4
  rw [hr3] at p7 p8 p9
  have hE : median ltN d a b c n = (r3.2.1, r3.2.2) := by unfold median; simp only [hr1, hr2, hr3]
  rw [hE]
  have O2 : ∀ W, RwU W g cap d → BxI W q r1.2.2 → _ := fun W hW hQ => order2_any g cap q r1.2.2 r1.2.1 c d W hW hQ hgq p2 hc hsz (by omega)
  have O3 : ∀ W, RwU W g cap d → BxI W q r2.2.2 → _ := fun W hW hQ => order2_any g cap q r2.2.2 r1.1 r2.1 d W hW hQ hgq p1 p4 hsz (by omega)
  rw [hr2] at O2
  rw [hr3] at O3
  have H1 := Lib.hid O1
  have H2 := Lib.hid O2
  have H3 := Lib.hid O3
  have HP := Lib.hid (And.intro p8 (show r3.2.2 ≤ n + 3 by omega))
  clear O1 O2 O3 hE hr1 hr2 hr3 h hq
  go_enter Try.func54, Try.ntmps54
  go_wp2_with fail
  refine H1.out.mono ?_
  rintro e w1 ⟨rfl, q1, s1, g1⟩
  have Q1 := Lib.hid (And.intro q1 (And.intro s1 g1))
  clear q1 s1 g1
  go_wp2_with fail
  refine (H2.out w1 Q1.out.2.1 Q1.out.1).mono ?_
  rintro e w2 ⟨rfl, q2, s2, g2⟩
  have Q2 := Lib.hid (And.intro q2 (And.intro s2 (grow_tr Q1.out.2.2 g2)))
  clear q2 s2 g2
  go_wp2_with fail
  refine (H3.out w2 Q2.out.2.1 Q2.out.1).mono ?_
  rintro e w3 ⟨rfl, q3, s3, g3⟩
  have Q3 := Lib.hid (And.intro q3 (And.intro s3 (grow_tr Q2.out.2.2 g3)))
  clear q3 s3 g3
  go_wp2_with fail
  go_ret
  exact ⟨rfl, Q3.out.1, Q3.out.2.1, Q3.out.2.2, HP.out.1, HP.out.2⟩
set_option maxRecDepth 100000 in
set_option maxHeartbeats 6400000 in
theorem medianAdj_any (g cap q n a : Nat) (d : Array Nat) (w : World) (h : RwU w g cap d) (hq : BxI w q n) (hgq : g ≠ q) (h1 : 1 ≤ a) (ha : a + 1 < d.size) (hsz : d.size ≤ 1000000000) (hn : n ≤ 900) :
    Calls Try.prog 53 #[.slice (some ⟨g, 0, none⟩) d.size cap, .int .i64 (a : Nat), .pointer (some ⟨q, 0, none⟩)] w fun e w' => e = .returned (.int .i64 ((medianAdjacent ltN d a n).1 : Nat)) ∧ BxI w' q (medianAdjacent ltN d a n).2 ∧ RwU w' g cap d ∧ w.grownBy w' (some q) ∧ (medianAdjacent ltN d a n).1 < d.size ∧ (medianAdjacent ltN d a n).2 ≤ n + 3 := by
  have O := Lib.hid (median_any g cap q n (a - 1) a (a + 1) d w h hq hgq (by omega) (by omega) ha hsz hn)
  unfold medianAdjacent
  obtain ⟨r, hr⟩ : ∃ r, median ltN d (a - 1) a (a + 1) n = r := ⟨_, rfl⟩
  rw [hr] at O ⊢
  obtain ⟨a0, ha0⟩ : ∃ a0, a - 1 = a0 := ⟨_, rfl⟩
  have ha1 : (a : Int) - 1 = (a0 : Nat) := by omega
  obtain ⟨N, hN⟩ : ∃ N, d.size = N := ⟨_, rfl⟩
  rw [ha0] at O
  rw [hN] at O ha hsz ⊢
  have hal : (a : Int) + 1 < (N : Int) := by omega
  clear hr h hq ha0 hN
  go_enter Try.func53, Try.ntmps53
  go_wp2_with fail
  refine O.out.mono ?_
  rintro e w1 ⟨rfl, q1⟩
  have Q1 := Lib.hid q1
  clear q1
  go_wp2_with fail
  go_ret
  exact ⟨rfl, Q1.out⟩
end Go.Proofs.Ytboonpfdlbedoaa
