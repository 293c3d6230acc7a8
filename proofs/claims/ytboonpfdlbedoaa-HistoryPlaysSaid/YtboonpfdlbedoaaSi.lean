/- Walks over slices: order2Ordered at numbers. -/
import Derived.Test.YtboonpfdlbedoaaSh
namespace Go.Proofs.Ytboonpfdlbedoaa
open Go Go.RowKit Go.Mem Go.Sort
set_option linter.unusedVariables false

/-- A box that holds a count. -/
def BxI (w : World) (q n : Nat) : Prop := w.heap[q]? = some (.cells #[.int .i64 (n : Nat)] 3 (0, 0))
set_option maxRecDepth 100000 in
set_option maxHeartbeats 6400000 in
theorem order2_any (g cap q n a b : Nat) (d : Array Nat) (w : World) (h : RwU w g cap d) (hq : BxI w q n) (hgq : g ≠ q) (ha : a < d.size) (hb : b < d.size) (hsz : d.size ≤ 1000000000) (hn : n ≤ 1000) :
    Calls Try.prog 56 #[.slice (some ⟨g, 0, none⟩) d.size cap, .int .i64 (a : Nat), .int .i64 (b : Nat), .pointer (some ⟨q, 0, none⟩)] w fun e w' => e = .returned (.tuple #[.int .i64 ((order2 ltN d a b n).1 : Nat), .int .i64 ((order2 ltN d a b n).2.1 : Nat)]) ∧ BxI w' q (order2 ltN d a b n).2.2 ∧ RwU w' g cap d ∧ w.grownBy w' (some q) := by
  obtain ⟨N, hN⟩ : ∃ N, d.size = N := ⟨_, rfl⟩
  have hca : N ≤ cap ∧ cap ≤ maxLen := by obtain ⟨_, _, _, h1, h2, _⟩ := h; exact ⟨by omega, h2⟩
  have hc1 : (N : Int) ≤ (cap : Int) := by omega
  have hc2 : (cap : Int) ≤ 9223372036854775807 := by have := hca.2; unfold maxLen at this; omega
  have c1 := h.cell (j := a) ha
  have c2 := h.cell (j := b) hb
  have c3 : w.cell? ⟨q, 0, none⟩ = some (.int .i64 (n : Nat)) := cell_at hq 0
  have z3 : w.frozen? ⟨q, 0, none⟩ = false := free_at hq 0
  have H := Lib.hid h
  have HQ := Lib.hid hq
  rw [hN] at ha hb ⊢
  have l1 : (a : Int) < (N : Int) := by omega
  have l2 : (b : Int) < (N : Int) := by omega
  obtain ⟨x, hx⟩ : ∃ x, d[a]! = x := ⟨_, rfl⟩
  obtain ⟨y, hy⟩ : ∃ y, d[b]! = y := ⟨_, rfl⟩
  have hO : order2 ltN d a b n = if ltN y x then (b, a, n + 1) else (a, b, n) := by unfold order2; rw [hx, hy]
  rw [hO]
  rw [hx] at c1
  rw [hy] at c2
  have HG := Lib.hid hgq
  clear h hq hca hN hO hx hy hgq
  cases hl : ltN y x with
  | true =>
    have HL := Lib.hid (fun k => by have := less_any y x (w.drewN k); rw [hl] at this; exact this)
    clear hl
    rw [if_pos rfl]
    go_enter Try.func56, Try.ntmps56
    go_wp2_with fail
    go_quiet ((go_at_call 45; exact quiet_eq (HL.out _)))
    go_wp2_with fail
    refine bodyPost_ret (v := .tuple #[.int .i64 (b : Nat), .int .i64 (a : Nat)]) (by simp [results, Try.results56, go_sem]) rfl ⟨rfl, ?_, ?_, ?_⟩
    · exact set_at (show (w.drewN nq).heap[q]? = _ from HQ.out) 0 _
    · exact (show RwU (w.drewN nq) g cap d from H.out).grown (grown_set _ q 0 _) HG.out
    · exact grow_tr (grow_drewN _ nq _) (grown_set _ q 0 _)
  | false =>
    have HL := Lib.hid (fun k => by have := less_any y x (w.drewN k); rw [hl] at this; exact this)
    clear hl
    rw [if_neg (by simp)]
    go_enter Try.func56, Try.ntmps56
    go_wp2_with fail
    go_quiet ((go_at_call 45; exact quiet_eq (HL.out _)))
    go_wp2_with fail
    exact bodyPost_ret (v := .tuple #[.int .i64 (a : Nat), .int .i64 (b : Nat)]) (by simp [results, Try.results56, go_sem]) rfl ⟨rfl, HQ.out, H.out, grow_drewN _ _ _⟩
end Go.Proofs.Ytboonpfdlbedoaa
