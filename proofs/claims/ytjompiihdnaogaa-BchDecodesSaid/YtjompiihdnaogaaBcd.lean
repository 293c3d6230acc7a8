/- Walks over bch: syndromes. -/
import Derived.Test.YtjompiihdnaogaaBcb
namespace Go.Proofs.Ytjompiihdnaogaa
open Go.RowKit Go.Mem

/-- The syndromes' row, the first K turned by the word's bit at a power. -/
def sadd (m power : Nat) (f : Nat → Nat) (K j : Nat) : Nat := if j < K then f j ^^^ Gf.pw m (power * (j + 1)) else f j
theorem sadd_lt {m : Nat} (hm : Gf.Ok m) (power : Nat) (f : Nat → Nat) (hf : ∀ j, f j < 2^m) (K j : Nat) : sadd m power f K j < 2^m := by
  unfold sadd
  split
  · exact Nat.xor_lt_two_pow (hf j) (Gf.pw_lt hm _)
  · exact hf j
theorem sadd_succ (m power : Nat) (f : Nat → Nat) (K j : Nat) : upd (sadd m power f K) K (sadd m power f K K ^^^ Gf.pw m (power * (K + 1))) j = sadd m power f (K+1) j := by
  unfold upd sadd
  by_cases h : j = K
  · subst h; simp
  · rw [if_neg h]
    by_cases h2 : j < K
    · rw [if_pos h2, if_pos (by omega)]
    · rw [if_neg h2, if_neg (by omega)]

set_option maxRecDepth 100000 in
set_option maxHeartbeats 800000 in
theorem sadd_any (sb cb c g n bytes t m power : Nat) (f : Nat → Nat) (W w : World) (hp : Par bytes t m) (h : CodeAt W c bytes t m) (hb : Below W.heap.size W w) (hgW : W.heap.size ≤ g)
    (hs : w.heap[sb]? = some (.cells #[.slice (some ⟨g, 0, none⟩) n n] 27 (0, 0))) (hc : w.heap[cb]? = some (.cells #[.pointer (some ⟨c, 0, none⟩)] 23 (0, 0)))
    (hg : w.heap[g]? = some (.cells (fa .i64 n f) 3 (0, 0))) (hsg : sb ≠ g) (hcg : cb ≠ g) (hn : n ≤ 16) (hpw : power ≤ 10000) (hf : ∀ j, f j < 2^m) :
    Calls Try.prog 54 #[.int .i64 power, .pointer (some ⟨sb, 0, none⟩), .pointer (some ⟨cb, 0, none⟩)] w fun e w' => e = .returned (.tuple #[]) ∧ w'.heap[g]? = some (.cells (fa .i64 n (sadd m power f n)) 3 (0, 0)) ∧ w.grownBy w' (some g) ∧ w'.heap.size = w.heap.size := by
  have hm := hp.ok
  have h13 := hm.2
  have hl2 : 2^m ≤ 8192 := Nat.pow_le_pow_right (n := 2) (by decide) h13
  have cs : w.cell? ⟨sb, 0, none⟩ = some (.slice (some ⟨g, 0, none⟩) n n) := cell_at hs 0
  have HS := hid hs
  have HC := hid hc
  have HG0 := hid hg
  have HB := hid hb
  have HH := hid h
  obtain ⟨fb, gv, h1, h2, h3⟩ := h
  have H1 := hid h1
  have H2 := hid h2
  have HF := hid hf
  clear hs hc hg hb h1 h2 h3 hf
  go_enter Try.func54, Try.ntmps54
  go_wp2
  clear cs
  go_loopg [7] n (fun gk k wr => ∃ K : Nat, K + gk = n ∧ k = .int .i64 K ∧ w.grownBy wr (some g) ∧ wr.heap.size = w.heap.size ∧ wr.heap[g]? = some (.cells (fa .i64 n (sadd m power f K)) 3 (0, 0)))
  case atStart => exact ⟨0, by omega, rfl, World.grownBy.refl _ _, rfl, HG0.out.trans (by rw [fa_congr (fun j _ => ?_)]; simp [sadd])⟩
  case round =>
    obtain ⟨K, hK, rfl, hgr, hsz, hg⟩ := hrel
    have HGR := hid hgr
    have HSZ := hid hsz
    have HG := hid hg
    have hS : wr.heap[sb]? = _ := (hgr.block sb (lt_at HS.out) (fun h => hsg (by cases h; rfl))).trans HS.out
    have hC : wr.heap[cb]? = _ := (hgr.block cb (lt_at HC.out) (fun h => hcg (by cases h; rfl))).trans HC.out
    have hBW : Below W.heap.size W wr := HB.out.grown hgr HB.out.size (fun k hk => by cases hk; exact hgW)
    have h1' : wr.heap[c]? = _ := (hBW.block c (lt_at H1.out)).trans H1.out
    have cs : wr.cell? ⟨sb, 0, none⟩ = some (.slice (some ⟨g, 0, none⟩) n n) := cell_at hS 0
    have cc : wr.cell? ⟨cb, 0, none⟩ = some (.pointer (some ⟨c, 0, none⟩)) := cell_at hC 0
    have cf : wr.cell? ⟨c, 0, none⟩ = some (.pointer (some ⟨fb, 0, none⟩)) := cell_at h1' 0
    have HM : Hid (Made wr fb m) := hid (H2.out.below hBW)
    have HBW := hid hBW
    clear hgr hsz hg hS hC h1' hBW
    by_cases hlt : K < n
    · have cz : wr.cell? ⟨g, K, none⟩ = some (.int .i64 ((sadd m power f K K : Nat) : Int)) := fa_cell HG.out hlt
      have fz : wr.frozen? ⟨g, K, none⟩ = false := free_at HG.out _
      have hlt' : (K : Int) < (n : Int) := by omega
      obtain ⟨E, hE⟩ : ∃ E : Int, E = ((power * (K + 1) : Nat) : Int) := ⟨_, rfl⟩
      have hEb : power * (K + 1) ≤ 10000 * 16 := Nat.mul_le_mul hpw (by omega)
      have hmul : IntKind.i64.wrap ((power : Int) * ((K : Int) + 1)) = E := by
        have : (power : Int) * ((K : Int) + 1) = ((power * (K + 1) : Nat) : Int) := by simp
        rw [this, hE]
        exact IntWalk.i64_in _ (by omega)
      have hex := exp_made fb m E
      have htn : turn E (Gf.sz m) = (power * (K + 1)) % Gf.sz m := by rw [hE]; unfold turn; omega
      rw [htn, Gf.pw_mod hm] at hex
      have hv1 := sadd_lt hm power f HF.out K K
      have hv2 := Gf.pw_lt hm (power * (K + 1))
      have ex := xor_i64 (sadd m power f K K) (Gf.pw m (power * (K + 1))) (by omega) (by omega)
      have HEX := hid hex
      have HE := hid hE
      clear hex hE htn hEb
      obtain ⟨v1, ev1⟩ : ∃ v1, sadd m power f K K = v1 := ⟨_, rfl⟩
      obtain ⟨v2, ev2⟩ : ∃ v2, Gf.pw m (power * (K + 1)) = v2 := ⟨_, rfl⟩
      rw [ev1] at cz ex hv1
      rw [ev2] at ex hv2 HEX
      have EV1 := hid ev1
      have EV2 := hid ev2
      clear ev1 ev2
      go_wp2
      refine wp_region_quiet_tail 15 (by kernel_rfl) (by kernel_rfl) ?_
      simp only [List.take_succ_cons, List.take_zero, List.drop_succ_cons, List.drop_zero]
      repeat (go_big_quiet_step ((go_at_call 42; exact Calls.quiet_of (HEX.out _ hm HM.out))))
      refine wpQuiet_nil ?_
      intro _ hw'
      obtain ⟨nq, hw''⟩ := hw'
      subst hw''
      go_wp2
      go_roundg (gk - 1)
      case measure => omega
      case rel =>
        refine ⟨K + 1, by omega, by go_num, ?_, ?_, ?_⟩
        · refine grown_trans HGR.out ⟨rfl, rfl, rfl, by simp, fun k _ hk => (set_other (fun e => hk (by rw [e]))).trans rfl⟩
        · simpa using HSZ.out
        · refine (set_fa (w := wr.drewN nq) HG.out K _).trans ?_
          rw [fa_congr (fun j _ => ?_)]
          rw [← EV1.out, ← EV2.out, sadd_succ]
    · obtain rfl : K = n := by omega
      go_wp2
      go_end0
      exact ⟨rfl, HG.out, HGR.out, HSZ.out⟩
end Go.Proofs.Ytjompiihdnaogaa
