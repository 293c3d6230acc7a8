/- Walks over firkinref01: the reference's field. -/
import Derived.Test.YtjompiihdnaogaaGff
import Derived.Test.YtjompiihdnaogaaGr
namespace Go.Proofs.Ytjompiihdnaogaa
open Go.RowKit Go.Mem

set_option maxRecDepth 100000 in
set_option maxHeartbeats 400000 in
theorem rpoly_any (m : Nat) (w : World) (hm : Gf.Ok m) :
    Calls Try.prog 73 #[.int .i64 m] w fun e w' => e = .returned (.int .i64 (Gf.poly m)) ∧ w = w' := by
  rcases hm.cases with rfl | rfl | rfl | rfl | rfl | rfl | rfl | rfl | rfl | rfl | rfl | rfl
  all_goals
    go_enter Try.func73, Try.ntmps73
    go_wp2
    go_ret
    exact ⟨rfl, rfl⟩

set_option maxRecDepth 100000 in
set_option maxHeartbeats 400000 in
theorem rin_any (m a : Nat) (w : World) (hm : m ≤ 13) (ha0 : a ≤ Gf.sz m) :
    Calls Try.prog 72 #[.int .i64 m, .int .i64 a] w fun e w' => e = .returned (.int .i64 a) ∧ w = w' := by
  have p1 := two_pow_pos' m
  have p2 := two_pow_le m hm
  have ha' : (a : Int) < 2^m := by have := sz_cast m; omega
  go_enter Try.func72, Try.ntmps72
  go_wp2
  go_ret
  exact ⟨rfl, rfl⟩

set_option maxRecDepth 100000 in
set_option maxHeartbeats 400000 in
theorem rmul_any (m a b : Nat) (w : World) (hm : Gf.Ok m) (ha : a < 2^m) (hb : b < 2^m) :
    Calls Try.prog 62 #[.int .i64 m, .int .i64 a, .int .i64 b] w fun e w' => e = .returned (.int .i64 (Gf.mul m a b)) ∧ w = w' := by
  have ia : a ≤ Gf.sz m := by unfold Gf.sz; omega
  have ib : b ≤ Gf.sz m := by unfold Gf.sz; omega
  have HA := hid ha
  have HB := hid hb
  clear ha hb
  go_enter Try.func62, Try.ntmps62
  go_wp2_with (first | (go_at_call 72; refine (rin_any m _ _ hm.2 (by omega)).mono ?_; rintro e w' ⟨rfl, rfl⟩) | (go_at_call 73; refine (rpoly_any m _ hm).mono ?_; rintro e w' ⟨rfl, rfl⟩))
  go_loopg [1, 8, 9] m (fun g x o i wr => ∃ k : Nat, k + g = m ∧ i = .int .i64 k ∧ x = .int .i64 (Gf.it m k a) ∧ o = .int .i64 (Gf.bs m a b k) ∧ wr = w)
  case atStart => exact ⟨0, by omega, rfl, rfl, rfl, rfl⟩
  case round =>
    obtain ⟨k, hk, rfl, rfl, rfl, rfl⟩ := hrel
    have m13 := hm.2
    have p1 := two_pow_pos' m
    have p2 := two_pow_le m m13
    by_cases hlt : k < m
    · have h1 := Gf.it_lt hm k HA.out
      have h2 := Gf.bs_lt hm b HA.out k
      have h13 : 2^m ≤ 2^13 := Nat.pow_le_pow_right (by decide) hm.2
      have ex := xor_i64 (Gf.bs m a b k) (Gf.it m k a) (by omega) (by omega)
      have hbb : b < 4611686018427387904 := by have := HB.out; omega
      have eand := and1_i64 b k hbb
      have c2 : (((2^m : Nat) : Nat) : Int) = 2^m := by simp
      have ex2 : ¬ 2 * Gf.it m k a < 2^m → bits .xor .i64 ((Gf.it m k a : Int) * 2) (Gf.poly m) = ((Gf.it m (k+1) a : Nat) : Int) := fun hc => by
        have h2 := (Gf.poly_bit hm).2.1
        have h14 : 2^(m+1) ≤ 2^14 := Nat.pow_le_pow_right (by omega) (by omega)
        rw [Gf.it_succ, Gf.mx, if_neg hc, show (Gf.it m k a : Int) * 2 = ((2 * Gf.it m k a : Nat) : Int) by omega]
        exact xor_i64 _ _ (by omega) (by omega)
      have hit : 2 * Gf.it m k a < 2^m → (Gf.it m k a : Int) * 2 = ((Gf.it m (k+1) a : Nat) : Int) := fun hc => by
        rw [Gf.it_succ, Gf.mx, if_pos hc]; omega
      have hbs : Gf.bs m a b (k+1) = Gf.bs m a b k ^^^ (if b.testBit k then Gf.it m k a else 0) := rfl
      have H2 := hid ex2
      have H3 := hid hit
      have H4 := hid hbs
      have hi8 : Gf.it m k a ≤ 8191 := by omega
      have hcases : 2 * Gf.it m k a < 2^m ∨ ¬ 2 * Gf.it m k a < 2^m := by omega
      have HCS : Hid (2 * Gf.it m k a < 2^m → (Gf.it m k a : Int) * 2 < 2^m) := fun h => by omega
      have HCS2 : Hid (¬ 2 * Gf.it m k a < 2^m → (2:Int)^m ≤ (Gf.it m k a : Int) * 2) := fun h => by omega
      clear h1 h2 h13 hbb ex2 hit hbs c2
      by_cases hb : b.testBit k
      · rw [if_pos hb] at eand
        have HB2 := hid hb
        clear hb
        rcases hcases with hc | hc
        · have hc1 := HCS.out hc
          have HC := hid hc
          clear hc
          go_wp2
          go_roundg (gk - 1)
          case measure => omega
          case rel => exact ⟨k + 1, by omega, by go_num, by rw [H3.out HC.out], by rw [H4.out, if_pos HB2.out], rfl⟩
        · have hc1 := HCS2.out hc
          have HC := hid hc
          clear hc
          go_wp2
          go_roundg (gk - 1)
          case measure => omega
          case rel => exact ⟨k + 1, by omega, by go_num, by rw [← H2.out HC.out], by rw [H4.out, if_pos HB2.out], rfl⟩
      · rw [if_neg hb] at eand
        have HB2 := hid hb
        clear hb ex
        rcases hcases with hc | hc
        · have hc1 := HCS.out hc
          have HC := hid hc
          clear hc
          go_wp2
          go_roundg (gk - 1)
          case measure => omega
          case rel => exact ⟨k + 1, by omega, by go_num, by rw [H3.out HC.out], by rw [H4.out, if_neg HB2.out, Nat.xor_zero], rfl⟩
        · have hc1 := HCS2.out hc
          have HC := hid hc
          clear hc
          go_wp2
          go_roundg (gk - 1)
          case measure => omega
          case rel => exact ⟨k + 1, by omega, by go_num, by rw [← H2.out HC.out], by rw [H4.out, if_neg HB2.out, Nat.xor_zero], rfl⟩
    · have ek : k = m := by omega
      subst ek
      have hfull := hid (Gf.bs_full hm HA.out HB.out)
      go_wp2
      go_ret
      exact ⟨by rw [← hfull.out]; rfl, rfl⟩
end Go.Proofs.Ytjompiihdnaogaa
