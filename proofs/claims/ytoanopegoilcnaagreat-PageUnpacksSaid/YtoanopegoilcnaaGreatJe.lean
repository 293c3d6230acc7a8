/- Walks over firkinref01: the reference's field. -/
import Derived.Test.YtoanopegoilcnaaGreatJd
import Derived.Test.YtoanopegoilcnaaGreatJb
set_option linter.unusedVariables false
namespace Go.Proofs.YtoanopegoilcnaaGreat
open Go.RowKit Go.Mem

set_option maxRecDepth 100000 in
set_option maxHeartbeats 400000 in
theorem rpoly_any (m : Nat) (w : World) (hm : Gf.Ok m) :
    Calls Tryz.prog 110 #[.int .i64 m] w fun e w' => e = .returned (.int .i64 (Gf.poly m)) ∧ w = w' := by
  rcases hm.cases with rfl | rfl | rfl | rfl | rfl | rfl | rfl | rfl | rfl | rfl | rfl | rfl
  all_goals
    go_enter Tryz.func110, Tryz.ntmps110
    go_wp2
    go_ret
    exact ⟨rfl, rfl⟩

set_option maxRecDepth 100000 in
set_option maxHeartbeats 400000 in
theorem rin_any (m a : Nat) (w : World) (hm : m ≤ 13) (ha0 : a ≤ Gf.sz m) :
    Calls Tryz.prog 109 #[.int .i64 m, .int .i64 a] w fun e w' => e = .returned (.int .i64 a) ∧ w = w' := by
  have p1 := two_pow_pos' m
  have p2 := two_pow_le m hm
  have ha' : (a : Int) < 2^m := by have := sz_cast m; omega
  go_enter Tryz.func109, Tryz.ntmps109
  go_wp2
  go_ret
  exact ⟨rfl, rfl⟩

set_option maxRecDepth 100000 in
set_option maxHeartbeats 400000 in
theorem rmul_any (m a b : Nat) (w : World) (hm : Gf.Ok m) (ha : a < 2^m) (hb : b < 2^m) :
    Calls Tryz.prog 99 #[.int .i64 m, .int .i64 a, .int .i64 b] w fun e w' => e = .returned (.int .i64 (Gf.mul m a b)) ∧ w = w' := by
  have ia : a ≤ Gf.sz m := by unfold Gf.sz; omega
  have ib : b ≤ Gf.sz m := by unfold Gf.sz; omega
  have HA := hid ha
  have HB := hid hb
  clear ha hb
  go_enter Tryz.func99, Tryz.ntmps99
  go_wp2_with (first | (go_at_call 109; refine (rin_any m _ _ hm.2 (by omega)).mono ?_; rintro e w' ⟨rfl, rfl⟩) | (go_at_call 110; refine (rpoly_any m _ hm).mono ?_; rintro e w' ⟨rfl, rfl⟩))
  go_loopg [1, 8, 9] m (fun g x o i wr => ∃ k : Nat, k + g = m ∧ i = .int .i64 k ∧ x = .int .i64 (Gf.it m k a) ∧ o = .int .i64 (Gf.bs m a b k) ∧ wr = w)
  case atStart => exact ⟨0, by omega, rfl, rfl, rfl, rfl⟩
  case round =>
    obtain ⟨k, hk, rfl, rfl, rfl, rfl⟩ := hrel
    have m13 := hm.2
    have p1 := two_pow_pos' m
    have p2 := two_pow_le m m13
    by_cases hlt : k < m
    · have h1 := Gf.it_lt hm k HA.out
      have h2 := Gf.bs_lt hm b HA.out k
      have h13 : 2^m ≤ 2^13 := Nat.pow_le_pow_right (by decide) hm.2
      have ex := xor_i64 (Gf.bs m a b k) (Gf.it m k a) (by omega) (by omega)
      have hbb : b < 4611686018427387904 := by have := HB.out; omega
      have eand := and1_i64 b k hbb
      have c2 : (((2^m : Nat) : Nat) : Int) = 2^m := by simp
      have ex2 : ¬ 2 * Gf.it m k a < 2^m → bits .xor .i64 ((Gf.it m k a : Int) * 2) (Gf.poly m) = ((Gf.it m (k+1) a : Nat) : Int) := fun hc => by
        have h2 := (Gf.poly_bit hm).2.1
        have h14 : 2^(m+1) ≤ 2^14 := Nat.pow_le_pow_right (by omega) (by omega)
        rw [Gf.it_succ, Gf.mx, if_neg hc, show (Gf.it m k a : Int) * 2 = ((2 * Gf.it m k a : Nat) : Int) by omega]
        exact xor_i64 _ _ (by omega) (by omega)
      have hit : 2 * Gf.it m k a < 2^m → (Gf.it m k a : Int) * 2 = ((Gf.it m (k+1) a : Nat) : Int) := fun hc => by
        rw [Gf.it_succ, Gf.mx, if_pos hc]; omega
      have hbs : Gf.bs m a b (k+1) = Gf.bs m a b k ^^^ (if b.testBit k then Gf.it m k a else 0) := rfl
      have H2 := hid ex2
      have H3 := hid hit
      have H4 := hid hbs
      have hi8 : Gf.it m k a ≤ 8191 := by omega
      have hcases : 2 * Gf.it m k a < 2^m ∨ ¬ 2 * Gf.it m k a < 2^m := by omega
      have HCS : Hid (2 * Gf.it m k a < 2^m → (Gf.it m k a : Int) * 2 < 2^m) := fun h => by omega
      have HCS2 : Hid (¬ 2 * Gf.it m k a < 2^m → (2:Int)^m ≤ (Gf.it m k a : Int) * 2) := fun h => by omega
      clear h1 h2 h13 hbb ex2 hit hbs c2
      by_cases hb : b.testBit k
      · rw [if_pos hb] at eand
        have HB2 := hid hb
        clear hb
        rcases hcases with hc | hc
        · have hc1 := HCS.out hc
          have HC := hid hc
          clear hc
          go_wp2
          go_roundg (gk - 1)
          case measure => omega
          case rel => exact ⟨k + 1, by omega, by go_num, by rw [H3.out HC.out], by rw [H4.out, if_pos HB2.out], rfl⟩
        · have hc1 := HCS2.out hc
          have HC := hid hc
          clear hc
          go_wp2
          go_roundg (gk - 1)
          case measure => omega
          case rel => exact ⟨k + 1, by omega, by go_num, by rw [← H2.out HC.out], by rw [H4.out, if_pos HB2.out], rfl⟩
      · rw [if_neg hb] at eand
        have HB2 := hid hb
        clear hb ex
        rcases hcases with hc | hc
        · have hc1 := HCS.out hc
          have HC := hid hc
          clear hc
          go_wp2
          go_roundg (gk - 1)
          case measure => omega
          case rel => exact ⟨k + 1, by omega, by go_num, by rw [H3.out HC.out], by rw [H4.out, if_neg HB2.out, Nat.xor_zero], rfl⟩
        · have hc1 := HCS2.out hc
          have HC := hid hc
          clear hc
          go_wp2
          go_roundg (gk - 1)
          case measure => omega
          case rel => exact ⟨k + 1, by omega, by go_num, by rw [← H2.out HC.out], by rw [H4.out, if_neg HB2.out, Nat.xor_zero], rfl⟩
    · have ek : k = m := by omega
      subst ek
      have hfull := hid (Gf.bs_full hm HA.out HB.out)
      go_wp2
      go_ret
      exact ⟨by rw [← hfull.out]; rfl, rfl⟩
end Go.Proofs.YtoanopegoilcnaaGreat
/- Walks over firkinref01: powers, inverses, values, products. -/
namespace Go.Proofs.YtoanopegoilcnaaGreat
open Go.RowKit Go.Mem

set_option maxRecDepth 100000 in
set_option maxHeartbeats 400000 in
theorem rexp0_any (m n : Nat) (w : World) (hm : Gf.Ok m) (hn : n ≤ 1000000) :
    Calls Tryz.prog 102 #[.int .i64 m, .int .i64 n] w fun e w' => e = .returned (.int .i64 (Gf.pw m n)) ∧ w = w' := by
  go_enter Tryz.func102, Tryz.ntmps102
  go_wp2
  go_loopg [5, 6] n (fun g x i wr => ∃ k : Nat, k + g = n ∧ i = .int .i64 k ∧ x = .int .i64 (Gf.pw m k) ∧ wr = w)
  case atStart => exact ⟨0, by omega, rfl, rfl, rfl⟩
  case round =>
    obtain ⟨k, hk, rfl, rfl, rfl⟩ := hrel
    by_cases hlt : k < n
    · have hp := Gf.pw_lt hm k
      have h2 : 2 < 2^m := by
        have : 2^2 ≤ 2^m := Nat.pow_le_pow_right (by decide) hm.1
        omega
      have hs : Gf.pw m (k+1) = Gf.mul m (Gf.pw m k) 2 := by rw [Gf.mul_two hm hp, Gf.pw_succ]
      have HP := hid hp
      have H2 := hid h2
      have HS := hid hs
      clear hp h2 hs
      go_wp2_with (go_at_call 99; refine (rmul_any m _ 2 _ hm HP.out H2.out).mono ?_; rintro e w' ⟨rfl, rfl⟩)
      go_roundg (gk - 1)
      case measure => omega
      case rel => exact ⟨k + 1, by omega, by go_num, by rw [HS.out], rfl⟩
    · have ek : k = n := by omega
      subst ek
      go_wp2
      go_ret
      exact ⟨rfl, rfl⟩

set_option maxRecDepth 100000 in
set_option maxHeartbeats 400000 in
theorem rturn_any (m : Nat) (n : Int) (w : World) (hm : Gf.Ok m) (h1 : -1000000 ≤ n) (h2 : n ≤ 1000000) :
    Calls Tryz.prog 103 #[.int .i64 m, .int .i64 n] w fun e w' => e = .returned (.int .i64 (turn n (Gf.sz m))) ∧ w = w' := by
  have m13 := hm.2
  have p1 := two_pow_pos' m
  have p2 := two_pow_le m m13
  have s0 := Gf.sz_pos hm
  have hsz := sz_cast m
  have es : (2:Int)^m - 1 = (Gf.sz m : Int) := hsz.symm
  have s1 : (1:Int) ≤ (Gf.sz m : Int) := by omega
  have s2 := sz_le m13
  have s3 : Gf.sz m ≠ 0 := by omega
  have tc := turn_cast n s0
  have hcase : (n.tmod (Gf.sz m) < 0 ∧ n.tmod (Gf.sz m) + Gf.sz m = (turn n (Gf.sz m) : Int)) ∨ (¬ n.tmod (Gf.sz m) < 0 ∧ n.tmod (Gf.sz m) = (turn n (Gf.sz m) : Int)) := by
    have b1 := Int.lt_tmod_of_pos n (show (0:Int) < Gf.sz m by omega)
    have e1 : (n.tmod (Gf.sz m)) % (Gf.sz m : Int) = n % Gf.sz m := by rw [Int.tmod_def, Int.sub_mul_emod_self_left]
    have b2 := Int.tmod_lt_of_pos n (show (0:Int) < Gf.sz m by omega)
    by_cases h : n.tmod (Gf.sz m) < 0
    · refine Or.inl ⟨h, ?_⟩
      rw [tc, ← e1, ← Int.add_emod_right, Int.emod_eq_of_lt (by omega) (by omega)]
    · refine Or.inr ⟨h, ?_⟩
      rw [tc, ← e1, Int.emod_eq_of_lt (by omega) (by omega)]
  clear hsz tc
  by_cases hn : 0 ≤ n
  · have e1 : n.tmod (Gf.sz m) = n % (Gf.sz m : Int) := Int.tmod_eq_emod_of_nonneg hn
    have e2 : n % (Gf.sz m : Int) = (turn n (Gf.sz m) : Int) := (turn_cast n s0).symm
    have hb : (0 : Int) ≤ (turn n (Gf.sz m) : Int) := by omega
    clear hcase e1
    go_enter Tryz.func103, Tryz.ntmps103
    go_wp2
    go_ret
    exact ⟨by simp [e2], rfl⟩
  · rcases hcase with ⟨hc, he⟩ | ⟨hc, he⟩
    · have bw : -9223372036854775808 ≤ n.tmod (Gf.sz m) + Gf.sz m ∧ n.tmod (Gf.sz m) + Gf.sz m ≤ 9223372036854775807 := by
        have b1 := Int.lt_tmod_of_pos n (show (0:Int) < Gf.sz m by omega)
        omega
      have ew : wrap64 (n.tmod (Gf.sz m) + Gf.sz m) = (turn n (Gf.sz m) : Int) := by rw [IntWalk.wrap64_in _ bw, he]
      clear he bw
      go_enter Tryz.func103, Tryz.ntmps103
      go_wp2
      go_ret
      exact ⟨rfl, rfl⟩
    · go_enter Tryz.func103, Tryz.ntmps103
      go_wp2
      go_ret
      exact ⟨rfl, rfl⟩

set_option maxRecDepth 100000 in
set_option maxHeartbeats 400000 in
theorem rexp_any (m : Nat) (n : Int) (w : World) (hm : Gf.Ok m) (h1 : -1000000 ≤ n) (h2 : n ≤ 1000000) :
    Calls Tryz.prog 92 #[.int .i64 m, .int .i64 n] w fun e w' => e = .returned (.int .i64 (Gf.pw m (turn n (Gf.sz m)))) ∧ w = w' := by
  have ht := turn_lt n (Gf.sz_pos hm)
  have s2 := sz_le hm.2
  go_enter Tryz.func92, Tryz.ntmps92
  go_wp2_with (first | (go_at_call 103; refine (rturn_any m _ _ hm h1 h2).mono ?_; rintro e w' ⟨rfl, rfl⟩) | (go_at_call 102; refine (rexp0_any m _ _ hm (by omega)).mono ?_; rintro e w' ⟨rfl, rfl⟩))
  go_ret
  exact ⟨rfl, rfl⟩

theorem rinv_zero (m : Nat) (w : World) (hm : Gf.Ok m) :
    Calls Tryz.prog 111 #[.int .i64 m, .int .i64 0] w fun e w' => e = .returned (.int .i64 0) ∧ w = w' := by
  go_enter Tryz.func111, Tryz.ntmps111
  go_wp2_with (go_at_call 109; refine (rin_any m 0 _ hm.2 (Nat.zero_le _)).mono ?_; rintro e w' ⟨rfl, rfl⟩)
  go_ret
  exact ⟨rfl, rfl⟩

theorem pow_step (i : Nat) : 2^(i+1) - 2 + 2^(i+1) = 2^(i+2) - 2 := by
  have : 2^(i+2) = 2 * 2^(i+1) := by rw [Nat.pow_succ 2 (i+1)]; omega
  have h2 : 2^1 ≤ 2^(i+1) := Nat.pow_le_pow_right (by decide) (by omega)
  omega

set_option maxRecDepth 100000 in
set_option maxHeartbeats 400000 in
theorem rinv_any (m a : Nat) (w : World) (hm : Gf.Ok m) (ha : a < 2^m) (a0 : a ≠ 0) :
    Calls Tryz.prog 111 #[.int .i64 m, .int .i64 a] w fun e w' => e = .returned (.int .i64 (Gf.inv m a)) ∧ w = w' := by
  have ia : a ≤ Gf.sz m := by unfold Gf.sz; omega
  have t1 : ((a : Int) == 0) = false := by simp [a0]
  have ep := Gf.pw_lg hm ha a0
  have hinv : Gf.pw m (Gf.lg m a * (2^m - 2)) = Gf.inv m a := by
    rw [Gf.inv_pow hm _ (Gf.lg_lt hm a)]; unfold Gf.inv; rw [if_neg a0]
  have EP := hid ep
  have HI := hid hinv
  have m13 := hm.2
  have m2 := hm.1
  clear ha ep hinv
  go_enter Tryz.func111, Tryz.ntmps111
  go_wp2_with (go_at_call 109; refine (rin_any m _ _ hm.2 ia).mono ?_; rintro e w' ⟨rfl, rfl⟩)
  go_loopg [1, 5, 6] (m - 1) (fun g y x i wr => ∃ k : Nat, k + g = m - 1 ∧ i = .int .i64 ((k : Int) + 1) ∧ y = .int .i64 (Gf.pw m (Gf.lg m a * 2^k)) ∧ x = .int .i64 (Gf.pw m (Gf.lg m a * (2^(k+1) - 2))) ∧ wr = w)
  case atStart => exact ⟨0, by omega, rfl, by rw [Nat.pow_zero, Nat.mul_one, EP.out], by simp [Gf.pw, Gf.it], rfl⟩
  case round =>
    obtain ⟨k, hk, rfl, rfl, rfl, rfl⟩ := hrel
    by_cases hlt : k + 1 < m
    · have h1 := hid (Gf.pw_lt hm (Gf.lg m a * 2^k))
      have h2 := hid (Gf.pw_lt hm (Gf.lg m a * (2^(k+1) - 2)))
      have h3 : Gf.mul m (Gf.pw m (Gf.lg m a * 2^k)) (Gf.pw m (Gf.lg m a * 2^k)) = Gf.pw m (Gf.lg m a * 2^(k+1)) := by
        rw [Gf.mul_pw hm, Nat.pow_succ]; congr 1; rw [← Nat.mul_assoc]; omega
      have h4 : Gf.mul m (Gf.pw m (Gf.lg m a * (2^(k+1) - 2))) (Gf.pw m (Gf.lg m a * 2^(k+1))) = Gf.pw m (Gf.lg m a * (2^(k+2) - 2)) := by
        rw [Gf.mul_pw hm, ← Nat.mul_add, pow_step]
      have h5 := hid (Gf.pw_lt hm (Gf.lg m a * 2^(k+1)))
      have H3 := hid h3
      have H4 := hid h4
      clear h3 h4
      generalize Gf.pw m (Gf.lg m a * 2^k) = y0 at *
      generalize ey1 : Gf.pw m (Gf.lg m a * 2^(k+1)) = y1 at *
      have EY1 := hid ey1
      clear ey1
      generalize Gf.pw m (Gf.lg m a * (2^(k+1) - 2)) = x0 at *
      go_wp2_with fail
      refine (rmul_any m y0 y0 _ hm h1.out h1.out).mono ?_
      rintro e w' ⟨rfl, rfl⟩
      dsimp only
      rw [H3.out]
      go_wp2_with fail
      refine (rmul_any m x0 y1 _ hm h2.out h5.out).mono ?_
      rintro e w' ⟨rfl, rfl⟩
      dsimp only
      rw [H4.out]
      go_wp2
      go_roundg (gk - 1)
      case measure => omega
      case rel => exact ⟨k + 1, by omega, by go_num, by rw [EY1.out], rfl, rfl⟩
    · have ek : k + 1 = m := by omega
      have HF : Hid (Gf.pw m (Gf.lg m a * (2^(k+1) - 2)) = Gf.inv m a) := by rw [ek]; exact HI
      clear HI EP
      go_wp2
      go_ret
      exact ⟨by rw [← HF.out]; rfl, rfl⟩

set_option maxRecDepth 100000 in
set_option maxHeartbeats 400000 in
theorem reval_any (m x : Nat) (v : Value) (xs : List Nat) (w : World) (hm : Gf.Ok m) (hx : x < 2^m) (hv : Rd .i64 w v xs) (he : ∀ y ∈ xs, y < 2^m) :
    Calls Tryz.prog 91 #[.int .i64 m, v, .int .i64 x] w fun e w' => e = .returned (.int .i64 (Gf.ev m xs x)) ∧ w = w' := by
  have hl := hv.len
  have hfull := hid (Gf.eu_full hm xs x hx he)
  obtain ⟨a, cap, rfl, _, _, hc⟩ := hv
  have HC := hid hc
  have HE := hid he
  have HX := hid hx
  clear hc he hx
  go_enter Tryz.func91, Tryz.ntmps91
  go_wp2
  go_loopg [7, 8, 9] xs.length (fun g y p i wr => ∃ k : Nat, k + g = xs.length ∧ i = .int .i64 k ∧ y = .int .i64 (Gf.eu m xs x k) ∧ p = .int .i64 (Gf.xp m x k) ∧ wr = w)
  case atStart => exact ⟨0, by omega, rfl, rfl, rfl, rfl⟩
  case round =>
    obtain ⟨k, hk, rfl, rfl, rfl, rfl⟩ := hrel
    by_cases hlt : k < xs.length
    · obtain ⟨g, o, rfl, hcell⟩ := HC.out k hlt
      have h1 := hid (HE.out _ (getD_mem hlt))
      have h2 := hid (Gf.xp_lt hm x k)
      have h3 := Gf.eu_lt hm xs x k
      have h4 := Gf.mul_lt hm (xs.getD k 0) (Gf.xp m x k)
      have h13 : 2^m ≤ 2^13 := Nat.pow_le_pow_right (by decide) hm.2
      have ex := xor_i64 (Gf.eu m xs x k) (Gf.mul m (xs.getD k 0) (Gf.xp m x k)) (by omega) (by omega)
      have es : Gf.eu m xs x (k+1) = Gf.eu m xs x k ^^^ Gf.mul m (xs.getD k 0) (Gf.xp m x k) := rfl
      have ES := hid es
      have ep : Gf.xp m x (k+1) = Gf.mul m (Gf.xp m x k) x := rfl
      have EP := hid ep
      clear h3 h4 h13 es ep
      generalize xs.getD k 0 = c at *
      generalize Gf.xp m x k = p0 at *
      generalize Gf.eu m xs x k = y0 at *
      go_wp2_with fail
      refine (rmul_any m c p0 _ hm h1.out h2.out).mono ?_
      rintro e w' ⟨rfl, rfl⟩
      dsimp only
      go_wp2_with fail
      refine (rmul_any m p0 x _ hm h2.out HX.out).mono ?_
      rintro e w' ⟨rfl, rfl⟩
      dsimp only
      go_wp2
      go_roundg (gk - 1)
      case measure => omega
      case rel => exact ⟨k + 1, by omega, by go_num, by rw [ES.out], by rw [EP.out], rfl⟩
    · have ek : k = xs.length := by omega
      subst ek
      go_wp2
      go_ret
      exact ⟨by rw [← hfull.out]; rfl, rfl⟩

set_option maxRecDepth 100000 in
set_option maxHeartbeats 400000 in
theorem rtrim_any (v : Value) (xs : List Nat) (w : World) (hv : Rd .i64 w v xs) :
    Calls Tryz.prog 104 #[v] w fun e w' => RetRd .i64 w (Gf.trim xs) e ∧ w = w' := by
  have hl := hv.len
  obtain ⟨a, cap, rfl, hcap, hmax, hc⟩ := hv
  have Hc := hid hc
  clear hc
  go_enter Tryz.func104, Tryz.ntmps104
  go_wp2
  go_loopg [3] xs.length (fun g s wr => g ≤ xs.length ∧ s = .int .i64 g ∧ Gf.trim (xs.take g) = Gf.trim xs ∧ wr = w)
  case atStart => exact ⟨Nat.le_refl _, rfl, by rw [List.take_length], rfl⟩
  case round =>
    obtain ⟨hk, rfl, ht, rfl⟩ := hrel
    have HT := hid ht
    clear ht
    cases gk with
    | zero =>
      go_wp2
      go_ret
      refine ⟨⟨_, rfl, ?_⟩, rfl⟩
      rw [← HT.out]
      exact ⟨a, cap, rfl, Nat.zero_le _, hmax, fun j hj => by simp [Gf.trim] at hj⟩
    | succ k =>
      obtain ⟨g, o, rfl, hcell⟩ := Hc.out k (by omega)
      have ek : ((k + 1 : Nat) : Int) = (k : Int) + 1 := by omega
      have ek2 : (k : Int) + 1 - 1 = k := by omega
      have hkc : k ≤ cap := by omega
      by_cases h0 : xs.getD k 0 = 0
      · have h1 := Gf.trim_take_succ xs k (by omega) h0
        have H1 := hid h1; clear h1
        rw [h0] at hcell
        go_wp2
        go_roundg k
        case measure => omega
        case rel => exact ⟨by omega, by go_num, by rw [← H1.out]; exact HT.out, rfl⟩
      · have h1 := Gf.trim_take_self xs k (by omega) h0
        have H1 := hid h1; clear h1
        have hb : (((xs.getD k 0 : Nat) : Int) == 0) = false := beq_eq_false_iff_ne.2 (by omega)
        generalize xs.getD k 0 = x0 at hcell hb h0
        go_wp2
        go_ret
        refine ⟨⟨_, rfl, ?_⟩, rfl⟩
        rw [← HT.out, H1.out]
        have hlen : (xs.take (k+1)).length = k + 1 := by simp; omega
        refine ⟨some ⟨g, o, none⟩, cap, by rw [hlen]; rfl, by omega, hmax, fun j hj => ?_⟩
        obtain ⟨g', o', he, hx⟩ := Hc.out j (by omega)
        refine ⟨g', o', he, ?_⟩
        rw [hx]
        simp only [List.getD]
        rw [List.getElem?_take_of_lt (by omega)]
end Go.Proofs.YtoanopegoilcnaaGreat
/- Walks over firkinref01: products of polynomials, least polynomials, generators. -/
namespace Go.Proofs.YtoanopegoilcnaaGreat
open Go.RowKit Go.Mem

set_option maxRecDepth 100000 in
set_option maxHeartbeats 800000 in
theorem rtimes_any (m : Nat) (v1 v2 : Value) (p q : List Nat) (w : World) (hm : Gf.Ok m) (h1 : Rd .i64 w v1 p) (h2 : Rd .i64 w v2 q)
    (hp : ∀ y ∈ p, y < 2^m) (hq : ∀ y ∈ q, y < 2^m) (p0 : p ≠ []) (q0 : q ≠ []) (hl : p.length + q.length ≤ 1000000) :
    Calls Tryz.prog 93 #[.int .i64 m, v1, v2] w fun e w' => RetRd .i64 w' (Gf.times m p q) e ∧ Below w.heap.size w w' := by
  obtain ⟨a1, k1, rfl, _, _, hc1⟩ := h1
  obtain ⟨a2, k2, rfl, _, _, hc2⟩ := h2
  have np : 0 < p.length := List.length_pos_iff.2 p0
  have nq : 0 < q.length := List.length_pos_iff.2 q0
  have Hc1 := hid hc1
  have Hc2 := hid hc2
  have hmk : ∀ w, (Instr.makeSlice 31 (.int .i64 ((p.length : Int) + q.length)) (.int .i64 ((p.length : Int) + q.length))).run Tryz.prog w = .ok (.slice (some ⟨w.heap.size, 0, none⟩) (p.length + q.length) (p.length + q.length)) (w.alloc (.cells (fa .i64 (p.length + q.length) (fun _ => 0)) 3)) := fun w => by
    have := mk_int (p.length + q.length) (by omega) w
    rwa [show ((p.length + q.length : Nat) : Int) = (p.length : Int) + q.length by omega] at this
  clear hc1 hc2
  go_enter Tryz.func93, Tryz.ntmps93
  go_wp2
  go_loopg [8, 9] p.length (fun g i k wr => ∃ I : Nat, I + g = p.length ∧ i = .int .i64 I ∧ Below w.heap.size w wr ∧ wr.heap[w.heap.size]? = some (.cells (fa .i64 (p.length + q.length) (Gf.cf m p q I)) 3 (0, 0)))
  case atStart => exact ⟨0, by omega, rfl, (Below.refl _ _).alloc (Nat.le_refl _) _, alloc_new _ _⟩
  case round =>
    obtain ⟨I, hI, rfl, hb, hg⟩ := hrel
    have HB := hid hb
    have HG := hid hg
    clear hb hg
    by_cases hlt : I < p.length
    · obtain ⟨g1, o1, rfl, hx1⟩ := Hc1.out I hlt
      have hx := hid hx1
      clear hx1
      have hxl : p.getD I 0 < 2^m := hp _ (getD_mem hlt)
      have HX := hid hxl
      clear hxl
      generalize ex : p.getD I 0 = x at hx HX
      have EX := hid ex
      clear ex
      obtain ⟨wo, rfl⟩ : ∃ wo : World, wo = wr := ⟨_, rfl⟩
      go_wp2
      go_loopg [9] q.length (fun g i wr => ∃ K : Nat, K + g = q.length ∧ i = .int .i64 K ∧ Below w.heap.size w wr ∧ wr.heap[w.heap.size]? = some (.cells (fa .i64 (p.length + q.length) (Gf.cfk m p q I K)) 3 (0, 0)))
      case atStart => exact ⟨0, by omega, rfl, HB.out, by rw [Gf.cfk_zero]; exact HG.out⟩
      case round =>
        obtain ⟨K, hK, rfl, hb2, hg2⟩ := hrel
        have HB2 := hid hb2
        have HG2 := hid hg2
        clear hb2 hg2
        by_cases hlt2 : K < q.length
        · obtain ⟨g2, o2, rfl, hy2⟩ := Hc2.out K hlt2
          have cy : wr.cell? ⟨g2, o2 + K, none⟩ = some (.int .i64 ((q.getD K 0 : Nat) : Int)) := by rw [HB2.out.cell (World.block_lt_of_cell? _ _ hy2)]; exact hy2
          have cx : wr.cell? ⟨g1, o1 + I, none⟩ = some (.int .i64 (x : Int)) := by rw [HB2.out.cell (World.block_lt_of_cell? _ _ hx.out)]; exact hx.out
          clear hy2
          have hyl : q.getD K 0 < 2^m := hq _ (getD_mem hlt2)
          have HY := hid hyl
          clear hyl
          generalize ey : q.getD K 0 = y at cy HY
          have EY := hid ey
          clear ey
          have h13 : 2^m ≤ 2^13 := Nat.pow_le_pow_right (by omega) hm.2
          have hc0 := Gf.cfk_lt hm p q I K (I + K)
          have hml := Gf.mul_lt hm x y
          have cz : wr.cell? ⟨w.heap.size, I + K, none⟩ = some (.int .i64 ((Gf.cfk m p q I K (I + K) : Nat) : Int)) := fa_cell HG2.out (by omega)
          have fz : wr.frozen? ⟨w.heap.size, I + K, none⟩ = false := free_at HG2.out _
          have ex := xor_i64 (Gf.cfk m p q I K (I + K)) (Gf.mul m x y) (by omega) (by omega)
          have es : IntKind.i64.wrap ((I : Int) + K) = ((I + K : Nat) : Int) := by rw [IntWalk.i64_in _ (by omega)]; simp
          have hb1 : ((I + K : Nat) : Int) < ((p.length + q.length : Nat) : Int) := by omega
          have hb3 : (I : Int) < (p.length : Int) := by omega
          have hb4 : (K : Int) < (q.length : Int) := by omega
          clear h13 hc0 hml
          generalize ev : Gf.cfk m p q I K (I + K) = v0 at cz ex
          have EV := hid ev
          clear ev
          go_wp2
          refine wp_region_quiet_tail 22 (by kernel_rfl) (by kernel_rfl) ?_
          simp only [List.take_succ_cons, List.take_zero, List.drop_succ_cons, List.drop_zero]
          repeat (go_big_quiet_step ((go_at_call 99; exact quiet_eq (rmul_any m _ _ _ hm HX.out HY.out))))
          refine wpQuiet_nil ?_
          intro _ hw'
          obtain ⟨nq, hw''⟩ := hw'
          subst hw''
          go_wp2
          go_roundg (gk - 1)
          case measure => omega
          case rel =>
            refine ⟨K + 1, by omega, by go_num, ?_, ?_⟩
            · first | exact Below.drewN (HB2.out.setCell (Nat.le_refl _) _) nq | exact (Below.drewN HB2.out nq).setCell (Nat.le_refl _) _
            · refine (set_fa HG2.out (I + K) (v0 ^^^ Gf.mul m x y)).trans ?_
              rw [fa_congr (fun j _ => ?_)]
              rw [Gf.cfk_succ, EX.out, EY.out]
              unfold upd
              split
              · rename_i hj; rw [hj, EV.out]
              · rfl
        · have eK : K = q.length := by omega
          subst eK
          go_wp2
          go_roundg (p.length - (I + 1))
          case measure => omega
          case rel => exact ⟨I + 1, by omega, by go_num, HB2.out, HG2.out⟩
    · have eI : I = p.length := by omega
      subst eI
      have hr : Rd .i64 wr (.slice (some ⟨w.heap.size, 0, none⟩) (p.length + q.length) (p.length + q.length)) ((List.range (p.length + q.length)).map (Gf.cf m p q p.length)) := Rd.of_fa HG.out _ _ (Nat.le_refl _) (Nat.le_refl _) (by unfold maxLen; omega)
      have HT := hid (Gf.prod_long m p q p0 q0)
      have HR := hid hr
      clear hr
      go_wp2_with (go_at_call 104; refine (rtrim_any _ _ _ HR.out).mono ?_; rintro e w' ⟨⟨v, rfl, hv⟩, rfl⟩)
      go_ret
      exact ⟨⟨v, rfl, by rw [← HT.out]; exact hv⟩, HB.out⟩

set_option maxRecDepth 100000 in
set_option maxHeartbeats 800000 in
theorem rminimal_any (m n : Nat) (w : World) (hm : Gf.Ok m) (hn : n < 1000000) :
    Calls Tryz.prog 94 #[.int .i64 m, .int .i64 n] w fun e w' => RetRd .i64 w' (Gf.minimal m n) e ∧ Below w.heap.size w w' := by
  have s0 := Gf.sz_pos hm
  have ht : Gf.pw m (turn (n : Int) (Gf.sz m)) = Gf.pw m n := by rw [turn_nat _ _ s0, Gf.pw_mod hm]
  have HC := hid (Gf.cyc_spec hm n)
  go_enter Tryz.func94, Tryz.ntmps94
  go_wp2_with (go_at_call 92; refine (rexp_any m _ _ hm (by omega) (by omega)).mono ?_; rintro e w' ⟨rfl, rfl⟩)
  clear ht
  go_loopg [6, 7] (Gf.cyc m n) (fun g x p wr => ∃ i, i + g = Gf.cyc m n ∧ 1 ≤ g ∧ x = .int .i64 (Gf.pw m (2^i * n) : Nat) ∧ Rd .i64 wr p (Gf.mins m n i) ∧ Below w.heap.size w wr)
  case atStart =>
    refine ⟨0, by omega, HC.out.2.1, by simp, ?_, (Below.refl _ _).alloc (Nat.le_refl _) _⟩
    refine ⟨_, 1, rfl, Nat.le_refl _, by unfold maxLen; omega, fun j hj => ⟨_, 0, rfl, ?_⟩⟩
    have hj0 : j = 0 := by simp [Gf.mins] at hj; exact hj
    subst hj0
    rw [cell_at (alloc_new _ _)]; rfl
  case round =>
    obtain ⟨i, hi, hg, rfl, hp, hb⟩ := hrel
    have HP := hid hp
    have HB := hid hb
    have HPL := hid (Gf.mins_lt hm n i)
    have hll := Gf.mins_length m n i
    have HNE := hid (Gf.mins_mon hm n i).1.1
    have hms : Gf.mins m n (i+1) = Gf.times m (Gf.mins m n i) [Gf.pw m (2^i * n), 1] := by
      show Gf.times m (Gf.mins m n i) [Gf.pw m ((2^i * n) % Gf.sz m), 1] = _
      rw [Gf.pw_mod hm]
    have hi13 : i ≤ 13 := by have := HC.out.1; have := hm.2; omega
    have HMS := hid hms
    have hsq : Gf.mul m (Gf.pw m (2^i * n)) (Gf.pw m (2^i * n)) = Gf.pw m (2^(i+1) * n) := by
      rw [Gf.mul_pw hm, Nat.pow_succ]; congr 1; rw [Nat.mul_comm (2^i) 2, Nat.mul_assoc]; omega
    have HSQ := hid hsq
    have hkl := hid (Gf.pw_lt hm (2^i * n))
    have hkq : Gf.pw m (2^(i+1) * n) = Gf.pw m n → i + 1 = Gf.cyc m n := fun h => by
      rcases Nat.lt_or_ge (i+1) (Gf.cyc m n) with h' | h'
      · exact absurd ((Gf.pw_eq_iff hm _ _).1 h) (HC.out.2.2.2 (i+1) (by omega) h')
      · omega
    have hkq2 : i + 1 = Gf.cyc m n → Gf.pw m (2^(i+1) * n) = Gf.pw m n := fun h => by rw [h, Gf.pw_eq_iff hm]; exact HC.out.2.2.1
    have HKQ := hid hkq
    have HKQ2 := hid hkq2
    clear hp hb hms hkq hkq2 hsq
    generalize ek1 : Gf.pw m (2^i * n) = k1 at *
    generalize ek2 : Gf.pw m (2^(i+1) * n) = k2 at *
    generalize ek0 : Gf.pw m n = k0 at *
    have EK1 := hid ek1
    have EK2 := hid ek2
    have EK0 := hid ek0
    clear ek1 ek2 ek0
    go_wp2_with fail
    refine (rtimes_any m _ _ (Gf.mins m n i) [k1, 1] _ hm ?gr1 ?gr2 HPL.out ?gp2 HNE.out (by simp) ?gll).mono ?_
    case gr1 => exact HP.out.below ((Below.refl _ wr).alloc (Nat.le_refl _) _)
    case gr2 =>
      refine ⟨_, 2, rfl, Nat.le_refl _, by unfold maxLen; omega, fun j hj => ⟨_, 0, rfl, ?_⟩⟩
      rw [cell_at (alloc_new _ _)]
      simp only [List.length_cons, List.length_nil] at hj
      rcases (show j = 0 ∨ j = 1 by omega) with rfl | rfl <;> rfl
    case gp2 =>
      intro y hy
      simp only [List.mem_cons, List.not_mem_nil, or_false] at hy
      rcases hy with rfl | rfl
      · exact hkl.out
      · exact Gf.one_lt m hm
    case gll => simp; omega
    rintro e w2 ⟨⟨v, rfl, hv⟩, hb2⟩
    dsimp only
    have HV := hid hv
    have HB2 := hid hb2
    clear hv hb2
    go_wp2_with fail
    refine (rmul_any m k1 k1 _ hm hkl.out hkl.out).mono ?_
    rintro e w' ⟨rfl, rfl⟩
    dsimp only
    rw [HSQ.out]
    by_cases hq : k2 = k0
    · have hk : ((k2 : Int) == (k0 : Int)) = true := by simp [hq]
      have hcy := hid (HKQ.out hq)
      obtain rfl := hq
      clear hk
      go_wp2
      go_ret
      refine ⟨⟨v, rfl, ?_⟩, ?_⟩
      · unfold Gf.minimal
        rw [← hcy.out, HMS.out]; exact HV.out
      · exact Below.comp HB.out (Below.comp ((Below.refl _ wr).alloc (Nat.le_refl _) _) HB2.out)
    · have hk : ((k2 : Int) == (k0 : Int)) = false := beq_eq_false_iff_ne.2 (by omega)
      have hlt : i + 1 ≠ Gf.cyc m n := fun h => hq (HKQ2.out h)
      clear hq
      go_wp2
      go_roundg (gk - 1)
      case measure => omega
      case rel =>
        refine ⟨i + 1, by omega, by omega, by rw [EK2.out], ?_, ?_⟩
        · rw [HMS.out]; exact HV.out
        · exact Below.comp HB.out (Below.comp ((Below.refl _ wr).alloc (Nat.le_refl _) _) HB2.out)

set_option maxRecDepth 100000 in
set_option maxHeartbeats 1600000 in
theorem rgenerator_any (m t : Nat) (w : World) (hm : Gf.Ok m) (h1 : 1 ≤ t) (h8 : t ≤ 8) (hs : 2 * t ≤ Gf.sz m) :
    Calls Tryz.prog 69 #[.int .i64 m, .int .i64 t] w fun e w' => (∃ v, e = .returned (.tuple #[v, .int .i64 0]) ∧ Rd .i64 w' v (Gf.genr m (2 * t))) ∧ Below w.heap.size w w' := by
  have s0 := Gf.sz_pos hm
  have s2 := sz_le hm.2
  have m13 := hm.2
  have p1 := two_pow_pos' m
  have p2 := two_pow_le m m13
  have hsz := sz_cast m
  have hs' : 2 * (t : Int) ≤ 2^m - 1 := by omega
  clear hsz
  go_enter Tryz.func69, Tryz.ntmps69
  go_wp2
  go_loopg [6, 7] (2 * t) (fun g p n wr => ∃ i, i + g = 2 * t ∧ n = .int .i64 ((i : Int) + 1) ∧ Rd .i64 wr p (Gf.genr m i) ∧ Below w.heap.size w wr)
  case atStart =>
    refine ⟨0, by omega, rfl, ?_, (Below.refl _ w).alloc (Nat.le_refl _) _⟩
    refine ⟨_, 1, rfl, Nat.le_refl _, by unfold maxLen; omega, fun j hj => ⟨_, 0, rfl, ?_⟩⟩
    have hj0 : j = 0 := by simp [Gf.genr] at hj; exact hj
    subst hj0
    rw [cell_at (alloc_new _ _)]; rfl
  case round =>
    obtain ⟨i, hi, rfl, hp, hb⟩ := hrel
    have HP := hid hp
    have HB := hid hb
    clear hp hb
    by_cases hlt : i < 2 * t
    · have hturn : Gf.pw m (turn ((i : Int) + 1) (Gf.sz m)) = Gf.pw m (i + 1) := by
        rw [show (i : Int) + 1 = ((i + 1 : Nat) : Int) by omega, turn_nat _ _ s0, Gf.pw_mod hm]
      have HT := hid hturn
      have HGL := hid (Gf.genr_lt hm i)
      have HGM := hid (Gf.genr_mon hm i)
      have him : i * m ≤ 16 * 13 := Nat.mul_le_mul (by omega) hm.2
      have HPW := hid (Gf.pw_lt hm (i + 1))
      have hmn := hid (Gf.minimal_mon hm (i + 1))
      have hmc := (Gf.cyc_spec hm (i + 1)).1
      have hml := hid (Gf.mins_lt hm (i + 1) (Gf.cyc m (i + 1)))
      have hgs : Gf.genr m (i + 1) = if Gf.ev m (Gf.genr m i) (Gf.pw m (i + 1)) ≠ 0 then Gf.times m (Gf.genr m i) (Gf.minimal m (i + 1)) else Gf.genr m i := rfl
      have HGS := hid hgs
      clear hgs hturn
      go_wp2_with fail
      refine (rexp_any m _ _ hm (by omega) (by omega)).mono ?_
      rintro e w' ⟨rfl, rfl⟩
      dsimp only
      rw [HT.out]
      go_wp2_with fail
      refine (reval_any m _ _ (Gf.genr m i) _ hm HPW.out HP.out HGL.out).mono ?_
      rintro e w' ⟨rfl, rfl⟩
      dsimp only
      by_cases hz : Gf.ev m (Gf.genr m i) (Gf.pw m (i + 1)) = 0
      · have hgi : Gf.genr m (i + 1) = Gf.genr m i := by rw [HGS.out, if_neg (by simp [hz])]
        have HGI := hid hgi
        clear hgi
        have hz2 : (((Gf.ev m (Gf.genr m i) (Gf.pw m (i + 1)) : Nat) : Int) != 0) = false := by simp [hz]
        clear hz
        go_wp2
        go_roundg (gk - 1)
        case measure => omega
        case rel => exact ⟨i + 1, by omega, by go_num, by rw [HGI.out]; exact HP.out, HB.out⟩
      · have hgi : Gf.genr m (i + 1) = Gf.times m (Gf.genr m i) (Gf.minimal m (i + 1)) := by rw [HGS.out, if_pos hz]
        have HGI := hid hgi
        clear hgi
        have hz2 : (((Gf.ev m (Gf.genr m i) (Gf.pw m (i + 1)) : Nat) : Int) != 0) = true := by simpa using hz
        clear hz
        have hnum : ((i : Int) + 1) = ((i + 1 : Nat) : Int) := by omega
        have HNUM := hid hnum
        clear hnum
        go_wp2_with fail
        rw [HNUM.out]
        refine (rminimal_any m (i + 1) _ hm (by omega)).mono ?_
        rintro e w3 ⟨⟨v, rfl, hv⟩, hb3⟩
        have HV := hid hv
        have HB3 := hid hb3
        clear hv hb3
        dsimp only
        go_wp2_with fail
        refine (rtimes_any m _ _ (Gf.genr m i) (Gf.minimal m (i + 1)) _ hm (HP.out.below HB3.out) HV.out HGL.out hml.out HGM.out.1.1 hmn.out.1.1 (by have := HGM.out.2; have := hmn.out.2; omega)).mono ?_
        rintro e w4 ⟨⟨v4, rfl, hv4⟩, hb4⟩
        have HV4 := hid hv4
        have HB4 := hid hb4
        clear hv4 hb4
        dsimp only
        go_wp2
        go_roundg (gk - 1)
        case measure => omega
        case rel =>
          exact ⟨i + 1, by omega, by go_num, by rw [HGI.out]; exact HV4.out, Below.comp HB.out (Below.comp HB3.out HB4.out)⟩
    · have hit : i = 2 * t := by omega
      subst hit
      go_wp2
      go_ret2
      exact ⟨⟨_, rfl, HP.out⟩, HB.out⟩
end Go.Proofs.YtoanopegoilcnaaGreat
