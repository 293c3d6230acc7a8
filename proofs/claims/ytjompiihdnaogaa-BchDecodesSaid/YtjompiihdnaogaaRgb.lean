/- Walks over firkinref01: powers, inverses, values, products. -/
import Derived.Test.YtjompiihdnaogaaRga
namespace Go.Proofs.Ytjompiihdnaogaa
open Go.RowKit Go.Mem

set_option maxRecDepth 100000 in
set_option maxHeartbeats 400000 in
theorem rexp0_any (m n : Nat) (w : World) (hm : Gf.Ok m) (hn : n ≤ 1000000) :
    Calls Try.prog 65 #[.int .i64 m, .int .i64 n] w fun e w' => e = .returned (.int .i64 (Gf.pw m n)) ∧ w = w' := by
  go_enter Try.func65, Try.ntmps65
  go_wp2
  go_loopg [5, 6] n (fun g x i wr => ∃ k : Nat, k + g = n ∧ i = .int .i64 k ∧ x = .int .i64 (Gf.pw m k) ∧ wr = w)
  case atStart => exact ⟨0, by omega, rfl, rfl, rfl⟩
  case round =>
    obtain ⟨k, hk, rfl, rfl, rfl⟩ := hrel
    by_cases hlt : k < n
    · have hp := Gf.pw_lt hm k
      have h2 : 2 < 2^m := by
        have : 2^2 ≤ 2^m := Nat.pow_le_pow_right (by decide) hm.1
        omega
      have hs : Gf.pw m (k+1) = Gf.mul m (Gf.pw m k) 2 := by rw [Gf.mul_two hm hp, Gf.pw_succ]
      have HP := hid hp
      have H2 := hid h2
      have HS := hid hs
      clear hp h2 hs
      go_wp2_with (go_at_call 62; refine (rmul_any m _ 2 _ hm HP.out H2.out).mono ?_; rintro e w' ⟨rfl, rfl⟩)
      go_roundg (gk - 1)
      case measure => omega
      case rel => exact ⟨k + 1, by omega, by go_num, by rw [HS.out], rfl⟩
    · have ek : k = n := by omega
      subst ek
      go_wp2
      go_ret
      exact ⟨rfl, rfl⟩

set_option maxRecDepth 100000 in
set_option maxHeartbeats 400000 in
theorem rturn_any (m : Nat) (n : Int) (w : World) (hm : Gf.Ok m) (h1 : -1000000 ≤ n) (h2 : n ≤ 1000000) :
    Calls Try.prog 66 #[.int .i64 m, .int .i64 n] w fun e w' => e = .returned (.int .i64 (turn n (Gf.sz m))) ∧ w = w' := by
  have m13 := hm.2
  have p1 := two_pow_pos' m
  have p2 := two_pow_le m m13
  have s0 := Gf.sz_pos hm
  have hsz := sz_cast m
  have es : (2:Int)^m - 1 = (Gf.sz m : Int) := hsz.symm
  have s1 : (1:Int) ≤ (Gf.sz m : Int) := by omega
  have s2 := sz_le m13
  have s3 : Gf.sz m ≠ 0 := by omega
  have tc := turn_cast n s0
  have hcase : (n.tmod (Gf.sz m) < 0 ∧ n.tmod (Gf.sz m) + Gf.sz m = (turn n (Gf.sz m) : Int)) ∨ (¬ n.tmod (Gf.sz m) < 0 ∧ n.tmod (Gf.sz m) = (turn n (Gf.sz m) : Int)) := by
    have b1 := Int.lt_tmod_of_pos n (show (0:Int) < Gf.sz m by omega)
    have e1 : (n.tmod (Gf.sz m)) % (Gf.sz m : Int) = n % Gf.sz m := by rw [Int.tmod_def, Int.sub_mul_emod_self_left]
    have b2 := Int.tmod_lt_of_pos n (show (0:Int) < Gf.sz m by omega)
    by_cases h : n.tmod (Gf.sz m) < 0
    · refine Or.inl ⟨h, ?_⟩
      rw [tc, ← e1, ← Int.add_emod_right, Int.emod_eq_of_lt (by omega) (by omega)]
    · refine Or.inr ⟨h, ?_⟩
      rw [tc, ← e1, Int.emod_eq_of_lt (by omega) (by omega)]
  clear hsz tc
  by_cases hn : 0 ≤ n
  · have e1 : n.tmod (Gf.sz m) = n % (Gf.sz m : Int) := Int.tmod_eq_emod_of_nonneg hn
    have e2 : n % (Gf.sz m : Int) = (turn n (Gf.sz m) : Int) := (turn_cast n s0).symm
    have hb : (0 : Int) ≤ (turn n (Gf.sz m) : Int) := by omega
    clear hcase e1
    go_enter Try.func66, Try.ntmps66
    go_wp2
    go_ret
    exact ⟨by simp [e2], rfl⟩
  · rcases hcase with ⟨hc, he⟩ | ⟨hc, he⟩
    · have bw : -9223372036854775808 ≤ n.tmod (Gf.sz m) + Gf.sz m ∧ n.tmod (Gf.sz m) + Gf.sz m ≤ 9223372036854775807 := by
        have b1 := Int.lt_tmod_of_pos n (show (0:Int) < Gf.sz m by omega)
        omega
      have ew : wrap64 (n.tmod (Gf.sz m) + Gf.sz m) = (turn n (Gf.sz m) : Int) := by rw [IntWalk.wrap64_in _ bw, he]
      clear he bw
      go_enter Try.func66, Try.ntmps66
      go_wp2
      go_ret
      exact ⟨rfl, rfl⟩
    · go_enter Try.func66, Try.ntmps66
      go_wp2
      go_ret
      exact ⟨rfl, rfl⟩

set_option maxRecDepth 100000 in
set_option maxHeartbeats 400000 in
theorem rexp_any (m : Nat) (n : Int) (w : World) (hm : Gf.Ok m) (h1 : -1000000 ≤ n) (h2 : n ≤ 1000000) :
    Calls Try.prog 51 #[.int .i64 m, .int .i64 n] w fun e w' => e = .returned (.int .i64 (Gf.pw m (turn n (Gf.sz m)))) ∧ w = w' := by
  have ht := turn_lt n (Gf.sz_pos hm)
  have s2 := sz_le hm.2
  go_enter Try.func51, Try.ntmps51
  go_wp2_with (first | (go_at_call 66; refine (rturn_any m _ _ hm h1 h2).mono ?_; rintro e w' ⟨rfl, rfl⟩) | (go_at_call 65; refine (rexp0_any m _ _ hm (by omega)).mono ?_; rintro e w' ⟨rfl, rfl⟩))
  go_ret
  exact ⟨rfl, rfl⟩

theorem rinv_zero (m : Nat) (w : World) (hm : Gf.Ok m) :
    Calls Try.prog 74 #[.int .i64 m, .int .i64 0] w fun e w' => e = .returned (.int .i64 0) ∧ w = w' := by
  go_enter Try.func74, Try.ntmps74
  go_wp2_with (go_at_call 72; refine (rin_any m 0 _ hm.2 (Nat.zero_le _)).mono ?_; rintro e w' ⟨rfl, rfl⟩)
  go_ret
  exact ⟨rfl, rfl⟩

theorem pow_step (i : Nat) : 2^(i+1) - 2 + 2^(i+1) = 2^(i+2) - 2 := by
  have : 2^(i+2) = 2 * 2^(i+1) := by rw [Nat.pow_succ 2 (i+1)]; omega
  have h2 : 2^1 ≤ 2^(i+1) := Nat.pow_le_pow_right (by decide) (by omega)
  omega

set_option maxRecDepth 100000 in
set_option maxHeartbeats 400000 in
theorem rinv_any (m a : Nat) (w : World) (hm : Gf.Ok m) (ha : a < 2^m) (a0 : a ≠ 0) :
    Calls Try.prog 74 #[.int .i64 m, .int .i64 a] w fun e w' => e = .returned (.int .i64 (Gf.inv m a)) ∧ w = w' := by
  have ia : a ≤ Gf.sz m := by unfold Gf.sz; omega
  have t1 : ((a : Int) == 0) = false := by simp [a0]
  have ep := Gf.pw_lg hm ha a0
  have hinv : Gf.pw m (Gf.lg m a * (2^m - 2)) = Gf.inv m a := by
    rw [Gf.inv_pow hm _ (Gf.lg_lt hm a)]; unfold Gf.inv; rw [if_neg a0]
  have EP := hid ep
  have HI := hid hinv
  have m13 := hm.2
  have m2 := hm.1
  clear ha ep hinv
  go_enter Try.func74, Try.ntmps74
  go_wp2_with (go_at_call 72; refine (rin_any m _ _ hm.2 ia).mono ?_; rintro e w' ⟨rfl, rfl⟩)
  go_loopg [1, 5, 6] (m - 1) (fun g y x i wr => ∃ k : Nat, k + g = m - 1 ∧ i = .int .i64 ((k : Int) + 1) ∧ y = .int .i64 (Gf.pw m (Gf.lg m a * 2^k)) ∧ x = .int .i64 (Gf.pw m (Gf.lg m a * (2^(k+1) - 2))) ∧ wr = w)
  case atStart => exact ⟨0, by omega, rfl, by rw [Nat.pow_zero, Nat.mul_one, EP.out], by simp [Gf.pw, Gf.it], rfl⟩
  case round =>
    obtain ⟨k, hk, rfl, rfl, rfl, rfl⟩ := hrel
    by_cases hlt : k + 1 < m
    · have h1 := hid (Gf.pw_lt hm (Gf.lg m a * 2^k))
      have h2 := hid (Gf.pw_lt hm (Gf.lg m a * (2^(k+1) - 2)))
      have h3 : Gf.mul m (Gf.pw m (Gf.lg m a * 2^k)) (Gf.pw m (Gf.lg m a * 2^k)) = Gf.pw m (Gf.lg m a * 2^(k+1)) := by
        rw [Gf.mul_pw hm, Nat.pow_succ]; congr 1; rw [← Nat.mul_assoc]; omega
      have h4 : Gf.mul m (Gf.pw m (Gf.lg m a * (2^(k+1) - 2))) (Gf.pw m (Gf.lg m a * 2^(k+1))) = Gf.pw m (Gf.lg m a * (2^(k+2) - 2)) := by
        rw [Gf.mul_pw hm, ← Nat.mul_add, pow_step]
      have h5 := hid (Gf.pw_lt hm (Gf.lg m a * 2^(k+1)))
      have H3 := hid h3
      have H4 := hid h4
      clear h3 h4
      generalize Gf.pw m (Gf.lg m a * 2^k) = y0 at *
      generalize ey1 : Gf.pw m (Gf.lg m a * 2^(k+1)) = y1 at *
      have EY1 := hid ey1
      clear ey1
      generalize Gf.pw m (Gf.lg m a * (2^(k+1) - 2)) = x0 at *
      go_wp2_with fail
      refine (rmul_any m y0 y0 _ hm h1.out h1.out).mono ?_
      rintro e w' ⟨rfl, rfl⟩
      dsimp only
      rw [H3.out]
      go_wp2_with fail
      refine (rmul_any m x0 y1 _ hm h2.out h5.out).mono ?_
      rintro e w' ⟨rfl, rfl⟩
      dsimp only
      rw [H4.out]
      go_wp2
      go_roundg (gk - 1)
      case measure => omega
      case rel => exact ⟨k + 1, by omega, by go_num, by rw [EY1.out], rfl, rfl⟩
    · have ek : k + 1 = m := by omega
      have HF : Hid (Gf.pw m (Gf.lg m a * (2^(k+1) - 2)) = Gf.inv m a) := by rw [ek]; exact HI
      clear HI EP
      go_wp2
      go_ret
      exact ⟨by rw [← HF.out]; rfl, rfl⟩

set_option maxRecDepth 100000 in
set_option maxHeartbeats 400000 in
theorem reval_any (m x : Nat) (v : Value) (xs : List Nat) (w : World) (hm : Gf.Ok m) (hx : x < 2^m) (hv : Rd .i64 w v xs) (he : ∀ y ∈ xs, y < 2^m) :
    Calls Try.prog 50 #[.int .i64 m, v, .int .i64 x] w fun e w' => e = .returned (.int .i64 (Gf.ev m xs x)) ∧ w = w' := by
  have hl := hv.len
  have hfull := hid (Gf.eu_full hm xs x hx he)
  obtain ⟨a, cap, rfl, _, _, hc⟩ := hv
  have HC := hid hc
  have HE := hid he
  have HX := hid hx
  clear hc he hx
  go_enter Try.func50, Try.ntmps50
  go_wp2
  go_loopg [7, 8, 9] xs.length (fun g y p i wr => ∃ k : Nat, k + g = xs.length ∧ i = .int .i64 k ∧ y = .int .i64 (Gf.eu m xs x k) ∧ p = .int .i64 (Gf.xp m x k) ∧ wr = w)
  case atStart => exact ⟨0, by omega, rfl, rfl, rfl, rfl⟩
  case round =>
    obtain ⟨k, hk, rfl, rfl, rfl, rfl⟩ := hrel
    by_cases hlt : k < xs.length
    · obtain ⟨g, o, rfl, hcell⟩ := HC.out k hlt
      have h1 := hid (HE.out _ (getD_mem hlt))
      have h2 := hid (Gf.xp_lt hm x k)
      have h3 := Gf.eu_lt hm xs x k
      have h4 := Gf.mul_lt hm (xs.getD k 0) (Gf.xp m x k)
      have h13 : 2^m ≤ 2^13 := Nat.pow_le_pow_right (by decide) hm.2
      have ex := xor_i64 (Gf.eu m xs x k) (Gf.mul m (xs.getD k 0) (Gf.xp m x k)) (by omega) (by omega)
      have es : Gf.eu m xs x (k+1) = Gf.eu m xs x k ^^^ Gf.mul m (xs.getD k 0) (Gf.xp m x k) := rfl
      have ES := hid es
      have ep : Gf.xp m x (k+1) = Gf.mul m (Gf.xp m x k) x := rfl
      have EP := hid ep
      clear h3 h4 h13 es ep
      generalize xs.getD k 0 = c at *
      generalize Gf.xp m x k = p0 at *
      generalize Gf.eu m xs x k = y0 at *
      go_wp2_with fail
      refine (rmul_any m c p0 _ hm h1.out h2.out).mono ?_
      rintro e w' ⟨rfl, rfl⟩
      dsimp only
      go_wp2_with fail
      refine (rmul_any m p0 x _ hm h2.out HX.out).mono ?_
      rintro e w' ⟨rfl, rfl⟩
      dsimp only
      go_wp2
      go_roundg (gk - 1)
      case measure => omega
      case rel => exact ⟨k + 1, by omega, by go_num, by rw [ES.out], by rw [EP.out], rfl⟩
    · have ek : k = xs.length := by omega
      subst ek
      go_wp2
      go_ret
      exact ⟨by rw [← hfull.out]; rfl, rfl⟩

set_option maxRecDepth 100000 in
set_option maxHeartbeats 400000 in
theorem rtrim_any (v : Value) (xs : List Nat) (w : World) (hv : Rd .i64 w v xs) :
    Calls Try.prog 67 #[v] w fun e w' => RetRd .i64 w (Gf.trim xs) e ∧ w = w' := by
  have hl := hv.len
  obtain ⟨a, cap, rfl, hcap, hmax, hc⟩ := hv
  have Hc := hid hc
  clear hc
  go_enter Try.func67, Try.ntmps67
  go_wp2
  go_loopg [3] xs.length (fun g s wr => g ≤ xs.length ∧ s = .int .i64 g ∧ Gf.trim (xs.take g) = Gf.trim xs ∧ wr = w)
  case atStart => exact ⟨Nat.le_refl _, rfl, by rw [List.take_length], rfl⟩
  case round =>
    obtain ⟨hk, rfl, ht, rfl⟩ := hrel
    have HT := hid ht
    clear ht
    cases gk with
    | zero =>
      go_wp2
      go_ret
      refine ⟨⟨_, rfl, ?_⟩, rfl⟩
      rw [← HT.out]
      exact ⟨a, cap, rfl, Nat.zero_le _, hmax, fun j hj => by simp [Gf.trim] at hj⟩
    | succ k =>
      obtain ⟨g, o, rfl, hcell⟩ := Hc.out k (by omega)
      have ek : ((k + 1 : Nat) : Int) = (k : Int) + 1 := by omega
      have ek2 : (k : Int) + 1 - 1 = k := by omega
      have hkc : k ≤ cap := by omega
      by_cases h0 : xs.getD k 0 = 0
      · have h1 := Gf.trim_take_succ xs k (by omega) h0
        have H1 := hid h1; clear h1
        rw [h0] at hcell
        go_wp2
        go_roundg k
        case measure => omega
        case rel => exact ⟨by omega, by go_num, by rw [← H1.out]; exact HT.out, rfl⟩
      · have h1 := Gf.trim_take_self xs k (by omega) h0
        have H1 := hid h1; clear h1
        have hb : (((xs.getD k 0 : Nat) : Int) == 0) = false := beq_eq_false_iff_ne.2 (by omega)
        generalize xs.getD k 0 = x0 at hcell hb h0
        go_wp2
        go_ret
        refine ⟨⟨_, rfl, ?_⟩, rfl⟩
        rw [← HT.out, H1.out]
        have hlen : (xs.take (k+1)).length = k + 1 := by simp; omega
        refine ⟨some ⟨g, o, none⟩, cap, by rw [hlen]; rfl, by omega, hmax, fun j hj => ?_⟩
        obtain ⟨g', o', he, hx⟩ := Hc.out j (by omega)
        refine ⟨g', o', he, ?_⟩
        rw [hx]
        simp only [List.getD]
        rw [List.getElem?_take_of_lt (by omega)]
end Go.Proofs.Ytjompiihdnaogaa
