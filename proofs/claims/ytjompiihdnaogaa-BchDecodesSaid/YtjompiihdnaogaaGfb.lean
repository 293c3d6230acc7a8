/- Walks over gf: products, logarithms, inverses, values, where the tables are made. -/
import Derived.Test.YtjompiihdnaogaaGfa
namespace Go.Proofs.Ytjompiihdnaogaa
open Go.RowKit Go.Mem

set_option maxRecDepth 100000 in
set_option maxHeartbeats 400000 in
theorem mul_made (b m a c : Nat) (w : World) (hm : Gf.Ok m) (h : Made w b m) (ha : a < 2^m) (hc : c < 2^m) :
    Calls Try.prog 56 #[.pointer (some ⟨b, 0, none⟩), .int .i64 a, .int .i64 c] w fun e w' => e = .returned (.int .i64 (Gf.mul m a c)) ∧ ∃ k, w' = w.drewN k := by
  obtain ⟨p, l, hb, hp, hl⟩ := h
  have c0 : w.cell? ⟨b, 0, none⟩ = some (.int .i64 m) := cell_at hb 0
  have c1 : w.cell? ⟨b, 1, none⟩ = some (.int .u32 1) := cell_at hb 1
  have c4 : w.cell? ⟨b, 4, none⟩ = some (.slice (some ⟨p, 0, none⟩) (2 * Gf.sz m) (2 * Gf.sz m)) := cell_at hb 4
  have c5 : w.cell? ⟨b, 5, none⟩ = some (.slice (some ⟨l, 0, none⟩) (Gf.sz m + 1) (Gf.sz m + 1)) := cell_at hb 5
  have s0 := Gf.sz_pos hm
  have s2 := sz_le hm.2
  have hsz : Gf.sz m + 1 = 2^m := by unfold Gf.sz; have := Nat.two_pow_pos m; omega
  have l1 := Gf.lg_lt hm a
  have l2 := Gf.lg_lt hm c
  have cl1 : w.cell? ⟨l, a, none⟩ = some (.int .i64 (Gf.lg m a)) := fa_cell hl (by omega)
  have cl2 : w.cell? ⟨l, c, none⟩ = some (.int .i64 (Gf.lg m c)) := fa_cell hl (by omega)
  have cp : w.cell? ⟨p, Gf.lg m a + Gf.lg m c, none⟩ = some (.int .i64 (Gf.pw m (Gf.lg m a + Gf.lg m c))) := fa_cell hp (by omega)
  have ia1 : (a : Int) < (Gf.sz m : Int) + 1 := by omega
  have ia2 : (c : Int) < (Gf.sz m : Int) + 1 := by omega
  have e0 : IntKind.i64.wrap ((Gf.lg m a : Int) + Gf.lg m c) = ((Gf.lg m a + Gf.lg m c : Nat) : Int) := by rw [IntWalk.i64_in _ (by omega)]; simp
  have ib : ((Gf.lg m a + Gf.lg m c : Nat) : Int) < 2 * (Gf.sz m : Int) := by omega
  clear hb hl hp hsz ha hc
  by_cases a0 : a = 0
  · subst a0
    go_enter Try.func56, Try.ntmps56
    go_wp2_with (first | (go_at_call 59; refine (in_any b m _ _ c0 hm.2 (by omega) (by omega)).mono ?_; rintro e w' ⟨rfl, rfl⟩))
    go_ret
    exact ⟨by simp [Gf.mul], 0, rfl⟩
  · by_cases q0 : c = 0
    · subst q0
      have t1 : ((a:Int) == 0) = false := by simp [a0]
      go_enter Try.func56, Try.ntmps56
      go_wp2_with (first | (go_at_call 59; refine (in_any b m _ _ c0 hm.2 (by omega) (by omega)).mono ?_; rintro e w' ⟨rfl, rfl⟩))
      go_ret
      exact ⟨by simp [Gf.mul], 0, rfl⟩
    · have t1 : ((a:Int) == 0) = false := by simp [a0]
      have t2 : ((c:Int) == 0) = false := by simp [q0]
      have hmul : Gf.mul m a c = Gf.pw m (Gf.lg m a + Gf.lg m c) := by unfold Gf.mul; rw [if_neg (by omega)]
      have HM := hid hmul; clear hmul
      go_enter Try.func56, Try.ntmps56
      go_wp2_with (first | (go_at_call 59; refine (in_any b m _ _ c0 hm.2 (by omega) (by omega)).mono ?_; rintro e w' ⟨rfl, rfl⟩) | (go_at_call 60; refine (do_done _ _ _ c1).mono ?_; rintro e w' ⟨rfl, rfl⟩))
      go_quiet (fail)
      go_wp2
      go_ret
      exact ⟨by rw [HM.out]; rfl, _, rfl⟩

set_option maxRecDepth 100000 in
set_option maxHeartbeats 400000 in
theorem log_made (b m a : Nat) (w : World) (hm : Gf.Ok m) (h : Made w b m) (ha : a ≤ Gf.sz m) (a0 : a ≠ 0) :
    Calls Try.prog 68 #[.pointer (some ⟨b, 0, none⟩), .int .i64 a] w fun e w' => e = .returned (.int .i64 (Gf.lg m a)) ∧ w = w' := by
  obtain ⟨p, l, hb, hp, hl⟩ := h
  have c0 : w.cell? ⟨b, 0, none⟩ = some (.int .i64 m) := cell_at hb 0
  have c1 : w.cell? ⟨b, 1, none⟩ = some (.int .u32 1) := cell_at hb 1
  have c5 : w.cell? ⟨b, 5, none⟩ = some (.slice (some ⟨l, 0, none⟩) (Gf.sz m + 1) (Gf.sz m + 1)) := cell_at hb 5
  have s2 := sz_le hm.2
  have l1 := Gf.lg_lt hm a
  have cl1 : w.cell? ⟨l, a, none⟩ = some (.int .i64 (Gf.lg m a)) := fa_cell hl (by omega)
  have ia1 : (a : Int) < (Gf.sz m : Int) + 1 := by omega
  have t1 : ((a:Int) == 0) = false := by simp [a0]
  clear hb hl hp
  go_enter Try.func68, Try.ntmps68
  go_wp2_with (first | (go_at_call 59; refine (in_any b m _ _ c0 hm.2 (by omega) (by omega)).mono ?_; rintro e w' ⟨rfl, rfl⟩) | (go_at_call 60; refine (do_done _ _ _ c1).mono ?_; rintro e w' ⟨rfl, rfl⟩))
  go_ret
  exact ⟨rfl, rfl⟩

theorem pw_neg {m : Nat} (hm : Gf.Ok m) (k : Nat) (hk : k ≤ Gf.sz m) : Gf.pw m (turn (-(k : Int)) (Gf.sz m)) = Gf.pw m (Gf.sz m - k) := by
  have s0 := Gf.sz_pos hm
  rw [Gf.pw_eq_iff hm]
  have h1 := turn_cast (-(k:Int)) s0
  have h2 : ((turn (-(k:Int)) (Gf.sz m) % Gf.sz m : Nat) : Int) = ((Gf.sz m - k) % Gf.sz m : Nat) := by
    rw [Int.natCast_emod, h1, Int.natCast_emod, Int.emod_emod_of_dvd _ (Int.dvd_refl _), show ((Gf.sz m - k : Nat) : Int) = -(k:Int) + Gf.sz m by omega, Int.add_emod_right]
  exact_mod_cast h2


set_option maxRecDepth 100000 in
set_option maxHeartbeats 400000 in
theorem inv_made (b m a : Nat) (w : World) (hm : Gf.Ok m) (h : Made w b m) (ha : a ≤ Gf.sz m) (a0 : a ≠ 0) :
    Calls Try.prog 58 #[.pointer (some ⟨b, 0, none⟩), .int .i64 a] w fun e w' => e = .returned (.int .i64 (Gf.inv m a)) ∧ ∃ k, w' = w.drewN k := by
  have s2 := sz_le hm.2
  have l1 := Gf.lg_lt hm a
  have c0 : w.cell? ⟨b, 0, none⟩ = some (.int .i64 m) := by obtain ⟨p, l, hb, hp, hl⟩ := h; exact cell_at hb 0
  have t1 : ((a:Int) == 0) = false := by simp [a0]
  have hi : Gf.pw m (turn (-(Gf.lg m a : Int)) (Gf.sz m)) = Gf.inv m a := by rw [pw_neg hm _ (by omega)]; unfold Gf.inv; rw [if_neg a0]
  have HI := hid hi; clear hi
  go_enter Try.func58, Try.ntmps58
  go_wp2_with (first | (go_at_call 59; refine (in_any b m _ _ c0 hm.2 (by omega) (by omega)).mono ?_; rintro e w' ⟨rfl, rfl⟩) | (go_at_call 68; refine (log_made b m a _ hm h ha a0).mono ?_; rintro e w' ⟨rfl, rfl⟩) | (go_at_call 42; refine (exp_made b m _ _ hm h).mono ?_; rintro e w' ⟨rfl, k, rfl⟩))
  go_ret
  exact ⟨by rw [← HI.out]; rfl, k, rfl⟩

set_option maxRecDepth 100000 in
set_option maxHeartbeats 400000 in
theorem eval_made (b m x : Nat) (v : Value) (xs : List Nat) (w : World) (hm : Gf.Ok m) (h : Made w b m) (hx : x < 2^m) (hv : Rd .i64 w v xs) (he : ∀ y ∈ xs, y < 2^m) :
    Calls Try.prog 41 #[.pointer (some ⟨b, 0, none⟩), v, .int .i64 x] w fun e w' => e = .returned (.int .i64 (Gf.ev m xs x)) ∧ ∃ k, w' = w.drewN k := by
  have hl := hv.len
  obtain ⟨a, cap, rfl, _, _, hc⟩ := hv
  have c0 : w.cell? ⟨b, 0, none⟩ = some (.int .i64 m) := by obtain ⟨p, l, hb, hp, hl⟩ := h; exact cell_at hb 0
  go_enter Try.func41, Try.ntmps41
  go_wp2
  go_loopw [7, 8] (fun y i wr => ∃ k : Nat, k ≤ xs.length ∧ i = .int .i64 ((k : Int) - 1) ∧ y = .int .i64 (Gf.ev m (xs.drop k) x) ∧ ∃ n, wr = w.drewN n) (fun _ i _ => (intOf i + 1).toNat)
  case atStart => exact ⟨xs.length, Nat.le_refl _, rfl, by simp [Gf.ev], 0, rfl⟩
  case round =>
    obtain ⟨k, hk, rfl, rfl, hw⟩ := hrel
    have HW := hid hw
    have h' : Made wr b m := by obtain ⟨n, rfl⟩ := hw; exact h
    have c0' : wr.cell? ⟨b, 0, none⟩ = some (.int .i64 m) := by obtain ⟨n, rfl⟩ := hw; exact c0
    cases k with
    | zero =>
      clear hw
      go_wp2
      go_ret
      exact ⟨rfl, HW.out⟩
    | succ k =>
      obtain ⟨g, o, rfl, hcell0⟩ := hc k (by omega)
      have hcell : wr.cell? ⟨g, o + k, none⟩ = some (.int .i64 ((xs.getD k 0 : Nat) : Int)) := by obtain ⟨n, rfl⟩ := hw; exact hcell0
      clear hw hcell0
      have hb1 : xs.getD k 0 < 2^m := he _ (getD_mem (by omega))
      have hb2 : Gf.ev m (xs.drop (k+1)) x < 2^m := Gf.ev_lt hm _ _ (fun y hy => he y (List.mem_of_mem_drop hy))
      have hb3 := Gf.mul_lt hm (Gf.ev m (xs.drop (k+1)) x) x
      have h13 : 2^m ≤ 2^13 := Nat.pow_le_pow_right (by omega) hm.2
      have ex := xor_i64 (Gf.mul m (Gf.ev m (xs.drop (k+1)) x) x) (xs.getD k 0) (by omega) (by omega)
      have en := hid (Gf.ev_drop m xs x k (by omega))
      have ein : ((xs.getD k 0 : Nat) : Int) ≤ (Gf.sz m : Int) := by unfold Gf.sz; omega
      have ek : ((k + 1 : Nat) : Int) - 1 = k := by omega
      rw [ek]
      have hkl : (k : Int) < (xs.length : Int) := by omega
      clear hc he hb1 h13 ek
      generalize Gf.ev m (xs.drop (k+1)) x = y0 at *
      generalize xs.getD k 0 = x0 at *
      go_wp2
      go_quiet ((first | (go_at_call 56; exact Calls.quiet_of (mul_made b m _ _ _ hm (by exact h') hb2 hx)) | (go_at_call 59; exact quiet_eq (in_any b m _ _ (by exact c0') hm.2 (by omega) ein))))
      go_wp2
      go_roundw
      case rel =>
        obtain ⟨n, hn⟩ := HW.out
        exact ⟨k, by omega, by go_num, by rw [en.out], n + nq, by rw [hn, World.drewN_drewN]⟩
      case measure => simp [intOf]
end Go.Proofs.Ytjompiihdnaogaa
