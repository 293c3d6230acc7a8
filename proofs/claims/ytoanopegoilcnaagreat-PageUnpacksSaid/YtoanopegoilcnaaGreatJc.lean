/- Walks over gf: the small functions, and Once where it is done. -/
import Derived.Test.YtoanopegoilcnaaGreatJb
import Derived.Test.YtoanopegoilcnaaGreatJa
import Derived.Test.YtoanopegoilcnaaGreatProg
set_option linter.unusedVariables false
namespace Go.Proofs.YtoanopegoilcnaaGreat
open Go.RowKit Go.Mem

set_option maxHeartbeats 400000 in
theorem gfnew_any (m : Int) (w : World) (h : 2 ≤ m) (h2 : m ≤ 13) :
    Calls Tryz.prog 67 #[.int .i64 m] w fun e w' => e = .returned (.tuple #[.pointer (some ⟨w.heap.size, 0, none⟩), .int .i64 0]) ∧ w' = w.alloc (.cells #[.int .i64 m, .int .u32 0, .int .i32 0, .int .u32 0, .slice none 0 0, .slice none 0 0] 144) := by
  go_enter Tryz.func67, Tryz.ntmps67
  go_wp2
  go_ret2
  exact ⟨rfl, rfl⟩

set_option maxHeartbeats 400000 in
theorem do_done (a : Addr) (f : Value) (w : World) (h0 : w.cell? a = some (.int .u32 1)) :
    Calls Tryz.prog 82 #[.pointer (some a), f] w fun e w' => e = .returned (.tuple #[]) ∧ w = w' := by
  have hl := run_call_load (P := Tryz.prog) Tryz.func105 (by kernel_rfl) (by kernel_rfl) (by kernel_rfl) .u32 (by kernel_rfl) h0
  have hnot : ∀ (x : Bool) (w : World), (Op.unary .not (.bool x)).run Tryz.prog w = .ok (.bool (!x)) w := fun _ _ => rfl
  go_enter Tryz.func82, Tryz.ntmps82
  go_wp2
  go_end0
  exact ⟨rfl, rfl⟩

theorem two_pow_pos' (m : Nat) : (1:Int) ≤ 2^m := by
  have := Nat.two_pow_pos m
  have e : ((2^m : Nat) : Int) = 2^m := by simp
  omega
theorem two_pow_le (m : Nat) (h : m ≤ 13) : (2:Int)^m ≤ 8192 := by
  have : 2^m ≤ 2^13 := Nat.pow_le_pow_right (by omega) h
  have e : ((2^m : Nat) : Int) = 2^m := by simp
  omega
theorem sz_cast (m : Nat) : ((Gf.sz m : Nat) : Int) = 2^m - 1 := by
  have := Nat.two_pow_pos m
  have e : ((2^m : Nat) : Int) = 2^m := by simp
  unfold Gf.sz
  omega

set_option maxHeartbeats 400000 in
theorem size_any (b : Nat) (m : Nat) (w : World) (h0 : w.cell? ⟨b, 0, none⟩ = some (.int .i64 m)) (hm' : m ≤ 13) :
    Calls Tryz.prog 84 #[.pointer (some ⟨b, 0, none⟩)] w fun e w' => e = .returned (.int .i64 (Gf.sz m)) ∧ w = w' := by
  have p1 := two_pow_pos' m
  have p2 := two_pow_le m hm'
  rw [sz_cast]
  go_enter Tryz.func84, Tryz.ntmps84
  go_wp2
  go_ret
  have e : wrap64 (2^m : Int) = 2^m := IntWalk.wrap64_in _ (by omega)
  have e2 : wrap64 (2^m - 1 : Int) = 2^m - 1 := IntWalk.wrap64_in _ (by omega)
  exact ⟨by simp, rfl⟩

set_option maxHeartbeats 400000 in
theorem in_any (b : Nat) (m : Nat) (a : Int) (w : World) (h0 : w.cell? ⟨b, 0, none⟩ = some (.int .i64 m)) (hm' : m ≤ 13) (ha : 0 ≤ a) (ha2 : a ≤ (Gf.sz m : Int)) :
    Calls Tryz.prog 81 #[.pointer (some ⟨b, 0, none⟩), .int .i64 a] w fun e w' => e = .returned (.int .i64 a) ∧ w = w' := by
  go_enter Tryz.func81, Tryz.ntmps81
  go_wp2_with (go_at_call 84; refine (size_any _ m _ h0 hm').mono ?_; rintro e w' ⟨rfl, rfl⟩)
  go_ret
  exact ⟨rfl, rfl⟩

/-- A field whose tables are not made yet. -/
def Raw (w : World) (b m : Nat) : Prop :=
  w.heap[b]? = some (.cells #[.int .i64 m, .int .u32 0, .int .i32 0, .int .u32 0, .slice none 0 0, .slice none 0 0] 144 (0, 0))
/-- A field whose tables are made. -/
def Made (w : World) (b m : Nat) : Prop := ∃ p l,
  w.heap[b]? = some (.cells #[.int .i64 m, .int .u32 1, .int .i32 0, .int .u32 0, .slice (some ⟨p, 0, none⟩) (2 * Gf.sz m) (2 * Gf.sz m), .slice (some ⟨l, 0, none⟩) (Gf.sz m + 1) (Gf.sz m + 1)] 144 (0, 0)) ∧
  w.heap[p]? = some (.cells (fa .i64 (2 * Gf.sz m) (Gf.pw m)) 3 (0, 0)) ∧ w.heap[l]? = some (.cells (fa .i64 (Gf.sz m + 1) (Gf.lg m)) 3 (0, 0))

theorem tmod_turn (n : Int) (s : Nat) (hs : 0 < s) : (n.tmod s + s).tmod s = n % s := by
  have h1 := Int.lt_tmod_of_pos n (show (0:Int) < s by omega)
  rw [Int.tmod_eq_emod_of_nonneg (by omega), Int.add_emod_right, Int.tmod_def, Int.sub_mul_emod_self_left]

theorem sz_le {m : Nat} (hm : m ≤ 13) : (Gf.sz m : Int) ≤ 8191 := by rw [sz_cast]; have := two_pow_le m hm; omega

/-- A number, turned into 0 .. s - 1. -/
def turn (n : Int) (s : Nat) : Nat := (n % (s : Int)).toNat
theorem turn_cast (n : Int) {s : Nat} (hs : 0 < s) : ((turn n s : Nat) : Int) = n % s := by
  have := Int.emod_nonneg n (show (s:Int) ≠ 0 by omega)
  unfold turn; omega
theorem turn_lt (n : Int) {s : Nat} (hs : 0 < s) : turn n s < s := by
  have := turn_cast n hs
  have := Int.emod_lt_of_pos n (show (0:Int) < s by omega)
  omega

theorem Made.drewN {w : World} {b m : Nat} (h : Made w b m) (k : Nat) : Made (w.drewN k) b m := h
theorem Made.below {w w' : World} {b m : Nat} (h : Made w b m) (hb : Below w.heap.size w w') : Made w' b m := by
  obtain ⟨p, l, h1, h2, h3⟩ := h
  exact ⟨p, l, by rw [hb.block b (lt_at h1)]; exact h1, by rw [hb.block p (lt_at h2)]; exact h2, by rw [hb.block l (lt_at h3)]; exact h3⟩
theorem Made.m {w : World} {b m : Nat} (h : Made w b m) : w.cell? ⟨b, 0, none⟩ = some (.int .i64 m) := by
  obtain ⟨p, l, h1, h2, h3⟩ := h; exact cell_at h1 0

set_option maxHeartbeats 400000 in
theorem exp_made (b m : Nat) (n : Int) (w : World) (hm : Gf.Ok m) (h : Made w b m) :
    Calls Tryz.prog 60 #[.pointer (some ⟨b, 0, none⟩), .int .i64 n] w fun e w' => e = .returned (.int .i64 (Gf.pw m (turn n (Gf.sz m)))) ∧ ∃ k, w' = w.drewN k := by
  obtain ⟨p, l, hb, hp, hl⟩ := h
  have c0 : w.cell? ⟨b, 0, none⟩ = some (.int .i64 m) := cell_at hb 0
  have c1 : w.cell? ⟨b, 1, none⟩ = some (.int .u32 1) := cell_at hb 1
  have c4 : w.cell? ⟨b, 4, none⟩ = some (.slice (some ⟨p, 0, none⟩) (2 * Gf.sz m) (2 * Gf.sz m)) := cell_at hb 4
  have s0 := Gf.sz_pos hm
  have s1 : (1:Int) ≤ (Gf.sz m : Int) := by omega
  have s2 := sz_le hm.2
  have s3 : Gf.sz m ≠ 0 := by omega
  have t1 := turn_lt n s0
  have b1 := Int.lt_tmod_of_pos n (show (0:Int) < Gf.sz m by omega)
  have b2 := Int.tmod_lt_of_pos n (show (0:Int) < Gf.sz m by omega)
  have cp : w.cell? ⟨p, turn n (Gf.sz m), none⟩ = some (.int .i64 (Gf.pw m (turn n (Gf.sz m)))) := fa_cell hp (by omega)
  have t2 : (turn n (Gf.sz m) : Int) < 2 * (Gf.sz m : Int) := by omega
  have e1 : IntKind.i64.wrap (n.tmod (Gf.sz m) + Gf.sz m) = n.tmod (Gf.sz m) + Gf.sz m := IntWalk.i64_in _ (by omega)
  have e2 : (n.tmod (Gf.sz m) + Gf.sz m).tmod (Gf.sz m) = turn n (Gf.sz m) := by rw [tmod_turn _ _ s0, turn_cast n s0]
  clear hb hl hp b1 b2
  go_enter Tryz.func60, Tryz.ntmps60
  go_wp2_with (first | (go_at_call 82; refine (do_done _ _ _ c1).mono ?_; rintro e w' ⟨rfl, rfl⟩) | (go_at_call 84; refine (size_any _ m _ c0 hm.2).mono ?_; rintro e w' ⟨rfl, rfl⟩))
  go_quiet (fail)
  go_wp2
  go_ret
  exact ⟨rfl, _, rfl⟩
end Go.Proofs.YtoanopegoilcnaaGreat
/- Walks over gf: products, logarithms, inverses, values, where the tables are made. -/
namespace Go.Proofs.YtoanopegoilcnaaGreat
open Go.RowKit Go.Mem

set_option maxRecDepth 100000 in
set_option maxHeartbeats 400000 in
theorem mul_made (b m a c : Nat) (w : World) (hm : Gf.Ok m) (h : Made w b m) (ha : a < 2^m) (hc : c < 2^m) :
    Calls Tryz.prog 78 #[.pointer (some ⟨b, 0, none⟩), .int .i64 a, .int .i64 c] w fun e w' => e = .returned (.int .i64 (Gf.mul m a c)) ∧ ∃ k, w' = w.drewN k := by
  obtain ⟨p, l, hb, hp, hl⟩ := h
  have c0 : w.cell? ⟨b, 0, none⟩ = some (.int .i64 m) := cell_at hb 0
  have c1 : w.cell? ⟨b, 1, none⟩ = some (.int .u32 1) := cell_at hb 1
  have c4 : w.cell? ⟨b, 4, none⟩ = some (.slice (some ⟨p, 0, none⟩) (2 * Gf.sz m) (2 * Gf.sz m)) := cell_at hb 4
  have c5 : w.cell? ⟨b, 5, none⟩ = some (.slice (some ⟨l, 0, none⟩) (Gf.sz m + 1) (Gf.sz m + 1)) := cell_at hb 5
  have s0 := Gf.sz_pos hm
  have s2 := sz_le hm.2
  have hsz : Gf.sz m + 1 = 2^m := by unfold Gf.sz; have := Nat.two_pow_pos m; omega
  have l1 := Gf.lg_lt hm a
  have l2 := Gf.lg_lt hm c
  have cl1 : w.cell? ⟨l, a, none⟩ = some (.int .i64 (Gf.lg m a)) := fa_cell hl (by omega)
  have cl2 : w.cell? ⟨l, c, none⟩ = some (.int .i64 (Gf.lg m c)) := fa_cell hl (by omega)
  have cp : w.cell? ⟨p, Gf.lg m a + Gf.lg m c, none⟩ = some (.int .i64 (Gf.pw m (Gf.lg m a + Gf.lg m c))) := fa_cell hp (by omega)
  have ia1 : (a : Int) < (Gf.sz m : Int) + 1 := by omega
  have ia2 : (c : Int) < (Gf.sz m : Int) + 1 := by omega
  have e0 : IntKind.i64.wrap ((Gf.lg m a : Int) + Gf.lg m c) = ((Gf.lg m a + Gf.lg m c : Nat) : Int) := by rw [IntWalk.i64_in _ (by omega)]; simp
  have ib : ((Gf.lg m a + Gf.lg m c : Nat) : Int) < 2 * (Gf.sz m : Int) := by omega
  clear hb hl hp hsz ha hc
  by_cases a0 : a = 0
  · subst a0
    go_enter Tryz.func78, Tryz.ntmps78
    go_wp2_with (first | (go_at_call 81; refine (in_any b m _ _ c0 hm.2 (by omega) (by omega)).mono ?_; rintro e w' ⟨rfl, rfl⟩))
    go_ret
    exact ⟨by simp [Gf.mul], 0, rfl⟩
  · by_cases q0 : c = 0
    · subst q0
      have t1 : ((a:Int) == 0) = false := by simp [a0]
      go_enter Tryz.func78, Tryz.ntmps78
      go_wp2_with (first | (go_at_call 81; refine (in_any b m _ _ c0 hm.2 (by omega) (by omega)).mono ?_; rintro e w' ⟨rfl, rfl⟩))
      go_ret
      exact ⟨by simp [Gf.mul], 0, rfl⟩
    · have t1 : ((a:Int) == 0) = false := by simp [a0]
      have t2 : ((c:Int) == 0) = false := by simp [q0]
      have hmul : Gf.mul m a c = Gf.pw m (Gf.lg m a + Gf.lg m c) := by unfold Gf.mul; rw [if_neg (by omega)]
      have HM := hid hmul; clear hmul
      go_enter Tryz.func78, Tryz.ntmps78
      go_wp2_with (first | (go_at_call 81; refine (in_any b m _ _ c0 hm.2 (by omega) (by omega)).mono ?_; rintro e w' ⟨rfl, rfl⟩) | (go_at_call 82; refine (do_done _ _ _ c1).mono ?_; rintro e w' ⟨rfl, rfl⟩))
      go_quiet (fail)
      go_wp2
      go_ret
      exact ⟨by rw [HM.out]; rfl, _, rfl⟩

set_option maxRecDepth 100000 in
set_option maxHeartbeats 400000 in
theorem log_made (b m a : Nat) (w : World) (hm : Gf.Ok m) (h : Made w b m) (ha : a ≤ Gf.sz m) (a0 : a ≠ 0) :
    Calls Tryz.prog 95 #[.pointer (some ⟨b, 0, none⟩), .int .i64 a] w fun e w' => e = .returned (.int .i64 (Gf.lg m a)) ∧ w = w' := by
  obtain ⟨p, l, hb, hp, hl⟩ := h
  have c0 : w.cell? ⟨b, 0, none⟩ = some (.int .i64 m) := cell_at hb 0
  have c1 : w.cell? ⟨b, 1, none⟩ = some (.int .u32 1) := cell_at hb 1
  have c5 : w.cell? ⟨b, 5, none⟩ = some (.slice (some ⟨l, 0, none⟩) (Gf.sz m + 1) (Gf.sz m + 1)) := cell_at hb 5
  have s2 := sz_le hm.2
  have l1 := Gf.lg_lt hm a
  have cl1 : w.cell? ⟨l, a, none⟩ = some (.int .i64 (Gf.lg m a)) := fa_cell hl (by omega)
  have ia1 : (a : Int) < (Gf.sz m : Int) + 1 := by omega
  have t1 : ((a:Int) == 0) = false := by simp [a0]
  clear hb hl hp
  go_enter Tryz.func95, Tryz.ntmps95
  go_wp2_with (first | (go_at_call 81; refine (in_any b m _ _ c0 hm.2 (by omega) (by omega)).mono ?_; rintro e w' ⟨rfl, rfl⟩) | (go_at_call 82; refine (do_done _ _ _ c1).mono ?_; rintro e w' ⟨rfl, rfl⟩))
  go_ret
  exact ⟨rfl, rfl⟩

theorem pw_neg {m : Nat} (hm : Gf.Ok m) (k : Nat) (hk : k ≤ Gf.sz m) : Gf.pw m (turn (-(k : Int)) (Gf.sz m)) = Gf.pw m (Gf.sz m - k) := by
  have s0 := Gf.sz_pos hm
  rw [Gf.pw_eq_iff hm]
  have h1 := turn_cast (-(k:Int)) s0
  have h2 : ((turn (-(k:Int)) (Gf.sz m) % Gf.sz m : Nat) : Int) = ((Gf.sz m - k) % Gf.sz m : Nat) := by
    rw [Int.natCast_emod, h1, Int.natCast_emod, Int.emod_emod_of_dvd _ (Int.dvd_refl _), show ((Gf.sz m - k : Nat) : Int) = -(k:Int) + Gf.sz m by omega, Int.add_emod_right]
  exact_mod_cast h2


set_option maxRecDepth 100000 in
set_option maxHeartbeats 400000 in
theorem inv_made (b m a : Nat) (w : World) (hm : Gf.Ok m) (h : Made w b m) (ha : a ≤ Gf.sz m) (a0 : a ≠ 0) :
    Calls Tryz.prog 80 #[.pointer (some ⟨b, 0, none⟩), .int .i64 a] w fun e w' => e = .returned (.int .i64 (Gf.inv m a)) ∧ ∃ k, w' = w.drewN k := by
  have s2 := sz_le hm.2
  have l1 := Gf.lg_lt hm a
  have c0 : w.cell? ⟨b, 0, none⟩ = some (.int .i64 m) := by obtain ⟨p, l, hb, hp, hl⟩ := h; exact cell_at hb 0
  have t1 : ((a:Int) == 0) = false := by simp [a0]
  have hi : Gf.pw m (turn (-(Gf.lg m a : Int)) (Gf.sz m)) = Gf.inv m a := by rw [pw_neg hm _ (by omega)]; unfold Gf.inv; rw [if_neg a0]
  have HI := hid hi; clear hi
  go_enter Tryz.func80, Tryz.ntmps80
  go_wp2_with (first | (go_at_call 81; refine (in_any b m _ _ c0 hm.2 (by omega) (by omega)).mono ?_; rintro e w' ⟨rfl, rfl⟩) | (go_at_call 95; refine (log_made b m a _ hm h ha a0).mono ?_; rintro e w' ⟨rfl, rfl⟩) | (go_at_call 60; refine (exp_made b m _ _ hm h).mono ?_; rintro e w' ⟨rfl, k, rfl⟩))
  go_ret
  exact ⟨by rw [← HI.out]; rfl, k, rfl⟩

set_option maxRecDepth 100000 in
set_option maxHeartbeats 400000 in
theorem eval_made (b m x : Nat) (v : Value) (xs : List Nat) (w : World) (hm : Gf.Ok m) (h : Made w b m) (hx : x < 2^m) (hv : Rd .i64 w v xs) (he : ∀ y ∈ xs, y < 2^m) :
    Calls Tryz.prog 59 #[.pointer (some ⟨b, 0, none⟩), v, .int .i64 x] w fun e w' => e = .returned (.int .i64 (Gf.ev m xs x)) ∧ ∃ k, w' = w.drewN k := by
  have hl := hv.len
  obtain ⟨a, cap, rfl, _, _, hc⟩ := hv
  have c0 : w.cell? ⟨b, 0, none⟩ = some (.int .i64 m) := by obtain ⟨p, l, hb, hp, hl⟩ := h; exact cell_at hb 0
  go_enter Tryz.func59, Tryz.ntmps59
  go_wp2
  go_loopw [7, 8] (fun y i wr => ∃ k : Nat, k ≤ xs.length ∧ i = .int .i64 ((k : Int) - 1) ∧ y = .int .i64 (Gf.ev m (xs.drop k) x) ∧ ∃ n, wr = w.drewN n) (fun _ i _ => (intOf i + 1).toNat)
  case atStart => exact ⟨xs.length, Nat.le_refl _, rfl, by simp [Gf.ev], 0, rfl⟩
  case round =>
    obtain ⟨k, hk, rfl, rfl, hw⟩ := hrel
    have HW := hid hw
    have h' : Made wr b m := by obtain ⟨n, rfl⟩ := hw; exact h
    have c0' : wr.cell? ⟨b, 0, none⟩ = some (.int .i64 m) := by obtain ⟨n, rfl⟩ := hw; exact c0
    cases k with
    | zero =>
      clear hw
      go_wp2
      go_ret
      exact ⟨rfl, HW.out⟩
    | succ k =>
      obtain ⟨g, o, rfl, hcell0⟩ := hc k (by omega)
      have hcell : wr.cell? ⟨g, o + k, none⟩ = some (.int .i64 ((xs.getD k 0 : Nat) : Int)) := by obtain ⟨n, rfl⟩ := hw; exact hcell0
      clear hw hcell0
      have hb1 : xs.getD k 0 < 2^m := he _ (getD_mem (by omega))
      have hb2 : Gf.ev m (xs.drop (k+1)) x < 2^m := Gf.ev_lt hm _ _ (fun y hy => he y (List.mem_of_mem_drop hy))
      have hb3 := Gf.mul_lt hm (Gf.ev m (xs.drop (k+1)) x) x
      have h13 : 2^m ≤ 2^13 := Nat.pow_le_pow_right (by omega) hm.2
      have ex := xor_i64 (Gf.mul m (Gf.ev m (xs.drop (k+1)) x) x) (xs.getD k 0) (by omega) (by omega)
      have en := hid (Gf.ev_drop m xs x k (by omega))
      have ein : ((xs.getD k 0 : Nat) : Int) ≤ (Gf.sz m : Int) := by unfold Gf.sz; omega
      have ek : ((k + 1 : Nat) : Int) - 1 = k := by omega
      rw [ek]
      have hkl : (k : Int) < (xs.length : Int) := by omega
      clear hc he hb1 h13 ek
      generalize Gf.ev m (xs.drop (k+1)) x = y0 at *
      generalize xs.getD k 0 = x0 at *
      go_wp2
      go_quiet ((first | (go_at_call 78; exact Calls.quiet_of (mul_made b m _ _ _ hm (by exact h') hb2 hx)) | (go_at_call 81; exact quiet_eq (in_any b m _ _ (by exact c0') hm.2 (by omega) ein))))
      go_wp2
      go_roundw
      case rel =>
        obtain ⟨n, hn⟩ := HW.out
        exact ⟨k, by omega, by go_num, by rw [en.out], n + nq, by rw [hn, World.drewN_drewN]⟩
      case measure => simp [intOf]
end Go.Proofs.YtoanopegoilcnaaGreat
/- Walks over gf: rows without noughts at their end; products of polynomials. -/
namespace Go.Proofs.YtoanopegoilcnaaGreat
open Go.RowKit Go.Mem

/-- A row is handed back. -/
def RetRd (k : IntKind) (w : World) (xs : List Nat) (e : Ending) : Prop := ∃ v, e = .returned v ∧ Rd k w v xs

set_option maxRecDepth 100000 in
set_option maxHeartbeats 400000 in
theorem trim_any (v : Value) (xs : List Nat) (w : World) (hv : Rd .i64 w v xs) :
    Calls Tryz.prog 101 #[v] w fun e w' => RetRd .i64 w (Gf.trim xs) e ∧ w = w' := by
  have hl := hv.len
  obtain ⟨a, cap, rfl, hcap, hmax, hc⟩ := hv
  have Hc := hid hc
  go_enter Tryz.func101, Tryz.ntmps101
  go_wp2
  go_loop [0] (fun s => ∃ k : Nat, k ≤ xs.length ∧ s = .slice a k cap ∧ Gf.trim (xs.take k) = Gf.trim xs) (fun s => lenOf s)
  case atStart => exact ⟨xs.length, Nat.le_refl _, rfl, by rw [List.take_length]⟩
  case round =>
    obtain ⟨k, hk, rfl, ht⟩ := hrel
    have HT := hid ht
    clear ht hc
    cases k with
    | zero =>
      go_wp2
      go_ret
      refine ⟨⟨_, rfl, ?_⟩, rfl⟩
      rw [← HT.out]
      exact ⟨a, cap, rfl, Nat.zero_le _, hmax, fun j hj => by simp [Gf.trim] at hj⟩
    | succ k =>
      obtain ⟨g, o, rfl, hcell⟩ := Hc.out k (by omega)
      have ek : ((k + 1 : Nat) : Int) = (k : Int) + 1 := by omega
      have ek2 : (k : Int) + 1 - 1 = k := by omega
      have hkc : k ≤ cap := by omega
      by_cases h0 : xs.getD k 0 = 0
      · have h1 := Gf.trim_take_succ xs k (by omega) h0
        have H1 := hid h1; clear h1
        rw [h0] at hcell
        go_wp2
        go_round
        case rel => exact ⟨k, by omega, by simp, by rw [← H1.out]; exact HT.out⟩
        case measure => simp [lenOf]
      · have h1 := Gf.trim_take_self xs k (by omega) h0
        have H1 := hid h1; clear h1
        have hb : (((xs.getD k 0 : Nat) : Int) == 0) = false := beq_eq_false_iff_ne.2 (by omega)
        generalize xs.getD k 0 = x0 at hcell hb h0
        go_wp2
        go_ret
        refine ⟨⟨_, rfl, ?_⟩, rfl⟩
        rw [← HT.out, H1.out]
        have hlen : (xs.take (k+1)).length = k + 1 := by simp; omega
        refine ⟨some ⟨g, o, none⟩, cap, by rw [hlen]; rfl, by omega, hmax, fun j hj => ?_⟩
        obtain ⟨g', o', he, hx⟩ := Hc.out j (by omega)
        refine ⟨g', o', he, ?_⟩
        rw [hx]
        simp only [List.getD]
        rw [List.getElem?_take_of_lt (by omega)]

theorem info_int : (Tryz.prog.info? 3).map (fun i => (i.zero, i.size, i.bytes)) = some (some (.int .i64 0), 1, 8) := by kernel_rfl
theorem mk_int (n : Nat) (h : n ≤ 1000000000) (w : World) : (Instr.makeSlice 31 (.int .i64 n) (.int .i64 n)).run Tryz.prog w = .ok (.slice (some ⟨w.heap.size, 0, none⟩) n n) (w.alloc (.cells (fa .i64 n (fun _ => 0)) 3)) := by
  obtain ⟨i, hi, hz, hs, hb⟩ := info_parts info_int
  have := run_make (P := Tryz.prog) w 31 3 i _ Tryz.underlying31 hi hz .i64 .i64 n n (by omega) (Int.le_refl _) (by rw [hb]; omega) (by omega)
  rw [hs] at this
  simp only [Int.toNat_natCast, made_fa] at this
  exact this

theorem times_nil (b m : Nat) (v1 v2 : Value) (p q : List Nat) (w : World) (h1 : Rd .i64 w v1 p) (h2 : Rd .i64 w v2 q) (hn : p = [] ∨ q = []) :
    Calls Tryz.prog 89 #[.pointer (some ⟨b, 0, none⟩), v1, v2] w fun e w' => RetRd .i64 w' (Gf.times m p q) e ∧ Below w.heap.size w w' := by
  obtain ⟨a1, k1, rfl, _, _, hc1⟩ := h1
  obtain ⟨a2, k2, rfl, _, _, hc2⟩ := h2
  have ht : Gf.times m p q = [] := by unfold Gf.times; rw [if_pos hn]
  have hr : ∀ w : World, RetRd .i64 w (Gf.times m p q) (.returned (.slice none 0 0)) := fun w => ⟨_, rfl, none, 0, by rw [ht]; rfl, by rw [ht]; exact Nat.le_refl _, Nat.zero_le _, fun j hj => by rw [ht] at hj; exact absurd hj (Nat.not_lt_zero _)⟩
  have HR := hid hr
  clear hr ht hc1 hc2
  by_cases hp : p.length = 0
  · have t1 : ((p.length : Int) == 0) = true := by simp [hp]
    have HP := hid hn
    clear hn hp
    go_enter Tryz.func89, Tryz.ntmps89
    go_wp2
    go_ret
    exact ⟨HR.out _, Below.refl _ _⟩
  · have hq : q.length = 0 := by rcases hn with h | h <;> simp_all
    have t1 : ((p.length : Int) == 0) = false := by simpa using hp
    have t2 : ((q.length : Int) == 0) = true := by simp [hq]
    have HP := hid hn
    clear hn hp hq
    go_enter Tryz.func89, Tryz.ntmps89
    go_wp2
    go_ret
    exact ⟨HR.out _, Below.refl _ _⟩

set_option maxRecDepth 100000 in
set_option maxHeartbeats 800000 in
theorem times_made (b m : Nat) (v1 v2 : Value) (p q : List Nat) (w : World) (hm : Gf.Ok m) (h : Made w b m) (h1 : Rd .i64 w v1 p) (h2 : Rd .i64 w v2 q)
    (hp : ∀ y ∈ p, y < 2^m) (hq : ∀ y ∈ q, y < 2^m) (p0 : p ≠ []) (q0 : q ≠ []) (hl : p.length + q.length ≤ 1000000) :
    Calls Tryz.prog 89 #[.pointer (some ⟨b, 0, none⟩), v1, v2] w fun e w' => RetRd .i64 w' (Gf.times m p q) e ∧ Below w.heap.size w w' := by
  obtain ⟨a1, k1, rfl, _, _, hc1⟩ := h1
  obtain ⟨a2, k2, rfl, _, _, hc2⟩ := h2
  have np : 0 < p.length := List.length_pos_iff.2 p0
  have nq : 0 < q.length := List.length_pos_iff.2 q0
  have t1 : ((p.length : Int) == 0) = false := beq_eq_false_iff_ne.2 (by omega)
  have t2 : ((q.length : Int) == 0) = false := beq_eq_false_iff_ne.2 (by omega)
  have Hc1 := hid hc1
  have Hc2 := hid hc2
  have Hh := hid h
  have eN : (p.length : Int) + q.length - 1 = ((p.length + q.length - 1 : Nat) : Int) := by omega
  have hmk : ∀ w, (Instr.makeSlice 31 (.int .i64 ((p.length : Int) + q.length - 1)) (.int .i64 ((p.length : Int) + q.length - 1))).run Tryz.prog w = .ok (.slice (some ⟨w.heap.size, 0, none⟩) (p.length + q.length - 1) (p.length + q.length - 1)) (w.alloc (.cells (fa .i64 (p.length + q.length - 1) (fun _ => 0)) 3)) := fun w => by
    rw [eN]; exact mk_int _ (by omega) w
  clear hc1 hc2 h eN
  go_enter Tryz.func89, Tryz.ntmps89
  go_wp2
  go_loopw [33] (fun i wr => ∃ I : Nat, I ≤ p.length ∧ i = .int .i64 I ∧ Below w.heap.size w wr ∧ wr.heap[w.heap.size]? = some (.cells (fa .i64 (p.length + q.length - 1) (Gf.cf m p q I)) 3 (0, 0))) (fun i _ => p.length - (intOf i).toNat)
  case atStart => exact ⟨0, Nat.zero_le _, rfl, (Below.refl _ _).alloc (Nat.le_refl _) _, alloc_new _ _⟩
  case round =>
    obtain ⟨I, hI, rfl, hb, hg⟩ := hrel
    have HB := hid hb
    have HG := hid hg
    clear hb hg
    by_cases hlt : I < p.length
    · obtain ⟨g1, o1, rfl, hx1⟩ := Hc1.out I hlt
      have cx : wr.cell? ⟨g1, o1 + I, none⟩ = some (.int .i64 ((p.getD I 0 : Nat) : Int)) := by rw [HB.out.cell (World.block_lt_of_cell? _ _ hx1)]; exact hx1
      have hx := hid hx1
      clear hx1
      have hxl : p.getD I 0 < 2^m := hp _ (getD_mem hlt)
      have HX := hid hxl
      clear hxl
      generalize ex : p.getD I 0 = x at cx HX
      have EX := hid ex
      clear ex
      obtain ⟨wo, rfl⟩ : ∃ wo : World, wo = wr := ⟨_, rfl⟩
      go_wp2
      clear cx
      go_loopw [40] (fun i wr => ∃ K : Nat, K ≤ q.length ∧ i = .int .i64 K ∧ Below w.heap.size w wr ∧ wr.heap[w.heap.size]? = some (.cells (fa .i64 (p.length + q.length - 1) (Gf.cfk m p q I K)) 3 (0, 0))) (fun i _ => q.length - (intOf i).toNat)
      case atStart => exact ⟨0, Nat.zero_le _, rfl, HB.out, by rw [Gf.cfk_zero]; exact HG.out⟩
      case round =>
        obtain ⟨K, hK, rfl, hb2, hg2⟩ := hrel
        have HB2 := hid hb2
        have HG2 := hid hg2
        clear hb2 hg2
        by_cases hlt2 : K < q.length
        · obtain ⟨g2, o2, rfl, hy2⟩ := Hc2.out K hlt2
          have cy : wr.cell? ⟨g2, o2 + K, none⟩ = some (.int .i64 ((q.getD K 0 : Nat) : Int)) := by rw [HB2.out.cell (World.block_lt_of_cell? _ _ hy2)]; exact hy2
          have hy := hid hy2
          clear hy2
          have hyl : q.getD K 0 < 2^m := hq _ (getD_mem hlt2)
          have HY := hid hyl
          clear hyl
          generalize ey : q.getD K 0 = y at cy HY
          have EY := hid ey
          clear ey
          have h13 : 2^m ≤ 2^13 := Nat.pow_le_pow_right (by omega) hm.2
          have hc0 := Gf.cfk_lt hm p q I K (I + K)
          have hml := Gf.mul_lt hm x y
          have cz : wr.cell? ⟨w.heap.size, I + K, none⟩ = some (.int .i64 ((Gf.cfk m p q I K (I + K) : Nat) : Int)) := fa_cell HG2.out (by omega)
          have fz : wr.frozen? ⟨w.heap.size, I + K, none⟩ = false := free_at HG2.out _
          have ex := xor_i64 (Gf.cfk m p q I K (I + K)) (Gf.mul m x y) (by omega) (by omega)
          have es : IntKind.i64.wrap ((I : Int) + K) = ((I + K : Nat) : Int) := by rw [IntWalk.i64_in _ (by omega)]; simp
          have hb1 : ((I + K : Nat) : Int) < ((p.length + q.length - 1 : Nat) : Int) := by omega
          have hM : Made wr b m := Hh.out.below (HB2.out.mono (Nat.le_refl _))
          clear h13 hc0 hml
          generalize ev : Gf.cfk m p q I K (I + K) = v0 at cz ex
          have EV := hid ev
          clear ev
          go_wp2
          refine wp_region_quiet_tail 12 (by kernel_rfl) (by kernel_rfl) ?_
          simp only [List.take_succ_cons, List.take_zero, List.drop_succ_cons, List.drop_zero]
          repeat (go_big_quiet_step ((go_at_call 78; exact Calls.quiet_of (mul_made b m _ _ _ hm (by exact hM) HX.out HY.out))))
          refine wpQuiet_nil ?_
          intro _ hw'
          obtain ⟨nq, hw''⟩ := hw'
          subst hw''
          go_wp2
          go_roundw
          case rel =>
            refine ⟨K + 1, by omega, by go_num, ?_, ?_⟩
            · first | exact Below.drewN (HB2.out.setCell (Nat.le_refl _) _) nq | exact (Below.drewN HB2.out nq).setCell (Nat.le_refl _) _
            · refine (set_fa HG2.out (I + K) (v0 ^^^ Gf.mul m x y)).trans ?_
              rw [fa_congr (fun j _ => ?_)]
              rw [Gf.cfk_succ, EX.out, EY.out]
              unfold upd
              split
              · rename_i hj; rw [hj, EV.out]
              · rfl
          case measure => simp [intOf]; omega
        · have eK : K = q.length := by omega
          subst eK
          go_wp2
          go_roundw
          case rel => exact ⟨I + 1, by omega, by go_num, HB2.out, HG2.out⟩
          case measure => simp [intOf]; omega
    · have eI : I = p.length := by omega
      subst eI
      have hr : Rd .i64 wr (.slice (some ⟨w.heap.size, 0, none⟩) (p.length + q.length - 1) (p.length + q.length - 1)) (Gf.prod m p q) := Rd.of_fa HG.out _ _ (Nat.le_refl _) (Nat.le_refl _) (by unfold maxLen; omega)
      have ht : Gf.times m p q = Gf.trim (Gf.prod m p q) := by unfold Gf.times; rw [if_neg (by simp [p0, q0])]
      have HT := hid ht
      have HR := hid hr
      clear ht hr
      go_wp2_with (go_at_call 101; refine (trim_any _ _ _ HR.out).mono ?_; rintro e w' ⟨⟨v, rfl, hv⟩, rfl⟩)
      go_ret
      exact ⟨⟨v, rfl, by rw [HT.out]; exact hv⟩, HB.out⟩
end Go.Proofs.YtoanopegoilcnaaGreat
