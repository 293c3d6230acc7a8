/- Walks over gf: the small functions, and Once where it is done. -/
import Derived.Test.YtjompiihdnaogaaProg
import Derived.Test.YtjompiihdnaogaaGf
import Derived.Test.YtjompiihdnaogaaMem
namespace Go.Proofs.Ytjompiihdnaogaa
open Go.RowKit Go.Mem

set_option maxHeartbeats 400000 in
theorem gfnew_any (m : Int) (w : World) (h : 2 ≤ m) (h2 : m ≤ 13) :
    Calls Try.prog 27 #[.int .i64 m] w fun e w' => e = .returned (.tuple #[.pointer (some ⟨w.heap.size, 0, none⟩), .int .i64 0]) ∧ w' = w.alloc (.cells #[.int .i64 m, .int .u32 0, .int .i32 0, .int .u32 0, .slice none 0 0, .slice none 0 0] 98) := by
  go_enter Try.func27, Try.ntmps27
  go_wp2
  go_ret2
  exact ⟨rfl, rfl⟩

set_option maxHeartbeats 400000 in
theorem do_done (a : Addr) (f : Value) (w : World) (h0 : w.cell? a = some (.int .u32 1)) :
    Calls Try.prog 60 #[.pointer (some a), f] w fun e w' => e = .returned (.tuple #[]) ∧ w = w' := by
  have hl := run_call_load (P := Try.prog) Try.func75 (by kernel_rfl) (by kernel_rfl) (by kernel_rfl) .u32 (by kernel_rfl) h0
  have hnot : ∀ (x : Bool) (w : World), (Op.unary .not (.bool x)).run Try.prog w = .ok (.bool (!x)) w := fun _ _ => rfl
  go_enter Try.func60, Try.ntmps60
  go_wp2
  go_end0
  exact ⟨rfl, rfl⟩

theorem two_pow_pos' (m : Nat) : (1:Int) ≤ 2^m := by
  have := Nat.two_pow_pos m
  have e : ((2^m : Nat) : Int) = 2^m := by simp
  omega
theorem two_pow_le (m : Nat) (h : m ≤ 13) : (2:Int)^m ≤ 8192 := by
  have : 2^m ≤ 2^13 := Nat.pow_le_pow_right (by omega) h
  have e : ((2^m : Nat) : Int) = 2^m := by simp
  omega
theorem sz_cast (m : Nat) : ((Gf.sz m : Nat) : Int) = 2^m - 1 := by
  have := Nat.two_pow_pos m
  have e : ((2^m : Nat) : Int) = 2^m := by simp
  unfold Gf.sz
  omega

set_option maxHeartbeats 400000 in
theorem size_any (b : Nat) (m : Nat) (w : World) (h0 : w.cell? ⟨b, 0, none⟩ = some (.int .i64 m)) (hm' : m ≤ 13) :
    Calls Try.prog 47 #[.pointer (some ⟨b, 0, none⟩)] w fun e w' => e = .returned (.int .i64 (Gf.sz m)) ∧ w = w' := by
  have p1 := two_pow_pos' m
  have p2 := two_pow_le m hm'
  rw [sz_cast]
  go_enter Try.func47, Try.ntmps47
  go_wp2
  go_ret
  have e : wrap64 (2^m : Int) = 2^m := IntWalk.wrap64_in _ (by omega)
  have e2 : wrap64 (2^m - 1 : Int) = 2^m - 1 := IntWalk.wrap64_in _ (by omega)
  exact ⟨by simp, rfl⟩

set_option maxHeartbeats 400000 in
theorem in_any (b : Nat) (m : Nat) (a : Int) (w : World) (h0 : w.cell? ⟨b, 0, none⟩ = some (.int .i64 m)) (hm' : m ≤ 13) (ha : 0 ≤ a) (ha2 : a ≤ (Gf.sz m : Int)) :
    Calls Try.prog 59 #[.pointer (some ⟨b, 0, none⟩), .int .i64 a] w fun e w' => e = .returned (.int .i64 a) ∧ w = w' := by
  go_enter Try.func59, Try.ntmps59
  go_wp2_with (go_at_call 47; refine (size_any _ m _ h0 hm').mono ?_; rintro e w' ⟨rfl, rfl⟩)
  go_ret
  exact ⟨rfl, rfl⟩

/-- A field whose tables are not made yet. -/
def Raw (w : World) (b m : Nat) : Prop :=
  w.heap[b]? = some (.cells #[.int .i64 m, .int .u32 0, .int .i32 0, .int .u32 0, .slice none 0 0, .slice none 0 0] 98 (0, 0))
/-- A field whose tables are made. -/
def Made (w : World) (b m : Nat) : Prop := ∃ p l,
  w.heap[b]? = some (.cells #[.int .i64 m, .int .u32 1, .int .i32 0, .int .u32 0, .slice (some ⟨p, 0, none⟩) (2 * Gf.sz m) (2 * Gf.sz m), .slice (some ⟨l, 0, none⟩) (Gf.sz m + 1) (Gf.sz m + 1)] 98 (0, 0)) ∧
  w.heap[p]? = some (.cells (fa .i64 (2 * Gf.sz m) (Gf.pw m)) 3 (0, 0)) ∧ w.heap[l]? = some (.cells (fa .i64 (Gf.sz m + 1) (Gf.lg m)) 3 (0, 0))

theorem tmod_turn (n : Int) (s : Nat) (hs : 0 < s) : (n.tmod s + s).tmod s = n % s := by
  have h1 := Int.lt_tmod_of_pos n (show (0:Int) < s by omega)
  rw [Int.tmod_eq_emod_of_nonneg (by omega), Int.add_emod_right, Int.tmod_def, Int.sub_mul_emod_self_left]

theorem sz_le {m : Nat} (hm : m ≤ 13) : (Gf.sz m : Int) ≤ 8191 := by rw [sz_cast]; have := two_pow_le m hm; omega

/-- A number, turned into 0 .. s - 1. -/
def turn (n : Int) (s : Nat) : Nat := (n % (s : Int)).toNat
theorem turn_cast (n : Int) {s : Nat} (hs : 0 < s) : ((turn n s : Nat) : Int) = n % s := by
  have := Int.emod_nonneg n (show (s:Int) ≠ 0 by omega)
  unfold turn; omega
theorem turn_lt (n : Int) {s : Nat} (hs : 0 < s) : turn n s < s := by
  have := turn_cast n hs
  have := Int.emod_lt_of_pos n (show (0:Int) < s by omega)
  omega

theorem Made.drewN {w : World} {b m : Nat} (h : Made w b m) (k : Nat) : Made (w.drewN k) b m := h
theorem Made.below {w w' : World} {b m : Nat} (h : Made w b m) (hb : Below w.heap.size w w') : Made w' b m := by
  obtain ⟨p, l, h1, h2, h3⟩ := h
  exact ⟨p, l, by rw [hb.block b (lt_at h1)]; exact h1, by rw [hb.block p (lt_at h2)]; exact h2, by rw [hb.block l (lt_at h3)]; exact h3⟩
theorem Made.m {w : World} {b m : Nat} (h : Made w b m) : w.cell? ⟨b, 0, none⟩ = some (.int .i64 m) := by
  obtain ⟨p, l, h1, h2, h3⟩ := h; exact cell_at h1 0

set_option maxHeartbeats 400000 in
theorem exp_made (b m : Nat) (n : Int) (w : World) (hm : Gf.Ok m) (h : Made w b m) :
    Calls Try.prog 42 #[.pointer (some ⟨b, 0, none⟩), .int .i64 n] w fun e w' => e = .returned (.int .i64 (Gf.pw m (turn n (Gf.sz m)))) ∧ ∃ k, w' = w.drewN k := by
  obtain ⟨p, l, hb, hp, hl⟩ := h
  have c0 : w.cell? ⟨b, 0, none⟩ = some (.int .i64 m) := cell_at hb 0
  have c1 : w.cell? ⟨b, 1, none⟩ = some (.int .u32 1) := cell_at hb 1
  have c4 : w.cell? ⟨b, 4, none⟩ = some (.slice (some ⟨p, 0, none⟩) (2 * Gf.sz m) (2 * Gf.sz m)) := cell_at hb 4
  have s0 := Gf.sz_pos hm
  have s1 : (1:Int) ≤ (Gf.sz m : Int) := by omega
  have s2 := sz_le hm.2
  have s3 : Gf.sz m ≠ 0 := by omega
  have t1 := turn_lt n s0
  have b1 := Int.lt_tmod_of_pos n (show (0:Int) < Gf.sz m by omega)
  have b2 := Int.tmod_lt_of_pos n (show (0:Int) < Gf.sz m by omega)
  have cp : w.cell? ⟨p, turn n (Gf.sz m), none⟩ = some (.int .i64 (Gf.pw m (turn n (Gf.sz m)))) := fa_cell hp (by omega)
  have t2 : (turn n (Gf.sz m) : Int) < 2 * (Gf.sz m : Int) := by omega
  have e1 : IntKind.i64.wrap (n.tmod (Gf.sz m) + Gf.sz m) = n.tmod (Gf.sz m) + Gf.sz m := IntWalk.i64_in _ (by omega)
  have e2 : (n.tmod (Gf.sz m) + Gf.sz m).tmod (Gf.sz m) = turn n (Gf.sz m) := by rw [tmod_turn _ _ s0, turn_cast n s0]
  clear hb hl hp b1 b2
  go_enter Try.func42, Try.ntmps42
  go_wp2_with (first | (go_at_call 60; refine (do_done _ _ _ c1).mono ?_; rintro e w' ⟨rfl, rfl⟩) | (go_at_call 47; refine (size_any _ m _ c0 hm.2).mono ?_; rintro e w' ⟨rfl, rfl⟩))
  go_quiet (fail)
  go_wp2
  go_ret
  exact ⟨rfl, _, rfl⟩
end Go.Proofs.Ytjompiihdnaogaa
