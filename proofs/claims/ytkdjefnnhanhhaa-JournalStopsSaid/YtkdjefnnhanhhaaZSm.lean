/- Walks over bits: nextPowerOfTwo, xorshift.Next. -/
import Derived.Test.YtkdjefnnhanhhaaZSn
import Derived.Sort.Walk7a
set_option linter.unusedVariables false
namespace Go.Proofs.Ytkdjefnnhanhhaa
open Go Go.RowKit Go.Mem Go.Sort
set_option linter.unusedVariables false

theorem bitsLen_small {x : Nat} (hx : x < 65536) : bitsLen x ≤ 16 := (bitsLen_le_iff x 16).2 (by omega)
set_option maxHeartbeats 3200000 in
theorem nextPow_any (n : Nat) (w : World) (hn : n < 65536) :
    Calls Try.prog 74 #[.int .i64 (n : Nat)] w fun e w' => e = .returned (.int .u64 ((1 <<< bitsLen n : Nat) : Int)) ∧ w = w' := by
  have HL := Lib.hid (fun w => lenx_any n w hn)
  have hk := bitsLen_small hn
  have hp := wrap_two_pow (bitsLen n) (by omega)
  obtain ⟨K, hK⟩ : ∃ K, bitsLen n = K := ⟨_, rfl⟩
  rw [hK] at HL hk hp ⊢
  clear hK
  go_enter Try.func74, Try.ntmps74
  go_wp2_with fail
  refine (HL.out _).mono ?_
  rintro e w' ⟨rfl, rfl⟩
  go_wp2_with fail
  go_ret
  exact ⟨rfl, rfl⟩
set_option maxRecDepth 1000000 in
set_option maxHeartbeats 6400000 in
theorem next_any (q X : Nat) (w : World) (hX : X < 18446744073709551616) (hq : w.heap[q]? = some (.cells #[.int .u64 (X : Nat)] 123 (0, 0))) :
    Calls Try.prog 75 #[.pointer (some ⟨q, 0, none⟩)] w fun e w' => e = .returned (.int .u64 (xorNextN X : Nat)) ∧ w' = (w.setCell ⟨q, 0, none⟩ (.int .u64 (xorNextN X : Nat))).drewN 3 := by
  have hc : w.cell? ⟨q, 0, none⟩ = some (.int .u64 (X : Nat)) := cell_at hq 0
  have hf : w.frozen? ⟨q, 0, none⟩ = false := free_at hq 0
  obtain ⟨A, hA⟩ : ∃ A : Nat, A = X ^^^ (X * 8192 % 18446744073709551616) := ⟨_, rfl⟩
  obtain ⟨B, hB⟩ : ∃ B : Nat, B = A ^^^ (A / 128) := ⟨_, rfl⟩
  obtain ⟨C, hC⟩ : ∃ C : Nat, C = B ^^^ (B * 131072 % 18446744073709551616) := ⟨_, rfl⟩
  have lA : A < 18446744073709551616 := by rw [hA]; exact Nat.xor_lt_two_pow (n := 64) (by omega) (by omega)
  have lB : B < 18446744073709551616 := by rw [hB]; exact Nat.xor_lt_two_pow (n := 64) (by omega) (by omega)
  have e1 : bits .xor .u64 (X : Int) (IntKind.u64.wrap ((X : Int) * 8192)) = (A : Int) := by
    rw [IntKind.wrap_u64, show ((X : Int) * 8192 % 18446744073709551616) = ((X * 8192 % 18446744073709551616 : Nat) : Int) by omega, bits_xor_u64_nat _ _ hX (by omega), hA]
  have e2 : bits .xor .u64 (A : Int) ((A : Int) / 128) = (B : Int) := by
    rw [show ((A : Int) / 128) = ((A / 128 : Nat) : Int) by omega, bits_xor_u64_nat _ _ lA (by omega), hB]
  have e3 : bits .xor .u64 (B : Int) (IntKind.u64.wrap ((B : Int) * 131072)) = (C : Int) := by
    rw [IntKind.wrap_u64, show ((B : Int) * 131072 % 18446744073709551616) = ((B * 131072 % 18446744073709551616 : Nat) : Int) by omega, bits_xor_u64_nat _ _ lB (by omega), hC]
  have hv : xorNextN X = C := by unfold xorNextN; simp only []; rw [← hA, ← hB, ← hC]
  rw [hv]
  clear hA hB hC hv hq
  have hss : ∀ v v', (w.setCell ⟨q, 0, none⟩ v).setCell ⟨q, 0, none⟩ v' = w.setCell ⟨q, 0, none⟩ v' := setCell_setCell w q 0
  go_enter Try.func75, Try.ntmps75
  go_wp2
  go_region
  all_goals go_wp2
  all_goals go_region
  all_goals go_wp2
  all_goals go_region
  all_goals go_wp2
  go_ret
  exact ⟨rfl, rfl⟩
end Go.Proofs.Ytkdjefnnhanhhaa
