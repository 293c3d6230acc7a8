/- Walks over bits: Len. -/
import Derived.Test.YtkdjefnnhanhhaaUk
import Derived.Deep.Cut
import Derived.Sort.LotD1
set_option linter.unusedVariables false
namespace Go.Proofs.Ytkdjefnnhanhhaa
open Go Go.RowKit Go.Mem Go.Sort
set_option linter.unusedVariables false

theorem len_wx {t : ByteArray} {x : Nat} {h : x < t.size} (hx : x < 256) (ht : (List.range 256).all (fun i => (t.data[i]?.getD 0).toNat == bitsLen i) = true) :
    wrap64 (wrap64 (((t[x]'h).toNat : Nat) : Int)) = ((bitsLen x : Nat) : Int) := by
  have e := List.all_eq_true.1 ht x (by simpa using hx)
  have e2 : (t[x]'h).toNat = bitsLen x := by
    have := eq_of_beq e
    rw [Array.getElem?_eq_getElem (by exact h)] at this
    exact this
  have l := (t[x]'h).toNat_lt
  rw [e2] at l ⊢
  have e3 := IntWalk.wrap64_in ((bitsLen x : Nat) : Int) ⟨by omega, by omega⟩
  rw [e3, e3]
theorem bitsLen_up {x : Nat} (hx : 256 ≤ x) : bitsLen x = 8 + bitsLen (x / 256) := by
  have h : ∀ k, bitsLen x ≤ k ↔ 8 + bitsLen (x / 256) ≤ k := fun k => by
    rw [bitsLen_le_iff]
    by_cases hk : k < 8
    · have : 2 ^ k ≤ 2 ^ 7 := Nat.pow_le_pow_right (by decide) (by omega)
      omega
    · obtain ⟨j, rfl⟩ : ∃ j, k = 8 + j := ⟨k - 8, by omega⟩
      rw [Nat.add_le_add_iff_left, bitsLen_le_iff, Nat.pow_add, Nat.div_lt_iff_lt_mul (by decide), Nat.mul_comm]
  exact Nat.le_antisymm ((h _).2 (Nat.le_refl _)) ((h _).1 (Nat.le_refl _))
theorem len_wx8 {t : ByteArray} {x : Nat} {h : x < t.size} (hx : x < 256) (ht : (List.range 256).all (fun i => (t.data[i]?.getD 0).toNat == bitsLen i) = true) :
    wrap64 (8 + wrap64 (((t[x]'h).toNat : Nat) : Int)) = ((8 + bitsLen x : Nat) : Int) := by
  have e := List.all_eq_true.1 ht x (by simpa using hx)
  have e2 : (t[x]'h).toNat = bitsLen x := by
    have := eq_of_beq e
    rw [Array.getElem?_eq_getElem (by exact h)] at this
    exact this
  have l := (t[x]'h).toNat_lt
  rw [e2] at l ⊢
  have e3 := IntWalk.wrap64_in ((bitsLen x : Nat) : Int) ⟨by omega, by omega⟩
  have e4 := IntWalk.wrap64_in (8 + ((bitsLen x : Nat) : Int)) ⟨by omega, by omega⟩
  rw [e3, e4]
  simp
theorem ret_int {a b : Int} (h : a = b) : Ending.returned (.int .i64 a) = Ending.returned (.int .i64 b) := by rw [h]
set_option maxRecDepth 100000 in
set_option maxHeartbeats 3200000 in
theorem len64x_any (x : Nat) (w : World) (hx : x < 65536) :
    Calls Try.prog 71 #[.int .u64 (x : Nat)] w fun e w' => e = .returned (.int .i64 (bitsLen x : Nat)) ∧ w = w' := by
  have h1 : ¬ (4294967296 : Int) ≤ (x : Int) := by omega
  have h2 : ¬ (65536 : Int) ≤ (x : Int) := by omega
  by_cases h3 : x < 256
  · have h4 : ¬ (256 : Int) ≤ (x : Int) := by omega
    have HX := Lib.hid h3
    go_enter Try.func71, Try.ntmps71
    go_wp2_with fail
    go_ret
    exact ⟨ret_int (len_wx HX.out (by decide +kernel)), rfl⟩
  · have h4 : (256 : Int) ≤ (x : Int) := by omega
    rw [bitsLen_up (by omega)]
    go_enter Try.func71, Try.ntmps71
    go_upto_region 10 with (fail)
    obtain ⟨y, hy⟩ : ∃ y, x / 256 = y := ⟨_, rfl⟩
    have hy2 : y < 256 := by omega
    have hy3 : (x : Int) / 256 = (y : Int) := by omega
    rw [hy3]
    have hy4 : (y : Int) < 256 := by omega
    have HX := Lib.hid hy2
    have HY := Lib.hid hy
    clear hy hy3 h1 h2 h3 h4 hx hy2
    go_wp2_with fail
    go_ret
    exact ⟨by rw [HY.out]; exact ret_int (len_wx8 HX.out (by decide +kernel)), rfl⟩
set_option maxHeartbeats 3200000 in
theorem lenx_any (x : Nat) (w : World) (hx : x < 65536) :
    Calls Try.prog 58 #[.int .u64 (x : Nat)] w fun e w' => e = .returned (.int .i64 (bitsLen x : Nat)) ∧ w = w' := by
  have HL := Lib.hid (len64x_any x w hx)
  go_enter Try.func58, Try.ntmps58
  go_wp2_with fail
  refine HL.out.mono ?_
  rintro e w' ⟨rfl, rfl⟩
  go_wp2_with fail
  go_ret
  exact ⟨rfl, rfl⟩
end Go.Proofs.Ytkdjefnnhanhhaa
