/- Walks over bits: Len of what is below 65536: some number. -/
import Derived.Test.YtboonpfdlbedoaaSa
import Derived.Deep.Cut
namespace Go.Proofs.Ytboonpfdlbedoaa
open Go Go.RowKit Go.Mem Go.Sort

theorem len_w (b : UInt8) : ∃ L : Nat, Ending.returned (.int .i64 (wrap64 (wrap64 (b.toNat : Int)))) = Ending.returned (.int .i64 (L : Nat)) ∧ L ≤ 300 := by
  have h := b.toNat_lt
  refine ⟨b.toNat, ?_, by omega⟩
  have e := IntWalk.wrap64_in (b.toNat : Int) ⟨by omega, by omega⟩
  rw [e, e]
theorem len_w8 (b : UInt8) : ∃ L : Nat, Ending.returned (.int .i64 (wrap64 (8 + wrap64 (b.toNat : Int)))) = Ending.returned (.int .i64 (L : Nat)) ∧ L ≤ 300 := by
  have h := b.toNat_lt
  refine ⟨8 + b.toNat, ?_, by omega⟩
  have e := IntWalk.wrap64_in (b.toNat : Int) ⟨by omega, by omega⟩
  have e2 := IntWalk.wrap64_in (8 + (b.toNat : Int)) ⟨by omega, by omega⟩
  rw [e, e2]
  simp
set_option maxRecDepth 100000 in
set_option maxHeartbeats 3200000 in
theorem len64_any (x : Nat) (w : World) (hx : x < 65536) :
    Calls Try.prog 49 #[.int .u64 (x : Nat)] w fun e w' => (∃ L : Nat, e = .returned (.int .i64 (L : Nat)) ∧ L ≤ 300) ∧ w = w' := by
  have h1 : ¬ (4294967296 : Int) ≤ (x : Int) := by omega
  have h2 : ¬ (65536 : Int) ≤ (x : Int) := by omega
  by_cases h3 : x < 256
  · have h4 : ¬ (256 : Int) ≤ (x : Int) := by omega
    go_enter Try.func49, Try.ntmps49
    go_wp2_with fail
    go_ret
    exact ⟨len_w _, rfl⟩
  · have h4 : (256 : Int) ≤ (x : Int) := by omega
    go_enter Try.func49, Try.ntmps49
    go_upto_region 10 with (fail)
    obtain ⟨y, hy⟩ : ∃ y, x / 256 = y := ⟨_, rfl⟩
    have hy2 : y < 256 := by omega
    have hy3 : (x : Int) / 256 = (y : Int) := by omega
    rw [hy3]
    have hy4 : (y : Int) < 256 := by omega
    clear hy hy3 h1 h2 h3 h4 hx hy2
    go_wp2_with fail
    go_ret
    exact ⟨len_w8 _, rfl⟩
set_option maxHeartbeats 3200000 in
theorem len_any (x : Nat) (w : World) (hx : x < 65536) :
    Calls Try.prog 38 #[.int .u64 (x : Nat)] w fun e w' => (∃ L : Nat, e = .returned (.int .i64 (L : Nat)) ∧ L ≤ 300) ∧ w = w' := by
  have HL := Lib.hid (len64_any x w hx)
  go_enter Try.func38, Try.ntmps38
  go_wp2_with fail
  refine HL.out.mono ?_
  rintro e w' ⟨⟨L, rfl, hL⟩, rfl⟩
  go_wp2_with fail
  go_ret
  exact ⟨⟨L, rfl, hL⟩, rfl⟩
end Go.Proofs.Ytboonpfdlbedoaa
