/- Walks over history: May; a model of which each set has a property. (Printed by a program.) -/
import Derived.Test.YtboonpfdlbedoaaVc
import Derived.Test.YtboonpfdlbedoaaSt
namespace Go.Proofs.Ytboonpfdlbedoaa.Qv
open Go Go.RowKit Go.Mem Go.Sort Go.Hs Go.Proofs Go.Proofs.Ytboonpfdlbedoaa
set_option linter.unusedVariables false
section
variable {B : Nat → Prop} {w : World} {p n K gl cap : Nat} {bv br : Nat → Nat} {V R : Nat → List Nat} {i v : Nat}
set_option maxHeartbeats 1600000 in
theorem may_in (N : Nat) (hok : SortOk N) (hN : N ≤ 1000000) (h : MdAt B w p n K gl cap bv br V R) (hi : i < n) (h0 : V i ≠ []) (hl : (V i).length ≤ N) :
    Calls Try.prog 22 #[.pointer (some ⟨p, 0, none⟩), .int .i64 (i : Nat)] w fun e w' => (∃ v, e = .returned v ∧ Own .u64 31 w.heap.size w' v (V i)) ∧ Below w.heap.size w w' := by
  have hat := Lib.hid (at_in h hi)
  have cV := h.cellV hi
  have HR := Lib.hid (rising_any N hok hN (h.sv i hi) h0 hl)
  clear h h0 hl
  go_enter Try.func22, Try.ntmps22
  go_wp2_with fail
  refine hat.out.mono ?_
  rintro e w' ⟨rfl, rfl⟩
  go_wp2_with fail
  refine HR.out.mono ?_
  rintro e w' ⟨⟨v, rfl, hv⟩, hb⟩
  have HV := Lib.hid hv
  have HB := Lib.hid hb
  clear hv hb
  go_wp2_with fail
  go_ret
  exact ⟨⟨v, rfl, HV.out⟩, HB.out⟩
set_option maxHeartbeats 1600000 in
theorem may_out (h : MdAt B w p n K gl cap bv br V R) {z : Int} (hz : z < 0 ∨ (n : Int) ≤ z) :
    Calls Try.prog 22 #[.pointer (some ⟨p, 0, none⟩), .int .i64 z] w fun e w' => e = .returned (.slice none 0 0) ∧ w = w' := by
  have hat := Lib.hid (at_out h hz)
  clear h
  go_enter Try.func22, Try.ntmps22
  go_wp2_with fail
  refine hat.out.mono ?_
  rintro e w' ⟨rfl, rfl⟩
  go_wp2_with fail
  go_ret
  exact ⟨rfl, rfl⟩
end

/-- A model of which each set has a property. -/
def MdP (P : Nat → List Nat → Prop) (B : Nat → Prop) (w : World) (p n K : Nat) : Prop :=
  ∃ gl cap bv br V R, MdAt B w p n K gl cap bv br V R ∧ ∀ i, i < n → P i (V i) ∧ P i (R i)
section
variable {P : Nat → List Nat → Prop} {B : Nat → Prop} {w w' : World} {p n K i v : Nat}
theorem MdP.below (h : MdP P B w p n K) (hb : Below w.heap.size w w') : MdP P B w' p n K := by
  obtain ⟨gl, cap, bv, br, V, R, h1, h2⟩ := h
  exact ⟨gl, cap, bv, br, V, R, h1.below hb, h2⟩
theorem MdP.more (h : MdP P B w p n K) {K' : Nat} (hK : K ≤ K') : MdP P B w p n K' := by
  obtain ⟨gl, cap, bv, br, V, R, h1, h2⟩ := h
  exact ⟨gl, cap, bv, br, V, R, h1.more hK, h2⟩
theorem MdP.cell0 (h : MdP P B w p n K) : p < w.heap.size := by
  obtain ⟨gl, cap, bv, br, V, R, h1, h2⟩ := h
  exact lt_at h1.hp
theorem mdp_write (h : MdP P B w p n K) (hi : i < n) (hv : v < 18446744073709551616) (hK : K ≤ 1000) (hp : Nx P i v) (fc : Bool) :
    Calls Try.prog 11 #[.pointer (some ⟨p, 0, none⟩), .int .i64 (i : Nat), .int .u64 (v : Nat), .bool fc] w fun e w' => e = .returned (.int .i64 0) ∧ MdP P B w' p n (K + 1) ∧ Off B w w' := by
  obtain ⟨gl, cap, bv, br, V, R, h1, h2⟩ := h
  cases fc with
  | false =>
    refine (write_plain h1 hi hv hK).mono fun e w' ⟨he, ⟨bv', hm⟩, hb⟩ => ⟨he, ⟨_, _, _, _, _, _, hm, fun j hj => ⟨updf_all (fun j hj => (h2 j hj).1) hp.1 j hj, updf_all (fun j hj => (h2 j hj).2) (hp.2 _ (h2 i hi).2) j hj⟩⟩, hb⟩
  | true =>
    refine (write_forced h1 hi hv hK).mono fun e w' ⟨he, ⟨bv', hm⟩, hb⟩ => ⟨he, ⟨_, _, _, _, _, _, hm, fun j hj => ⟨updf_all (fun j hj => (h2 j hj).1) hp.1 j hj, updf_all (fun j hj => (h2 j hj).2) hp.1 j hj⟩⟩, hb⟩
theorem mdp_begin (h : MdP P B w p n K) (hi : i < n) (hv : v < 18446744073709551616) (hK : K ≤ 1000) (hp : Nx P i v) :
    Calls Try.prog 13 #[.pointer (some ⟨p, 0, none⟩), .int .i64 (i : Nat), .int .u64 (v : Nat)] w fun e w' => e = .returned (.int .i64 0) ∧ MdP P B w' p n (K + 1) ∧ Off B w w' := by
  obtain ⟨gl, cap, bv, br, V, R, h1, h2⟩ := h
  refine (begin_in h1 hi hv hK).mono fun e w' ⟨he, hm, hb⟩ => ⟨he, ⟨_, _, _, _, _, _, hm, fun j hj => ⟨updf_all (fun j hj => (h2 j hj).1) (hp.2 _ (h2 i hi).1) j hj, updf_all (fun j hj => (h2 j hj).2) (hp.2 _ (h2 i hi).2) j hj⟩⟩, hb⟩
theorem mdp_sync (h : MdP P B w p n K) :
    Calls Try.prog 15 #[.pointer (some ⟨p, 0, none⟩)] w fun e w' => e = .returned (.tuple #[]) ∧ MdP P B w' p n K ∧ Off B w w' := by
  obtain ⟨gl, cap, bv, br, V, R, h1, h2⟩ := h
  exact (sync_any h1).mono fun e w' ⟨he, ⟨b', hm⟩, hb⟩ => ⟨he, ⟨_, _, _, _, _, _, hm, fun j hj => ⟨(h2 j hj).1, (h2 j hj).1⟩⟩, hb⟩
theorem mdp_cut (h : MdP P B w p n K) :
    Calls Try.prog 17 #[.pointer (some ⟨p, 0, none⟩)] w fun e w' => e = .returned (.tuple #[]) ∧ MdP P B w' p n K ∧ Off B w w' := by
  obtain ⟨gl, cap, bv, br, V, R, h1, h2⟩ := h
  exact (cut_any h1).mono fun e w' ⟨he, ⟨b', hm⟩, hb⟩ => ⟨he, ⟨_, _, _, _, _, _, hm, fun j hj => ⟨(h2 j hj).2, (h2 j hj).2⟩⟩, hb⟩
theorem mdp_read (h : MdP P B w p n K) (hi : i < n) (hv : v < 18446744073709551616) (hK : 1 ≤ K) (hp : ∀ S, P i S → v ∈ S → P i [v]) :
    Calls Try.prog 19 #[.pointer (some ⟨p, 0, none⟩), .int .i64 (i : Nat), .int .u64 (v : Nat)] w fun e w' => ∃ r : Int, e = .returned (.int .i64 r) ∧ ((r = 190 ∧ ∃ S, P i S ∧ ¬ v ∈ S) ∨ (r = 0 ∧ ∃ S, P i S ∧ v ∈ S)) ∧ MdP P B w' p n K ∧ Off B w w' := by
  obtain ⟨gl, cap, bv, br, V, R, h1, h2⟩ := h
  by_cases hm : v ∈ V i
  · exact (read_yes h1 hi hv hm hK).mono fun e w' ⟨he, ⟨bv', hm'⟩, hb⟩ => ⟨0, he, .inr ⟨rfl, _, (h2 i hi).1, hm⟩, ⟨_, _, _, _, _, _, hm', fun j hj => ⟨updf_all (fun j hj => (h2 j hj).1) (hp _ (h2 i hi).1 hm) j hj, (h2 j hj).2⟩⟩, hb⟩
  · refine (read_no h1 hi hv hm).mono fun e w' ⟨he, hw⟩ => ?_
    subst hw
    exact ⟨190, he, .inl ⟨rfl, _, (h2 i hi).1, hm⟩, ⟨_, _, _, _, _, _, h1, h2⟩, Off.refl _ _⟩
end
end Go.Proofs.Ytboonpfdlbedoaa.Qv
