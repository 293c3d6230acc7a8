/- Walks over firkinlaw19: calls on a model of which each set has a property. -/
import Derived.Test.YtboonpfdlbedoaaHo
namespace Go.Proofs.Ytboonpfdlbedoaa
set_option linter.unusedVariables false
open Go Go.RowKit Go.Mem Go.Hs

/-- A model of which each set has a property. -/
def MdP (P : Nat → List Nat → Prop) (B : Nat) (w : World) (p n K : Nat) : Prop :=
  ∃ gl cap bv br V R, MdAt B w p n K gl cap bv br V R ∧ ∀ i, i < n → P i (V i) ∧ P i (R i)
/-- What a write, or a read, of a value asks of the property. -/
def Nx (P : Nat → List Nat → Prop) (i v : Nat) : Prop := P i [v] ∧ ∀ S, P i S → P i (ins v S)
section
variable {P : Nat → List Nat → Prop} {B : Nat} {w w' : World} {p n K i v : Nat}
theorem MdP.below (h : MdP P B w p n K) (hb : Below w.heap.size w w') : MdP P B w' p n K := by
  obtain ⟨gl, cap, bv, br, V, R, h1, h2⟩ := h
  exact ⟨gl, cap, bv, br, V, R, h1.below hb, h2⟩
theorem MdP.more (h : MdP P B w p n K) {K' : Nat} (hK : K ≤ K') : MdP P B w p n K' := by
  obtain ⟨gl, cap, bv, br, V, R, h1, h2⟩ := h
  exact ⟨gl, cap, bv, br, V, R, h1.more hK, h2⟩
theorem MdP.base (h : MdP P B w p n K) : B ≤ w.heap.size := by
  obtain ⟨gl, cap, bv, br, V, R, h1, h2⟩ := h
  exact h1.base
theorem MdP.cell0 (h : MdP P B w p n K) : p < w.heap.size := by
  obtain ⟨gl, cap, bv, br, V, R, h1, h2⟩ := h
  exact lt_at h1.hp
theorem updf_all {V : Nat → List Nat} {S : List Nat} (hV : ∀ j, j < n → P j (V j)) (hS : P i S) : ∀ j, j < n → P j (updf V i S j) := fun j hj => by
  unfold updf
  split
  · next e => subst e; exact hS
  · exact hV j hj
theorem mdp_write (h : MdP P B w p n K) (hi : i < n) (hv : v < 18446744073709551616) (hK : K ≤ 1000) (hp : Nx P i v) (fc : Bool) :
    Calls Try.prog 11 #[.pointer (some ⟨p, 0, none⟩), .int .i64 (i : Nat), .int .u64 (v : Nat), .bool fc] w fun e w' => e = .returned (.int .i64 0) ∧ MdP P B w' p n (K + 1) ∧ Below B w w' := by
  obtain ⟨gl, cap, bv, br, V, R, h1, h2⟩ := h
  cases fc with
  | false =>
    refine (write_plain h1 hi hv hK).mono fun e w' ⟨he, ⟨bv', hm⟩, hb⟩ => ⟨he, ⟨_, _, _, _, _, _, hm, fun j hj => ⟨updf_all (fun j hj => (h2 j hj).1) hp.1 j hj, updf_all (fun j hj => (h2 j hj).2) (hp.2 _ (h2 i hi).2) j hj⟩⟩, hb⟩
  | true =>
    refine (write_forced h1 hi hv hK).mono fun e w' ⟨he, ⟨bv', hm⟩, hb⟩ => ⟨he, ⟨_, _, _, _, _, _, hm, fun j hj => ⟨updf_all (fun j hj => (h2 j hj).1) hp.1 j hj, updf_all (fun j hj => (h2 j hj).2) hp.1 j hj⟩⟩, hb⟩
theorem mdp_begin (h : MdP P B w p n K) (hi : i < n) (hv : v < 18446744073709551616) (hK : K ≤ 1000) (hp : Nx P i v) :
    Calls Try.prog 13 #[.pointer (some ⟨p, 0, none⟩), .int .i64 (i : Nat), .int .u64 (v : Nat)] w fun e w' => e = .returned (.int .i64 0) ∧ MdP P B w' p n (K + 1) ∧ Below B w w' := by
  obtain ⟨gl, cap, bv, br, V, R, h1, h2⟩ := h
  refine (begin_in h1 hi hv hK).mono fun e w' ⟨he, hm, hb⟩ => ⟨he, ⟨_, _, _, _, _, _, hm, fun j hj => ⟨updf_all (fun j hj => (h2 j hj).1) (hp.2 _ (h2 i hi).1) j hj, updf_all (fun j hj => (h2 j hj).2) (hp.2 _ (h2 i hi).2) j hj⟩⟩, hb⟩
theorem mdp_sync (h : MdP P B w p n K) :
    Calls Try.prog 15 #[.pointer (some ⟨p, 0, none⟩)] w fun e w' => e = .returned (.tuple #[]) ∧ MdP P B w' p n K ∧ Below B w w' := by
  obtain ⟨gl, cap, bv, br, V, R, h1, h2⟩ := h
  exact (sync_any h1).mono fun e w' ⟨he, ⟨b', hm⟩, hb⟩ => ⟨he, ⟨_, _, _, _, _, _, hm, fun j hj => ⟨(h2 j hj).1, (h2 j hj).1⟩⟩, hb⟩
theorem mdp_cut (h : MdP P B w p n K) :
    Calls Try.prog 17 #[.pointer (some ⟨p, 0, none⟩)] w fun e w' => e = .returned (.tuple #[]) ∧ MdP P B w' p n K ∧ Below B w w' := by
  obtain ⟨gl, cap, bv, br, V, R, h1, h2⟩ := h
  exact (cut_any h1).mono fun e w' ⟨he, ⟨b', hm⟩, hb⟩ => ⟨he, ⟨_, _, _, _, _, _, hm, fun j hj => ⟨(h2 j hj).2, (h2 j hj).2⟩⟩, hb⟩
theorem mdp_read (h : MdP P B w p n K) (hi : i < n) (hv : v < 18446744073709551616) (hK : 1 ≤ K) (hp : ∀ S, P i S → v ∈ S → P i [v]) :
    Calls Try.prog 19 #[.pointer (some ⟨p, 0, none⟩), .int .i64 (i : Nat), .int .u64 (v : Nat)] w fun e w' => ∃ r : Int, e = .returned (.int .i64 r) ∧ ((r = 190 ∧ ∃ S, P i S ∧ ¬ v ∈ S) ∨ (r = 0 ∧ ∃ S, P i S ∧ v ∈ S)) ∧ MdP P B w' p n K ∧ Below B w w' := by
  obtain ⟨gl, cap, bv, br, V, R, h1, h2⟩ := h
  by_cases hm : v ∈ V i
  · exact (read_yes h1 hi hv hm hK).mono fun e w' ⟨he, ⟨bv', hm'⟩, hb⟩ => ⟨0, he, .inr ⟨rfl, _, (h2 i hi).1, hm⟩, ⟨_, _, _, _, _, _, hm', fun j hj => ⟨updf_all (fun j hj => (h2 j hj).1) (hp _ (h2 i hi).1 hm) j hj, (h2 j hj).2⟩⟩, hb⟩
  · refine (read_no h1 hi hv hm).mono fun e w' ⟨he, hw⟩ => ?_
    subst hw
    exact ⟨190, he, .inl ⟨rfl, _, (h2 i hi).1, hm⟩, ⟨_, _, _, _, _, _, h1, h2⟩, Below.refl _ _⟩
theorem mdp_new (P : Nat → List Nat → Prop) (n : Nat) (w : World) (h1 : 1 ≤ n) (h2 : n ≤ 4096) (h0 : ∀ i, i < n → P i [0]) :
    Calls Try.prog 8 #[.int .i64 (n : Nat)] w fun e w' => e = .returned (.tuple #[.pointer (some ⟨w.heap.size, 0, none⟩), .int .i64 0]) ∧ MdP P w.heap.size w' w.heap.size n 1 ∧ Below w.heap.size w w' :=
  (new_any n w h1 h2).mono fun e w' ⟨he, ⟨gl, cap, bv, br, hm⟩, hb⟩ => ⟨he, ⟨_, _, _, _, _, _, hm, fun i hi => ⟨h0 i hi, h0 i hi⟩⟩, hb⟩
end
end Go.Proofs.Ytboonpfdlbedoaa
