/- Slices that came in, as rows of numbers. -/
import Derived.Test.YtboonpfdlbedoaaMem
import Derived.OpenShut
namespace Go.Mem
open Go.RowKit
/-- What the walk is told of a slice of integers that came in. -/
def IsRow (k : IntKind) (w : World) (a : Option Addr) (len cap : Nat) (zs : List Int) : Prop :=
  (a = none ∧ len = 0 ∧ cap = 0 ∧ zs = []) ∨
  ∃ x, a = some x ∧ len ≤ cap ∧ cap ≤ maxLen ∧ zs.length = cap ∧ (∀ i, i < zs.length → w.cell? (x.add i) = some (.int k (zs.getD i 0))) ∧ ∀ n ∈ zs, (Lit.int k n).wf = true

/-- Bytes that came in. -/
theorem IsRow.bytes {w : World} {a : Option Addr} {len cap : Nat} {zs : List Int} (h : IsRow .u8 w a len cap zs) : ∃ xs : List Nat, Rd .u8 w (.slice a len cap) xs ∧ xs.length = len ∧ ∀ y ∈ xs, y < 256 := by
  rcases h with ⟨rfl, rfl, rfl, rfl⟩ | ⟨x, rfl, h1, h2, h3, hc, hw⟩
  · exact ⟨[], ⟨none, 0, rfl, Nat.le_refl _, by unfold maxLen; omega, fun j hj => by simp at hj⟩, rfl, fun y hy => by simp at hy⟩
  · have hb : ∀ i, i < zs.length → 0 ≤ zs.getD i 0 ∧ zs.getD i 0 ≤ 255 := fun i hi => by
      have : zs.getD i 0 ∈ zs := by simp [List.getD, hi]
      exact bounds_u8 (hw _ this)
    refine ⟨(List.range len).map (fun i => (zs.getD i 0).toNat), ⟨some x, cap, by simp, by simpa using h1, h2, fun j hj => ?_⟩, by simp, fun y hy => ?_⟩
    · have hj' : j < len := by simpa using hj
      obtain ⟨b, o, sp⟩ := x
      have hx := hc j (by omega)
      obtain rfl : sp = none := by simpa [Addr.add] using World.cell?_spot (hc 0 (by omega))
      refine ⟨b, o, rfl, ?_⟩
      have hadd : (⟨b, o, none⟩ : Addr).add j = ⟨b, o + j, none⟩ := by unfold Addr.add; split <;> simp_all
      rw [hadd] at hx
      rw [hx]
      have := hb j (by omega)
      have e : ((List.range len).map (fun i => (zs.getD i 0).toNat)).getD j 0 = (zs.getD j 0).toNat := by simp [List.getD, hj']
      rw [e, Int.toNat_of_nonneg this.1]
    · obtain ⟨i, hi, rfl⟩ := List.mem_map.1 hy
      have := hb i (by have : i < len := by simpa using hi
                       omega)
      omega

/-- A slice that reads as a row of whole numbers. -/
def RdI (k : IntKind) (w : World) (v : Value) (zs : List Int) : Prop :=
  ∃ a cap, v = .slice a zs.length cap ∧ zs.length ≤ cap ∧ cap ≤ maxLen ∧ ∀ j, j < zs.length → ∃ g o, a = some ⟨g, o, none⟩ ∧ w.cell? ⟨g, o + j, none⟩ = some (.int k (zs.getD j 0))
theorem RdI.below {k : IntKind} {w w' : World} {v : Value} {xs : List Int} (h : RdI k w v xs) (hb : Below w.heap.size w w') : RdI k w' v xs := by
  obtain ⟨a, cap, hv, h1, h2, hc⟩ := h
  refine ⟨a, cap, hv, h1, h2, fun j hj => ?_⟩
  obtain ⟨g, o, ha, hx⟩ := hc j hj
  exact ⟨g, o, ha, by rw [hb.cell (World.block_lt_of_cell? _ _ hx)]; exact hx⟩
theorem IsRow.nums {k : IntKind} {w : World} {a : Option Addr} {len cap : Nat} {zs : List Int} (h : IsRow k w a len cap zs) : ∃ xs : List Int, RdI k w (.slice a len cap) xs ∧ xs.length = len ∧ ∀ y ∈ xs, (Lit.int k y).wf = true := by
  rcases h with ⟨rfl, rfl, rfl, rfl⟩ | ⟨x, rfl, h1, h2, h3, hc, hw⟩
  · exact ⟨[], ⟨none, 0, rfl, Nat.le_refl _, by unfold maxLen; omega, fun j hj => by simp at hj⟩, rfl, fun y hy => by simp at hy⟩
  · refine ⟨zs.take len, ⟨some x, cap, by rw [List.length_take]; congr 1; omega, by rw [List.length_take]; omega, h2, fun j hj => ?_⟩, by rw [List.length_take]; omega, fun y hy => hw y (List.mem_of_mem_take hy)⟩
    have hj' : j < len := by rw [List.length_take] at hj; omega
    obtain ⟨b, o, sp⟩ := x
    have hx := hc j (by omega)
    obtain rfl : sp = none := by simpa [Addr.add] using World.cell?_spot (hc 0 (by omega))
    refine ⟨b, o, rfl, ?_⟩
    have hadd : (⟨b, o, none⟩ : Addr).add j = ⟨b, o + j, none⟩ := by unfold Addr.add; split <;> simp_all
    rw [hadd] at hx
    rw [hx]
    congr 2
    simp only [List.getD]
    rw [List.getElem?_take_of_lt hj']
end Go.Mem
