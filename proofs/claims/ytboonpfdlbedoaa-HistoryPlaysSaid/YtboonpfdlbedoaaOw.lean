/- Memory: a row of numbers at the head of a block, with whatever room behind it. No program in sight. -/
import Derived.Test.YtboonpfdlbedoaaMem
import Derived.Deep.AppendLies
namespace Go.Mem
open Go.RowKit

theorem set_pair {w : World} {b : Nat} {x y x' y' : Value} {t : TypeId} {fz : Nat × Nat} (h : w.heap[b]? = some (.cells #[x, y] t fz)) : ((w.setCell ⟨b, 0, none⟩ x').setCell ⟨b, 1, none⟩ y').heap[b]? = some (.cells #[x', y'] t fz) := by
  have h1 := set_at h 0 x'
  have h2 := set_at h1 1 y'
  simpa using h2
theorem alloc_at {w : World} {o : Obj} {b : Nat} (h : b = w.heap.size) : (w.alloc o).heap[b]? = some o := by subst h; exact alloc_new _ _

/-- Block g holds n numbers, told by f, and room for cap. -/
def Ow (k : IntKind) (e : TypeId) (w : World) (g n cap : Nat) (f : Nat → Nat) : Prop :=
  ∃ cur, w.heap[g]? = some (.cells cur e (0, 0)) ∧ cur.size = cap ∧ n ≤ cap ∧ cap ≤ maxLen ∧ ∀ j, j < n → cur[j]? = some (.int k (f j : Nat))

section
variable {k : IntKind} {e : TypeId} {w : World} {g n cap : Nat} {f : Nat → Nat}
theorem Ow.cell (h : Ow k e w g n cap f) {j : Nat} (hj : j < n) : w.cell? ⟨g, j, none⟩ = some (.int k (f j : Nat)) := by
  obtain ⟨cur, h1, _, _, _, h5⟩ := h
  rw [cell_at h1]; exact h5 j hj
theorem Ow.free (h : Ow k e w g n cap f) (j : Nat) : w.frozen? ⟨g, j, none⟩ = false := by
  obtain ⟨cur, h1, _⟩ := h
  exact free_at h1 j
theorem Ow.lt (h : Ow k e w g n cap f) : g < w.heap.size := by obtain ⟨cur, h1, _⟩ := h; exact lt_at h1
theorem Ow.same {w' : World} (h : Ow k e w g n cap f) (he : w'.heap[g]? = w.heap[g]?) : Ow k e w' g n cap f := by
  obtain ⟨cur, h1, h2⟩ := h
  exact ⟨cur, he.trans h1, h2⟩
theorem Ow.set (h : Ow k e w g n cap f) (j x : Nat) : Ow k e (w.setCell ⟨g, j, none⟩ (.int k (x : Nat))) g n cap (upd f j x) := by
  obtain ⟨cur, h1, h2, h3, h4, h5⟩ := h
  refine ⟨cur.setIfInBounds j (.int k (x : Nat)), set_at h1 j _, by simpa using h2, h3, h4, fun i hi => ?_⟩
  unfold upd
  by_cases hij : i = j
  · subst hij; rw [if_pos rfl, Array.getElem?_setIfInBounds_self, if_pos (by omega)]
  · rw [if_neg hij, Array.getElem?_setIfInBounds_ne (by omega)]; exact h5 i hi
theorem Ow.congr {f' : Nat → Nat} (h : Ow k e w g n cap f) (hf : ∀ j, j < n → f j = f' j) : Ow k e w g n cap f' := by
  obtain ⟨cur, h1, h2, h3, h4, h5⟩ := h
  exact ⟨cur, h1, h2, h3, h4, fun j hj => by rw [h5 j hj, hf j hj]⟩
theorem Ow.rd (h : Ow k e w g n cap f) : Rd k w (.slice (some ⟨g, 0, none⟩) n cap) ((List.range n).map f) := by
  have hc := h
  obtain ⟨cur, h1, h2, h3, h4, h5⟩ := h
  refine ⟨some ⟨g, 0, none⟩, cap, by simp, by simpa using h3, h4, fun j hj => ⟨g, 0, rfl, ?_⟩⟩
  have hj' : j < n := by simpa using hj
  rw [Nat.zero_add, hc.cell hj']
  simp [List.getD, hj']
theorem Ow.of_fa (h : w.heap[g]? = some (.cells (fa k n f) e (0, 0))) (hn : n ≤ maxLen) : Ow k e w g n n f :=
  ⟨_, h, fa_size _ _ _, Nat.le_refl _, hn, fun _ hj => fa_get hj⟩
theorem Ow.of_owns {base m c : Nat} {xs : List Value} (h : w.ownsRow base e 1 (.slice (some ⟨g, 0, none⟩) m c) m xs) (hxs : ∀ j, j < m → xs[j]? = some (.int k (f j : Nat))) : base ≤ g ∧ m ≤ c ∧ Ow k e w g m c f := by
  obtain ⟨_, h | ⟨g', cap', cur, hv, hb, hg, h1, h2, h3, h4⟩⟩ := h
  · cases h.1
  · cases hv
    refine ⟨hb, h1, cur, hg, by omega, h1, h2, fun j hj => ?_⟩
    have := hxs j hj
    rw [← h4, List.getElem?_take] at this
    split at this
    · simpa using this
    · cases this
end
end Go.Mem
