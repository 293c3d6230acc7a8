/- Slices of slots of the call's own: the fields of the first slot. -/
import Derived.Test.YtoanopegoilcnaaJr
import Derived.Laws.OwnMore
set_option linter.unusedVariables false
namespace Go.Proofs.Ytoanopegoilcnaa
open Go.RowKit Go.Mem Go.Pg
section
variable {e : TypeId} {B g n cap : Nat} {w : World} {l : List Slot}
theorem OwS.first (h : OwS e B w (.slice (some ⟨g, 0, none⟩) n cap) l) (hn : n = l.length) (h0 : 0 < l.length) :
    w.cell? ⟨g, 0, none⟩ = some (.int .u32 ((l.getD 0 Slot.zero).key : Nat)) ∧ w.cell? ⟨g, 2, none⟩ = some (.int .u64 ((l.getD 0 Slot.zero).seq : Nat)) ∧ w.frozen? ⟨g, 0, none⟩ = false ∧ w.frozen? ⟨g, 2, none⟩ = false ∧ B ≤ g ∧ g < w.heap.size ∧ n ≤ cap ∧ cap ≤ maxLen := by
  subst hn
  have h' : w.ownsRow B e 3 (.slice (some ⟨g, 0, none⟩) l.length cap) l.length (l.flatMap slotC) := h
  obtain ⟨q0, q1, q2⟩ := slotC_get l 0 h0
  have hb := h.blk g rfl
  obtain ⟨a', c', he, h1, h2, _⟩ := h.slr
  cases he
  refine ⟨?_, ?_, h'.frozenAt 0, h'.frozenAt 2, hb.1, hb.2, h1, h2⟩
  · rw [h'.cellAt 0 (by omega)]; simpa using q0
  · rw [h'.cellAt 2 (by omega)]; simpa using q2
theorem OwS.setKey (h : OwS e B w (.slice (some ⟨g, 0, none⟩) n cap) l) (hn : n = l.length) (h0 : 0 < l.length) (k : Nat) :
    OwS e B (w.setCell ⟨g, 0, none⟩ (.int .u32 (k : Nat))) (.slice (some ⟨g, 0, none⟩) n cap) (l.set 0 ⟨k, (l.getD 0 Slot.zero).st, (l.getD 0 Slot.zero).seq⟩) := by
  subst hn
  have h' : w.ownsRow B e 3 (.slice (some ⟨g, 0, none⟩) l.length cap) l.length (l.flatMap slotC) := h
  have := (h'.stored 0 (.int .u32 (k : Nat))).1
  unfold OwS
  rw [List.length_set]
  cases l with
  | nil => simp at h0
  | cons s t => exact this
theorem OwS.setSeq (h : OwS e B w (.slice (some ⟨g, 0, none⟩) n cap) l) (hn : n = l.length) (h0 : 0 < l.length) (k : Nat) :
    OwS e B (w.setCell ⟨g, 2, none⟩ (.int .u64 (k : Nat))) (.slice (some ⟨g, 0, none⟩) n cap) (l.set 0 ⟨(l.getD 0 Slot.zero).key, (l.getD 0 Slot.zero).st, k⟩) := by
  subst hn
  have h' : w.ownsRow B e 3 (.slice (some ⟨g, 0, none⟩) l.length cap) l.length (l.flatMap slotC) := h
  have := (h'.stored 2 (.int .u64 (k : Nat))).1
  unfold OwS
  rw [List.length_set]
  cases l with
  | nil => simp at h0
  | cons s t => exact this
end
end Go.Proofs.Ytoanopegoilcnaa
