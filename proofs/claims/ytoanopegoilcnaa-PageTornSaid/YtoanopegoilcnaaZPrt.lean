/- What right makes, plain; few bits turned of an end. -/
import Derived.Test.YtoanopegoilcnaaZKp
import Derived.Test.YtoanopegoilcnaaJm
import Derived.Test.YtoanopegoilcnaaZPlc
set_option linter.unusedVariables false
namespace Go.Proofs.Ytoanopegoilcnaa
open Go.RowKit Go.Mem Go.Pg

theorem wf_small {n : Nat} (h : n < 1000000) : (Lit.int .i64 (n : Int)).wf = true := WalkArith.wf_i64 ⟨by omega, by omega⟩
theorem rtSlot_ok (h : Head) (i : Nat) : (rtSlot h i).Ok := by
  unfold rtSlot Slot.Ok
  split
  · exact ⟨by dsimp only; omega, by dsimp only; omega, by dsimp only; omega⟩
  · exact ⟨Int.le_refl _, by show (0 : Int) ≤ 3; decide, by show 0 < 281474976710656; decide⟩
theorem rtSlot_key {h : Head} (hw : h.Wf) {i : Nat} (hi : i < 4294967296) : (rtSlot h i).key < 4294967296 := by
  unfold rtSlot
  split
  · rename_i hlt; exact (hw.2 _ (getD_slot hlt)).1
  · exact hi
theorem rtH_may (N : Nat) (h : Head) : (rtH N h).May N := by
  unfold rtH Head.May
  refine ⟨⟨by dsimp only; omega, by dsimp only; omega, by dsimp only; omega, by dsimp only; omega, by dsimp only; omega, by dsimp only; omega, by dsimp only; omega, by dsimp only; omega, by simp⟩, fun s hs => ?_⟩
  obtain ⟨i, _, rfl⟩ := List.mem_map.1 hs
  exact rtSlot_ok h i
theorem rtH_fit {N : Nat} {h : Head} (hw : h.Wf) (hN : N ≤ 8) : (rtH N h).Fit := by
  refine ⟨hw.1.2.1, fun s hs => ?_⟩
  obtain ⟨i, hi, rfl⟩ := List.mem_map.1 hs
  have := List.mem_range.1 hi
  exact rtSlot_key hw (by omega)
theorem rtH_wf {N : Nat} {h : Head} (hw : h.Wf) (hN : N ≤ 8) : (rtH N h).Wf := by
  refine ⟨⟨wf_small (by omega), hw.1.2.1, wf_small (by omega), wf_small (by omega), wf_small (by omega)⟩, fun s hs => ?_⟩
  obtain ⟨i, hi, rfl⟩ := List.mem_map.1 hs
  have := List.mem_range.1 hi
  have h1 := rtSlot_ok h i
  refine ⟨rtSlot_key hw (by omega), WalkArith.wf_i64 ⟨by have := h1.1; omega, by have := h1.2.1; omega⟩, by have := h1.2.2; omega⟩
theorem rtS_can (S N : Nat) (h : Head) (rows : List (List Nat)) : CanB S N (rtH N h) (rtS S N rows) := by
  refine ⟨rtH_may N h, by simp [rtS], fun x hx => .inr ?_⟩
  obtain ⟨i, _, rfl⟩ := List.mem_map.1 hx
  simp [rtRow]
theorem rtS_lt {S N : Nat} {rows : List (List Nat)} (hr : ∀ r ∈ rows, ∀ y ∈ r, y < 256) : ∀ x ∈ rtS S N rows, ∀ y ∈ x, y < 256 := by
  intro x hx y hy
  obtain ⟨i, _, rfl⟩ := List.mem_map.1 hx
  obtain ⟨k, _, rfl⟩ := List.mem_map.1 hy
  rcases Nat.lt_or_ge i rows.length with h | h
  · have hi : rows.getD i [] ∈ rows := by rw [List.getD_eq_getElem?_getD, List.getElem?_eq_getElem h]; exact List.getElem_mem h
    exact Gf.getD_lt (m := 8) (hr _ hi) k
  · rw [List.getD_eq_getElem?_getD (l := rows), List.getElem?_eq_none (by omega)]; simp
theorem rtS_get {S N : Nat} {rows : List (List Nat)} {i : Nat} (hi : i < N) : (rtS S N rows).getD i [] = rtRow S rows i := by
  unfold rtS; rw [List.getD_eq_getElem?_getD, List.getElem?_map, List.getElem?_range hi]; rfl

/-! ### A page that was cut -/
theorem ones_mid (n p : Nat) (F : Nat → Nat) (hF : ∀ j, p ≤ j → j < n → F j = 255) : ones (((List.range n).map F).drop p) = 8 * (n - p) := by
  rw [← ones_full]
  congr 1
  apply List.ext_getElem
  · simp
  · intro i h1 h2
    simp only [List.length_drop, List.length_map, List.length_range] at h1
    simp only [List.getElem_drop, List.getElem_map, List.getElem_range, List.getElem_replicate]
    exact hF _ (by omega) (by omega)
/-- Bytes 255 from a place on. -/
def fillF (a0 : Nat) (P : Nat → Nat) (k : Nat) : Nat → Nat := fun j => if a0 ≤ j ∧ j < k then 255 else P j
theorem fill_start (a0 : Nat) (P : Nat → Nat) : fillF a0 P a0 = P := by
  funext j; unfold fillF; exact if_neg (by omega)
theorem fill_succ {a0 k : Nat} (P : Nat → Nat) (h : a0 ≤ k) : upd (fillF a0 P k) k 255 = fillF a0 P (k + 1) := by
  funext j
  unfold upd fillF
  by_cases hjk : j = k
  · rw [if_pos hjk, if_pos ⟨by omega, by omega⟩]
  · rw [if_neg hjk]
    by_cases h2 : a0 ≤ j ∧ j < k
    · rw [if_pos h2, if_pos ⟨h2.1, by omega⟩]
    · rw [if_neg h2, if_neg (fun e => h2 ⟨e.1, by omega⟩)]
theorem fill_lt {a0 k : Nat} {P : Nat → Nat} (h : ∀ j, P j < 256) (j : Nat) : fillF a0 P k j < 256 := by
  unfold fillF; split
  · decide
  · exact h j
theorem tg_map (n : Nat) (F : Nat → Nat) (k : Nat) (hk : k < 8 * n) : (List.range n).map (upd F (k / 8) (F (k / 8) ^^^ 2 ^ (k % 8))) = tg ((List.range n).map F) k := by
  unfold tg
  rw [map_upd, rg_getD _ _ _ (by omega)]
/-- Of a page whose end is bytes 255 but for few bits nothing is read. -/
theorem opn_torn {S N T mw mh : Nat} {l : List Nat} (he : T < ones (l.drop (lastB S N T mw mh))) : (opn S N T mw mh l).erased = true ∨ (opn S N T mw mh l).whole = 3 := by
  unfold opn
  split
  · exact .inl rfl
  · rw [hdO_torn he]; exact .inr rfl
end Go.Proofs.Ytoanopegoilcnaa
