/- What the laws of pages share. -/
import Derived.Test.YtoanopegoilcnaaGreatZKq
import Derived.Test.YtoanopegoilcnaaGreatZKo
import Derived.Test.YtoanopegoilcnaaGreatJa
import Derived.Test.YtoanopegoilcnaaGreatJl
import Derived.Test.YtoanopegoilcnaaGreatZKp
import Derived.Test.YtoanopegoilcnaaGreatJm
import Derived.Test.YtoanopegoilcnaaGreatJj
import Derived.Maps.OwnSet
import Derived.Laws.StructEq
set_option linter.unusedVariables false
namespace Go.Proofs.YtoanopegoilcnaaGreat
open Go.RowKit Go.Mem Go.Pg Go.Maps

theorem law_int : Keyed Tryz.prog 3 := int_keyed Tryz.underlying3
theorem zero_int (w : World) : (zeroValue 3).run Tryz.prog w = .ok (.int .i64 0) w := by kernel_rfl
/-- A small layout may be. -/
theorem small_lay (a b c : Nat) : ∃ mw mh, Lay (smA a 12) (smA b 3) (smA c 3) mw mh := by
  have ha : smA a 12 ≤ 12 ∧ 1 ≤ smA a 12 := by unfold smA; omega
  have hb : smA b 3 ≤ 3 ∧ 1 ≤ smA b 3 := by unfold smA; omega
  have hc : smA c 3 ≤ 3 ∧ 1 ≤ smA c 3 := by unfold smA; omega
  obtain ⟨mw, hw⟩ := Par.ex (smA a 12 + 4) (smA c 3) (by omega) (by omega) (by omega) (by omega)
  obtain ⟨mh, hh⟩ := Par.ex (9 + 11 * smA b 3 + 4) (smA c 3) (by omega) (by omega) (by omega) (by omega)
  exact ⟨mw, mh, ha.2, by omega, hb.2, by omega, hc.2, by omega, hw, hh⟩
theorem map_upd (n : Nat) (F : Nat → Nat) (i x : Nat) : (List.range n).map (upd F i x) = ((List.range n).map F).set i x := by
  apply List.ext_getElem (by simp)
  intro j h1 h2
  simp only [List.length_map, List.length_range] at h1
  rw [List.getElem_set]
  simp only [List.getElem_map, List.getElem_range, upd]
  by_cases e : i = j
  · subst e; simp
  · rw [if_neg (fun h => e h.symm), if_neg e]
theorem mx_of (n m : Nat) : ∃ k, k ≤ n ∧ k ≤ m ∧ (k = n ∨ k = m) := by
  rcases Nat.le_total n m with h | h
  · exact ⟨n, Nat.le_refl _, h, .inl rfl⟩
  · exact ⟨m, h, Nat.le_refl _, .inr rfl⟩
end Go.Proofs.YtoanopegoilcnaaGreat
/- What right makes, plain; few bits turned of an end. -/
namespace Go.Proofs.YtoanopegoilcnaaGreat
open Go.RowKit Go.Mem Go.Pg

theorem wf_small {n : Nat} (h : n < 1000000) : (Lit.int .i64 (n : Int)).wf = true := WalkArith.wf_i64 ⟨by omega, by omega⟩
theorem rtSlot_ok (h : Head) (i : Nat) : (rtSlot h i).Ok := by
  unfold rtSlot Slot.Ok
  split
  · exact ⟨by dsimp only; omega, by dsimp only; omega, by dsimp only; omega⟩
  · exact ⟨Int.le_refl _, by show (0 : Int) ≤ 3; decide, by show 0 < 281474976710656; decide⟩
theorem rtSlot_key {h : Head} (hw : h.Wf) {i : Nat} (hi : i < 4294967296) : (rtSlot h i).key < 4294967296 := by
  unfold rtSlot
  split
  · rename_i hlt; exact (hw.2 _ (getD_slot hlt)).1
  · exact hi
theorem rtH_may (N : Nat) (h : Head) : (rtH N h).May N := by
  unfold rtH Head.May
  refine ⟨⟨by dsimp only; omega, by dsimp only; omega, by dsimp only; omega, by dsimp only; omega, by dsimp only; omega, by dsimp only; omega, by dsimp only; omega, by dsimp only; omega, by simp⟩, fun s hs => ?_⟩
  obtain ⟨i, _, rfl⟩ := List.mem_map.1 hs
  exact rtSlot_ok h i
theorem rtH_fit {N : Nat} {h : Head} (hw : h.Wf) (hN : N ≤ 8) : (rtH N h).Fit := by
  refine ⟨hw.1.2.1, fun s hs => ?_⟩
  obtain ⟨i, hi, rfl⟩ := List.mem_map.1 hs
  have := List.mem_range.1 hi
  exact rtSlot_key hw (by omega)
theorem rtH_wf {N : Nat} {h : Head} (hw : h.Wf) (hN : N ≤ 8) : (rtH N h).Wf := by
  refine ⟨⟨wf_small (by omega), hw.1.2.1, wf_small (by omega), wf_small (by omega), wf_small (by omega)⟩, fun s hs => ?_⟩
  obtain ⟨i, hi, rfl⟩ := List.mem_map.1 hs
  have := List.mem_range.1 hi
  have h1 := rtSlot_ok h i
  refine ⟨rtSlot_key hw (by omega), WalkArith.wf_i64 ⟨by have := h1.1; omega, by have := h1.2.1; omega⟩, by have := h1.2.2; omega⟩
theorem rtS_can (S N : Nat) (h : Head) (rows : List (List Nat)) : CanB S N (rtH N h) (rtS S N rows) := by
  refine ⟨rtH_may N h, by simp [rtS], fun x hx => .inr ?_⟩
  obtain ⟨i, _, rfl⟩ := List.mem_map.1 hx
  simp [rtRow]
theorem rtS_lt {S N : Nat} {rows : List (List Nat)} (hr : ∀ r ∈ rows, ∀ y ∈ r, y < 256) : ∀ x ∈ rtS S N rows, ∀ y ∈ x, y < 256 := by
  intro x hx y hy
  obtain ⟨i, _, rfl⟩ := List.mem_map.1 hx
  obtain ⟨k, _, rfl⟩ := List.mem_map.1 hy
  rcases Nat.lt_or_ge i rows.length with h | h
  · have hi : rows.getD i [] ∈ rows := by rw [List.getD_eq_getElem?_getD, List.getElem?_eq_getElem h]; exact List.getElem_mem h
    exact Gf.getD_lt (m := 8) (hr _ hi) k
  · rw [List.getD_eq_getElem?_getD (l := rows), List.getElem?_eq_none (by omega)]; simp
theorem rtS_get {S N : Nat} {rows : List (List Nat)} {i : Nat} (hi : i < N) : (rtS S N rows).getD i [] = rtRow S rows i := by
  unfold rtS; rw [List.getD_eq_getElem?_getD, List.getElem?_map, List.getElem?_range hi]; rfl

/-! ### Rows held against each other -/
/-- Are the heads the same, and the first I rows? -/
def sameI (sm : Bool) (A B : List (List Nat)) (I : Nat) : Bool := sm && decide (∀ j, j < I → A.getD j [] = B.getD j [])
theorem sameI_zero (sm : Bool) (A B : List (List Nat)) : sameI sm A B 0 = sm := by
  unfold sameI; rw [decide_eq_true (fun j hj => by omega), Bool.and_true]
theorem sameI_yes {sm : Bool} {A B : List (List Nat)} {I : Nat} (h : sameI sm A B I = true) (he : A.getD I [] = B.getD I []) : sameI sm A B (I + 1) = true := by
  unfold sameI at h ⊢
  simp only [Bool.and_eq_true, decide_eq_true_eq] at h ⊢
  refine ⟨h.1, fun j hj => ?_⟩
  by_cases e : j = I
  · rw [e]; exact he
  · exact h.2 j (by omega)
theorem sameI_no {sm : Bool} {A B : List (List Nat)} {I : Nat} (he : ¬ A.getD I [] = B.getD I []) : sameI sm A B (I + 1) = false := by
  unfold sameI
  rw [decide_eq_false (fun h => he (h I (by omega))), Bool.and_false]
theorem sameI_stay {sm : Bool} {A B : List (List Nat)} {I : Nat} (h : sameI sm A B I = false) : sameI sm A B (I + 1) = false := by
  unfold sameI at h ⊢
  cases sm with
  | false => rfl
  | true =>
    rw [Bool.true_and] at h ⊢
    rw [decide_eq_false_iff_not] at h ⊢
    exact fun h2 => h (fun j hj => h2 j (by omega))
theorem sv_ne {xs ys : List Nat} (hx : ∀ y ∈ xs, y < 256) (hy : ∀ y ∈ ys, y < 256) (h : xs ≠ ys) : ((sv xs).toList == (sv ys).toList) = false ∧ (sv xs == sv ys) = false := by
  have hne : sv xs ≠ sv ys := fun e => h (sv_inj hx hy e)
  have h1 : ((sv xs).toList == (sv ys).toList) = false := by
    refine beq_eq_false_iff_ne.2 (fun e => hne ?_)
    rw [ByteArray.toList_eq, ByteArray.toList_eq] at e
    have : (sv xs).data = (sv ys).data := Array.ext' e
    cases hxs : sv xs
    cases hys : sv ys
    rw [hxs, hys] at this
    simp only at this
    rw [this]
  exact ⟨h1, by rw [beq_toListBytes]; exact h1⟩
theorem rows_eq {A B : List (List Nat)} {N : Nat} (ha : A.length = N) (hb : B.length = N) (h : ∀ j, j < N → A.getD j [] = B.getD j []) : A = B := by
  apply List.ext_getElem (by omega)
  intro i h1 h2
  have := h i (by omega)
  simpa [List.getD, h1, h2] using this
theorem pack_same {S N T mw mh : Nat} {h g : Head} {A B : List (List Nat)} (hS : 1 ≤ S) (hc : CanB S N h A) (hc2 : CanB S N g B) (hf : h.Fit) (hf2 : g.Fit) (hx : ∀ x ∈ A, ∀ y ∈ x, y < 256) (hy : ∀ x ∈ B, ∀ y ∈ x, y < 256)
    (hA : ∀ x ∈ A, x.length = S) (hB : ∀ x ∈ B, x.length = S) (sm : Bool) (hsm : sm = true ↔ h = g) : sameI sm A B N = true ↔ packB S N T mw mh h A = packB S N T mw mh g B := by
  unfold sameI
  rw [Bool.and_eq_true, decide_eq_true_eq, hsm]
  have ne : ∀ (C : List (List Nat)), (∀ x ∈ C, x.length = S) → C.length = N → ∀ i, i < N → secB S (C.getD i []) = C.getD i [] := fun C hC hl i hi => by
    have hm : C.getD i [] ∈ C := by rw [List.getD_eq_getElem?_getD, List.getElem?_eq_getElem (by omega)]; exact List.getElem_mem _
    unfold secB
    rw [if_neg (fun e => by have := hC _ hm; rw [e] at this; simp at this; omega)]
  constructor
  · rintro ⟨rfl, h2⟩
    rw [rows_eq hc.2.1 hc2.2.1 h2]
  · intro e
    obtain ⟨h1, h2⟩ := packB_inj hc hc2 hf hf2 hx hy e
    refine ⟨h1, fun j hj => ?_⟩
    have := h2 j hj
    rwa [ne A hA hc.2.1 j hj, ne B hB hc2.2.1 j hj] at this

/-! ### A page that was cut -/
theorem ones_mid (n p : Nat) (F : Nat → Nat) (hF : ∀ j, p ≤ j → j < n → F j = 255) : ones (((List.range n).map F).drop p) = 8 * (n - p) := by
  rw [← ones_full]
  congr 1
  apply List.ext_getElem
  · simp
  · intro i h1 h2
    simp only [List.length_drop, List.length_map, List.length_range] at h1
    simp only [List.getElem_drop, List.getElem_map, List.getElem_range, List.getElem_replicate]
    exact hF _ (by omega) (by omega)
/-- Bytes 255 from a place on. -/
def fillF (a0 : Nat) (P : Nat → Nat) (k : Nat) : Nat → Nat := fun j => if a0 ≤ j ∧ j < k then 255 else P j
theorem fill_start (a0 : Nat) (P : Nat → Nat) : fillF a0 P a0 = P := by
  funext j; unfold fillF; exact if_neg (by omega)
theorem fill_succ {a0 k : Nat} (P : Nat → Nat) (h : a0 ≤ k) : upd (fillF a0 P k) k 255 = fillF a0 P (k + 1) := by
  funext j
  unfold upd fillF
  by_cases hjk : j = k
  · rw [if_pos hjk, if_pos ⟨by omega, by omega⟩]
  · rw [if_neg hjk]
    by_cases h2 : a0 ≤ j ∧ j < k
    · rw [if_pos h2, if_pos ⟨h2.1, by omega⟩]
    · rw [if_neg h2, if_neg (fun e => h2 ⟨e.1, by omega⟩)]
theorem fill_lt {a0 k : Nat} {P : Nat → Nat} (h : ∀ j, P j < 256) (j : Nat) : fillF a0 P k j < 256 := by
  unfold fillF; split
  · decide
  · exact h j
theorem tg_map (n : Nat) (F : Nat → Nat) (k : Nat) (hk : k < 8 * n) : (List.range n).map (upd F (k / 8) (F (k / 8) ^^^ 2 ^ (k % 8))) = tg ((List.range n).map F) k := by
  unfold tg
  rw [map_upd, rg_getD _ _ _ (by omega)]
/-- Of a page whose end is bytes 255 but for few bits nothing is read. -/
theorem opn_torn {S N T mw mh : Nat} {l : List Nat} (he : T < ones (l.drop (lastB S N T mw mh))) : (opn S N T mw mh l).erased = true ∨ (opn S N T mw mh l).whole = 3 := by
  unfold opn
  split
  · exact .inl rfl
  · rw [hdO_torn he]; exact .inr rfl
end Go.Proofs.YtoanopegoilcnaaGreat
