/- A set of numbers as a rising row, and as a map's datum. No program in sight. -/
import Derived.Maps.OwnSet
import Derived.Maps.OwnOps
import Derived.WideKeyEntry
import Derived.Shelf.SlMaps.Clone
import Derived.Lib.SlKeysI
set_option linter.unusedVariables false
namespace Go.Hs
set_option linter.unusedVariables false
open Go Go.RowKit Go.ChangeMaps

def ins (v : Nat) : List Nat → List Nat
  | [] => [v]
  | x :: l => if v < x then v :: x :: l else if v = x then x :: l else x :: ins v l
def Rising (l : List Nat) : Prop := l.Pairwise (· < ·)
theorem rising_nil : Rising [] := List.Pairwise.nil
theorem rising_one (v : Nat) : Rising [v] := List.pairwise_singleton _ _
theorem mem_ins {a v : Nat} : ∀ {l : List Nat}, a ∈ ins v l ↔ a = v ∨ a ∈ l
  | [] => by simp [ins]
  | x :: l => by
    unfold ins
    split
    · simp
    · split
      · rename_i h; subst h; simp
      · rw [List.mem_cons, mem_ins (l := l), List.mem_cons]
        constructor
        · rintro (h | h | h)
          · exact .inr (.inl h)
          · exact .inl h
          · exact .inr (.inr h)
        · rintro (h | h | h)
          · exact .inr (.inl h)
          · exact .inl h
          · exact .inr (.inr h)
theorem ins_rising (v : Nat) : ∀ {l : List Nat}, Rising l → Rising (ins v l)
  | [], _ => rising_one v
  | x :: l, h => by
    obtain ⟨h1, h2⟩ := List.pairwise_cons.1 h
    unfold ins
    split
    · rename_i hv
      refine List.pairwise_cons.2 ⟨fun q hq => ?_, h⟩
      rcases List.mem_cons.1 hq with rfl | hq
      · exact hv
      · exact Nat.lt_trans hv (h1 q hq)
    · split
      · exact h
      · refine List.pairwise_cons.2 ⟨fun q hq => ?_, ins_rising v h2⟩
        rcases mem_ins.1 hq with rfl | hq
        · omega
        · exact h1 q hq
theorem ins_len (v : Nat) : ∀ l : List Nat, (ins v l).length ≤ l.length + 1
  | [] => by simp [ins]
  | x :: l => by
    unfold ins
    split
    · simp
    · split
      · simp
      · have := ins_len v l
        simp only [List.length_cons]; omega
theorem ins_same {v : Nat} : ∀ {l : List Nat}, Rising l → v ∈ l → ins v l = l
  | x :: l, h, hv => by
    obtain ⟨h1, h2⟩ := List.pairwise_cons.1 h
    unfold ins
    rcases List.mem_cons.1 hv with rfl | hv
    · rw [if_neg (Nat.lt_irrefl _), if_pos rfl]
    · have := h1 v hv
      rw [if_neg (by omega), if_neg (by omega), ins_same h2 hv]
theorem filter_ne {v : Nat} {l : List Nat} (h : ¬ v ∈ l) : l.filter (fun x => decide (x ≠ v)) = l :=
  List.filter_eq_self.2 fun x hx => decide_eq_true (fun e => h (e ▸ hx))
theorem ins_filter {v : Nat} : ∀ {l : List Nat}, Rising l → ins v (l.filter (fun x => decide (x ≠ v))) = ins v l
  | [], _ => rfl
  | x :: l, h => by
    obtain ⟨h1, h2⟩ := List.pairwise_cons.1 h
    by_cases e : x = v
    · subst e
      rw [List.filter_cons_of_neg (by simp), filter_ne (fun hv => Nat.lt_irrefl _ (h1 _ hv))]
      conv => rhs; unfold ins
      rw [if_neg (Nat.lt_irrefl _), if_pos rfl]
      cases l with
      | nil => rfl
      | cons y l =>
        unfold ins
        rw [if_pos (h1 y (by simp))]
    · rw [List.filter_cons_of_pos (by simp [e])]
      unfold ins
      by_cases hv : v < x
      · rw [if_pos hv, if_pos hv, filter_ne (fun hm => by have := h1 v hm; omega)]
      · rw [if_neg hv, if_neg hv, if_neg (fun h => e h.symm), if_neg (fun h => e h.symm), ins_filter h2]

/-! ### As a datum -/
def keyL (x : Nat) : Lit := .int .u64 (x : Nat)
def setE (S : List Nat) : List (Lit × DataW Unit) := S.map fun x => (keyL x, .lit (.bool true))
def setD (S : List Nat) : DataW Unit := .map (setE S)
theorem before_keyL (a b : Nat) : (keyL a).before (keyL b) = decide (a < b) := by
  show decide ((a : Int) < (b : Int)) = _
  by_cases h : a < b
  · rw [decide_eq_true h, decide_eq_true (by omega)]
  · rw [decide_eq_false h, decide_eq_false (by omega)]
theorem same_keyL (a b : Nat) : (keyL a).sameKey (keyL b) = decide (a = b) := by
  show decide (IntKind.u64 = IntKind.u64 ∧ (a : Int) = (b : Int)) = _
  by_cases h : a = b
  · rw [decide_eq_true h, decide_eq_true ⟨rfl, by omega⟩]
  · rw [decide_eq_false h, decide_eq_false (fun h' => h (by omega))]
theorem filter_setE (v : Nat) : ∀ S : List Nat, (setE S).filter (notKey (keyL v)) = setE (S.filter (fun x => decide (x ≠ v)))
  | [] => rfl
  | x :: S => by
    have ih := filter_setE v S
    show List.filter (notKey (keyL v)) ((keyL x, .lit (.bool true)) :: setE S) = _
    by_cases e : x = v
    · rw [List.filter_cons_of_neg (by simp [notKey, same_keyL, e]), List.filter_cons_of_neg (by simp [e]), ih]
    · rw [List.filter_cons_of_pos (by simp [notKey, same_keyL, e]), List.filter_cons_of_pos (by simp [e]), ih]
      rfl
theorem insert_setE {v : Nat} : ∀ {S : List Nat}, ¬ v ∈ S → DataW.insert (keyL v, .lit (.bool true)) (setE S) = setE (ins v S)
  | [], _ => rfl
  | x :: S, h => by
    show DataW.insert (keyL v, .lit (.bool true)) ((keyL x, .lit (.bool true)) :: setE S) = _
    unfold DataW.insert ins
    simp only [before_keyL, decide_eq_true_eq]
    by_cases hv : v < x
    · rw [if_pos hv, if_pos hv]; rfl
    · rw [if_neg hv, if_neg hv, if_neg (fun e => h (by simp [e])), insert_setE (fun hm => h (by simp [hm]))]; rfl
theorem put_setE {v : Nat} {S : List Nat} (h : Rising S) : putKey (keyL v) (.lit (.bool true)) (setE S) = setE (ins v S) := by
  unfold putKey
  rw [filter_setE, insert_setE (by simp), ins_filter h]
theorem put_setD {v : Nat} {S : List Nat} (h : Rising S) : (setD S).put (keyL v) (.lit (.bool true)) = setD (ins v S) := by
  unfold setD
  rw [DataW.put_eq, put_setE h]
theorem find_setE (v : Nat) : ∀ S : List Nat, (setE S).find? (fun p => p.1.sameKey (keyL v)) = if v ∈ S then some (keyL v, .lit (.bool true)) else none
  | [] => by simp [setE]
  | x :: S => by
    have ih := find_setE v S
    show List.find? _ ((keyL x, DataW.lit (.bool true)) :: setE S) = _
    by_cases e : x = v
    · subst e
      rw [List.find?_cons_of_pos (by simp [same_keyL])]
      simp
    · rw [List.find?_cons_of_neg (by simp [same_keyL, e]), ih]
      simp [show ¬ v = x from fun h => e h.symm]
theorem at_setD (v : Nat) (S : List Nat) : (setD S).atKey (keyL v) (.lit (.bool false)) = .lit (.bool (decide (v ∈ S))) := by
  unfold setD DataW.atKey
  simp only [find_setE]
  by_cases h : v ∈ S
  · simp [h]
  · simp [h]
theorem size_setD (S : List Nat) : Maps.size (setD S) = S.length := by simp [Maps.size, setD, setE]
end Go.Hs
