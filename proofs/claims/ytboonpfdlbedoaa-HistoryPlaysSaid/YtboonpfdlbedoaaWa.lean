/- A number put into a rising row from the left. No program in sight. -/
import Derived.Test.YtboonpfdlbedoaaHa
namespace Go.Hs
set_option linter.unusedVariables false

theorem ins_end {v : Nat} : ∀ {S : List Nat}, (∀ y ∈ S, y < v) → ins v S = S ++ [v]
  | [], _ => rfl
  | z :: S, h => by
    have hz := h z (by simp)
    unfold ins
    rw [if_neg (by omega), if_neg (by omega), ins_end (fun y hy => h y (by simp [hy]))]
    rfl
theorem ins_last {v x : Nat} : ∀ {S : List Nat}, (∃ y ∈ S, v ≤ y) → ins v (S ++ [x]) = ins v S ++ [x]
  | [], h => by obtain ⟨y, hy, _⟩ := h; cases hy
  | z :: S, h => by
    show ins v (z :: (S ++ [x])) = _
    unfold ins
    by_cases h1 : v < z
    · rw [if_pos h1, if_pos h1]; rfl
    · rw [if_neg h1, if_neg h1]
      by_cases h2 : v = z
      · rw [if_pos h2, if_pos h2]; rfl
      · rw [if_neg h2, if_neg h2, ins_last (S := S)]
        · rfl
        · obtain ⟨y, hy, hv⟩ := h
          rcases List.mem_cons.1 hy with rfl | hy
          · omega
          · exact ⟨y, hy, hv⟩
theorem ins_mid {v x : Nat} {S : List Nat} (h : ∀ y ∈ S, y < v) (hx : v < x) : ins v (S ++ [x]) = S ++ [v] ++ [x] := by
  induction S with
  | nil => show ins v [x] = _; unfold ins; rw [if_pos hx]; rfl
  | cons z S ih =>
    have hz := h z (by simp)
    show ins v (z :: (S ++ [x])) = _
    unfold ins
    rw [if_neg (by omega), if_neg (by omega), ih (fun y hy => h y (by simp [hy]))]
    rfl
/-- Is it in already, or behind its place? -/
def inB (v : Nat) (l : List Nat) : Bool := l.any (fun y => decide (v ≤ y))
/-- The row so far. -/
def wst (v : Nat) (l : List Nat) : List Nat := if inB v l then ins v l else l
theorem inB_false {v : Nat} {l : List Nat} (h : inB v l = false) : ∀ y ∈ l, y < v := fun y hy => by
  unfold inB at h
  have := List.any_eq_false.1 h y hy
  simp at this
  exact this
theorem inB_true {v : Nat} {l : List Nat} (h : inB v l = true) : ∃ y ∈ l, v ≤ y := by
  unfold inB at h
  obtain ⟨y, hy, h2⟩ := List.any_eq_true.1 h
  exact ⟨y, hy, by simpa using h2⟩
theorem inB_snoc (v : Nat) (l : List Nat) (x : Nat) : inB v (l ++ [x]) = (inB v l || decide (v ≤ x)) := by unfold inB; simp
theorem take_snoc {S : List Nat} {i : Nat} (h : i < S.length) : S.take (i + 1) = S.take i ++ [S.getD i 0] := by
  rw [List.take_succ_eq_append_getElem h]
  simp [List.getD, h]
theorem take_lt {S : List Nat} (hS : Rising S) {i : Nat} (h : i < S.length) : ∀ y ∈ S.take i, y < S.getD i 0 := fun y hy => by
  have h2 : Rising (S.take (i + 1)) := hS.sublist (List.take_sublist _ _)
  rw [take_snoc h] at h2
  exact (List.pairwise_append.1 h2).2.2 y hy _ (by simp)
section
variable {v : Nat} {S : List Nat} {i : Nat}
/-- The number is there: nothing was put in ahead. -/
theorem wst_eq (hS : Rising S) (h : i < S.length) (hx : S.getD i 0 = v) : inB v (S.take i) = false ∧ inB v (S.take (i + 1)) = true ∧ wst v (S.take (i + 1)) = wst v (S.take i) ++ [S.getD i 0] := by
  have hlt := take_lt hS h
  have h1 : inB v (S.take i) = false := by
    cases hb : inB v (S.take i) with
    | false => rfl
    | true => obtain ⟨y, hy, hv⟩ := inB_true hb; have := hlt y hy; omega
  have h2 : inB v (S.take (i + 1)) = true := by rw [take_snoc h, inB_snoc, hx]; simp
  refine ⟨h1, h2, ?_⟩
  unfold wst
  rw [h1, h2, if_pos rfl, if_neg (by simp), take_snoc h, hx]
  exact (ins_same (by have := hS.sublist (List.take_sublist (i + 1) S); rw [take_snoc h, hx] at this; exact this) (by simp)).trans rfl
theorem wst_lo (hS : Rising S) (h : i < S.length) (hx : S.getD i 0 < v) : inB v (S.take i) = false ∧ inB v (S.take (i + 1)) = false ∧ wst v (S.take (i + 1)) = wst v (S.take i) ++ [S.getD i 0] := by
  have hlt := take_lt hS h
  have h1 : inB v (S.take i) = false := by
    cases hb : inB v (S.take i) with
    | false => rfl
    | true => obtain ⟨y, hy, hv⟩ := inB_true hb; have := hlt y hy; omega
  have h2 : inB v (S.take (i + 1)) = false := by rw [take_snoc h, inB_snoc, h1, decide_eq_false (show ¬ v ≤ S.getD i 0 by omega)]; rfl
  refine ⟨h1, h2, ?_⟩
  unfold wst
  rw [h1, h2, if_neg (by simp), if_neg (by simp), take_snoc h]
theorem wst_in (h : i < S.length) (hx : v < S.getD i 0) (hb : inB v (S.take i) = false) : inB v (S.take (i + 1)) = true ∧ wst v (S.take (i + 1)) = wst v (S.take i) ++ [v] ++ [S.getD i 0] := by
  have h2 : inB v (S.take (i + 1)) = true := by rw [take_snoc h, inB_snoc, decide_eq_true (show v ≤ S.getD i 0 by omega), Bool.or_true]
  refine ⟨h2, ?_⟩
  unfold wst
  rw [hb, h2, if_pos rfl, if_neg (by simp), take_snoc h]
  exact ins_mid (inB_false hb) hx
theorem wst_hi (h : i < S.length) (hb : inB v (S.take i) = true) : inB v (S.take (i + 1)) = true ∧ wst v (S.take (i + 1)) = wst v (S.take i) ++ [S.getD i 0] := by
  have h2 : inB v (S.take (i + 1)) = true := by rw [take_snoc h, inB_snoc, hb]; simp
  refine ⟨h2, ?_⟩
  unfold wst
  rw [hb, h2, if_pos rfl, if_pos rfl, take_snoc h]
  exact ins_last (inB_true hb)
theorem wst_end (v : Nat) (S : List Nat) : ins v S = if inB v S then wst v S else wst v S ++ [v] := by
  unfold wst
  cases hb : inB v S with
  | true => rfl
  | false => simp only [Bool.false_eq_true, if_false]; exact ins_end (inB_false hb)
theorem wst_len (v : Nat) (l : List Nat) : (wst v l).length ≤ l.length + 1 := by
  unfold wst
  split
  · exact ins_len v l
  · omega
end
end Go.Hs
