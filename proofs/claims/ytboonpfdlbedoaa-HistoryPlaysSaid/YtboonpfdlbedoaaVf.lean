/- Numbers that are known, in memory: map[uint64]int. No program in sight. (Printed by a program out of Ha, Hb.) -/
import Derived.Test.YtboonpfdlbedoaaHb
namespace Go.Hs
set_option linter.unusedVariables false
open Go Go.RowKit Go.Mem Go.ChangeMaps Go.MapKept Go.Maps
def kE (S : List Nat) : List (Lit × DataW Unit) := S.map fun x => (keyL x, .lit (.int .i64 1))
def kD (S : List Nat) : DataW Unit := .map (kE S)
theorem filter_kE (v : Nat) : ∀ S : List Nat, (kE S).filter (notKey (keyL v)) = kE (S.filter (fun x => decide (x ≠ v)))
  | [] => rfl
  | x :: S => by
    have ih := filter_kE v S
    show List.filter (notKey (keyL v)) ((keyL x, .lit (.int .i64 1)) :: kE S) = _
    by_cases e : x = v
    · rw [List.filter_cons_of_neg (by simp [notKey, same_keyL, e]), List.filter_cons_of_neg (by simp [e]), ih]
    · rw [List.filter_cons_of_pos (by simp [notKey, same_keyL, e]), List.filter_cons_of_pos (by simp [e]), ih]
      rfl
theorem insert_kE {v : Nat} : ∀ {S : List Nat}, ¬ v ∈ S → DataW.insert (keyL v, .lit (.int .i64 1)) (kE S) = kE (ins v S)
  | [], _ => rfl
  | x :: S, h => by
    show DataW.insert (keyL v, .lit (.int .i64 1)) ((keyL x, .lit (.int .i64 1)) :: kE S) = _
    unfold DataW.insert ins
    simp only [before_keyL, decide_eq_true_eq]
    by_cases hv : v < x
    · rw [if_pos hv, if_pos hv]; rfl
    · rw [if_neg hv, if_neg hv, if_neg (fun e => h (by simp [e])), insert_kE (fun hm => h (by simp [hm]))]; rfl
theorem put_kE {v : Nat} {S : List Nat} (h : Rising S) : putKey (keyL v) (.lit (.int .i64 1)) (kE S) = kE (ins v S) := by
  unfold putKey
  rw [filter_kE, insert_kE (by simp), ins_filter h]
theorem put_kD {v : Nat} {S : List Nat} (h : Rising S) : (kD S).put (keyL v) (.lit (.int .i64 1)) = kD (ins v S) := by
  unfold kD
  rw [DataW.put_eq, put_kE h]
theorem find_kE (v : Nat) : ∀ S : List Nat, (kE S).find? (fun p => p.1.sameKey (keyL v)) = if v ∈ S then some (keyL v, .lit (.int .i64 1)) else none
  | [] => by simp [kE]
  | x :: S => by
    have ih := find_kE v S
    show List.find? _ ((keyL x, DataW.lit (.int .i64 1)) :: kE S) = _
    by_cases e : x = v
    · subst e
      rw [List.find?_cons_of_pos (by simp [same_keyL])]
      simp
    · rw [List.find?_cons_of_neg (by simp [same_keyL, e]), ih]
      simp [show ¬ v = x from fun h => e h.symm]
theorem at_kD (v : Nat) (S : List Nat) : (kD S).atKey (keyL v) (.lit (.int .i64 0)) = .lit (.int .i64 (if v ∈ S then 1 else 0)) := by
  unfold kD DataW.atKey
  simp only [find_kE]
  by_cases h : v ∈ S
  · simp [h]
  · simp [h]
theorem size_kD (S : List Nat) : Maps.size (kD S) = S.length := by simp [Maps.size, kD, kE]
/-- The three types of a set. -/
structure TKn (P : Program) (t k e : TypeId) : Prop where
  und : P.underlying t = some (.map k e)
  key : P.underlying k = some (.int .u64)
  elm : P.underlying e = some (.int .i64)
  zero : ∀ w : World, (zeroValue e).run P w = .ok (.int .i64 0) w
/-- Block b is the set S. -/
def KnAt (P : Program) (k e : TypeId) (w : World) (b : Nat) (S : List Nat) : Prop :=
  w.ownsMap P k (plainElem P e) b S.length (kD S) ∧ Rising S ∧ ∀ x ∈ S, x < 18446744073709551616
section
variable {P : Program} {t k e : TypeId} {w w' : World} {b v : Nat} {S : List Nat}
theorem own_tightK {R : Value → Option (DataW Unit × List MemPlace)} {n : Nat} (h : w.ownsMap P k R b n (kD S)) : w.ownsMap P k R b S.length (kD S) := by
  obtain ⟨es, clock, hb, F, _, hD⟩ := h
  refine ⟨es, clock, hb, F, ?_, hD⟩
  have h1 := congrArg Maps.size hD
  rw [size_kD] at h1
  simp only [Maps.size, length_sorted, List.length_map, Array.length_toList] at h1
  omega
theorem KnAt.lt (h : KnAt P k e w b S) : b < w.heap.size := h.1.lt
theorem KnAt.same (h : KnAt P k e w b S) (hb : w'.heap[b]? = w.heap[b]?) : KnAt P k e w' b S := by
  obtain ⟨⟨es, clock, h1, h2⟩, h3⟩ := h
  exact ⟨⟨es, clock, hb.trans h1, h2⟩, h3⟩
theorem KnAt.kept {row : Option Nat} (h : KnAt P k e w b S) (hg : w.grownBy w' row) (hne : some b ≠ row) : KnAt P k e w' b S := h.same (hg.block b h.lt hne)
theorem KnAt.below (h : KnAt P k e w b S) (hb : Below w.heap.size w w') : KnAt P k e w' b S := h.same (hb.block b h.lt)
theorem KnAt.alloc (h : KnAt P k e w b S) (o : Obj) : KnAt P k e (w.alloc o) b S := h.same (alloc_old h.lt)
theorem KnAt.drewN (h : KnAt P k e w b S) (n : Nat) : KnAt P k e (w.drewN n) b S := h.same rfl
theorem KnAt.setCell (h : KnAt P k e w b S) {a : Addr} (ha : b ≠ a.block) (u : Value) : KnAt P k e (w.setCell a u) b S := h.same (set_other ha)
theorem KnAt.nil (P : Program) (k e : TypeId) (w : World) : KnAt P k e (w.alloc (.map #[] 0)) w.heap.size [] :=
  ⟨World.ownsMap_made w P k (plainElem P e), rising_nil, fun x hx => by cases hx⟩
/-- Is a number known? -/
theorem KnAt.look (T : TKn P t k e) (h : KnAt P k e w b S) (hv : v < 18446744073709551616) : (Instr.lookup t (.map (some b)) (.int .u64 (v : Nat)) false).run P w = .ok (.int .i64 (if v ∈ S then 1 else 0)) w := by
  obtain ⟨x, ps, hrun, hR⟩ := h.1.lookup (int_keyed T.key) T.und (T.zero w) (plainElem_int T.elm (show (Lit.int .i64 0).wf = true by decide)) (keyOf_int_mk T.key (wf_key hv))
  have h2 : (kD S).atKey (.int .u64 (v : Nat)) (.lit (.int .i64 0)) = .lit (.int .i64 (if v ∈ S then 1 else 0)) := at_kD v S
  rw [h2] at hR
  obtain ⟨c, rfl, hz, _⟩ := plainElem_int_inv T.elm hR
  simp only [Prod.mk.injEq, DataW.lit.injEq, Lit.int.injEq] at hz
  rw [hrun, ← hz.1.2]
/-- A number more. -/
theorem KnAt.upd (T : TKn P t k e) (h : KnAt P k e w b S) (hv : v < 18446744073709551616) (hn : S.length < maxLen) :
    ∃ es c, (Instr.mapUpdate t (.map (some b)) (.int .u64 (v : Nat)) (.int .i64 1)).run P w = .ok () (setBlock w b (.map es c)) ∧ KnAt P k e (setBlock w b (.map es c)) b (ins v S) ∧ w.grownBy (setBlock w b (.map es c)) (some b) := by
  obtain ⟨w1, h1, h2, h3⟩ := h.1.store (int_keyed T.key) T.und hn (keyOf_int_mk T.key (wf_key hv)) (plainElem_int T.elm (show (Lit.int .i64 1).wf = true by decide))
  have h4 : (kD S).put (.int .u64 (v : Nat)) (.lit (.int .i64 1)) = kD (ins v S) := put_kD h.2.1
  rw [h4] at h2
  have h5 := h3.grown
  obtain ⟨es0, c0, es, c, _, rfl⟩ := h3
  exact ⟨es, c, h1, ⟨own_tightK h2, ins_ok hv h.2⟩, h5⟩
/-- A new set with one number. -/
theorem kn_one (T : TKn P t k e) (w : World) (hv : v < 18446744073709551616) :
    ∃ es c, (Instr.mapUpdate t (.map (some w.heap.size)) (.int .u64 (v : Nat)) (.int .i64 1)).run P (w.alloc (.map #[] 0)) = .ok () (w.alloc (.map es c)) ∧ KnAt P k e (w.alloc (.map es c)) w.heap.size [v] := by
  obtain ⟨es, c, h1, h2, _⟩ := (KnAt.nil P k e w).upd T hv (by unfold maxLen; simp)
  rw [setBlock_new] at h1 h2
  exact ⟨es, c, h1, h2⟩
end
end Go.Hs
