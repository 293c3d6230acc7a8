/- Maps of numbers in memory: map[uint64]uint64, as lists of pairs by rising keys. No program in sight. -/
import Derived.Test.YtkdjefnnhanhhaaZHa
import Derived.Test.YtkdjefnnhanhhaaUa
import Derived.WalkArith
set_option linter.unusedVariables false
namespace Go.Jn
open Go Go.RowKit Go.Mem Go.Hs Go.ChangeMaps Go.MapKept Go.Maps
set_option linter.unusedVariables false

abbrev MM := List (Nat × Nat)
def RisM (M : MM) : Prop := M.Pairwise (fun p q => p.1 < q.1)
def getM : MM → Nat → Option Nat
  | [], _ => none
  | p :: M, k => if p.1 = k then some p.2 else getM M k
theorem getM_cons (p : Nat × Nat) (M : MM) (k : Nat) : getM (p :: M) k = if p.1 = k then some p.2 else getM M k := rfl
def insM (q : Nat × Nat) : MM → MM
  | [] => [q]
  | p :: M => if q.1 < p.1 then q :: p :: M else p :: insM q M
def delM (k : Nat) (M : MM) : MM := M.filter (fun p => decide (p.1 ≠ k))
def putM (k v : Nat) (M : MM) : MM := insM (k, v) (delM k M)

theorem mem_insM {q p : Nat × Nat} : ∀ {M : MM}, p ∈ insM q M ↔ p = q ∨ p ∈ M
  | [] => by simp [insM]
  | x :: M => by
    unfold insM
    by_cases h : q.1 < x.1
    · rw [if_pos h]; simp
    · rw [if_neg h]; simp only [List.mem_cons, mem_insM (M := M)]
      constructor
      · rintro (h | h | h)
        · exact .inr (.inl h)
        · exact .inl h
        · exact .inr (.inr h)
      · rintro (h | h | h)
        · exact .inr (.inl h)
        · exact .inl h
        · exact .inr (.inr h)
theorem ris_insM {q : Nat × Nat} : ∀ {M : MM}, RisM M → (∀ p ∈ M, p.1 ≠ q.1) → RisM (insM q M)
  | [], _, _ => List.pairwise_singleton _ _
  | x :: M, h, hn => by
    unfold insM
    obtain ⟨h1, h2⟩ := List.pairwise_cons.1 h
    by_cases hx : q.1 < x.1
    · rw [if_pos hx]
      exact List.pairwise_cons.2 ⟨fun a ha => by
        rcases List.mem_cons.1 ha with rfl | ha
        · exact hx
        · exact Nat.lt_trans hx (h1 a ha), h⟩
    · rw [if_neg hx]
      refine List.pairwise_cons.2 ⟨fun a ha => ?_, ris_insM h2 (fun p hp => hn p (by simp [hp]))⟩
      rcases mem_insM.1 ha with rfl | ha
      · have := hn x (by simp); omega
      · exact h1 a ha
theorem mem_delM {k : Nat} {M : MM} {p : Nat × Nat} : p ∈ delM k M ↔ p ∈ M ∧ p.1 ≠ k := by simp [delM, List.mem_filter]
theorem ris_delM {k : Nat} {M : MM} (h : RisM M) : RisM (delM k M) := List.Pairwise.filter _ h
theorem ris_putM {k v : Nat} {M : MM} (h : RisM M) : RisM (putM k v M) := ris_insM (ris_delM h) (fun p hp => (mem_delM.1 hp).2)
theorem len_insM {q : Nat × Nat} : ∀ M : MM, (insM q M).length = M.length + 1
  | [] => rfl
  | x :: M => by unfold insM; split <;> simp [len_insM M]
theorem len_delM {k : Nat} {M : MM} : (delM k M).length ≤ M.length := List.length_filter_le _ _
theorem get_insM {q : Nat × Nat} {k : Nat} : ∀ {M : MM}, (∀ p ∈ M, p.1 ≠ q.1) → getM (insM q M) k = if q.1 = k then some q.2 else getM M k
  | [], _ => rfl
  | x :: M, hn => by
    unfold insM
    have hx := hn x (by simp)
    have ih := get_insM (k := k) (M := M) (fun p hp => hn p (by simp [hp]))
    by_cases h : q.1 < x.1
    · rw [if_pos h]; rfl
    · rw [if_neg h]
      unfold getM
      rw [ih]
      by_cases e : x.1 = k
      · rw [if_pos e, if_pos e, if_neg (by omega)]
      · rw [if_neg e, if_neg e]
theorem get_delM {k k' : Nat} : ∀ {M : MM}, getM (delM k M) k' = if k' = k then none else getM M k'
  | [] => by unfold delM; simp [getM]
  | x :: M => by
    have ih := get_delM (k := k) (k' := k') (M := M)
    unfold delM at ih ⊢
    by_cases e : x.1 = k
    · rw [List.filter_cons_of_neg (by simp [e]), ih]
      by_cases e' : k' = k
      · rw [if_pos e', if_pos e']
      · rw [if_neg e', if_neg e', getM_cons, if_neg (by omega)]
    · rw [List.filter_cons_of_pos (by simp [e])]
      unfold getM
      rw [ih]
      by_cases e' : x.1 = k'
      · rw [if_pos e', if_pos e', if_neg (by omega)]
      · rw [if_neg e', if_neg e']
theorem get_putM {k v k' : Nat} {M : MM} : getM (putM k v M) k' = if k' = k then some v else getM M k' := by
  unfold putM
  rw [get_insM (fun p hp => (mem_delM.1 hp).2), get_delM]
  by_cases e : k' = k
  · subst e; simp
  · rw [if_neg (fun h => e h.symm), if_neg e, if_neg e]

def mE (M : MM) : List (Lit × DataW Unit) := M.map fun p => (keyL p.1, .lit (.int .u64 (p.2 : Nat)))
def mD (M : MM) : DataW Unit := .map (mE M)
theorem filter_mE (k : Nat) : ∀ M : MM, (mE M).filter (notKey (keyL k)) = mE (delM k M)
  | [] => rfl
  | x :: M => by
    have ih := filter_mE k M
    unfold delM at ih ⊢
    show List.filter (notKey (keyL k)) ((keyL x.1, .lit (.int .u64 (x.2 : Nat))) :: mE M) = _
    by_cases e : x.1 = k
    · rw [List.filter_cons_of_neg (by simp [notKey, same_keyL, e]), List.filter_cons_of_neg (by simp [e]), ih]
    · rw [List.filter_cons_of_pos (by simp [notKey, same_keyL, e]), List.filter_cons_of_pos (by simp [e]), ih]
      rfl
theorem insert_mE {q : Nat × Nat} : ∀ {M : MM}, DataW.insert (keyL q.1, .lit (.int .u64 (q.2 : Nat))) (mE M) = mE (insM q M)
  | [] => rfl
  | x :: M => by
    show DataW.insert (keyL q.1, .lit (.int .u64 (q.2 : Nat))) ((keyL x.1, .lit (.int .u64 (x.2 : Nat))) :: mE M) = _
    unfold DataW.insert insM
    simp only [before_keyL, decide_eq_true_eq]
    by_cases hv : q.1 < x.1
    · rw [if_pos hv, if_pos hv]; rfl
    · rw [if_neg hv, if_neg hv, insert_mE]; rfl
theorem put_mD {k v : Nat} {M : MM} : (mD M).put (keyL k) (.lit (.int .u64 (v : Nat))) = mD (putM k v M) := by
  unfold mD
  rw [DataW.put_eq]
  unfold putKey putM
  rw [filter_mE]
  exact congrArg DataW.map (insert_mE (q := (k, v)) (M := delM k M))
theorem del_mD {k : Nat} {M : MM} : (mD M).del (keyL k) = mD (delM k M) := by
  unfold mD
  rw [DataW.del_eq]
  exact congrArg DataW.map (filter_mE k M)
theorem find_mE (k : Nat) : ∀ M : MM, (mE M).find? (fun p => p.1.sameKey (keyL k)) = (getM M k).map (fun v => (keyL k, .lit (.int .u64 (v : Nat))))
  | [] => rfl
  | x :: M => by
    have ih := find_mE k M
    show List.find? _ ((keyL x.1, DataW.lit (.int .u64 (x.2 : Nat))) :: mE M) = _
    unfold getM
    by_cases e : x.1 = k
    · rw [List.find?_cons_of_pos (by simp [same_keyL, e]), if_pos e, e]; rfl
    · rw [List.find?_cons_of_neg (by simp [same_keyL, e]), if_neg e, ih]
theorem at_mD (k : Nat) (M : MM) : (mD M).atKey (keyL k) (.lit (.int .u64 0)) = .lit (.int .u64 (((getM M k).getD 0 : Nat) : Int)) := by
  unfold mD DataW.atKey
  simp only [find_mE]
  cases getM M k <;> rfl
theorem has_mD (k : Nat) (M : MM) : Maps.has (mD M) (keyL k) = (getM M k).isSome := by
  show Maps.has (.map (mE M)) _ = _
  rw [has_eq]
  induction M with
  | nil => rfl
  | cons x M ih =>
    show List.any ((keyL x.1, DataW.lit (.int .u64 (x.2 : Nat))) :: mE M) _ = _
    rw [List.any_cons, ih, getM_cons]
    by_cases e : x.1 = k
    · rw [if_pos e]; simp [same_keyL, e]
    · rw [if_neg e]; simp [same_keyL, e]
theorem size_mD (M : MM) : Maps.size (mD M) = M.length := by simp [Maps.size, mD, mE]
/-- The three types of such a map. -/
structure TMap (P : Program) (t k e : TypeId) : Prop where
  und : P.underlying t = some (.map k e)
  key : P.underlying k = some (.int .u64)
  elm : P.underlying e = some (.int .u64)
  zero : ∀ w : World, (zeroValue e).run P w = .ok (.int .u64 0) w
def FitM (M : MM) : Prop := RisM M ∧ ∀ p ∈ M, p.1 < 18446744073709551616 ∧ p.2 < 18446744073709551616
/-- Block b is the map M. -/
def MAt (P : Program) (k e : TypeId) (w : World) (b : Nat) (M : MM) : Prop :=
  w.ownsMap P k (plainElem P e) b M.length (mD M) ∧ FitM M
theorem wf_u64' {v : Nat} (h : v < 18446744073709551616) : (Lit.int .u64 (v : Nat)).wf = true := WalkArith.wf_u64 (by omega)
theorem FitM.put {k v : Nat} {M : MM} (h : FitM M) (hk : k < 18446744073709551616) (hv : v < 18446744073709551616) : FitM (putM k v M) :=
  ⟨ris_putM h.1, fun p hp => by rcases mem_insM.1 hp with rfl | hp; exact ⟨hk, hv⟩; exact h.2 p (mem_delM.1 hp).1⟩
theorem FitM.del {k : Nat} {M : MM} (h : FitM M) : FitM (delM k M) := ⟨ris_delM h.1, fun p hp => h.2 p (mem_delM.1 hp).1⟩
section
variable {P : Program} {t k e : TypeId} {w w' : World} {b x v : Nat} {M : MM}
theorem own_tightM {R : Value → Option (DataW Unit × List MemPlace)} {n : Nat} (h : w.ownsMap P k R b n (mD M)) : w.ownsMap P k R b M.length (mD M) := by
  obtain ⟨es, clock, hb, F, _, hD⟩ := h
  refine ⟨es, clock, hb, F, ?_, hD⟩
  have h1 := congrArg Maps.size hD
  rw [size_mD] at h1
  simp only [Maps.size, length_sorted, List.length_map, Array.length_toList] at h1
  omega
theorem MAt.lt (h : MAt P k e w b M) : b < w.heap.size := h.1.lt
theorem MAt.same (h : MAt P k e w b M) (hb : w'.heap[b]? = w.heap[b]?) : MAt P k e w' b M := by
  obtain ⟨⟨es, clock, h1, h2⟩, h3⟩ := h
  exact ⟨⟨es, clock, hb.trans h1, h2⟩, h3⟩
theorem MAt.isMap (h : MAt P k e w b M) : ∃ es c, w.heap[b]? = some (.map es c) := by
  obtain ⟨⟨es, clock, h1, h2⟩, h3⟩ := h
  exact ⟨es, clock, h1⟩
theorem MAt.kept {row : Option Nat} (h : MAt P k e w b M) (hg : w.grownBy w' row) (hne : some b ≠ row) : MAt P k e w' b M := h.same (hg.block b h.lt hne)
theorem MAt.below (h : MAt P k e w b M) (hb : Below w.heap.size w w') : MAt P k e w' b M := h.same (hb.block b h.lt)
theorem MAt.alloc (h : MAt P k e w b M) (o : Obj) : MAt P k e (w.alloc o) b M := h.same (alloc_old h.lt)
theorem MAt.drewN (h : MAt P k e w b M) (n : Nat) : MAt P k e (w.drewN n) b M := h.same rfl
theorem MAt.setCell (h : MAt P k e w b M) {a : Addr} (ha : b ≠ a.block) (u : Value) : MAt P k e (w.setCell a u) b M := h.same (set_other ha)
theorem MAt.nil (P : Program) (k e : TypeId) (w : World) : MAt P k e (w.alloc (.map #[] 0)) w.heap.size [] :=
  ⟨World.ownsMap_made w P k (plainElem P e), List.Pairwise.nil, fun x hx => by cases hx⟩
/-- v, there := m[x]. -/
theorem MAt.look2 (T : TMap P t k e) (h : MAt P k e w b M) (hx : x < 18446744073709551616) : (Instr.lookup t (.map (some b)) (.int .u64 (x : Nat)) true).run P w = .ok (.tuple #[.int .u64 (((getM M x).getD 0 : Nat) : Int), .bool (getM M x).isSome]) w := by
  obtain ⟨c, ps, hrun, hR⟩ := h.1.look_ok (int_keyed T.key) T.und (T.zero w) (plainElem_int T.elm (show (Lit.int .u64 0).wf = true by decide)) (keyOf_int_mk T.key (wf_u64' hx))
  have h2 : (mD M).atKey (.int .u64 (x : Nat)) (.lit (.int .u64 0)) = .lit (.int .u64 (((getM M x).getD 0 : Nat) : Int)) := at_mD x M
  have h3 : Maps.has (mD M) (.int .u64 (x : Nat)) = (getM M x).isSome := has_mD x M
  rw [h2] at hR
  rw [h3] at hrun
  obtain ⟨c, rfl, hz, _⟩ := plainElem_int_inv T.elm hR
  simp only [Prod.mk.injEq, DataW.lit.injEq, Lit.int.injEq] at hz
  rw [hrun, ← hz.1.2]
/-- m[x]. -/
theorem MAt.look (T : TMap P t k e) (h : MAt P k e w b M) (hx : x < 18446744073709551616) : (Instr.lookup t (.map (some b)) (.int .u64 (x : Nat)) false).run P w = .ok (.int .u64 (((getM M x).getD 0 : Nat) : Int)) w := by
  obtain ⟨c, ps, hrun, hR⟩ := h.1.lookup (int_keyed T.key) T.und (T.zero w) (plainElem_int T.elm (show (Lit.int .u64 0).wf = true by decide)) (keyOf_int_mk T.key (wf_u64' hx))
  have h2 : (mD M).atKey (.int .u64 (x : Nat)) (.lit (.int .u64 0)) = .lit (.int .u64 (((getM M x).getD 0 : Nat) : Int)) := at_mD x M
  rw [h2] at hR
  obtain ⟨c, rfl, hz, _⟩ := plainElem_int_inv T.elm hR
  simp only [Prod.mk.injEq, DataW.lit.injEq, Lit.int.injEq] at hz
  rw [hrun, ← hz.1.2]
/-- m[x] = v. -/
theorem MAt.upd (T : TMap P t k e) (h : MAt P k e w b M) (hx : x < 18446744073709551616) (hv : v < 18446744073709551616) (hn : M.length < maxLen) :
    ∃ es c, (Instr.mapUpdate t (.map (some b)) (.int .u64 (x : Nat)) (.int .u64 (v : Nat))).run P w = .ok () (setBlock w b (.map es c)) ∧ MAt P k e (setBlock w b (.map es c)) b (putM x v M) ∧ w.grownBy (setBlock w b (.map es c)) (some b) := by
  obtain ⟨w1, h1, h2, h3⟩ := h.1.store (int_keyed T.key) T.und hn (keyOf_int_mk T.key (wf_u64' hx)) (plainElem_int T.elm (wf_u64' hv))
  have h4 : (mD M).put (.int .u64 (x : Nat)) (.lit (.int .u64 (v : Nat))) = mD (putM x v M) := put_mD
  rw [h4] at h2
  have h5 := h3.grown
  obtain ⟨es0, c0, es, c, _, rfl⟩ := h3
  exact ⟨es, c, h1, ⟨own_tightM h2, h.2.put hx hv⟩, h5⟩
/-- delete(m, x). -/
theorem MAt.drop (T : TMap P t k e) (h : MAt P k e w b M) (hx : x < 18446744073709551616) :
    ∃ es c, (∀ ty, (Builtin.delete_ #[t, k] ty #[.map (some b), .int .u64 (x : Nat)]).run P w = .ok (.tuple #[]) (setBlock w b (.map es c))) ∧ MAt P k e (setBlock w b (.map es c)) b (delM x M) ∧ w.grownBy (setBlock w b (.map es c)) (some b) := by
  obtain ⟨w1, h1, h2, h3⟩ := h.1.drop (int_keyed T.key) T.und (keyOf_int_mk T.key (wf_u64' hx)) 0
  have h4 : (mD M).del (.int .u64 (x : Nat)) = mD (delM x M) := del_mD
  rw [h4] at h2
  have h5 := h3.grown
  obtain ⟨es0, c0, es, c, hb0, rfl⟩ := h3
  exact ⟨es, c, fun ty => h1, ⟨own_tightM h2, h.2.del⟩, h5⟩
theorem MAt.len (T : TMap P t k e) (h : MAt P k e w b M) (ty : TypeId) : (Builtin.len_ #[t] ty #[.map (some b)]).run P w = .ok (.int .i64 (M.length : Nat)) w := by
  rw [h.1.len T.und ty, size_mD]
end
end Go.Jn
