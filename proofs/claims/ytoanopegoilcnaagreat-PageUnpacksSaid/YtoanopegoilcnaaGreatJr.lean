/- Slices of slots of the call's own; append to them. -/
import Derived.Test.YtoanopegoilcnaaGreatJn
import Derived.Test.YtoanopegoilcnaaGreatJa
import Derived.Shelf.Abstract
set_option linter.unusedVariables false
namespace Go.Proofs.YtoanopegoilcnaaGreat
open Go.RowKit Go.Mem Go.Pg

/-- A slice of the call's own that reads as slots. -/
def OwS (e : TypeId) (B : Nat) (w : World) (v : Value) (l : List Slot) : Prop := w.ownsRow B e 3 v l.length (l.flatMap slotC)
theorem slotC_get (l : List Slot) : ∀ j, j < l.length → (l.flatMap slotC)[j * 3]? = some (.int .u32 ((l.getD j Slot.zero).key : Nat)) ∧ (l.flatMap slotC)[j * 3 + 1]? = some (.int .i64 (l.getD j Slot.zero).st) ∧ (l.flatMap slotC)[j * 3 + 2]? = some (.int .u64 ((l.getD j Slot.zero).seq : Nat)) := by
  induction l with
  | nil => intro j hj; simp at hj
  | cons s l ih =>
    intro j hj
    cases j with
    | zero => exact ⟨rfl, rfl, rfl⟩
    | succ j =>
      have := ih j (by simpa using hj)
      have e : ∀ r, ((s :: l).flatMap slotC)[(j + 1) * 3 + r]? = (l.flatMap slotC)[j * 3 + r]? := fun r => by
        rw [List.flatMap_cons, List.getElem?_append_right (by simp [slotC]; omega)]
        congr 1
        simp [slotC]; omega
      have e0 := e 0
      simp only [Nat.add_zero] at e0
      rw [e0, e 1, e 2]
      simpa using this
theorem slotsC_len (l : List Slot) : (l.flatMap slotC).length = l.length * 3 := by
  induction l with
  | nil => rfl
  | cons s l ih => rw [List.flatMap_cons, List.length_append, ih, List.length_cons]; simp [slotC]; omega
section
variable {e : TypeId} {B : Nat} {w w' : World} {v : Value} {l : List Slot}
theorem OwS.nil (e : TypeId) (B : Nat) (w : World) : OwS e B w (.slice none 0 0) [] := World.ownsRow_nil w B e 3
theorem OwS.alloc (h : OwS e B w v l) (o : Obj) : OwS e B (w.alloc o) v l := World.ownsRow.alloc h o
theorem OwS.drewN (h : OwS e B w v l) (n : Nat) : OwS e B (w.drewN n) v l := h
theorem OwS.kept {row : Option Nat} (h : OwS e B w v l) (hg : w.grownBy w' row) (hne : v.ownBlock = none ∨ v.ownBlock ≠ row) : OwS e B w' v l := World.ownsRow.kept h hg hne
theorem OwS.below (h : OwS e B w v l) (hb : Below w.heap.size w w') : OwS e B w' v l := h.kept (hb.toGrown none) (by cases v.ownBlock <;> simp)
theorem OwS.blk (h : OwS e B w v l) : ∀ g, v.ownBlock = some g → B ≤ g ∧ g < w.heap.size := World.ownsRow.lt h
theorem OwS.slr (h : OwS e B w v l) : SlR w v l := by
  obtain ⟨h1, h2 | ⟨g, cap, cur, hv, hg, hb, h3, h4, h5, h6⟩⟩ := h
  · have : l = [] := List.eq_nil_of_length_eq_zero h2.2
    subst this
    rw [h2.1]; exact SlR.nil w
  · refine ⟨_, cap, hv, h3, h4, fun j hj => ⟨g, 0, rfl, ?_⟩⟩
    obtain ⟨q0, q1, q2⟩ := slotC_get l j hj
    have get : ∀ r u, j * 3 + r < l.length * 3 → (l.flatMap slotC)[j * 3 + r]? = some u → w.cell? ⟨g, 0 + j * 3 + r, none⟩ = some u := fun r u hr hu => by
      rw [← h6, List.getElem?_take, if_pos hr] at hu
      rw [Nat.zero_add, cell_at hb, ← Array.getElem?_toList]
      exact hu
    exact ⟨get 0 _ (by omega) q0, get 1 _ (by omega) q1, get 2 _ (by omega) q2⟩
end
/-- Slices of slots. -/
structure ElS (P : Program) (T e : TypeId) : Prop where
  und : P.underlying T = some (.slice e)
  inf : (P.info? e).map (fun i => (i.zero, i.size, i.bytes)) = some (some (.agg #[.int .u32 0, .int .i64 0, .int .u64 0]), 3, 24)
section
variable {P : Program} {T e : TypeId} {B : Nat} {w : World} {v : Value} {l : List Slot}
variable {ops : Array Oper} {rest : List Oper} {o : Oper} {a : Act} {Q : Exit → Act → World → Prop} {K : Act → World → Prop} {E' : Prop}
/-- Slots more. -/
theorem app_slots (E : ElS P T e) (hgd : o.guard = none) (s x : Operand) (ho : o.op = .call { callee := .builtin .append, args := #[s, x], argTypes := #[T, T] })
    (B : Nat) (v : Value) (l : List Slot) (hs : a.eval s = v) (hown : OwS e B w v l) (ys : List Slot) (hsrc : SlR w (a.eval x) ys) (h0 : 0 < ys.length)
    (hlen : l.length + ys.length ≤ 1000000000) (hB : B ≤ w.heap.size)
    (h : ∀ g cap w', OwS e B w' (.slice (some ⟨g, 0, none⟩) (l.length + ys.length) cap) (l ++ ys) → w.grownBy w' v.ownBlock → (v.ownBlock = some g ∨ g = w.heap.size) →
      wpList P ops Q rest (a.put o.dst (.slice (some ⟨g, 0, none⟩) (l.length + ys.length) cap)) w') : wpList P ops Q (o :: rest) a w := by
  obtain ⟨i, hi, hz, hs', hb⟩ := info_parts E.inf
  obtain ⟨sa, c, hx, hc1, hc2, hcell⟩ := hsrc
  obtain ⟨g0, o0, rfl, _⟩ := hcell 0 h0
  refine wpList_append_lies w hgd s x T ho B e i _ 3 24 E.und hi hz hs' hb rfl (by decide) v l.length _ hs hown ⟨g0, o0, none⟩ ys.length c (ys.flatMap slotC) hx (slotsC_len ys) (fun j u hu => ?_) (fun u hu => ?_) h0 (by unfold maxLen; omega) ?_ hB _ rfl ?_
  · rw [add_plain]
    have hj : j < ys.length * 3 := by rw [← slotsC_len]; exact (List.getElem?_eq_some_iff.1 hu).1
    obtain ⟨g', o', he, x1, x2, x3⟩ := hcell (j / 3) (by omega)
    cases he
    obtain ⟨q0, q1, q2⟩ := slotC_get ys (j / 3) (by omega)
    rcases (show j = j / 3 * 3 ∨ j = j / 3 * 3 + 1 ∨ j = j / 3 * 3 + 2 by omega) with e | e | e
    · rw [← e] at q0 x1; rw [x1, ← q0, hu]
    · rw [← e] at q1; rw [Nat.add_assoc, ← e] at x2; rw [x2, ← q1, hu]
    · rw [← e] at q2; rw [Nat.add_assoc, ← e] at x3; rw [x3, ← q2, hu]
  · obtain ⟨s, _, hs⟩ := List.mem_flatMap.1 hu
    simp only [slotC, List.mem_cons, List.not_mem_nil, or_false] at hs
    rcases hs with rfl | rfl | rfl <;> rfl
  · omega
  · intro g cap w' h2 h3 h4 _
    refine h g cap w' ?_ h3 h4
    unfold OwS
    simpa using h2
/-- Slots more, at a step of a region that draws. -/
theorem step_slots (E : ElS P T e) (hgd : o.guard = none) (s x : Operand) (ho : o.op = .call { callee := .builtin .append, args := #[s, x], argTypes := #[T, T] })
    (B : Nat) (v : Value) (l : List Slot) (hs : a.eval s = v) (hown : OwS e B w v l) (ys : List Slot) (sv : Value) (hx : a.eval x = sv) (hsrc : SlR w sv ys) (h0 : 0 < ys.length)
    (hlen : l.length + ys.length ≤ 1000000000) (hB : B ≤ w.heap.size)
    (h : ∀ g cap w', OwS e B w' (.slice (some ⟨g, 0, none⟩) (l.length + ys.length) cap) (l ++ ys) → w.grownBy w' v.ownBlock → (v.ownBlock = some g ∨ g = w.heap.size) →
      K (a.put o.dst (.slice (some ⟨g, 0, none⟩) (l.length + ys.length) cap)) w') : if Region.wanted o (yielded ops a.tmps) = true then Oper.wp P o a w K Q else E' := by
  obtain ⟨i, hi, hz, hs', hb⟩ := info_parts E.inf
  obtain ⟨sa, c, rfl, hc1, hc2, hcell⟩ := hsrc
  obtain ⟨g0, o0, rfl, _⟩ := hcell 0 h0
  refine step_append_lies w hgd s x T ho B e i _ 3 24 E.und hi hz hs' hb rfl (by decide) v l.length _ hs hown ⟨g0, o0, none⟩ ys.length c (ys.flatMap slotC) hx (slotsC_len ys) (fun j u hu => ?_) (fun u hu => ?_) h0 (by unfold maxLen; omega) ?_ hB _ rfl ?_
  · rw [add_plain]
    have hj : j < ys.length * 3 := by rw [← slotsC_len]; exact (List.getElem?_eq_some_iff.1 hu).1
    obtain ⟨g', o', he, x1, x2, x3⟩ := hcell (j / 3) (by omega)
    cases he
    obtain ⟨q0, q1, q2⟩ := slotC_get ys (j / 3) (by omega)
    rcases (show j = j / 3 * 3 ∨ j = j / 3 * 3 + 1 ∨ j = j / 3 * 3 + 2 by omega) with e | e | e
    · rw [← e] at q0 x1; rw [x1, ← q0, hu]
    · rw [← e] at q1; rw [Nat.add_assoc, ← e] at x2; rw [x2, ← q1, hu]
    · rw [← e] at q2; rw [Nat.add_assoc, ← e] at x3; rw [x3, ← q2, hu]
  · obtain ⟨s, _, hs⟩ := List.mem_flatMap.1 hu
    simp only [slotC, List.mem_cons, List.not_mem_nil, or_false] at hs
    rcases hs with rfl | rfl | rfl <;> rfl
  · omega
  · intro g cap w' h2 h3 h4 _
    refine h g cap w' ?_ h3 h4
    unfold OwS
    simpa using h2
/-- One slot, made anew. -/
theorem slr_new {w : World} {t : TypeId} {s : Slot} {x y z : Int} (hx : x = (s.key : Nat)) (hy : y = s.st) (hz : z = (s.seq : Nat)) :
    SlR (w.alloc (.cells #[.int .u32 x, .int .i64 y, .int .u64 z] t)) (.slice (some ⟨w.heap.size, 0, none⟩) 1 1) [s] := by
  subst hx hy hz
  have h := alloc_new w (.cells #[.int .u32 (s.key : Nat), .int .i64 s.st, .int .u64 (s.seq : Nat)] t)
  refine ⟨_, 1, rfl, Nat.le_refl _, by unfold maxLen; decide, fun j hj => ⟨w.heap.size, 0, rfl, ?_⟩⟩
  simp only [List.length_cons, List.length_nil] at hj
  obtain rfl : j = 0 := by omega
  exact ⟨cell_at h 0, cell_at h 1, cell_at h 2⟩
end
end Go.Proofs.YtoanopegoilcnaaGreat
/- A store of what lies there already. -/
namespace Go.Mem
theorem mod_id {α : Type _} {a : Array α} {i : Nat} {x : α} {f : α → α} (h : a[i]? = some x) (hf : f x = x) : a.modify i f = a := by
  apply Array.ext_getElem?
  intro k
  rw [Array.getElem?_modify]
  by_cases e : i = k
  · subst e; rw [if_pos rfl, h]; simp [hf]
  · rw [if_neg e]
theorem set_same {w : World} {b j : Nat} {v : Value} {cs : Array Value} {t : TypeId} {fz : Nat × Nat} (h : w.heap[b]? = some (.cells cs t fz)) (hj : cs[j]? = some v) : w.setCell ⟨b, j, none⟩ v = w := by
  have hm : cs.setIfInBounds j v = cs := by
    apply Array.ext_getElem?
    intro k
    rw [Array.getElem?_setIfInBounds]
    by_cases e : j = k
    · subst e
      rw [if_pos rfl, hj]
      have := (Array.getElem?_eq_some_iff.1 hj).1
      simp [this]
    · rw [if_neg e]
  unfold World.setCell
  rw [mod_id h (by simp [hm])]
end Go.Mem
/- Memory: cells told by values; what lies behind a block and is kept; rows and slots there. -/
namespace Go.Mem
open Go.RowKit

def fv (n : Nat) (q : Nat → Value) : Array Value := ((List.range n).map q).toArray
def updv (q : Nat → Value) (j : Nat) (v : Value) : Nat → Value := fun i => if i = j then v else q i
theorem fv_get {n : Nat} {q : Nat → Value} {j : Nat} (h : j < n) : (fv n q)[j]? = some (q j) := by simp [fv, h]
theorem fv_none {n : Nat} {q : Nat → Value} {j : Nat} (h : n ≤ j) : (fv n q)[j]? = none := by simp [fv, h]
theorem fv_size (n : Nat) (q : Nat → Value) : (fv n q).size = n := by simp [fv]
theorem fv_set (n : Nat) (q : Nat → Value) (j : Nat) (v : Value) : (fv n q).setIfInBounds j v = fv n (updv q j v) := by
  apply Array.ext_getElem?
  intro i
  rw [Array.getElem?_setIfInBounds, fv_size]
  by_cases hi : i < n
  · rw [fv_get hi, fv_get hi]
    by_cases e : j = i
    · subst e; simp [updv, hi]
    · rw [if_neg e]; simp [updv, show ¬ i = j from fun h => e h.symm]
  · rw [fv_none (by omega), fv_none (by omega)]
    by_cases e : j = i
    · subst e; simp [hi]
    · rw [if_neg e]
theorem made_fv (v : Value) (hv : Value.cells v = #[v]) (n : Nat) : madeCells (Value.cells v) (n * 1) = fv n (fun _ => v) := by
  rw [hv]
  apply Array.ext_getElem?
  intro i
  by_cases hi : i < n
  · rw [fv_get hi]; simp [madeCells, hi, Nat.mod_one]
  · rw [fv_none (by omega)]; simp [madeCells, hi]

/-- What lies at M and behind is as it was. -/
structure Keep (M : Nat) (w w' : World) : Prop where
  size : w.heap.size ≤ w'.heap.size
  block : ∀ k, M ≤ k → k < w.heap.size → w'.heap[k]? = w.heap[k]?
theorem Keep.refl (M : Nat) (w : World) : Keep M w w := ⟨Nat.le_refl _, fun _ _ _ => rfl⟩
theorem Keep.of_grown {M b : Nat} {w w' : World} (h : w.grownBy w' (some b)) (hb : b < M) : Keep M w w' :=
  ⟨h.size, fun k hk hs => h.block k hs (fun e => by cases e; omega)⟩
theorem Keep.of_below {M : Nat} {w w' : World} (h : Below w.heap.size w w') : Keep M w w' := ⟨h.size, fun k _ hs => h.block k hs⟩
theorem Keep.trans {M : Nat} {w w1 w2 : World} (h : Keep M w w1) (h2 : Keep M w1 w2) : Keep M w w2 :=
  ⟨Nat.le_trans h.size h2.size, fun k hk hs => (h2.block k hk (Nat.lt_of_lt_of_le hs h.size)).trans (h.block k hk hs)⟩
theorem below_grown {B b : Nat} {w w1 w2 : World} (h : Below B w w1) (h2 : w1.grownBy w2 (some b)) (hb : B ≤ b) (hs : B ≤ w1.heap.size) : Below B w w2 :=
  ⟨h2.os.trans h.os, h2.tape.trans h.tape, h2.output.trans h.output, Nat.le_trans h.size h2.size, fun i hi => (h2.block i (by omega) (fun e => by cases e; omega)).trans (h.block i hi)⟩
theorem grown_of_set {w V : World} {b j : Nat} {v : Value} (h : Below w.heap.size (w.setCell ⟨b, j, none⟩ v) V) : w.grownBy V (some b) := by
  refine ⟨h.os.trans rfl, h.tape.trans rfl, h.output.trans rfl, ?_, fun k hk hne => (h.block k hk).trans (set_other (fun e => hne (by rw [e])))⟩
  have := h.size
  simpa using this
theorem at_of_set {w V : World} {b : Nat} {x v : Value} {t : TypeId} {fz : Nat × Nat} (h : Below w.heap.size (w.setCell ⟨b, 0, none⟩ v) V) (hb : w.heap[b]? = some (.cells #[x] t fz)) : V.heap[b]? = some (.cells #[v] t fz) :=
  (h.block b (lt_at hb)).trans (set_at hb 0 v)

/-- Bytes that lie behind M, or none. -/
def RowM (M : Nat) (w : World) (v : Value) (xs : List Nat) : Prop :=
  (v = .slice none 0 0 ∧ xs = []) ∨ ∃ g c, M ≤ g ∧ g < w.heap.size ∧ v = .slice (some ⟨g, 0, none⟩) xs.length c ∧ Rd .u8 w v xs
theorem Rd.same {k : IntKind} {w w' : World} {g n cap : Nat} {xs : List Nat} (h : Rd k w (.slice (some ⟨g, 0, none⟩) n cap) xs) (he : w'.heap[g]? = w.heap[g]?) : Rd k w' (.slice (some ⟨g, 0, none⟩) n cap) xs := by
  obtain ⟨a, c, hv, h1, h2, hc⟩ := h
  cases hv
  refine ⟨_, _, rfl, h1, h2, fun j hj => ?_⟩
  obtain ⟨g', o', ha, hx⟩ := hc j hj
  cases ha
  exact ⟨g, 0, rfl, (World.cell?_of_block (a := ⟨g, 0 + j, none⟩) he).trans hx⟩
theorem RowM.keep {M : Nat} {w w' : World} {v : Value} {xs : List Nat} (h : RowM M w v xs) (hk : Keep M w w') : RowM M w' v xs := by
  rcases h with h | ⟨g, c, h1, h2, rfl, h3⟩
  · exact .inl h
  · exact .inr ⟨g, c, h1, Nat.lt_of_lt_of_le h2 hk.size, rfl, h3.same (hk.block g h1 h2)⟩
theorem RowM.rd {M : Nat} {w : World} {v : Value} {xs : List Nat} (h : RowM M w v xs) : Rd .u8 w v xs := by
  rcases h with ⟨rfl, rfl⟩ | ⟨g, c, h1, h2, rfl, h3⟩
  · exact ⟨none, 0, rfl, Nat.le_refl _, by unfold maxLen; omega, fun j hj => by simp at hj⟩
  · exact h3
theorem RowM.nil (M : Nat) (w : World) : RowM M w (.slice none 0 0) [] := .inl ⟨rfl, rfl⟩
end Go.Mem
namespace Go.Proofs.YtoanopegoilcnaaGreat
open Go.RowKit Go.Mem Go.Pg
/-- Slots that lie behind M. -/
def SlM (M : Nat) (w : World) (v : Value) (l : List Slot) : Prop :=
  ∃ g cap, M ≤ g ∧ g < w.heap.size ∧ v = .slice (some ⟨g, 0, none⟩) l.length cap ∧ SlR w v l
theorem SlM.keep {M : Nat} {w w' : World} {v : Value} {l : List Slot} (h : SlM M w v l) (hk : Keep M w w') : SlM M w' v l := by
  obtain ⟨g, cap, h1, h2, rfl, h3⟩ := h
  refine ⟨g, cap, h1, Nat.lt_of_lt_of_le h2 hk.size, rfl, ?_⟩
  obtain ⟨a, c, hv, b1, b2, hc⟩ := h3
  refine ⟨a, c, hv, b1, b2, fun j hj => ?_⟩
  cases hv
  obtain ⟨g', o', ha, x1, x2, x3⟩ := hc j hj
  cases ha
  have he := hk.block g h1 h2
  exact ⟨g, 0, rfl, (World.cell?_of_block (a := ⟨g, 0 + j * 3, none⟩) he).trans x1, (World.cell?_of_block (a := ⟨g, 0 + j * 3 + 1, none⟩) he).trans x2, (World.cell?_of_block (a := ⟨g, 0 + j * 3 + 2, none⟩) he).trans x3⟩
theorem OwS.slm {e : TypeId} {M : Nat} {w : World} {v : Value} {l : List Slot} (h : OwS e M w v l) (h0 : 0 < l.length) : SlM M w v l := by
  have hr := h.slr
  have hb := h.blk
  obtain ⟨h1, h2 | ⟨g, cap, cur, hv, hg, hc, h3⟩⟩ := h
  · omega
  · exact ⟨g, cap, hg, lt_at hc, hv, hr⟩
theorem SlM.mono {M M' : Nat} {w : World} {v : Value} {l : List Slot} (h : SlM M w v l) (hm : M' ≤ M) : SlM M' w v l := by
  obtain ⟨g, cap, h1, h2, h3, h4⟩ := h
  exact ⟨g, cap, Nat.le_trans hm h1, h2, h3, h4⟩
end Go.Proofs.YtoanopegoilcnaaGreat
/- Rows of bytes that a call collects: a slice of slices of its own; append to it. -/
namespace Go.Mem
open Go.RowKit

/-- A slice of slices of the call's own (its rows lie behind B, and in no block of X). -/
def OwR (e : TypeId) (B : Nat) (X : Nat → Prop) (w : World) (v : Value) (rows : List (List Nat)) : Prop :=
  ∃ vs, w.ownsRow B e 1 v rows.length vs ∧ vs.length = rows.length ∧ ∀ j, j < rows.length → ∃ u, vs[j]? = some u ∧ ((u = .slice none 0 0 ∧ rows.getD j [] = []) ∨ ∃ g c, B ≤ g ∧ g < w.heap.size ∧ ¬ X g ∧ v.ownBlock ≠ some g ∧ u = .slice (some ⟨g, 0, none⟩) (rows.getD j []).length c ∧ Rd .u8 w u (rows.getD j []))
section
variable {e : TypeId} {B : Nat} {X : Nat → Prop} {w w' : World} {v : Value} {rows : List (List Nat)}
theorem OwR.nil (e : TypeId) (B : Nat) (X : Nat → Prop) (w : World) : OwR e B X w (.slice none 0 0) [] := ⟨[], World.ownsRow_nil w B e 1, rfl, fun j hj => by simp at hj⟩
theorem OwR.blk (h : OwR e B X w v rows) : ∀ g, v.ownBlock = some g → B ≤ g ∧ g < w.heap.size := by
  obtain ⟨vs, h1, _⟩ := h
  exact World.ownsRow.lt h1
theorem OwR.kept {b : Nat} (h : OwR e B X w v rows) (hg : w.grownBy w' (some b)) (hv : v.ownBlock ≠ some b) (hX : X b ∨ b < B) : OwR e B X w' v rows := by
  obtain ⟨vs, h1, h2, h3⟩ := h
  refine ⟨vs, World.ownsRow.kept h1 hg (by cases hb : v.ownBlock with | none => exact .inl rfl | some g => exact .inr (by rw [← hb]; exact hv)), h2, fun j hj => ?_⟩
  obtain ⟨u, hu, hr⟩ := h3 j hj
  refine ⟨u, hu, ?_⟩
  rcases hr with hr | ⟨g, c, x1, x2, x3, x4, rfl, x5⟩
  · exact .inl hr
  · refine .inr ⟨g, c, x1, Nat.lt_of_lt_of_le x2 hg.size, x3, x4, rfl, x5.same (hg.block g x2 (fun e => ?_))⟩
    cases e
    rcases hX with h | h
    · exact x3 h
    · omega
theorem OwR.below (h : OwR e B X w v rows) (hb : Below w.heap.size w w') : OwR e B X w' v rows := by
  obtain ⟨vs, h1, h2, h3⟩ := h
  refine ⟨vs, World.ownsRow.kept h1 (hb.toGrown none) (by cases v.ownBlock <;> simp), h2, fun j hj => ?_⟩
  obtain ⟨u, hu, hr⟩ := h3 j hj
  refine ⟨u, hu, ?_⟩
  rcases hr with hr | ⟨g, c, x1, x2, x3, x4, rfl, x5⟩
  · exact .inl hr
  · exact .inr ⟨g, c, x1, Nat.lt_of_lt_of_le x2 hb.size, x3, x4, rfl, x5.below hb⟩
/-- Fewer blocks are barred. -/
theorem OwR.widen {Y : Nat → Prop} (h : OwR e B X w v rows) (hY : ∀ g, g < w.heap.size → Y g → X g) : OwR e B Y w v rows := by
  obtain ⟨vs, h1, h2, h3⟩ := h
  refine ⟨vs, h1, h2, fun j hj => ?_⟩
  obtain ⟨u, hu, hr⟩ := h3 j hj
  refine ⟨u, hu, ?_⟩
  rcases hr with hr | ⟨g, c, x1, x2, x3, x4, hx, x5⟩
  · exact .inl hr
  · exact .inr ⟨g, c, x1, x2, fun e => x3 (hY g x2 e), x4, hx, x5⟩
end
section
variable {e : TypeId} {B : Nat} {w w' : World} {v zv : Value} {rows : List (List Nat)} {gs : Nat}
/-- Behind an append to another slice of the call's own. -/
theorem OwR.beside (h : OwR e B (fun g => zv.ownBlock = some g) w v rows) (hg : w.grownBy w' zv.ownBlock) (hat : zv.ownBlock = some gs ∨ gs = w.heap.size) (hne : ∀ g, zv.ownBlock = some g → v.ownBlock ≠ some g) :
    OwR e B (fun g => gs = g) w' v rows ∧ v.ownBlock ≠ some gs := by
  have hvg : v.ownBlock ≠ some gs := fun e => by
    rcases hat with h1 | h1
    · exact hne gs h1 e
    · have := (h.blk gs e).2; omega
  refine ⟨?_, hvg⟩
  have h2 : OwR e B (fun g => gs = g ∨ zv.ownBlock = some g) w v rows := h.widen (fun g hg' hY => by
    rcases hY with rfl | hY
    · rcases hat with h1 | h1
      · exact h1
      · omega
    · exact hY)
  cases hz : zv.ownBlock with
  | none =>
    rw [hz] at hg
    exact (h2.below ⟨hg.os, hg.tape, hg.output, hg.size, fun k hk => hg.block k hk (by simp)⟩).widen (fun g _ hY => .inl hY)
  | some b =>
    rw [hz] at hg
    exact (h2.kept hg (hne b hz) (.inl (.inr hz))).widen (fun g _ hY => .inl hY)
end
end Go.Mem
namespace Go.Proofs.YtoanopegoilcnaaGreat
open Go.RowKit Go.Mem Go.Pg
section
variable {e : TypeId} {B : Nat} {X : Nat → Prop} {w w' : World} {v : Value} {rows : List (List Nat)}
theorem _root_.Go.Mem.OwR.rb (h : OwR e B X w v rows) : RB w v rows := by
  obtain ⟨vs, ⟨h1, h2 | ⟨g, cap, cur, hv, hg, hb, h3, h4, h5, h6⟩⟩, hl, hr⟩ := h
  · have : rows = [] := List.eq_nil_of_length_eq_zero h2.2
    subst this
    rw [h2.1]; exact RB.nil w
  · refine ⟨_, cap, hv, h3, h4, fun j hj => ?_⟩
    obtain ⟨u, hu, hor⟩ := hr j hj
    refine ⟨g, 0, u, rfl, ?_, ?_⟩
    · rw [Nat.zero_add, cell_at hb, ← Array.getElem?_toList]
      rw [← h6, List.getElem?_take] at hu
      split at hu
      · exact hu
      · cases hu
    · rcases hor with ⟨rfl, e0⟩ | ⟨gg, c, _, _, _, _, _, x5⟩
      · rw [e0]; exact (RowM.nil 0 w).rd
      · exact x5
end
section
variable {P : Program} {T e : TypeId} {B : Nat} {X : Nat → Prop} {w : World} {v : Value} {rows : List (List Nat)}
variable {ops : Array Oper} {rest : List Oper} {o : Oper} {a : Act} {Q : Exit → Act → World → Prop}
structure ElR (P : Program) (T e : TypeId) : Prop where
  und : P.underlying T = some (.slice e)
  inf : (P.info? e).map (fun i => (i.zero, i.size, i.bytes)) = some (some (.slice none 0 0), 1, 24)
/-- One row more. -/
theorem app_one_row (E : ElR P T e) (hgd : o.guard = none) (s x : Operand) (ho : o.op = .call { callee := .builtin .append, args := #[s, x], argTypes := #[T, T] })
    (B : Nat) (X : Nat → Prop) (v : Value) (rows : List (List Nat)) (hs : a.eval s = v) (hown : OwR e B X w v rows) (b : Nat) (u : Value) (hx : a.eval x = .slice (some ⟨b, 0, none⟩) 1 1) (hb : w.cell? ⟨b, 0, none⟩ = some u)
    (row : List Nat) (hu : (u = .slice none 0 0 ∧ row = []) ∨ ∃ g c, B ≤ g ∧ g < w.heap.size ∧ ¬ X g ∧ v.ownBlock ≠ some g ∧ u = .slice (some ⟨g, 0, none⟩) row.length c ∧ Rd .u8 w u row)
    (hlen : rows.length ≤ 1000000000) (hB : B ≤ w.heap.size)
    (h : ∀ g cap w', OwR e B X w' (.slice (some ⟨g, 0, none⟩) (rows.length + 1) cap) (rows ++ [row]) → w.grownBy w' v.ownBlock → (v.ownBlock = some g ∨ g = w.heap.size) →
      wpList P ops Q rest (a.put o.dst (.slice (some ⟨g, 0, none⟩) (rows.length + 1) cap)) w') : wpList P ops Q (o :: rest) a w := by
  obtain ⟨i, hi, hz, hs', hbt⟩ := info_parts E.inf
  obtain ⟨vs, h1, h2, h3⟩ := hown
  have hone : u.oneCell' = true := by rcases hu with ⟨rfl, _⟩ | ⟨g, c, _, _, _, _, rfl, _⟩ <;> rfl
  refine wpList_append_lies w hgd s x T ho B e i _ 1 24 E.und hi hz hs' hbt rfl (by decide) v rows.length _ hs h1 ⟨b, 0, none⟩ 1 1 [u] hx rfl (fun j u' hu' => ?_) (fun u' hu' => ?_) (by decide) (by unfold maxLen; omega) (by omega) hB _ rfl ?_
  · have hj : j = 0 := by have := (List.getElem?_eq_some_iff.1 hu').1; simpa using this
    subst hj
    simp only [List.getElem?_cons_zero, Option.some.injEq] at hu'
    subst hu'
    rw [add_plain, Nat.add_zero]; exact hb
  · simp only [List.mem_singleton] at hu'; subst hu'; exact hone
  · intro g cap w' k2 k3 k4 _
    have hbl := World.ownsRow.lt h1
    have hgne : ∀ g', g' < w.heap.size → v.ownBlock ≠ some g' → g ≠ g' := fun g' hg' hne e => by
      rcases k4 with k | k
      · exact hne (e ▸ k)
      · omega
    refine h g cap w' ⟨vs ++ [u], by rw [List.length_append]; exact k2, by simp [h2], fun j hj => ?_⟩ k3 k4
    rw [List.length_append, List.length_singleton] at hj
    by_cases hj2 : j < rows.length
    · obtain ⟨u', hu', hr⟩ := h3 j hj2
      refine ⟨u', by rw [List.getElem?_append_left (by omega)]; exact hu', ?_⟩
      have e1 : (rows ++ [row]).getD j [] = rows.getD j [] := by rw [List.getD_eq_getElem?_getD, List.getElem?_append_left hj2, ← List.getD_eq_getElem?_getD]
      rw [e1]
      rcases hr with hr | ⟨g', c, x1, x2, x3, x4, rfl, x5⟩
      · exact .inl hr
      · exact .inr ⟨g', c, x1, Nat.lt_of_lt_of_le x2 k3.size, x3, by simp only [Value.ownBlock, ne_eq, Option.some.injEq]; exact hgne g' x2 x4, rfl, x5.same (k3.block g' x2 (fun e => x4 e.symm))⟩
    · obtain rfl : j = rows.length := by omega
      have e1 : (rows ++ [row]).getD rows.length [] = row := by simp [List.getD]
      refine ⟨u, by rw [List.getElem?_append_right (by omega), h2]; simp, ?_⟩
      rw [e1]
      rcases hu with hu | ⟨g', c, x1, x2, x3, x4, rfl, x5⟩
      · exact .inl hu
      · exact .inr ⟨g', c, x1, Nat.lt_of_lt_of_le x2 k3.size, x3, by simp only [Value.ownBlock, ne_eq, Option.some.injEq]; exact hgne g' x2 x4, rfl, x5.same (k3.block g' x2 (fun e => x4 e.symm))⟩
end
end Go.Proofs.YtoanopegoilcnaaGreat
/- Memory: bytes 0 behind a slice of the call's own (append of a made slice). No program in sight. -/
namespace Go.Mem
open Go.RowKit

theorem zeroCells_fa (m : Nat) : Builtin.zeroCells (Value.cells (.int .u8 0)) m = fa .u8 m (fun _ => 0) := by
  apply Array.ext_getElem?
  intro i
  by_cases hi : i < m
  · rw [fa_get hi]
    simp [Builtin.zeroCells, Value.cells, hi, Nat.mod_one]
  · rw [fa_none (by omega)]
    simp [Builtin.zeroCells, Value.cells, hi]
theorem fa_list (m : Nat) : (fa .u8 m (fun _ => 0)).toList = (List.replicate m 0).map (fun x : Nat => Value.int .u8 (x : Nat)) := by
  unfold fa
  apply List.ext_getElem (by simp)
  intro i h1 h2
  simp
section
variable {P : Program} {T e ti : TypeId} {B : Nat} {w : World} {v : Value} {xs : List Nat}
theorem run_append_zeros (E : ElT P T e .u8 1) (hti : P.underlying ti = some (.int .i64)) (ty : TypeId) (hown : Own .u8 e B w v xs) (h0 : 0 < xs.length) (m : Nat) (hm0 : 0 < m) (hm : m ≤ 1000000) (hl : xs.length ≤ 1000000000) (hB : B ≤ w.heap.size) :
    ∃ g cap w', (Builtin.append_ #[T, ti] ty #[v, .int .i64 (m : Nat)]).run P w = .ok (.slice (some ⟨g, 0, none⟩) (xs.length + m) cap) w' ∧
      Own .u8 e B w' (.slice (some ⟨g, 0, none⟩) (xs.length + m) cap) (xs ++ List.replicate m 0) ∧ w.grownBy w' v.ownBlock ∧ (v.ownBlock = some g ∨ g = w.heap.size) := by
  obtain ⟨i, hi, hz, hs, hb⟩ := info_parts E.inf
  have ht := E.und
  have hw : IntKind.i64.wrap (m : Int) = (m : Int) := IntWalk.i64_in _ ⟨by omega, by omega⟩
  have hnn : ¬ ((m : Int) < 0) := by omega
  have hbig : ¬ ((281474976710656 : Int) < (m : Int) * (i.bytes : Int)) := by rw [hb]; omega
  obtain ⟨h1, h2 | ⟨g, cap, cur, rfl, hbg, hg, hnc, hcm, hcs, htake⟩⟩ := hown
  · omega
  · rw [Nat.mul_one] at hcs htake
    obtain ⟨Z, hZ⟩ : ∃ Z : List Value, (List.replicate m 0).map (fun x : Nat => Value.int .u8 (x : Nat)) = Z := ⟨_, rfl⟩
    have hZl : Z.length = m := by rw [← hZ]; simp
    have hZ1 : ∀ u ∈ Z, u.oneCell' = true := fun u hu => by rw [← hZ] at hu; obtain ⟨y, _, rfl⟩ := List.mem_map.1 hu; rfl
    have hzc : Builtin.zeroCells (Value.cells (.int .u8 0)) m = Z.toArray := by
      rw [zeroCells_fa]; apply Array.ext'; rw [fa_list, hZ]
    have hxs : (xs ++ List.replicate m 0).map (fun x : Nat => Value.int .u8 (x : Nat)) = xs.map (fun x : Nat => Value.int .u8 (x : Nat)) ++ Z := by rw [List.map_append, hZ]
    have hzc' : Builtin.zeroCells #[.int .u8 0] m = Z.toArray := hzc
    by_cases hroom : xs.length + m ≤ cap
    · have hst := run_storeCells_at P g xs.length e Z 0 cur w hg (by rw [hZl]; omega) hZ1
      simp only [Nat.add_zero] at hst
      refine ⟨g, cap, w.setRow g (cur.toList.take xs.length ++ Z ++ cur.toList.drop (xs.length + Z.length)).toArray, ?_, ?_, ?_, .inl rfl⟩
      · simp [Builtin.append_, run_underlying ht, run_underlying hti, sizeOf, typeInfo, zeroValue, asInt, asIntOf, hi, hz, hs, hw, hnn, hbig, hroom, show m ≠ 0 by omega, hzc', Value.cells, Addr.add_lit, hst]
      · refine ⟨by simp, .inr ⟨g, cap, _, by simp, hbg, setRow_heap w g cur _ e _ hg, by simpa using hroom, hcm, ?_, ?_⟩⟩
        · simp [hZl]; omega
        · rw [htake, hxs]
          have hl2 : (xs ++ List.replicate m 0).length * 1 = (xs.map (fun x : Nat => Value.int .u8 (x : Nat)) ++ Z).length := by simp [hZl]
          rw [hl2]
          exact List.take_left
      · exact ⟨rfl, rfl, rfl, by simp, fun k _ hk => setRow_other w g k _ (fun e => hk (by simp [Value.ownBlock, e]))⟩
    · have hn : ¬ (xs.length + m ≤ cap) := hroom
      have h63' : ¬ (9223372036854775807 < ((xs.length : Int) + (m : Int))) := by omega
      have h48' : ¬ (281474976710656 < Builtin.nextslicecap (xs.length + m) cap * i.bytes) := by
        have := growslice_fits (need := xs.length + m) (old := cap) (bytes := i.bytes) (by omega) (by rw [hb]; omega)
        omega
      obtain ⟨X, hX⟩ : ∃ X : List Value, xs.map (fun x : Nat => Value.int .u8 (x : Nat)) = X := ⟨_, rfl⟩
      have hXl : X.length = xs.length := by rw [← hX]; simp
      have hold : ∀ j u, X[j]? = some u → w.cell? ((⟨g, 0, none⟩ : Addr).add j) = some u := fun j u hu => by
        have hadd : (⟨g, 0, none⟩ : Addr).add j = ⟨g, j, none⟩ := by unfold Addr.add; split <;> simp_all
        rw [hadd, cell_at hg, ← Array.getElem?_toList]
        rw [← hX, ← htake, List.getElem?_take] at hu
        split at hu
        · exact hu
        · cases hu
      have hfo := run_firstCells_some (P := P) w.drew 1 xs.length ⟨g, 0, none⟩ xs.length cap X (by omega) (by simpa using hold)
      have hge := grownCap_ge w (xs.length + m) cap e
      have hcm2 : grownCap w (xs.length + m) cap e ≤ maxLen := grownCap_le_maxLen w (xs.length + m) cap e (by unfold maxLen; omega)
      refine ⟨w.heap.size, grownCap w (xs.length + m) cap e, w.drew.alloc (.cells (X.toArray ++ Z.toArray ++ Builtin.zeroCells (Value.cells (.int .u8 0)) (grownCap w (xs.length + m) cap e - (xs.length + m))) e), ?_, ?_, ?_, .inr rfl⟩
      · simp [Builtin.append_, run_underlying ht, run_underlying hti, sizeOf, typeInfo, zeroValue, asInt, asIntOf, hi, hz, hs, hw, hnn, hbig, hn, h63', h48', show m ≠ 0 by omega, Question.forced, hzc', hfo, newRow, grownCap, Value.cells]
        try (congr 2; apply Array.ext'; simp [List.append_assoc])
      · refine ⟨by simp, .inr ⟨w.heap.size, grownCap w (xs.length + m) cap e, _, by simp, hB, heap_alloc_new w.drew _, by simpa using hge, hcm2, ?_, ?_⟩⟩
        · simp [hXl, hZl, size_zeroCells, Value.cells]; omega
        · rw [hxs, hX]
          have hl2 : (xs ++ List.replicate m 0).length * 1 = (X ++ Z).length := by simp [hZl, hXl]
          rw [hl2]
          simp only [Array.toList_append]
          exact List.take_left
      · exact ⟨rfl, rfl, rfl, by simp, fun k hk _ => alloc_old (w := w.drew) hk⟩
variable {ops : Array Oper} {rest : List Oper} {o : Oper} {a : Act} {Q : Exit → Act → World → Prop} {K : Act → World → Prop} {E' : Prop}
/-- Bytes 0 more, at an operation. -/
theorem wp_zeros (E : ElT P T e .u8 1) (hti : P.underlying ti = some (.int .i64)) (s x : Operand) (ho : o.op = .call { callee := .builtin .append, args := #[s, x], argTypes := #[T, ti] })
    (B : Nat) (v : Value) (xs : List Nat) (hs : a.eval s = v) (hown : Own .u8 e B w v xs) (h0 : 0 < xs.length) (m : Nat) (hx : a.eval x = .int .i64 (m : Nat)) (hm0 : 0 < m) (hm : m ≤ 1000000) (hl : xs.length ≤ 1000000000) (hB : B ≤ w.heap.size)
    (h : ∀ g cap w', Own .u8 e B w' (.slice (some ⟨g, 0, none⟩) (xs.length + m) cap) (xs ++ List.replicate m 0) → w.grownBy w' v.ownBlock → (v.ownBlock = some g ∨ g = w.heap.size) →
      K (a.put o.dst (.slice (some ⟨g, 0, none⟩) (xs.length + m) cap)) w') : o.wp P a w K Q := by
  obtain ⟨g, cap, w', hr, h1, h2, h3⟩ := run_append_zeros E hti o.type hown h0 m hm0 hm hl hB
  unfold Oper.wp execOp
  simp only [ho, resolve, invoke, builtin, Sem.run_bind, Sem.run_pure, Result.andThen_ok, List.map_toArray, List.map_cons, List.map_nil, hs, hx, hr]
  exact h g cap w' h1 h2 h3
/-- .. at a step of a region that draws. -/
theorem step_zeros (hgd : o.guard = none) (E : ElT P T e .u8 1) (hti : P.underlying ti = some (.int .i64)) (s x : Operand) (ho : o.op = .call { callee := .builtin .append, args := #[s, x], argTypes := #[T, ti] })
    (B : Nat) (v : Value) (xs : List Nat) (hs : a.eval s = v) (hown : Own .u8 e B w v xs) (h0 : 0 < xs.length) (m : Nat) (hx : a.eval x = .int .i64 (m : Nat)) (hm0 : 0 < m) (hm : m ≤ 1000000) (hl : xs.length ≤ 1000000000) (hB : B ≤ w.heap.size)
    (h : ∀ g cap w', Own .u8 e B w' (.slice (some ⟨g, 0, none⟩) (xs.length + m) cap) (xs ++ List.replicate m 0) → w.grownBy w' v.ownBlock → (v.ownBlock = some g ∨ g = w.heap.size) →
      K (a.put o.dst (.slice (some ⟨g, 0, none⟩) (xs.length + m) cap)) w') : if Region.wanted o (yielded ops a.tmps) = true then Oper.wp P o a w K Q else E' := by
  rw [if_pos (by simp [Region.wanted, hgd])]
  exact wp_zeros E hti s x ho B v xs hs hown h0 m hx hm0 hm hl hB h
end
end Go.Mem
/- A call that leaves the world alone, at a step of a region that draws. No program in sight. -/
namespace Go.Mem
open Go.RowKit Go.Shelf

theorem step_call {P : Program} {ops : Array Oper} {o : Oper} {a : Act} {w : World} {K : Act → World → Prop} {Q : Exit → Act → World → Prop} {E : Prop} (hgd : o.guard = none) (f : FuncId) (he : ∀ args w, (callFunc f args).run P w = .ok (.enter f args) w)
    (x : Operand) (ts : Array TypeId) (ho : o.op = .call { callee := .value (.func f), args := #[x], argTypes := ts }) (v : Value) (hv : a.eval x = v) (u : Value)
    (hc : Calls P f #[v] w fun e w' => e = .returned u ∧ w = w') (h : K (a.put o.dst u) w) : if Region.wanted o (yielded ops a.tmps) = true then Oper.wp P o a w K Q else E := by
  have hw : Region.wanted o (yielded ops a.tmps) = true := by simp [Region.wanted, hgd]
  rw [if_pos hw]
  have hrun : (execOp a.eval o).run P w = .ok (.enter f #[v]) w := by
    have hf : a.eval (.func f) = .func (.func f) #[] #[] := rfl
    unfold execOp
    simp [ho, resolve, invoke, hf, hv, Deferred.ofValue, he]
  unfold Oper.wp
  rw [hrun, Oper.upon_enter]
  refine hc.mono ?_
  rintro e w' ⟨rfl, rfl⟩
  exact h
/-- A call with two arguments that makes memory. -/
theorem step_call2 {P : Program} {ops : Array Oper} {o : Oper} {a : Act} {w : World} {K : Act → World → Prop} {Q : Exit → Act → World → Prop} {E : Prop} (hgd : o.guard = none) (f : FuncId) (he : ∀ args w, (callFunc f args).run P w = .ok (.enter f args) w)
    (x y : Operand) (ts : Array TypeId) (ho : o.op = .call { callee := .value (.func f), args := #[x, y], argTypes := ts }) (v z : Value) (hv : a.eval x = v) (hz : a.eval y = z) (u : Value) (R : World → Prop)
    (hc : Calls P f #[v, z] w fun e w' => e = .returned u ∧ R w') (h : ∀ w', R w' → K (a.put o.dst u) w') : if Region.wanted o (yielded ops a.tmps) = true then Oper.wp P o a w K Q else E := by
  have hw : Region.wanted o (yielded ops a.tmps) = true := by simp [Region.wanted, hgd]
  rw [if_pos hw]
  have hrun : (execOp a.eval o).run P w = .ok (.enter f #[v, z]) w := by
    have hf : a.eval (.func f) = .func (.func f) #[] #[] := rfl
    unfold execOp
    simp [ho, resolve, invoke, hf, hv, hz, Deferred.ofValue, he]
  unfold Oper.wp
  rw [hrun, Oper.upon_enter]
  refine hc.mono ?_
  rintro e w' ⟨rfl, hr⟩
  exact h w' hr
end Go.Mem
