/- A script of calls, in memory; as it came in. -/
import Derived.Test.YtkdjefnnhanhhaaUa
import Derived.Test.YtkdjefnnhanhhaaUz
import Derived.Deep.Matrix
import Derived.Lib.SmallJoins
import Derived.Deep.Slices
import Derived.Deep.Fields
import Derived.ChangeSame
set_option linter.unusedVariables false
namespace Go.Proofs.Ytkdjefnnhanhhaa
open Go Go.RowKit Go.Mem

theorem addp {g o : Nat} (j : Nat) : (⟨g, o, none⟩ : Addr).add j = ⟨g, o + j, none⟩ := by unfold Addr.add; split <;> simp_all
structure HOp where
  kind : Int
  sector : Int
  value : Nat
def HOp.Fit (s : HOp) : Prop := (Lit.int .i64 s.kind).wf = true ∧ (Lit.int .i64 s.sector).wf = true ∧ s.value < 18446744073709551616
def HOp.zero : HOp := ⟨0, 0, 0⟩
/-- A slice that reads as a script. -/
def OpR (w : World) (a : Option Addr) (len cap : Nat) (l : List HOp) : Prop :=
  l.length = len ∧ len ≤ cap ∧ cap ≤ maxLen ∧ (∀ s ∈ l, s.Fit) ∧ ∀ j, j < len → ∃ g o, a = some ⟨g, o, none⟩ ∧ w.cell? ⟨g, o + j * 3, none⟩ = some (.int .i64 (l.getD j HOp.zero).kind) ∧ w.cell? ⟨g, o + j * 3 + 1, none⟩ = some (.int .i64 (l.getD j HOp.zero).sector) ∧ w.cell? ⟨g, o + j * 3 + 2, none⟩ = some (.int .u64 ((l.getD j HOp.zero).value : Nat))
theorem OpR.below {w w' : World} {a : Option Addr} {len cap : Nat} {l : List HOp} (h : OpR w a len cap l) (hb : Below w.heap.size w w') : OpR w' a len cap l := by
  obtain ⟨h1, h2, h3, h4, h5⟩ := h
  refine ⟨h1, h2, h3, h4, fun j hj => ?_⟩
  obtain ⟨g, o, rfl, x1, x2, x3⟩ := h5 j hj
  exact ⟨g, o, rfl, by rw [hb.cell (World.block_lt_of_cell? _ _ x1)]; exact x1, by rw [hb.cell (World.block_lt_of_cell? _ _ x2)]; exact x2, by rw [hb.cell (World.block_lt_of_cell? _ _ x3)]; exact x3⟩
section
open Go.ChangeShapes Go.WideShapes Go.Deep Go.Joins
variable {H : Type} {P : Program} {enc : TypeId × Value → H} {w : World} {base : Nat} {spare : Nat → Bool} {held : Bool}
theorem field_of' {e : TypeId} {fs : Array Field} {fuel : Nat} {cs : List Value} {x : DataW H × List MemPlace} (he : P.underlying e = some (.struct fs)) (hone : oneCellFields P fs = true) (hl : cs.length = fs.size)
    (h : DataW.trod enc P w base spare held fuel e cs = some x) (j : Nat) (f : Field) (hj : fs[j]? = some f) : ∃ v n y, cs[j]? = some v ∧ DataW.trod enc P w base spare held n f.type [v] = some y := by
  obtain ⟨ys, n', _, _, _, hyl, hf⟩ := DataW.trod_struct he h
  obtain ⟨ho, hk⟩ := hone_of hone j f hj
  have hjl : j < fs.size := (Array.getElem?_eq_some_iff.1 hj).1
  have h1 := hf j f hj
  rw [ho, hk, List.drop_eq_getElem_cons (by omega)] at h1
  have hys : ys[j]? = some (ys[j]'(by omega)) := List.getElem?_eq_getElem (by omega)
  exact ⟨_, n', _, List.getElem?_eq_getElem (by omega), h1.trans hys⟩
theorem wf_u64_bounds {a : Int} (h : (Lit.int .u64 a).wf = true) : 0 ≤ a ∧ a < 18446744073709551616 := by
  simp only [Lit.wf, Bool.and_eq_true, decide_eq_true_eq] at h
  have h1 : (0 : Int) ≤ a := h.1
  have h2 : a ≤ 18446744073709551615 := h.2
  omega
theorem open_ops {t e : TypeId} {f0 f1 f2 : Field} {fuel : Nat} {a0 : Option Addr} {len0 cap0 : Nat} {x : DataW H × List MemPlace} (ht : P.underlying t = some (.slice e)) (he : P.underlying e = some (.struct #[f0, f1, f2])) (hone : oneCellFields P #[f0, f1, f2] = true) (hC : P.cellsOf e = 3)
    (h0 : P.underlying f0.type = some (.int .i64)) (h1 : P.underlying f1.type = some (.int .i64)) (h2 : P.underlying f2.type = some (.int .u64)) (h : DataW.trod enc P w base spare held fuel t [.slice a0 len0 cap0] = some x) :
    ∃ l, OpR w a0 len0 cap0 l := by
  rcases open_slice ht h with ⟨hv, _⟩ | ⟨a, len, cap, m, n, D, Pl, hv, _, b1, b2, hm, _, hi⟩
  · simp only [List.cons.injEq, Value.slice.injEq, and_true] at hv
    obtain ⟨rfl, rfl, rfl⟩ := hv
    exact ⟨[], rfl, Nat.le_refl _, by unfold maxLen; omega, fun s hs => by simp at hs, fun j hj => by omega⟩
  · simp only [List.cons.injEq, Value.slice.injEq, and_true] at hv
    obtain ⟨rfl, rfl, rfl⟩ := hv
    have hml : len0 ≤ m := by rw [hm]; split <;> omega
    have each : ∀ i, i < len0 → ∃ s : HOp, s.Fit ∧ w.cell? ((a.add (i * 3)).add 0) = some (.int .i64 s.kind) ∧ w.cell? ((a.add (i * 3)).add 1) = some (.int .i64 s.sector) ∧ w.cell? ((a.add (i * 3)).add 2) = some (.int .u64 (s.value : Nat)) := fun i hil => by
      obtain ⟨cs', hc, ht'⟩ := hi i (by omega)
      rw [hC] at hc
      obtain ⟨_, hcl, hat⟩ := World.cells?_some hc
      have q0 := hat 0 (by omega)
      have q1 := hat 1 (by omega)
      have q2 := hat 2 (by omega)
      obtain ⟨v0, n0, y0, e0, t0⟩ := field_of' he hone hcl ht' 0 f0 rfl
      obtain ⟨v1, n1, y1, e1, t1⟩ := field_of' he hone hcl ht' 1 f1 rfl
      obtain ⟨v2, n2, y2, e2, t2⟩ := field_of' he hone hcl ht' 2 f2 rfl
      obtain ⟨z0, r0, _, w0⟩ := DataW.trod_int h0 t0
      obtain ⟨z1, r1, _, w1⟩ := DataW.trod_int h1 t1
      obtain ⟨z2, r2, _, w2⟩ := DataW.trod_int h2 t2
      simp only [List.cons.injEq, and_true] at r0 r1 r2
      subst r0 r1 r2
      have b2 := wf_u64_bounds w2
      refine ⟨⟨z0, z1, z2.toNat⟩, ⟨w0, w1, by show z2.toNat < _; omega⟩, ?_, ?_, ?_⟩
      · rw [q0, e0]
      · rw [q1, e1]
      · rw [q2, e2]; show _ = some (Value.int .u64 ((z2.toNat : Nat) : Int)); rw [Int.toNat_of_nonneg b2.1]
    refine ⟨(List.range len0).map (fun i => if hi : i < len0 then Classical.choose (each i hi) else HOp.zero), by simp, b1, b2, fun s hs => ?_, fun j hj => ?_⟩
    · obtain ⟨j, hj, rfl⟩ := List.mem_map.1 hs
      have hj' : j < len0 := by simpa using hj
      rw [dif_pos hj']
      exact (Classical.choose_spec (each j hj')).1
    · have e : ((List.range len0).map (fun i => if hi : i < len0 then Classical.choose (each i hi) else HOp.zero)).getD j HOp.zero = Classical.choose (each j hj) := by simp [List.getD, hj]
      have hspec := Classical.choose_spec (each j hj)
      have hs0 := (Classical.choose_spec (each 0 (by omega))).2.1
      rw [e]
      generalize Classical.choose (each j hj) = s at *
      obtain ⟨_, x1, x2, x3⟩ := hspec
      have hpl : ∀ (a : Addr) (v : Value), w.cell? ((a.add (0 * 3)).add 0) = some v → ∃ g o, a = ⟨g, o, none⟩ := fun a v h => by
        obtain ⟨g, o, sp⟩ := a
        obtain rfl : sp = none := by simpa [Addr.add] using World.cell?_spot h
        exact ⟨g, o, rfl⟩
      obtain ⟨g, o, ha⟩ := hpl a _ hs0
      rw [ha, addp, addp] at x1 x2 x3
      exact ⟨g, o, by rw [ha], x1, x2, x3⟩
end
end Go.Proofs.Ytkdjefnnhanhhaa
/- Slots, heads, rows of bytes in memory. -/
namespace Go.Proofs.Ytkdjefnnhanhhaa
open Go.RowKit Go.Mem Go.Pg

def slotC (s : Slot) : List Value := [.int .u32 (s.key : Nat), .int .i64 s.st, .int .u64 (s.seq : Nat)]
/-- A slice that reads as a row of slots. -/
def SlR (w : World) (v : Value) (l : List Slot) : Prop :=
  ∃ a cap, v = .slice a l.length cap ∧ l.length ≤ cap ∧ cap ≤ maxLen ∧ ∀ j, j < l.length → ∃ g o, a = some ⟨g, o, none⟩ ∧
    w.cell? ⟨g, o + j * 3, none⟩ = some (.int .u32 ((l.getD j Slot.zero).key : Nat)) ∧ w.cell? ⟨g, o + j * 3 + 1, none⟩ = some (.int .i64 (l.getD j Slot.zero).st) ∧ w.cell? ⟨g, o + j * 3 + 2, none⟩ = some (.int .u64 ((l.getD j Slot.zero).seq : Nat))
theorem SlR.below {w w' : World} {v : Value} {l : List Slot} (h : SlR w v l) (hb : Below w.heap.size w w') : SlR w' v l := by
  obtain ⟨a, cap, hv, h1, h2, hc⟩ := h
  refine ⟨a, cap, hv, h1, h2, fun j hj => ?_⟩
  obtain ⟨g, o, ha, x1, x2, x3⟩ := hc j hj
  exact ⟨g, o, ha, by rw [hb.cell (World.block_lt_of_cell? _ _ x1)]; exact x1, by rw [hb.cell (World.block_lt_of_cell? _ _ x2)]; exact x2, by rw [hb.cell (World.block_lt_of_cell? _ _ x3)]; exact x3⟩
theorem SlR.nil (w : World) : SlR w (.slice none 0 0) [] := ⟨none, 0, rfl, Nat.le_refl _, by unfold maxLen; omega, fun j hj => by simp at hj⟩
/-- A head. -/
def HdV (w : World) (v : Value) (h : Head) : Prop :=
  ∃ sv, v = .agg #[.int .i64 h.kind, .int .u32 (h.id : Nat), .int .i64 h.row, .int .i64 h.place, .int .i64 h.width, sv] ∧ SlR w sv h.slots
theorem HdV.below {w w' : World} {v : Value} {h : Head} (hv : HdV w v h) (hb : Below w.heap.size w w') : HdV w' v h := by
  obtain ⟨sv, e, hs⟩ := hv
  exact ⟨sv, e, hs.below hb⟩
/-- As its types have it. -/
def Head.Wf (h : Head) : Prop := ((Lit.int .i64 h.kind).wf = true ∧ h.id < 4294967296 ∧ (Lit.int .i64 h.row).wf = true ∧ (Lit.int .i64 h.place).wf = true ∧ (Lit.int .i64 h.width).wf = true) ∧ ∀ s ∈ h.slots, s.Fit
theorem Head.Wf.fit {h : Head} (hw : h.Wf) : h.Fit := ⟨hw.1.2.1, fun s hs => (hw.2 s hs).1⟩
/-- A slice of slices that reads as rows of bytes. -/
def RB (w : World) (v : Value) (rows : List (List Nat)) : Prop :=
  ∃ a cap, v = .slice a rows.length cap ∧ rows.length ≤ cap ∧ cap ≤ maxLen ∧ ∀ j, j < rows.length → ∃ g o u, a = some ⟨g, o, none⟩ ∧ w.cell? ⟨g, o + j, none⟩ = some u ∧ Rd .u8 w u (rows.getD j [])
theorem RB.below {w w' : World} {v : Value} {l : List (List Nat)} (h : RB w v l) (hb : Below w.heap.size w w') : RB w' v l := by
  obtain ⟨a, cap, hv, h1, h2, hc⟩ := h
  refine ⟨a, cap, hv, h1, h2, fun j hj => ?_⟩
  obtain ⟨g, o, u, ha, x1, x2⟩ := hc j hj
  exact ⟨g, o, u, ha, by rw [hb.cell (World.block_lt_of_cell? _ _ x1)]; exact x1, x2.below hb⟩
theorem RB.nil (w : World) : RB w (.slice none 0 0) [] := ⟨none, 0, rfl, Nat.le_refl _, by unfold maxLen; omega, fun j hj => by simp at hj⟩

/-! ### What comes in -/
section
open Go.ChangeShapes Go.WideShapes Go.Deep Go.Joins
variable {H : Type} {enc : TypeId × Value → H} {P : Program} {w : World} {base : Nat} {spare : Nat → Bool} {held : Bool}

theorem add_plain {g o : Nat} (j : Nat) : (⟨g, o, none⟩ : Addr).add j = ⟨g, o + j, none⟩ := by unfold Addr.add; split <;> simp_all
/-- A slice of slices of bytes that came in. -/
theorem open_bytes_rows {t e q : TypeId} {fuel : Nat} {cs : List Value} {x : DataW H × List MemPlace} (ht : P.underlying t = some (.slice e)) (he : P.underlying e = some (.slice q)) (hq : P.underlying q = some (.int .u8))
    (ce : P.cellsOf e = 1) (cq : P.cellsOf q = 1) (h : DataW.trod enc P w base (fun _ => true) held fuel t cs = some x) :
    ∃ v rows, cs = [v] ∧ RB w v rows ∧ ∀ r ∈ rows, ∀ y ∈ r, y < 256 := by
  rcases open_int_rows ht he hq ce cq h with ⟨rfl, _⟩ | ⟨a, len, cap, A, L, C, Z, rfl, _, h1, h2, _, hc⟩
  · exact ⟨_, [], rfl, RB.nil w, fun r hr => by simp at hr⟩
  · have each : ∀ r, r < len → ∃ xs : List Nat, Rd .u8 w (.slice (A r) (L r) (C r)) xs ∧ xs.length = L r ∧ ∀ y ∈ xs, y < 256 := fun r hr => by
      obtain ⟨c1, c2, c3, c4, c5, c6, c7⟩ := hc r (by omega)
      refine IsRow.bytes (zs := Z r) ?_
      cases hA : A r with
      | none =>
        have := c6 hA
        left
        exact ⟨rfl, by omega, this, List.eq_nil_of_length_eq_zero (by omega)⟩
      | some x => exact .inr ⟨x, rfl, c2, c3, c4, fun i hi => (c7 x hA).2 i (by omega), c5⟩
    refine ⟨_, (List.range len).map (fun r => if hr : r < len then Classical.choose (each r hr) else []), rfl, ⟨some a, cap, by simp, by simpa using h1, h2, fun j hj => ?_⟩, fun r hr => ?_⟩
    · have hj' : j < len := by simpa using hj
      obtain ⟨c1, _⟩ := hc j (by omega)
      obtain ⟨g, o, sp⟩ := a
      obtain rfl : sp = none := by simpa [Addr.add] using World.cell?_spot (hc 0 (by omega)).1
      refine ⟨g, o, _, rfl, by rw [← add_plain]; exact c1, ?_⟩
      have e : ((List.range len).map (fun r => if hr : r < len then Classical.choose (each r hr) else [])).getD j [] = Classical.choose (each j hj') := by simp [List.getD, hj']
      rw [e]
      exact (Classical.choose_spec (each j hj')).1
    · obtain ⟨j, hj, rfl⟩ := List.mem_map.1 hr
      have hj' : j < len := by simpa using hj
      rw [dif_pos hj']
      exact (Classical.choose_spec (each j hj')).2.2
/-- One field of a struct's cells. -/
theorem field_of {e : TypeId} {fs : Array Field} {fuel : Nat} {cs : List Value} {x : DataW H × List MemPlace} (he : P.underlying e = some (.struct fs)) (hone : oneCellFields P fs = true) (hl : cs.length = fs.size)
    (h : DataW.trod enc P w base spare held fuel e cs = some x) (j : Nat) (f : Field) (hj : fs[j]? = some f) : ∃ v n y, cs[j]? = some v ∧ DataW.trod enc P w base spare held n f.type [v] = some y := by
  obtain ⟨ys, n', _, _, _, hyl, hf⟩ := DataW.trod_struct he h
  obtain ⟨ho, hk⟩ := hone_of hone j f hj
  have hjl : j < fs.size := (Array.getElem?_eq_some_iff.1 hj).1
  have h1 := hf j f hj
  rw [ho, hk, List.drop_eq_getElem_cons (by omega)] at h1
  have hys : ys[j]? = some (ys[j]'(by omega)) := List.getElem?_eq_getElem (by omega)
  exact ⟨_, n', _, List.getElem?_eq_getElem (by omega), h1.trans hys⟩
/-- A slice of slots that came in. -/
theorem open_slots {t e : TypeId} {f0 f1 f2 : Field} {fuel : Nat} {cs : List Value} {x : DataW H × List MemPlace} (ht : P.underlying t = some (.slice e)) (he : P.underlying e = some (.struct #[f0, f1, f2])) (hone : oneCellFields P #[f0, f1, f2] = true) (hC : P.cellsOf e = 3)
    (h0 : P.underlying f0.type = some (.int .u32)) (h1 : P.underlying f1.type = some (.int .i64)) (h2 : P.underlying f2.type = some (.int .u64)) (h : DataW.trod enc P w base spare held fuel t cs = some x) :
    ∃ v l, cs = [v] ∧ SlR w v l ∧ ∀ s ∈ l, s.Fit := by
  rcases open_slice ht h with ⟨rfl, _⟩ | ⟨a, len, cap, m, n, D, Pl, rfl, _, b1, b2, hm, _, hi⟩
  · exact ⟨_, [], rfl, SlR.nil w, fun s hs => by simp at hs⟩
  have hml : len ≤ m := by rw [hm]; split <;> omega
  have each : ∀ i, i < len → ∃ s : Slot, s.Fit ∧ w.cell? ((a.add (i * 3)).add 0) = some (.int .u32 (s.key : Nat)) ∧ w.cell? ((a.add (i * 3)).add 1) = some (.int .i64 s.st) ∧ w.cell? ((a.add (i * 3)).add 2) = some (.int .u64 (s.seq : Nat)) := fun i hil => by
    obtain ⟨cs', hc, ht'⟩ := hi i (by omega)
    rw [hC] at hc
    obtain ⟨_, hcl, hat⟩ := World.cells?_some hc
    have q0 := hat 0 (by omega)
    have q1 := hat 1 (by omega)
    have q2 := hat 2 (by omega)
    obtain ⟨v0, n0, y0, e0, t0⟩ := field_of he hone hcl ht' 0 f0 rfl
    obtain ⟨v1, n1, y1, e1, t1⟩ := field_of he hone hcl ht' 1 f1 rfl
    obtain ⟨v2, n2, y2, e2, t2⟩ := field_of he hone hcl ht' 2 f2 rfl
    obtain ⟨z0, r0, _, w0⟩ := DataW.trod_int h0 t0
    obtain ⟨z1, r1, _, w1⟩ := DataW.trod_int h1 t1
    obtain ⟨z2, r2, _, w2⟩ := DataW.trod_int h2 t2
    simp only [List.cons.injEq, and_true] at r0 r1 r2
    subst r0 r1 r2
    have b0 := bounds_u32 w0
    have b2 := bounds_u64 w2
    refine ⟨⟨z0.toNat, z1, z2.toNat⟩, ⟨by show z0.toNat < _; omega, w1, by show z2.toNat < _; omega⟩, ?_, ?_, ?_⟩
    · rw [q0, e0]; show _ = some (Value.int .u32 ((z0.toNat : Nat) : Int)); rw [Int.toNat_of_nonneg b0.1]
    · rw [q1, e1]
    · rw [q2, e2]; show _ = some (Value.int .u64 ((z2.toNat : Nat) : Int)); rw [Int.toNat_of_nonneg b2.1]
  refine ⟨_, (List.range len).map (fun i => if hi : i < len then Classical.choose (each i hi) else Slot.zero), rfl, ⟨some a, cap, by simp, by simpa using b1, b2, fun j hj => ?_⟩, fun s hs => ?_⟩
  · have hj' : j < len := by simpa using hj
    have e : ((List.range len).map (fun i => if hi : i < len then Classical.choose (each i hi) else Slot.zero)).getD j Slot.zero = Classical.choose (each j hj') := by simp [List.getD, hj']
    have hspec := Classical.choose_spec (each j hj')
    have hs0 := (Classical.choose_spec (each 0 (by omega))).2.1
    rw [e]
    generalize Classical.choose (each j hj') = s at *
    obtain ⟨_, x1, x2, x3⟩ := hspec
    have hpl : ∀ (a : Addr) (v : Value), w.cell? ((a.add (0 * 3)).add 0) = some v → ∃ g o, a = ⟨g, o, none⟩ := fun a v h => by
      obtain ⟨g, o, sp⟩ := a
      obtain rfl : sp = none := by simpa [Addr.add] using World.cell?_spot h
      exact ⟨g, o, rfl⟩
    obtain ⟨g, o, ha⟩ := hpl a _ hs0
    rw [ha, add_plain, add_plain] at x1 x2 x3
    exact ⟨g, o, by rw [ha], x1, x2, x3⟩
  · obtain ⟨j, hj, rfl⟩ := List.mem_map.1 hs
    have hj' : j < len := by simpa using hj
    rw [dif_pos hj']
    exact (Classical.choose_spec (each j hj')).1
end
end Go.Proofs.Ytkdjefnnhanhhaa
