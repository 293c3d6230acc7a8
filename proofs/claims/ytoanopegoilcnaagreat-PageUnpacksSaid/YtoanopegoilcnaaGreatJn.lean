/- Slots, heads, rows of bytes in memory. -/
import Derived.Test.YtoanopegoilcnaaGreatJk
import Derived.Test.YtoanopegoilcnaaGreatJa
import Derived.Deep.Matrix
import Derived.Lib.SmallJoins
import Derived.Deep.Slices
import Derived.Deep.Fields
import Derived.ChangeSame
import Derived.OpenShut
import Derived.ProofKit
set_option linter.unusedVariables false
namespace Go.Proofs.YtoanopegoilcnaaGreat
open Go.RowKit Go.Mem Go.Pg

def slotC (s : Slot) : List Value := [.int .u32 (s.key : Nat), .int .i64 s.st, .int .u64 (s.seq : Nat)]
/-- A slice that reads as a row of slots. -/
def SlR (w : World) (v : Value) (l : List Slot) : Prop :=
  ∃ a cap, v = .slice a l.length cap ∧ l.length ≤ cap ∧ cap ≤ maxLen ∧ ∀ j, j < l.length → ∃ g o, a = some ⟨g, o, none⟩ ∧
    w.cell? ⟨g, o + j * 3, none⟩ = some (.int .u32 ((l.getD j Slot.zero).key : Nat)) ∧ w.cell? ⟨g, o + j * 3 + 1, none⟩ = some (.int .i64 (l.getD j Slot.zero).st) ∧ w.cell? ⟨g, o + j * 3 + 2, none⟩ = some (.int .u64 ((l.getD j Slot.zero).seq : Nat))
theorem SlR.below {w w' : World} {v : Value} {l : List Slot} (h : SlR w v l) (hb : Below w.heap.size w w') : SlR w' v l := by
  obtain ⟨a, cap, hv, h1, h2, hc⟩ := h
  refine ⟨a, cap, hv, h1, h2, fun j hj => ?_⟩
  obtain ⟨g, o, ha, x1, x2, x3⟩ := hc j hj
  exact ⟨g, o, ha, by rw [hb.cell (World.block_lt_of_cell? _ _ x1)]; exact x1, by rw [hb.cell (World.block_lt_of_cell? _ _ x2)]; exact x2, by rw [hb.cell (World.block_lt_of_cell? _ _ x3)]; exact x3⟩
theorem SlR.nil (w : World) : SlR w (.slice none 0 0) [] := ⟨none, 0, rfl, Nat.le_refl _, by unfold maxLen; omega, fun j hj => by simp at hj⟩
/-- A head. -/
def HdV (w : World) (v : Value) (h : Head) : Prop :=
  ∃ sv, v = .agg #[.int .i64 h.kind, .int .u32 (h.id : Nat), .int .i64 h.row, .int .i64 h.place, .int .i64 h.width, sv] ∧ SlR w sv h.slots
theorem HdV.below {w w' : World} {v : Value} {h : Head} (hv : HdV w v h) (hb : Below w.heap.size w w') : HdV w' v h := by
  obtain ⟨sv, e, hs⟩ := hv
  exact ⟨sv, e, hs.below hb⟩
/-- As its types have it. -/
def Head.Wf (h : Head) : Prop := ((Lit.int .i64 h.kind).wf = true ∧ h.id < 4294967296 ∧ (Lit.int .i64 h.row).wf = true ∧ (Lit.int .i64 h.place).wf = true ∧ (Lit.int .i64 h.width).wf = true) ∧ ∀ s ∈ h.slots, s.Fit
theorem Head.Wf.fit {h : Head} (hw : h.Wf) : h.Fit := ⟨hw.1.2.1, fun s hs => (hw.2 s hs).1⟩
/-- A slice of slices that reads as rows of bytes. -/
def RB (w : World) (v : Value) (rows : List (List Nat)) : Prop :=
  ∃ a cap, v = .slice a rows.length cap ∧ rows.length ≤ cap ∧ cap ≤ maxLen ∧ ∀ j, j < rows.length → ∃ g o u, a = some ⟨g, o, none⟩ ∧ w.cell? ⟨g, o + j, none⟩ = some u ∧ Rd .u8 w u (rows.getD j [])
theorem RB.below {w w' : World} {v : Value} {l : List (List Nat)} (h : RB w v l) (hb : Below w.heap.size w w') : RB w' v l := by
  obtain ⟨a, cap, hv, h1, h2, hc⟩ := h
  refine ⟨a, cap, hv, h1, h2, fun j hj => ?_⟩
  obtain ⟨g, o, u, ha, x1, x2⟩ := hc j hj
  exact ⟨g, o, u, ha, by rw [hb.cell (World.block_lt_of_cell? _ _ x1)]; exact x1, x2.below hb⟩
theorem RB.nil (w : World) : RB w (.slice none 0 0) [] := ⟨none, 0, rfl, Nat.le_refl _, by unfold maxLen; omega, fun j hj => by simp at hj⟩

/-! ### What comes in -/
section
open Go.ChangeShapes Go.WideShapes Go.Deep Go.Joins
variable {H : Type} {enc : TypeId × Value → H} {P : Program} {w : World} {base : Nat} {spare : Nat → Bool} {held : Bool}

theorem add_plain {g o : Nat} (j : Nat) : (⟨g, o, none⟩ : Addr).add j = ⟨g, o + j, none⟩ := by unfold Addr.add; split <;> simp_all
/-- A slice of slices of bytes that came in. -/
theorem open_bytes_rows {t e q : TypeId} {fuel : Nat} {cs : List Value} {x : DataW H × List MemPlace} (ht : P.underlying t = some (.slice e)) (he : P.underlying e = some (.slice q)) (hq : P.underlying q = some (.int .u8))
    (ce : P.cellsOf e = 1) (cq : P.cellsOf q = 1) (h : DataW.trod enc P w base (fun _ => true) held fuel t cs = some x) :
    ∃ v rows, cs = [v] ∧ RB w v rows ∧ ∀ r ∈ rows, ∀ y ∈ r, y < 256 := by
  rcases open_int_rows ht he hq ce cq h with ⟨rfl, _⟩ | ⟨a, len, cap, A, L, C, Z, rfl, _, h1, h2, _, hc⟩
  · exact ⟨_, [], rfl, RB.nil w, fun r hr => by simp at hr⟩
  · have each : ∀ r, r < len → ∃ xs : List Nat, Rd .u8 w (.slice (A r) (L r) (C r)) xs ∧ xs.length = L r ∧ ∀ y ∈ xs, y < 256 := fun r hr => by
      obtain ⟨c1, c2, c3, c4, c5, c6, c7⟩ := hc r (by omega)
      refine IsRow.bytes (zs := Z r) ?_
      cases hA : A r with
      | none =>
        have := c6 hA
        left
        exact ⟨rfl, by omega, this, List.eq_nil_of_length_eq_zero (by omega)⟩
      | some x => exact .inr ⟨x, rfl, c2, c3, c4, fun i hi => (c7 x hA).2 i (by omega), c5⟩
    refine ⟨_, (List.range len).map (fun r => if hr : r < len then Classical.choose (each r hr) else []), rfl, ⟨some a, cap, by simp, by simpa using h1, h2, fun j hj => ?_⟩, fun r hr => ?_⟩
    · have hj' : j < len := by simpa using hj
      obtain ⟨c1, _⟩ := hc j (by omega)
      obtain ⟨g, o, sp⟩ := a
      obtain rfl : sp = none := by simpa [Addr.add] using World.cell?_spot (hc 0 (by omega)).1
      refine ⟨g, o, _, rfl, by rw [← add_plain]; exact c1, ?_⟩
      have e : ((List.range len).map (fun r => if hr : r < len then Classical.choose (each r hr) else [])).getD j [] = Classical.choose (each j hj') := by simp [List.getD, hj']
      rw [e]
      exact (Classical.choose_spec (each j hj')).1
    · obtain ⟨j, hj, rfl⟩ := List.mem_map.1 hr
      have hj' : j < len := by simpa using hj
      rw [dif_pos hj']
      exact (Classical.choose_spec (each j hj')).2.2
/-- One field of a struct's cells. -/
theorem field_of {e : TypeId} {fs : Array Field} {fuel : Nat} {cs : List Value} {x : DataW H × List MemPlace} (he : P.underlying e = some (.struct fs)) (hone : oneCellFields P fs = true) (hl : cs.length = fs.size)
    (h : DataW.trod enc P w base spare held fuel e cs = some x) (j : Nat) (f : Field) (hj : fs[j]? = some f) : ∃ v n y, cs[j]? = some v ∧ DataW.trod enc P w base spare held n f.type [v] = some y := by
  obtain ⟨ys, n', _, _, _, hyl, hf⟩ := DataW.trod_struct he h
  obtain ⟨ho, hk⟩ := hone_of hone j f hj
  have hjl : j < fs.size := (Array.getElem?_eq_some_iff.1 hj).1
  have h1 := hf j f hj
  rw [ho, hk, List.drop_eq_getElem_cons (by omega)] at h1
  have hys : ys[j]? = some (ys[j]'(by omega)) := List.getElem?_eq_getElem (by omega)
  exact ⟨_, n', _, List.getElem?_eq_getElem (by omega), h1.trans hys⟩
/-- A slice of slots that came in. -/
theorem open_slots {t e : TypeId} {f0 f1 f2 : Field} {fuel : Nat} {cs : List Value} {x : DataW H × List MemPlace} (ht : P.underlying t = some (.slice e)) (he : P.underlying e = some (.struct #[f0, f1, f2])) (hone : oneCellFields P #[f0, f1, f2] = true) (hC : P.cellsOf e = 3)
    (h0 : P.underlying f0.type = some (.int .u32)) (h1 : P.underlying f1.type = some (.int .i64)) (h2 : P.underlying f2.type = some (.int .u64)) (h : DataW.trod enc P w base spare held fuel t cs = some x) :
    ∃ v l, cs = [v] ∧ SlR w v l ∧ ∀ s ∈ l, s.Fit := by
  rcases open_slice ht h with ⟨rfl, _⟩ | ⟨a, len, cap, m, n, D, Pl, rfl, _, b1, b2, hm, _, hi⟩
  · exact ⟨_, [], rfl, SlR.nil w, fun s hs => by simp at hs⟩
  have hml : len ≤ m := by rw [hm]; split <;> omega
  have each : ∀ i, i < len → ∃ s : Slot, s.Fit ∧ w.cell? ((a.add (i * 3)).add 0) = some (.int .u32 (s.key : Nat)) ∧ w.cell? ((a.add (i * 3)).add 1) = some (.int .i64 s.st) ∧ w.cell? ((a.add (i * 3)).add 2) = some (.int .u64 (s.seq : Nat)) := fun i hil => by
    obtain ⟨cs', hc, ht'⟩ := hi i (by omega)
    rw [hC] at hc
    obtain ⟨_, hcl, hat⟩ := World.cells?_some hc
    have q0 := hat 0 (by omega)
    have q1 := hat 1 (by omega)
    have q2 := hat 2 (by omega)
    obtain ⟨v0, n0, y0, e0, t0⟩ := field_of he hone hcl ht' 0 f0 rfl
    obtain ⟨v1, n1, y1, e1, t1⟩ := field_of he hone hcl ht' 1 f1 rfl
    obtain ⟨v2, n2, y2, e2, t2⟩ := field_of he hone hcl ht' 2 f2 rfl
    obtain ⟨z0, r0, _, w0⟩ := DataW.trod_int h0 t0
    obtain ⟨z1, r1, _, w1⟩ := DataW.trod_int h1 t1
    obtain ⟨z2, r2, _, w2⟩ := DataW.trod_int h2 t2
    simp only [List.cons.injEq, and_true] at r0 r1 r2
    subst r0 r1 r2
    have b0 := bounds_u32 w0
    have b2 := bounds_u64 w2
    refine ⟨⟨z0.toNat, z1, z2.toNat⟩, ⟨by show z0.toNat < _; omega, w1, by show z2.toNat < _; omega⟩, ?_, ?_, ?_⟩
    · rw [q0, e0]; show _ = some (Value.int .u32 ((z0.toNat : Nat) : Int)); rw [Int.toNat_of_nonneg b0.1]
    · rw [q1, e1]
    · rw [q2, e2]; show _ = some (Value.int .u64 ((z2.toNat : Nat) : Int)); rw [Int.toNat_of_nonneg b2.1]
  refine ⟨_, (List.range len).map (fun i => if hi : i < len then Classical.choose (each i hi) else Slot.zero), rfl, ⟨some a, cap, by simp, by simpa using b1, b2, fun j hj => ?_⟩, fun s hs => ?_⟩
  · have hj' : j < len := by simpa using hj
    have e : ((List.range len).map (fun i => if hi : i < len then Classical.choose (each i hi) else Slot.zero)).getD j Slot.zero = Classical.choose (each j hj') := by simp [List.getD, hj']
    have hspec := Classical.choose_spec (each j hj')
    have hs0 := (Classical.choose_spec (each 0 (by omega))).2.1
    rw [e]
    generalize Classical.choose (each j hj') = s at *
    obtain ⟨_, x1, x2, x3⟩ := hspec
    have hpl : ∀ (a : Addr) (v : Value), w.cell? ((a.add (0 * 3)).add 0) = some v → ∃ g o, a = ⟨g, o, none⟩ := fun a v h => by
      obtain ⟨g, o, sp⟩ := a
      obtain rfl : sp = none := by simpa [Addr.add] using World.cell?_spot h
      exact ⟨g, o, rfl⟩
    obtain ⟨g, o, ha⟩ := hpl a _ hs0
    rw [ha, add_plain, add_plain] at x1 x2 x3
    exact ⟨g, o, by rw [ha], x1, x2, x3⟩
  · obtain ⟨j, hj, rfl⟩ := List.mem_map.1 hs
    have hj' : j < len := by simpa using hj
    rw [dif_pos hj']
    exact (Classical.choose_spec (each j hj')).1
end
end Go.Proofs.YtoanopegoilcnaaGreat
/- Arguments that come in: layouts, heads, rows of bytes, numbers. -/
namespace Go.Proofs.YtoanopegoilcnaaGreat
open Go.RowKit Go.Mem Go.Pg Go.ChangeShapes Go.WideShapes Go.Deep Go.Joins

section
variable {H : Type} {enc : TypeId × Value → H} {P : Program} {w : World} {base : Nat} {spare : Nat → Bool} {held : Bool}
/-- One field, a whole number. -/
theorem field_int {k : IntKind} {e : TypeId} {fs : Array Field} {fuel : Nat} {cs : List Value} {x : DataW H × List MemPlace} (he : P.underlying e = some (.struct fs)) (hone : oneCellFields P fs = true) (hl : cs.length = fs.size)
    (h : DataW.trod enc P w base spare held fuel e cs = some x) (j : Nat) (f : Field) (hj : fs[j]? = some f) (hk : P.underlying f.type = some (.int k)) : ∃ n, cs[j]? = some (.int k n) ∧ (Lit.int k n).wf = true := by
  obtain ⟨v, n, y, e0, t0⟩ := field_of he hone hl h j f hj
  obtain ⟨z, r0, _, w0⟩ := DataW.trod_int hk t0
  simp only [List.cons.injEq, and_true] at r0
  exact ⟨z, by rw [e0, r0], w0⟩
theorem open_layout {r : Reach} {b0 : Nat} {t : TypeId} {f0 f1 f2 : Field} {v : Value} {d : DataW H} {p : List MemPlace} (hs : P.underlying t = some (.struct #[f0, f1, f2])) (hone : oneCellFields P #[f0, f1, f2] = true) (hC : P.cellsOf t = 3)
    (h0 : P.underlying f0.type = some (.int .i64)) (h1 : P.underlying f1.type = some (.int .i64)) (h2 : P.underlying f2.type = some (.int .i64)) (hv : Value.okWide P w r b0 t v) (h : DataW.Trod enc P w base spare held t v d p) :
    ∃ a b c : Int, v = .agg #[.int .i64 a, .int .i64 b, .int .i64 c] ∧ (Lit.int .i64 a).wf = true ∧ (Lit.int .i64 b).wf = true ∧ (Lit.int .i64 c).wf = true := by
  obtain ⟨cs, rfl, hsz⟩ := okWide_struct hs hv
  obtain ⟨l⟩ := cs
  match l, hsz.trans hC with
  | [c0, c1, c2], _ =>
    obtain ⟨fuel, hf⟩ := h
    have hf' : DataW.trod enc P w base spare held fuel t [c0, c1, c2] = some (d, p) := by simpa [Value.cells] using hf
    obtain ⟨a, e0, w0⟩ := field_int hs hone rfl hf' 0 f0 rfl h0
    obtain ⟨b, e1, w1⟩ := field_int hs hone rfl hf' 1 f1 rfl h1
    obtain ⟨c, e2, w2⟩ := field_int hs hone rfl hf' 2 f2 rfl h2
    simp only [List.getElem?_cons_zero, List.getElem?_cons_succ, Option.some.injEq] at e0 e1 e2
    subst e0 e1 e2
    exact ⟨a, b, c, rfl, w0, w1, w2⟩
theorem open_head {r : Reach} {b0 : Nat} {t es : TypeId} {f0 f1 f2 f3 f4 f5 g0 g1 g2 : Field} {v : Value} {d : DataW H} {p : List MemPlace} (hs : P.underlying t = some (.struct #[f0, f1, f2, f3, f4, f5])) (hone : oneCellFields P #[f0, f1, f2, f3, f4, f5] = true) (hC : P.cellsOf t = 6)
    (h0 : P.underlying f0.type = some (.int .i64)) (h1 : P.underlying f1.type = some (.int .u32)) (h2 : P.underlying f2.type = some (.int .i64)) (h3 : P.underlying f3.type = some (.int .i64)) (h4 : P.underlying f4.type = some (.int .i64)) (h5 : P.underlying f5.type = some (.slice es))
    (he : P.underlying es = some (.struct #[g0, g1, g2])) (hone2 : oneCellFields P #[g0, g1, g2] = true) (hC2 : P.cellsOf es = 3)
    (k0 : P.underlying g0.type = some (.int .u32)) (k1 : P.underlying g1.type = some (.int .i64)) (k2 : P.underlying g2.type = some (.int .u64))
    (hv : Value.okWide P w r b0 t v) (h : DataW.Trod enc P w base spare held t v d p) : ∃ hd : Head, HdV w v hd ∧ hd.Wf := by
  obtain ⟨cs, rfl, hsz⟩ := okWide_struct hs hv
  obtain ⟨l⟩ := cs
  match l, hsz.trans hC with
  | [c0, c1, c2, c3, c4, c5], _ =>
    obtain ⟨fuel, hf⟩ := h
    have hf' : DataW.trod enc P w base spare held fuel t [c0, c1, c2, c3, c4, c5] = some (d, p) := by simpa [Value.cells] using hf
    obtain ⟨a, e0, w0⟩ := field_int hs hone rfl hf' 0 f0 rfl h0
    obtain ⟨b, e1, w1⟩ := field_int hs hone rfl hf' 1 f1 rfl h1
    obtain ⟨c, e2, w2⟩ := field_int hs hone rfl hf' 2 f2 rfl h2
    obtain ⟨d', e3, w3⟩ := field_int hs hone rfl hf' 3 f3 rfl h3
    obtain ⟨e', e4, w4⟩ := field_int hs hone rfl hf' 4 f4 rfl h4
    obtain ⟨v5, n5, y5, e5, t5⟩ := field_of hs hone rfl hf' 5 f5 rfl
    simp only [List.getElem?_cons_zero, List.getElem?_cons_succ, Option.some.injEq] at e0 e1 e2 e3 e4 e5
    subst e0 e1 e2 e3 e4 e5
    obtain ⟨sv, sl, q, hsl, hfit⟩ := open_slots h5 he hone2 hC2 k0 k1 k2 t5
    simp only [List.cons.injEq, and_true] at q
    subst q
    have hb := bounds_u32 w1
    refine ⟨⟨a, b.toNat, c, d', e', sl⟩, ⟨_, ?_, hsl⟩, ⟨⟨w0, by show b.toNat < _; omega, w2, w3, w4⟩, hfit⟩⟩
    show Value.agg _ = Value.agg #[.int .i64 a, .int .u32 ((b.toNat : Nat) : Int), .int .i64 c, .int .i64 d', .int .i64 e', c5]
    rw [Int.toNat_of_nonneg hb.1]
end
end Go.Proofs.YtoanopegoilcnaaGreat
