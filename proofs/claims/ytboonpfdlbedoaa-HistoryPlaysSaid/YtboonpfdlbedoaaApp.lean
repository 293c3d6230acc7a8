/- Memory: slices of the call's own that read as rows of numbers; append to them. No program in sight. -/
import Derived.Test.YtboonpfdlbedoaaOw
import Derived.Laws.AppendOwnNone
namespace Go.Mem
open Go.RowKit

/-- A slice of the call's own (nil, or made behind block B) that reads as a row of numbers. -/
def Own (k : IntKind) (e : TypeId) (B : Nat) (w : World) (v : Value) (xs : List Nat) : Prop := w.ownsRow B e 1 v xs.length (xs.map fun x => Value.int k (x : Nat))

section
variable {k : IntKind} {e : TypeId} {B : Nat} {w w' : World} {v : Value} {xs : List Nat}
theorem Own.nil (k : IntKind) (e : TypeId) (B : Nat) (w : World) : Own k e B w (.slice none 0 0) [] := World.ownsRow_nil w B e 1
theorem Own.alloc (h : Own k e B w v xs) (o : Obj) : Own k e B (w.alloc o) v xs := World.ownsRow.alloc h o
theorem Own.drewN (h : Own k e B w v xs) (n : Nat) : Own k e B (w.drewN n) v xs := h
theorem Own.kept {row : Option Nat} (h : Own k e B w v xs) (hg : w.grownBy w' row) (hne : v.ownBlock = none ∨ v.ownBlock ≠ row) : Own k e B w' v xs := World.ownsRow.kept h hg hne
theorem Own.below (h : Own k e B w v xs) (hb : Below w.heap.size w w') : Own k e B w' v xs := h.kept (hb.toGrown none) (by cases v.ownBlock <;> simp)
theorem Own.blk (h : Own k e B w v xs) : ∀ g, v.ownBlock = some g → B ≤ g ∧ g < w.heap.size := World.ownsRow.lt h
theorem Own.mono {B' : Nat} (h : Own k e B w v xs) (hb : B' ≤ B) : Own k e B' w v xs := by
  obtain ⟨h1, h2 | ⟨g, cap, cur, hv, hg, hr⟩⟩ := h
  · exact ⟨h1, .inl h2⟩
  · exact ⟨h1, .inr ⟨g, cap, cur, hv, Nat.le_trans hb hg, hr⟩⟩
theorem Own.ow (h : Own k e B w v xs) (h0 : 0 < xs.length) : ∃ g cap, v = .slice (some ⟨g, 0, none⟩) xs.length cap ∧ B ≤ g ∧ Ow k e w g xs.length cap (xs.getD · 0) := by
  have h' := h
  obtain ⟨h1, h2 | ⟨g, cap, cur, hv, hg, hr⟩⟩ := h
  · omega
  · subst hv
    refine ⟨g, cap, rfl, hg, (Ow.of_owns h' (fun j hj => ?_)).2.2⟩
    rw [List.getElem?_map, List.getElem?_eq_getElem hj]
    simp [List.getD, hj]
theorem Own.rd (h : Own k e B w v xs) : Rd k w v xs := by
  rcases Nat.eq_zero_or_pos xs.length with h0 | h0
  · obtain ⟨h1, h2 | ⟨g, cap, cur, hv, hg, h3, h4, h5, h6⟩⟩ := h
    · exact ⟨none, 0, by rw [h2.1, h0], by omega, by unfold maxLen; omega, fun j hj => by omega⟩
    · exact ⟨_, cap, hv, h4, h5, fun j hj => by omega⟩
  · obtain ⟨g, cap, hv, _, ho⟩ := h.ow h0
    have := ho.rd
    rw [hv]
    have e : (List.range xs.length).map (xs.getD · 0) = xs := by
      apply List.ext_getElem (by simp)
      intro i h1 h2
      simp [List.getD, h2]
    rwa [e] at this
theorem Own.of_ow {g n cap : Nat} {f : Nat → Nat} (h : Ow k e w g n cap f) (hb : B ≤ g) : Own k e B w (.slice (some ⟨g, 0, none⟩) n cap) ((List.range n).map f) := by
  obtain ⟨cur, h1, h2, h3, h4, h5⟩ := h
  refine ⟨by simp, .inr ⟨g, cap, cur, by simp, hb, h1, by simpa using h3, h4, by simpa using h2, ?_⟩⟩
  apply List.ext_getElem?
  intro j
  rw [Nat.mul_one, List.getElem?_take]
  by_cases hj : j < n
  · rw [if_pos (by simpa using hj)]
    have := h5 j hj
    rw [Array.getElem?_toList, this]
    simp [hj]
  · rw [if_neg (by simpa using hj), List.getElem?_eq_none (by simp; omega)]
end

/-- Slices of a kind of integers. -/
structure ElT (P : Program) (T e : TypeId) (k : IntKind) (bytes : Nat) : Prop where
  und : P.underlying T = some (.slice e)
  inf : (P.info? e).map (fun i => (i.zero, i.size, i.bytes)) = some (some (.int k 0), 1, bytes)
  small : bytes ≤ 8

section
variable {P : Program} {T e : TypeId} {k : IntKind} {bytes : Nat} {B : Nat} {w : World} {v : Value} {xs : List Nat}
variable {ops : Array Oper} {rest : List Oper} {o : Oper} {a : Act} {Q : Exit → Act → World → Prop}

theorem grown_below {w0 w w' : World} {B : Nat} {v : Value} {xs : List Nat} (h : Own k e B w v xs) (hb : Below B w0 w) (hB : B ≤ w.heap.size) (hg : w.grownBy w' v.ownBlock) : Below B w0 w' := by
  refine ⟨hg.os.trans hb.os, hg.tape.trans hb.tape, hg.output.trans hb.output, Nat.le_trans hb.size hg.size, fun i hi => (hg.block i (by omega) (fun he => ?_)).trans (hb.block i hi)⟩
  have := (h.blk i he.symm).1
  omega

/-- Four cells, and all that was there, behind a call that makes memory alone. -/
theorem keep4 {W0 W w' : World} {R : Nat} {v0 v1 v2 v3 : Value} (hb : Below W.heap.size W w') (h0 : W.cell? ⟨R, 0, none⟩ = some v0) (h1 : W.cell? ⟨R, 1, none⟩ = some v1) (h2 : W.cell? ⟨R, 2, none⟩ = some v2) (h3 : W.cell? ⟨R, 3, none⟩ = some v3)
    (hW : Below W0.heap.size W0 W) : w'.cell? ⟨R, 0, none⟩ = some v0 ∧ w'.cell? ⟨R, 1, none⟩ = some v1 ∧ w'.cell? ⟨R, 2, none⟩ = some v2 ∧ w'.cell? ⟨R, 3, none⟩ = some v3 ∧ Below W0.heap.size W0 w' :=
  ⟨(hb.cell (World.block_lt_of_cell? _ _ h0)).trans h0, (hb.cell (World.block_lt_of_cell? _ _ h1)).trans h1, (hb.cell (World.block_lt_of_cell? _ _ h2)).trans h2, (hb.cell (World.block_lt_of_cell? _ _ h3)).trans h3, hW.comp hb⟩
/-- Four cells, one after another. -/
theorem four_set {W : World} {R : Nat} {a0 a1 a2 a3 : Value} {t : TypeId} (h : W.heap[R]? = some (.cells #[a0, a1, a2, a3] t (0, 0))) (v0 v1 v2 v3 : Value) :
    (W.setCell ⟨R, 0, none⟩ v0).cell? ⟨R, 0, none⟩ = some v0 ∧ ((W.setCell ⟨R, 0, none⟩ v0).setCell ⟨R, 1, none⟩ v1).cell? ⟨R, 1, none⟩ = some v1 ∧
    (((W.setCell ⟨R, 0, none⟩ v0).setCell ⟨R, 1, none⟩ v1).setCell ⟨R, 2, none⟩ v2).cell? ⟨R, 2, none⟩ = some v2 ∧
    ((((W.setCell ⟨R, 0, none⟩ v0).setCell ⟨R, 1, none⟩ v1).setCell ⟨R, 2, none⟩ v2).setCell ⟨R, 3, none⟩ v3).cell? ⟨R, 3, none⟩ = some v3 ∧
    ((((W.setCell ⟨R, 0, none⟩ v0).setCell ⟨R, 1, none⟩ v1).setCell ⟨R, 2, none⟩ v2).setCell ⟨R, 3, none⟩ v3).heap[R]? = some (.cells #[v0, v1, v2, v3] t (0, 0)) ∧
    W.grownBy ((((W.setCell ⟨R, 0, none⟩ v0).setCell ⟨R, 1, none⟩ v1).setCell ⟨R, 2, none⟩ v2).setCell ⟨R, 3, none⟩ v3) (some R) := by
  have s0 := set_at h 0 v0
  have s1 := set_at s0 1 v1
  have s2 := set_at s1 2 v2
  have s3 := set_at s2 3 v3
  have hne : ∀ k, some k ≠ some R → k ≠ R := fun k hk e => hk (by rw [e])
  exact ⟨cell_at s0 0, cell_at s1 1, cell_at s2 2, cell_at s3 3, s3, ⟨rfl, rfl, rfl, by simp, fun k _ hk => (set_other (hne k hk)).trans ((set_other (hne k hk)).trans ((set_other (hne k hk)).trans (set_other (hne k hk))))⟩⟩
theorem fz_alloc {w : World} {o : Obj} {b j : Nat} (h : w.frozen? ⟨b, j, none⟩ = false) (hb : b < w.heap.size) : ((w.alloc o).drew).frozen? ⟨b, j, none⟩ = false := by
  refine Eq.trans ?_ h
  exact World.frozen?_of_block (a := ⟨b, j, none⟩) (alloc_old (w := w) (o := o) hb)
theorem cl_alloc {w : World} {o : Obj} {b j : Nat} {v : Value} (h : w.cell? ⟨b, j, none⟩ = some v) : ((w.alloc o).drew).cell? ⟨b, j, none⟩ = some v := by
  refine Eq.trans ?_ h
  exact World.cell?_of_block (a := ⟨b, j, none⟩) (alloc_old (w := w) (o := o) (World.block_lt_of_cell? _ _ h))
theorem grown_set (w : World) (b j : Nat) (v : Value) : w.grownBy (w.setCell ⟨b, j, none⟩ v) (some b) := ⟨rfl, rfl, rfl, by simp, fun _ _ hk => set_other (fun e => hk (by rw [e]))⟩
theorem new_cell (w : World) (v : Value) (t : TypeId) : (w.alloc (.cells #[v] t)).cell? ⟨w.heap.size, 0, none⟩ = some v := cell_at (alloc_new w _) 0
theorem grow_below {w0 w w' : World} {B : Nat} {v : Value} (hb : Below B w0 w) (hB : B ≤ w.heap.size) (hg : w.grownBy w' v.ownBlock) (hv : ∀ g, v.ownBlock = some g → B ≤ g) : Below B w0 w' := by
  refine ⟨hg.os.trans hb.os, hg.tape.trans hb.tape, hg.output.trans hb.output, Nat.le_trans hb.size hg.size, fun i hi => (hg.block i (by omega) (fun he => ?_)).trans (hb.block i hi)⟩
  have := hv i he.symm
  omega
/-- One more element. -/
theorem app_one (E : ElT P T e k bytes) (hgd : o.guard = none) (s x : Operand) (ho : o.op = .call { callee := .builtin .append, args := #[s, x], argTypes := #[T, T] })
    (B : Nat) (v : Value) (xs : List Nat) (hs : a.eval s = v) (hown : Own k e B w v xs) (ad : Addr) (c y : Nat) (hx : a.eval x = .slice (some ad) 1 c) (hcell : w.cell? ad = some (.int k (y : Nat)))
    (hlen : xs.length ≤ 1000000000) (hB : B ≤ w.heap.size)
    (h : ∀ g cap w', Own k e B w' (.slice (some ⟨g, 0, none⟩) (xs.length + 1) cap) (xs ++ [y]) → w.grownBy w' v.ownBlock → (v.ownBlock = some g ∨ g = w.heap.size) →
      wpList P ops Q rest (a.put o.dst (.slice (some ⟨g, 0, none⟩) (xs.length + 1) cap)) w') : wpList P ops Q (o :: rest) a w := by
  obtain ⟨i, hi, hz, hs', hb⟩ := info_parts E.inf
  have h8 := E.small
  refine wpList_append_lies w hgd s x T ho B e i (.int k 0) 1 bytes E.und hi hz hs' hb rfl (by decide) v xs.length _ hs hown ad 1 c [.int k (y : Nat)] hx rfl (fun j u hu => ?_) (fun u hu => by simp at hu; subst hu; rfl) (by decide) (by unfold maxLen; omega) ?_ hB _ rfl ?_
  · cases j with
    | zero =>
      simp at hu; subst hu
      have : ad.add 0 = ad := by unfold Addr.add; split <;> simp_all
      rw [this]; exact hcell
    | succ j => simp at hu
  · have : (xs.length + 1) * bytes ≤ (xs.length + 1) * 8 := Nat.mul_le_mul_left _ h8
    omega
  · intro g cap w' h2 h3 h4 _
    refine h g cap w' ?_ h3 h4
    unfold Own
    simpa using h2

/-- A row more, that is not empty. -/
theorem app_row (E : ElT P T e k bytes) (hgd : o.guard = none) (s x : Operand) (ho : o.op = .call { callee := .builtin .append, args := #[s, x], argTypes := #[T, T] })
    (B : Nat) (v : Value) (xs : List Nat) (hs : a.eval s = v) (hown : Own k e B w v xs) (ys : List Nat) (hsrc : Rd k w (a.eval x) ys) (h0 : 0 < ys.length)
    (hlen : xs.length + ys.length ≤ 1000000000) (hB : B ≤ w.heap.size)
    (h : ∀ g cap w', Own k e B w' (.slice (some ⟨g, 0, none⟩) (xs.length + ys.length) cap) (xs ++ ys) → w.grownBy w' v.ownBlock → (v.ownBlock = some g ∨ g = w.heap.size) →
      wpList P ops Q rest (a.put o.dst (.slice (some ⟨g, 0, none⟩) (xs.length + ys.length) cap)) w') : wpList P ops Q (o :: rest) a w := by
  obtain ⟨i, hi, hz, hs', hb⟩ := info_parts E.inf
  have h8 := E.small
  obtain ⟨sa, c, hx, hc1, hc2, hcell⟩ := hsrc
  obtain ⟨g0, o0, rfl, _⟩ := hcell 0 h0
  refine wpList_append_lies w hgd s x T ho B e i (.int k 0) 1 bytes E.und hi hz hs' hb rfl (by decide) v xs.length _ hs hown ⟨g0, o0, none⟩ ys.length c (ys.map fun x => Value.int k (x : Nat)) hx (by simp) (fun j u hu => ?_) (fun u hu => ?_) h0 (by unfold maxLen; omega) ?_ hB _ rfl ?_
  · have hadd : (⟨g0, o0, none⟩ : Addr).add j = ⟨g0, o0 + j, none⟩ := by unfold Addr.add; split <;> simp_all
    rw [hadd]
    rw [List.getElem?_map] at hu
    rcases Nat.lt_or_ge j ys.length with hj | hj
    · obtain ⟨g', o', he, hx'⟩ := hcell j hj
      cases he
      rw [hx']
      rw [List.getElem?_eq_getElem hj] at hu
      simp only [Option.map_some, Option.some.injEq] at hu
      rw [← hu]; simp [List.getD, hj]
    · rw [List.getElem?_eq_none hj] at hu; cases hu
  · obtain ⟨y, _, rfl⟩ := List.mem_map.1 hu
    rfl
  · have : (xs.length + ys.length) * bytes ≤ (xs.length + ys.length) * 8 := Nat.mul_le_mul_left _ h8
    omega
  · intro g cap w' h2 h3 h4 _
    refine h g cap w' ?_ h3 h4
    unfold Own
    simpa using h2

/-- Nothing more. -/
theorem app_none (E : ElT P T e k bytes) (hgd : o.guard = none) (s x : Operand) (ho : o.op = .call { callee := .builtin .append, args := #[s, x], argTypes := #[T, T] })
    (B : Nat) (v : Value) (xs : List Nat) (hs : a.eval s = v) (hown : Own k e B w v xs) (hx : a.eval x = .slice none 0 0)
    (h : wpList P ops Q rest (a.put o.dst v) w) : wpList P ops Q (o :: rest) a w := by
  obtain ⟨i, hi, hz, hs', hb⟩ := info_parts E.inf
  exact wpList_append_own_none hgd s x T ho B e i 1 E.und hi v xs.length _ hs hown hx h
end
end Go.Mem
namespace Go.Mem
open Go.RowKit
section
variable {P : Program} {T e : TypeId} {k : IntKind} {bytes : Nat} {B : Nat} {w : World} {v : Value} {xs : List Nat}
variable {ops : Array Oper} {o : Oper} {a : Act} {Q : Exit → Act → World → Prop} {K : Act → World → Prop} {E' : Prop}
/-- One more element, at a step of a region that draws. -/
theorem step_one (E : ElT P T e k bytes) (hgd : o.guard = none) (s x : Operand) (ho : o.op = .call { callee := .builtin .append, args := #[s, x], argTypes := #[T, T] })
    (B : Nat) (v : Value) (xs : List Nat) (hs : a.eval s = v) (hown : Own k e B w v xs) (ad : Addr) (c y : Nat) (hx : a.eval x = .slice (some ad) 1 c) (hcell : w.cell? ad = some (.int k (y : Nat)))
    (hlen : xs.length ≤ 1000000000) (hB : B ≤ w.heap.size)
    (h : ∀ g cap w', Own k e B w' (.slice (some ⟨g, 0, none⟩) (xs.length + 1) cap) (xs ++ [y]) → w.grownBy w' v.ownBlock → (v.ownBlock = some g ∨ g = w.heap.size) →
      K (a.put o.dst (.slice (some ⟨g, 0, none⟩) (xs.length + 1) cap)) w') : if Region.wanted o (yielded ops a.tmps) = true then Oper.wp P o a w K Q else E' := by
  obtain ⟨i, hi, hz, hs', hb⟩ := info_parts E.inf
  have h8 := E.small
  refine step_append_lies w hgd s x T ho B e i (.int k 0) 1 bytes E.und hi hz hs' hb rfl (by decide) v xs.length _ hs hown ad 1 c [.int k (y : Nat)] hx rfl (fun j u hu => ?_) (fun u hu => by simp at hu; subst hu; rfl) (by decide) (by unfold maxLen; omega) ?_ hB _ rfl ?_
  · cases j with
    | zero =>
      simp at hu; subst hu
      have : ad.add 0 = ad := by unfold Addr.add; split <;> simp_all
      rw [this]; exact hcell
    | succ j => simp at hu
  · have : (xs.length + 1) * bytes ≤ (xs.length + 1) * 8 := Nat.mul_le_mul_left _ h8
    omega
  · intro g cap w' h2 h3 h4 _
    refine h g cap w' ?_ h3 h4
    unfold Own
    simpa using h2
end
end Go.Mem
