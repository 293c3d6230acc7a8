/- firkinref19's model, in memory; In, Begin, Write, Read, Sync, Cut. -/
import Derived.Test.YtboonpfdlbedoaaWb
import Derived.Deep.RegionHeld3
namespace Go.Proofs.Ytboonpfdlbedoaa.Qv
open Go Go.RowKit Go.Mem Go.Hs Go.Proofs Go.Proofs.Ytboonpfdlbedoaa
set_option linter.unusedVariables false

theorem map_getD (S : List Nat) : (List.range S.length).map (S.getD · 0) = S := by
  apply List.ext_getElem?
  intro j
  rw [List.getElem?_map]
  by_cases hj : j < S.length
  · rw [List.getElem?_range hj, List.getElem?_eq_getElem hj]; simp [hj]
  · rw [List.getElem?_eq_none (by simpa using hj), List.getElem?_eq_none (by omega)]; rfl
/-- A row of the model's own. -/
def RwS (Q : Nat → Prop) (w : World) (q gv gr : Nat) (v : Value) (S : List Nat) : Prop :=
  (v = .slice none 0 0 ∧ S = []) ∨ ∃ g cap, v = .slice (some ⟨g, 0, none⟩) S.length cap ∧ Ow .u64 31 w g S.length cap (S.getD · 0) ∧ Q g ∧ g ≠ q ∧ g ≠ gv ∧ g ≠ gr
section
variable {Q Q' : Nat → Prop} {w w' : World} {q gv gr : Nat} {v : Value} {S : List Nat}
theorem RwS.rd (h : RwS Q w q gv gr v S) : Rd .u64 w v S := by
  rcases h with ⟨rfl, rfl⟩ | ⟨g, cap, rfl, how, _⟩
  · exact ⟨none, 0, rfl, Nat.le_refl _, by unfold maxLen; omega, fun j hj => absurd hj (Nat.not_lt_zero j)⟩
  · have := how.rd
    rwa [map_getD] at this
theorem RwS.to (h : RwS Q w q gv gr v S) (hs : ∀ g, v.ownBlock = some g → w'.heap[g]? = w.heap[g]?) (hQ : ∀ g, v.ownBlock = some g → Q g → Q' g) : RwS Q' w' q gv gr v S := by
  rcases h with h | ⟨g, cap, rfl, how, h1, h2⟩
  · exact .inl h
  · exact .inr ⟨g, cap, rfl, how.same (hs g rfl), hQ g rfl h1, h2⟩
theorem RwS.blk (h : RwS Q w q gv gr v S) {g : Nat} (hg : v.ownBlock = some g) : Q g ∧ g < w.heap.size ∧ g ≠ q ∧ g ≠ gv ∧ g ≠ gr := by
  rcases h with ⟨rfl, _⟩ | ⟨g', cap, rfl, how, h1, h2⟩
  · cases hg
  · cases hg; exact ⟨h1, how.lt, h2⟩
theorem RwS.of_own {B : Nat} (h : Own .u64 31 B w v S) (hQ : ∀ g, B ≤ g → Q g) (hq : q < B ∧ gv < B ∧ gr < B) : RwS Q w q gv gr v S := by
  obtain ⟨h1, h2 | ⟨g, cap, cur, rfl, hg, hr⟩⟩ := id h
  · exact .inl ⟨by rw [h2.1], by have := h2.2; cases S with | nil => rfl | cons _ _ => simp at this⟩
  · rcases Nat.eq_zero_or_pos S.length with h0 | h0
    · refine .inr ⟨g, cap, rfl, ⟨cur, hr.1, by simpa using hr.2.2.2.1, by simpa using hr.2.1, hr.2.2.1, fun j hj => by omega⟩, hQ g hg, by omega, by omega, by omega⟩
    · obtain ⟨g', cap', e, hg', how⟩ := h.ow h0
      cases e
      exact .inr ⟨g, cap, rfl, how, hQ g hg, by omega, by omega, by omega⟩
end
/-- The document's model at q, of n sectors. -/
structure RfAt (Q : Nat → Prop) (w : World) (q n gv cv gr cr : Nat) (vv rr : Nat → Value) (V R : Nat → List Nat) : Prop where
  hq : w.heap[q]? = some (.cells #[.slice (some ⟨gv, 0, none⟩) n cv, .slice (some ⟨gr, 0, none⟩) n cr] 41 (0, 0))
  hv : ∃ cur, w.heap[gv]? = some (.cells cur 37 (0, 0)) ∧ ∀ i, i < n → cur[i]? = some (vv i)
  hr : ∃ cur, w.heap[gr]? = some (.cells cur 37 (0, 0)) ∧ ∀ i, i < n → cur[i]? = some (rr i)
  hc : (n ≤ cv ∧ cv ≤ maxLen) ∧ n ≤ cr ∧ cr ≤ maxLen
  hb : (Q q ∧ Q gv ∧ Q gr) ∧ q ≠ gv ∧ q ≠ gr ∧ gv ≠ gr
  up : ∀ j, w.heap.size ≤ j → Q j
  sv : ∀ i, i < n → RwS Q w q gv gr (vv i) (V i)
  sr : ∀ i, i < n → RwS Q w q gv gr (rr i) (R i)
/-- Its blocks. -/
def RfB (q n gv gr : Nat) (vv rr : Nat → Value) : Nat → Prop := fun j => j = q ∨ j = gv ∨ j = gr ∨ ∃ i, i < n ∧ ((vv i).ownBlock = some j ∨ (rr i).ownBlock = some j)
section
variable {Q Q' : Nat → Prop} {w w' : World} {q n gv cv gr cr i : Nat} {vv rr : Nat → Value} {V R : Nat → List Nat} {v : Value} {S : List Nat}
theorem RfAt.lts (h : RfAt Q w q n gv cv gr cr vv rr V R) : q < w.heap.size ∧ gv < w.heap.size ∧ gr < w.heap.size := by
  obtain ⟨_, h1, _⟩ := h.hv
  obtain ⟨_, h2, _⟩ := h.hr
  exact ⟨lt_at h.hq, lt_at h1, lt_at h2⟩
theorem RfAt.rfB (h : RfAt Q w q n gv cv gr cr vv rr V R) {j : Nat} (hj : RfB q n gv gr vv rr j) : Q j ∧ j < w.heap.size := by
  obtain ⟨l1, l2, l3⟩ := h.lts
  rcases hj with rfl | rfl | rfl | ⟨i, hi, hj | hj⟩
  · exact ⟨h.hb.1.1, l1⟩
  · exact ⟨h.hb.1.2.1, l2⟩
  · exact ⟨h.hb.1.2.2, l3⟩
  · have := (h.sv i hi).blk hj; exact ⟨this.1, this.2.1⟩
  · have := (h.sr i hi).blk hj; exact ⟨this.1, this.2.1⟩
theorem RfAt.conv (h : RfAt Q w q n gv cv gr cr vv rr V R) (hs : ∀ j, RfB q n gv gr vv rr j → w'.heap[j]? = w.heap[j]?) (hQ : ∀ j, RfB q n gv gr vv rr j → Q' j) (up : ∀ j, w'.heap.size ≤ j → Q' j) : RfAt Q' w' q n gv cv gr cr vv rr V R := by
  obtain ⟨c1, h1, h2⟩ := h.hv
  obtain ⟨c2, h3, h4⟩ := h.hr
  exact { hq := (hs q (.inl rfl)).trans h.hq, hv := ⟨c1, (hs gv (.inr (.inl rfl))).trans h1, h2⟩, hr := ⟨c2, (hs gr (.inr (.inr (.inl rfl)))).trans h3, h4⟩, hc := h.hc, hb := ⟨⟨hQ _ (.inl rfl), hQ _ (.inr (.inl rfl)), hQ _ (.inr (.inr (.inl rfl)))⟩, h.hb.2⟩, up := up,
          sv := fun i hi => (h.sv i hi).to (fun g hg => hs g (.inr (.inr (.inr ⟨i, hi, .inl hg⟩)))) (fun g hg _ => hQ g (.inr (.inr (.inr ⟨i, hi, .inl hg⟩)))),
          sr := fun i hi => (h.sr i hi).to (fun g hg => hs g (.inr (.inr (.inr ⟨i, hi, .inr hg⟩)))) (fun g hg _ => hQ g (.inr (.inr (.inr ⟨i, hi, .inr hg⟩)))) }
theorem RfAt.below (h : RfAt Q w q n gv cv gr cr vv rr V R) (hb : Below w.heap.size w w') : RfAt Q w' q n gv cv gr cr vv rr V R :=
  h.conv (fun j hj => hb.block j (h.rfB hj).2) (fun j hj => (h.rfB hj).1) (fun j hj => h.up j (Nat.le_trans hb.size hj))
theorem RfAt.cells (h : RfAt Q w q n gv cv gr cr vv rr V R) : w.cell? ⟨q, 0, none⟩ = some (.slice (some ⟨gv, 0, none⟩) n cv) ∧ w.cell? ⟨q, 1, none⟩ = some (.slice (some ⟨gr, 0, none⟩) n cr) := ⟨cell_at h.hq 0, cell_at h.hq 1⟩
theorem RfAt.cellV (h : RfAt Q w q n gv cv gr cr vv rr V R) (hi : i < n) : w.cell? ⟨gv, i, none⟩ = some (vv i) := by
  obtain ⟨c, h1, h2⟩ := h.hv
  rw [cell_at h1]; exact h2 i hi
theorem RfAt.cellR (h : RfAt Q w q n gv cv gr cr vv rr V R) (hi : i < n) : w.cell? ⟨gr, i, none⟩ = some (rr i) := by
  obtain ⟨c, h1, h2⟩ := h.hr
  rw [cell_at h1]; exact h2 i hi
theorem RfAt.freeV (h : RfAt Q w q n gv cv gr cr vv rr V R) (j : Nat) : w.frozen? ⟨gv, j, none⟩ = false := by
  obtain ⟨c, h1, _⟩ := h.hv; exact free_at h1 j
theorem RfAt.freeR (h : RfAt Q w q n gv cv gr cr vv rr V R) (j : Nat) : w.frozen? ⟨gr, j, none⟩ = false := by
  obtain ⟨c, h1, _⟩ := h.hr; exact free_at h1 j
theorem cur_set {cur : Array Value} {vv : Nat → Value} {n i : Nat} {v : Value} (h : ∀ j, j < n → cur[j]? = some (vv j)) : ∀ j, j < n → (cur.setIfInBounds i v)[j]? = some (updf vv i v j) := fun j hj => by
  rw [Array.getElem?_setIfInBounds]
  by_cases e : j = i
  · subst e
    rw [if_pos rfl, updf_same, if_pos (Array.getElem?_eq_some_iff.1 (h j hj)).1]
  · rw [if_neg (fun e' => e e'.symm), updf_other e]; exact h j hj
theorem RfAt.setV (h : RfAt Q w q n gv cv gr cr vv rr V R) (hi : i < n) (hv : RwS Q w q gv gr v S) : RfAt Q (w.setCell ⟨gv, i, none⟩ v) q n gv cv gr cr (updf vv i v) rr (updf V i S) R := by
  obtain ⟨c1, h1, h2⟩ := h.hv
  obtain ⟨c2, h3, h4⟩ := h.hr
  have hk : ∀ {u : Value} {T : List Nat}, RwS Q w q gv gr u T → RwS Q (w.setCell ⟨gv, i, none⟩ v) q gv gr u T := fun hu => hu.to (fun g hg => set_other (hu.blk hg).2.2.2.1) (fun g _ hg => hg)
  exact { hq := (set_other h.hb.2.1).trans h.hq, hv := ⟨_, set_at h1 i _, cur_set h2⟩, hr := ⟨c2, (set_other (fun e => h.hb.2.2.2 e.symm)).trans h3, h4⟩, hc := h.hc, hb := h.hb, up := fun j hj => h.up j (by simpa using hj)
          sv := fun j hj => by
            by_cases e : j = i
            · subst e; rw [updf_same, updf_same]; exact hk hv
            · rw [updf_other e, updf_other e]; exact hk (h.sv j hj)
          sr := fun j hj => hk (h.sr j hj) }
theorem RfAt.setR (h : RfAt Q w q n gv cv gr cr vv rr V R) (hi : i < n) (hv : RwS Q w q gv gr v S) : RfAt Q (w.setCell ⟨gr, i, none⟩ v) q n gv cv gr cr vv (updf rr i v) V (updf R i S) := by
  obtain ⟨c1, h1, h2⟩ := h.hv
  obtain ⟨c2, h3, h4⟩ := h.hr
  have hk : ∀ {u : Value} {T : List Nat}, RwS Q w q gv gr u T → RwS Q (w.setCell ⟨gr, i, none⟩ v) q gv gr u T := fun hu => hu.to (fun g hg => set_other (hu.blk hg).2.2.2.2) (fun g _ hg => hg)
  exact { hq := (set_other h.hb.2.2.1).trans h.hq, hv := ⟨c1, (set_other h.hb.2.2.2).trans h1, h2⟩, hr := ⟨_, set_at h3 i _, cur_set h4⟩, hc := h.hc, hb := h.hb, up := fun j hj => h.up j (by simpa using hj)
          sv := fun j hj => hk (h.sv j hj)
          sr := fun j hj => by
            by_cases e : j = i
            · subst e; rw [updf_same, updf_same]; exact hk hv
            · rw [updf_other e, updf_other e]; exact hk (h.sr j hj) }
theorem RfAt.congr {V' R' : Nat → List Nat} (h : RfAt Q w q n gv cv gr cr vv rr V R) (hV : ∀ i, i < n → V i = V' i) (hR : ∀ i, i < n → R i = R' i) : RfAt Q w q n gv cv gr cr vv rr V' R' :=
  { h with sv := fun i hi => hV i hi ▸ h.sv i hi, sr := fun i hi => hR i hi ▸ h.sr i hi }

set_option maxHeartbeats 3200000 in
theorem in_yes (h : RfAt Q w q n gv cv gr cr vv rr V R) (hi : i < n) :
    Calls Try.prog 21 #[.pointer (some ⟨q, 0, none⟩), .int .i64 (i : Nat)] w fun e w' => e = .returned (.bool true) ∧ w = w' := by
  obtain ⟨c0, c1⟩ := h.cells
  have i1 : (i : Int) < (n : Int) := by omega
  have i3 : (n : Int) ≤ (cv : Int) := by have := h.hc.1.1; omega
  have i4 : (cv : Int) ≤ 9223372036854775807 := by have := h.hc.1.2; unfold maxLen at this; omega
  clear h c1
  go_enter Try.func21, Try.ntmps21
  go_wp2_with fail
  go_ret
  exact ⟨by simp, rfl⟩
set_option maxHeartbeats 3200000 in
theorem in_no (h : RfAt Q w q n gv cv gr cr vv rr V R) {z : Int} (hz : z < 0 ∨ (n : Int) ≤ z) :
    Calls Try.prog 21 #[.pointer (some ⟨q, 0, none⟩), .int .i64 z] w fun e w' => e = .returned (.bool false) ∧ w = w' := by
  obtain ⟨c0, c1⟩ := h.cells
  have i3 : (n : Int) ≤ (cv : Int) := by have := h.hc.1.1; omega
  have i4 : (cv : Int) ≤ 9223372036854775807 := by have := h.hc.1.2; unfold maxLen at this; omega
  clear h c1
  rcases hz with hz | hz
  · have z1 : ¬ (0 : Int) ≤ z := by omega
    go_enter Try.func21, Try.ntmps21
    go_wp2_with fail
    go_ret
    exact ⟨by simp, rfl⟩
  · have z1 : (0 : Int) ≤ z := by omega
    have z2 : ¬ z < (n : Int) := by omega
    go_enter Try.func21, Try.ntmps21
    go_wp2_with fail
    go_ret
    exact ⟨by simp, rfl⟩
end
end Go.Proofs.Ytboonpfdlbedoaa.Qv
