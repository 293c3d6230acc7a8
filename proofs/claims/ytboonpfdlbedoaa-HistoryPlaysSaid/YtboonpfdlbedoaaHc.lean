/- A model of what may be read, in memory. -/
import Derived.Test.YtboonpfdlbedoaaProg
import Derived.Test.YtboonpfdlbedoaaHb
namespace Go.Proofs.Ytboonpfdlbedoaa
open Go Go.RowKit Go.Mem Go.Hs

theorem tset : TSet Try.prog 54 31 4 := ⟨Try.underlying54, Try.underlying31, Try.underlying4, fun w => by kernel_rfl⟩
abbrev SAt (w : World) (b : Nat) (S : List Nat) : Prop := SetAt Try.prog 31 4 w b S
def updf {α : Type} (f : Nat → α) (i : Nat) (x : α) : Nat → α := fun j => if j = i then x else f j
theorem updf_same {α : Type} (f : Nat → α) (i : Nat) (x : α) : updf f i x i = x := if_pos rfl
theorem updf_other {α : Type} {f : Nat → α} {i j : Nat} {x : α} (h : j ≠ i) : updf f i x j = f j := if_neg h

/-- The model at p, of n sectors; V: what may be read; R: what may be left; K: no set has more. -/
structure MdAt (B : Nat) (w : World) (p n K gl cap : Nat) (bv br : Nat → Nat) (V R : Nat → List Nat) : Prop where
  hp : w.heap[p]? = some (.cells #[.slice (some ⟨gl, 0, none⟩) n cap] 52 (0, 0))
  hg : ∃ cur, w.heap[gl]? = some (.cells cur 56 (0, 0)) ∧ ∀ i, i < n → cur[i * 2]? = some (.map (some (bv i))) ∧ cur[i * 2 + 1]? = some (.map (some (br i)))
  hc : n ≤ cap ∧ cap ≤ maxLen
  hb : B ≤ p ∧ B ≤ gl ∧ p ≠ gl
  nv : ∀ i, i < n → B ≤ bv i ∧ bv i ≠ p ∧ bv i ≠ gl
  nr : ∀ i, i < n → B ≤ br i ∧ br i ≠ p ∧ br i ≠ gl
  dv : ∀ i j, i < n → j < n → bv i = bv j → i = j
  dr : ∀ i j, i < n → j < n → br i = br j → i = j
  dx : ∀ i j, i < n → j < n → bv i ≠ br j
  sv : ∀ i, i < n → SAt w (bv i) (V i)
  sr : ∀ i, i < n → SAt w (br i) (R i)
  lv : ∀ i, i < n → (V i).length ≤ K
  lr : ∀ i, i < n → (R i).length ≤ K
section
variable {B : Nat} {w w' : World} {p n K gl cap : Nat} {bv br : Nat → Nat} {V R : Nat → List Nat} {i b : Nat} {S : List Nat}
theorem MdAt.cellV (h : MdAt B w p n K gl cap bv br V R) (hi : i < n) : w.cell? ⟨gl, i * 2, none⟩ = some (.map (some (bv i))) := by
  obtain ⟨cur, h1, h2⟩ := h.hg
  rw [cell_at h1]; exact (h2 i hi).1
theorem MdAt.cellR (h : MdAt B w p n K gl cap bv br V R) (hi : i < n) : w.cell? ⟨gl, i * 2 + 1, none⟩ = some (.map (some (br i))) := by
  obtain ⟨cur, h1, h2⟩ := h.hg
  rw [cell_at h1]; exact (h2 i hi).2
theorem MdAt.free (h : MdAt B w p n K gl cap bv br V R) (j : Nat) : w.frozen? ⟨gl, j, none⟩ = false := by
  obtain ⟨cur, h1, _⟩ := h.hg
  exact free_at h1 j
theorem MdAt.cell0 (h : MdAt B w p n K gl cap bv br V R) : w.cell? ⟨p, 0, none⟩ = some (.slice (some ⟨gl, 0, none⟩) n cap) := cell_at h.hp 0
theorem MdAt.more (h : MdAt B w p n K gl cap bv br V R) {K' : Nat} (hK : K ≤ K') : MdAt B w p n K' gl cap bv br V R :=
  { h with lv := fun i hi => Nat.le_trans (h.lv i hi) hK, lr := fun i hi => Nat.le_trans (h.lr i hi) hK }
theorem MdAt.below (h : MdAt B w p n K gl cap bv br V R) (hb : Below w.heap.size w w') : MdAt B w' p n K gl cap bv br V R := by
  obtain ⟨cur, h1, h2⟩ := h.hg
  exact { h with
    hp := (hb.block p (lt_at h.hp)).trans h.hp
    hg := ⟨cur, (hb.block gl (lt_at h1)).trans h1, h2⟩
    sv := fun i hi => (h.sv i hi).below hb
    sr := fun i hi => (h.sr i hi).below hb }
/-- What is left of sector i is another set, in its old place. -/
theorem MdAt.inR (h : MdAt B w p n K gl cap bv br V R) (hi : i < n) (hg : w.grownBy w' (some (br i))) (hs : SAt w' (br i) S) (hl : S.length ≤ K) : MdAt B w' p n K gl cap bv br V (updf R i S) := by
  obtain ⟨cur, h1, h2⟩ := h.hg
  have n1 := h.nr i hi
  exact { h with
    hp := (hg.block p (lt_at h.hp) (fun e => n1.2.1 (by cases e; rfl))).trans h.hp
    hg := ⟨cur, (hg.block gl (lt_at h1) (fun e => n1.2.2 (by cases e; rfl))).trans h1, h2⟩
    sv := fun j hj => (h.sv j hj).kept hg (fun e => h.dx j i hj hi (Option.some.inj e))
    sr := fun j hj => by
      by_cases e : j = i
      · subst e; rw [updf_same]; exact hs
      · rw [updf_other e]; exact (h.sr j hj).kept hg (fun e' => e (h.dr j i hj hi (Option.some.inj e')))
    lr := fun j hj => by
      by_cases e : j = i
      · subst e; rw [updf_same]; exact hl
      · rw [updf_other e]; exact h.lr j hj }
/-- What may be read of sector i is another set, in its old place. -/
theorem MdAt.inV (h : MdAt B w p n K gl cap bv br V R) (hi : i < n) (hg : w.grownBy w' (some (bv i))) (hs : SAt w' (bv i) S) (hl : S.length ≤ K) : MdAt B w' p n K gl cap bv br (updf V i S) R := by
  obtain ⟨cur, h1, h2⟩ := h.hg
  have n1 := h.nv i hi
  exact { h with
    hp := (hg.block p (lt_at h.hp) (fun e => n1.2.1 (by cases e; rfl))).trans h.hp
    hg := ⟨cur, (hg.block gl (lt_at h1) (fun e => n1.2.2 (by cases e; rfl))).trans h1, h2⟩
    sr := fun j hj => (h.sr j hj).kept hg (fun e => h.dx i j hi hj (Option.some.inj e).symm)
    sv := fun j hj => by
      by_cases e : j = i
      · subst e; rw [updf_same]; exact hs
      · rw [updf_other e]; exact (h.sv j hj).kept hg (fun e' => e (h.dv j i hj hi (Option.some.inj e')))
    lv := fun j hj => by
      by_cases e : j = i
      · subst e; rw [updf_same]; exact hl
      · rw [updf_other e]; exact h.lv j hj }
/-- A block that the model does not know. -/
structure MdAt.New (B : Nat) (p n gl : Nat) (bv br : Nat → Nat) (b : Nat) : Prop where
  lo : B ≤ b
  np : b ≠ p
  ng : b ≠ gl
  nv : ∀ j, j < n → b ≠ bv j
  nr : ∀ j, j < n → b ≠ br j
theorem MdAt.new (h : MdAt B w p n K gl cap bv br V R) (hb : w.heap.size ≤ b) : MdAt.New B p n gl bv br b := by
  obtain ⟨cur, h1, _⟩ := h.hg
  have l1 := lt_at h.hp
  have l2 := lt_at h1
  exact ⟨by have := h.hb.1; omega, by omega, by omega, fun j hj => by have := (h.sv j hj).lt; omega, fun j hj => by have := (h.sr j hj).lt; omega⟩
/-- What may be read of sector i is another set, elsewhere. -/
theorem MdAt.setV (h : MdAt B w p n K gl cap bv br V R) (hi : i < n) (hn : MdAt.New B p n gl bv br b) (hs : SAt w b S) (hl : S.length ≤ K) : MdAt B (w.setCell ⟨gl, i * 2, none⟩ (.map (some b))) p n K gl cap (updf bv i b) br (updf V i S) R := by
  obtain ⟨cur, h1, h2⟩ := h.hg
  exact { h with
    hp := (set_other (a := ⟨gl, i * 2, none⟩) h.hb.2.2).trans h.hp
    hg := ⟨_, set_at h1 (i * 2) _, fun j hj => by
      rw [Array.getElem?_setIfInBounds, Array.getElem?_setIfInBounds, if_neg (show ¬ i * 2 = j * 2 + 1 by omega)]
      refine ⟨?_, (h2 j hj).2⟩
      by_cases e : j = i
      · subst e
        rw [if_pos rfl, updf_same, if_pos]
        have := (h2 j hj).1
        exact (Array.getElem?_eq_some_iff.1 this).1
      · rw [if_neg (by omega), updf_other e]; exact (h2 j hj).1⟩
    nv := fun j hj => by
      by_cases e : j = i
      · subst e; rw [updf_same]; exact ⟨hn.lo, hn.np, hn.ng⟩
      · rw [updf_other e]; exact h.nv j hj
    dv := fun j k hj hk => by
      by_cases e : j = i
      · by_cases e' : k = i
        · intro _; rw [e, e']
        · rw [e, updf_same, updf_other e']; exact fun x => absurd x (hn.nv k hk)
      · by_cases e' : k = i
        · rw [e', updf_same, updf_other e]; exact fun x => absurd x.symm (hn.nv j hj)
        · rw [updf_other e, updf_other e']; exact h.dv j k hj hk
    dx := fun j k hj hk => by
      by_cases e : j = i
      · rw [e, updf_same]; exact hn.nr k hk
      · rw [updf_other e]; exact h.dx j k hj hk
    sv := fun j hj => by
      by_cases e : j = i
      · subst e; rw [updf_same, updf_same]; exact hs.setCell hn.ng _
      · rw [updf_other e, updf_other e]; exact (h.sv j hj).setCell (h.nv j hj).2.2 _
    sr := fun j hj => (h.sr j hj).setCell (h.nr j hj).2.2 _
    lv := fun j hj => by
      by_cases e : j = i
      · subst e; rw [updf_same]; exact hl
      · rw [updf_other e]; exact h.lv j hj }
/-- What is left of sector i is another set, elsewhere. -/
theorem MdAt.setR (h : MdAt B w p n K gl cap bv br V R) (hi : i < n) (hn : MdAt.New B p n gl bv br b) (hs : SAt w b S) (hl : S.length ≤ K) : MdAt B (w.setCell ⟨gl, i * 2 + 1, none⟩ (.map (some b))) p n K gl cap bv (updf br i b) V (updf R i S) := by
  obtain ⟨cur, h1, h2⟩ := h.hg
  exact { h with
    hp := (set_other (a := ⟨gl, i * 2 + 1, none⟩) h.hb.2.2).trans h.hp
    hg := ⟨_, set_at h1 (i * 2 + 1) _, fun j hj => by
      rw [Array.getElem?_setIfInBounds, Array.getElem?_setIfInBounds, if_neg (show ¬ i * 2 + 1 = j * 2 by omega)]
      refine ⟨(h2 j hj).1, ?_⟩
      by_cases e : j = i
      · subst e
        rw [if_pos rfl, updf_same, if_pos]
        have := (h2 j hj).2
        exact (Array.getElem?_eq_some_iff.1 this).1
      · rw [if_neg (by omega), updf_other e]; exact (h2 j hj).2⟩
    nr := fun j hj => by
      by_cases e : j = i
      · subst e; rw [updf_same]; exact ⟨hn.lo, hn.np, hn.ng⟩
      · rw [updf_other e]; exact h.nr j hj
    dr := fun j k hj hk => by
      by_cases e : j = i
      · by_cases e' : k = i
        · intro _; rw [e, e']
        · rw [e, updf_same, updf_other e']; exact fun x => absurd x (hn.nr k hk)
      · by_cases e' : k = i
        · rw [e', updf_same, updf_other e]; exact fun x => absurd x.symm (hn.nr j hj)
        · rw [updf_other e, updf_other e']; exact h.dr j k hj hk
    dx := fun j k hj hk => by
      by_cases e : k = i
      · rw [e, updf_same]; exact (hn.nv j hj).symm
      · rw [updf_other e]; exact h.dx j k hj hk
    sr := fun j hj => by
      by_cases e : j = i
      · subst e; rw [updf_same, updf_same]; exact hs.setCell hn.ng _
      · rw [updf_other e, updf_other e]; exact (h.sr j hj).setCell (h.nr j hj).2.2 _
    sv := fun j hj => (h.sv j hj).setCell (h.nv j hj).2.2 _
    lr := fun j hj => by
      by_cases e : j = i
      · subst e; rw [updf_same]; exact hl
      · rw [updf_other e]; exact h.lr j hj }
end
/-- The model, its places left open. -/
def Md (B : Nat) (w : World) (p n K : Nat) (V R : Nat → List Nat) : Prop := ∃ gl cap bv br, MdAt B w p n K gl cap bv br V R
end Go.Proofs.Ytboonpfdlbedoaa
