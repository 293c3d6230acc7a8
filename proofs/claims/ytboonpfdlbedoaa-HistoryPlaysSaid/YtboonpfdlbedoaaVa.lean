/- A model of what may be read, in memory, with the set of the blocks that may be touched. (Printed by a program.) -/
import Derived.Test.YtboonpfdlbedoaaHq
namespace Go.Proofs.Ytboonpfdlbedoaa.Qv
open Go Go.RowKit Go.Mem Go.Hs Go.Proofs Go.Proofs.Ytboonpfdlbedoaa
set_option linter.unusedVariables false

/-- Nothing turns but what may. -/
structure Off (Q : Nat → Prop) (w w' : World) : Prop where
  os : w'.os = w.os
  tape : w'.tape = w.tape
  output : w'.output = w.output
  size : w.heap.size ≤ w'.heap.size
  block : ∀ j, j < w.heap.size → ¬ Q j → w'.heap[j]? = w.heap[j]?
theorem Off.refl (Q : Nat → Prop) (w : World) : Off Q w w := ⟨rfl, rfl, rfl, Nat.le_refl _, fun _ _ _ => rfl⟩
section
variable {Q : Nat → Prop} {a b c w w' : World}
theorem Off.trans (h1 : Off Q a b) (h2 : Off Q b c) : Off Q a c := ⟨h2.os.trans h1.os, h2.tape.trans h1.tape, h2.output.trans h1.output, Nat.le_trans h1.size h2.size, fun j hj hq => (h2.block j (Nat.lt_of_lt_of_le hj h1.size) hq).trans (h1.block j hj hq)⟩
theorem Off.of_below (h : Below a.heap.size a b) : Off Q a b := ⟨h.os, h.tape, h.output, h.size, fun j hj _ => h.block j hj⟩
theorem Off.drew (h : Off Q a b) : Off Q a b.drew := h.trans (Off.of_below (Below.refl _ _).drew)
theorem Off.drewN (h : Off Q a b) (n : Nat) : Off Q a (b.drewN n) := h.trans (Off.of_below ((Below.refl _ _).drewN n))
theorem Off.alloc (h : Off Q a b) (o : Obj) : Off Q a (b.alloc o) := h.trans (Off.of_below ((Below.refl _ _).alloc (Nat.le_refl _) o))
theorem Off.setCell (h : Off Q a b) {p : Addr} (hp : Q p.block) (v : Value) : Off Q a (b.setCell p v) := h.trans ⟨rfl, rfl, rfl, by simp, fun j hj hq => set_other (fun e => hq (e ▸ hp))⟩
theorem off_of_grown {k : Nat} (hg : w.grownBy w' (some k)) (hk : Q k) : Off Q w w' := ⟨hg.os, hg.tape, hg.output, hg.size, fun j hj hq => hg.block j hj (fun e => by cases e; exact hq hk)⟩
theorem Off.below (h : Off Q a b) {B : Nat} (hB : B ≤ a.heap.size) (hQ : ∀ j, j < B → ¬ Q j) : Below B a b := ⟨h.os, h.tape, h.output, h.size, fun j hj => h.block j (Nat.lt_of_lt_of_le hj hB) (hQ j hj)⟩
theorem Off.imp {Q' : Nat → Prop} (h : Off Q a b) (hQ : ∀ j, j < a.heap.size → Q j → Q' j) : Off Q' a b := ⟨h.os, h.tape, h.output, h.size, fun j hj hq => h.block j hj (fun h' => hq (hQ j hj h'))⟩
end
/-- The model at p, of n sectors; V: what may be read; R: what may be left; K: no set has more. -/
structure MdAt (B : Nat → Prop) (w : World) (p n K gl cap : Nat) (bv br : Nat → Nat) (V R : Nat → List Nat) : Prop where
  hp : w.heap[p]? = some (.cells #[.slice (some ⟨gl, 0, none⟩) n cap] 52 (0, 0))
  hg : ∃ cur, w.heap[gl]? = some (.cells cur 56 (0, 0)) ∧ ∀ i, i < n → cur[i * 2]? = some (.map (some (bv i))) ∧ cur[i * 2 + 1]? = some (.map (some (br i)))
  hc : n ≤ cap ∧ cap ≤ maxLen
  hb : B p ∧ B gl ∧ p ≠ gl
  up : ∀ j, w.heap.size ≤ j → B j
  nv : ∀ i, i < n → B (bv i) ∧ bv i ≠ p ∧ bv i ≠ gl
  nr : ∀ i, i < n → B (br i) ∧ br i ≠ p ∧ br i ≠ gl
  dv : ∀ i j, i < n → j < n → bv i = bv j → i = j
  dr : ∀ i j, i < n → j < n → br i = br j → i = j
  dx : ∀ i j, i < n → j < n → bv i ≠ br j
  sv : ∀ i, i < n → SAt w (bv i) (V i)
  sr : ∀ i, i < n → SAt w (br i) (R i)
  lv : ∀ i, i < n → (V i).length ≤ K
  lr : ∀ i, i < n → (R i).length ≤ K
section
variable {B : Nat → Prop} {w w' : World} {p n K gl cap : Nat} {bv br : Nat → Nat} {V R : Nat → List Nat} {i b : Nat} {S : List Nat}
theorem MdAt.cellV (h : MdAt B w p n K gl cap bv br V R) (hi : i < n) : w.cell? ⟨gl, i * 2, none⟩ = some (.map (some (bv i))) := by
  obtain ⟨cur, h1, h2⟩ := h.hg
  rw [cell_at h1]; exact (h2 i hi).1
theorem MdAt.cellR (h : MdAt B w p n K gl cap bv br V R) (hi : i < n) : w.cell? ⟨gl, i * 2 + 1, none⟩ = some (.map (some (br i))) := by
  obtain ⟨cur, h1, h2⟩ := h.hg
  rw [cell_at h1]; exact (h2 i hi).2
theorem MdAt.free (h : MdAt B w p n K gl cap bv br V R) (j : Nat) : w.frozen? ⟨gl, j, none⟩ = false := by
  obtain ⟨cur, h1, _⟩ := h.hg
  exact free_at h1 j
theorem MdAt.cell0 (h : MdAt B w p n K gl cap bv br V R) : w.cell? ⟨p, 0, none⟩ = some (.slice (some ⟨gl, 0, none⟩) n cap) := cell_at h.hp 0
theorem MdAt.more (h : MdAt B w p n K gl cap bv br V R) {K' : Nat} (hK : K ≤ K') : MdAt B w p n K' gl cap bv br V R :=
  { h with lv := fun i hi => Nat.le_trans (h.lv i hi) hK, lr := fun i hi => Nat.le_trans (h.lr i hi) hK }
theorem MdAt.below (h : MdAt B w p n K gl cap bv br V R) (hb : Below w.heap.size w w') : MdAt B w' p n K gl cap bv br V R := by
  obtain ⟨cur, h1, h2⟩ := h.hg
  exact { h with
    hp := (hb.block p (lt_at h.hp)).trans h.hp
    up := fun j hj => h.up j (Nat.le_trans hb.size hj)
    hg := ⟨cur, (hb.block gl (lt_at h1)).trans h1, h2⟩
    sv := fun i hi => (h.sv i hi).below hb
    sr := fun i hi => (h.sr i hi).below hb }
/-- What is left of sector i is another set, in its old place. -/
theorem MdAt.inR (h : MdAt B w p n K gl cap bv br V R) (hi : i < n) (hg : w.grownBy w' (some (br i))) (hs : SAt w' (br i) S) (hl : S.length ≤ K) : MdAt B w' p n K gl cap bv br V (updf R i S) := by
  obtain ⟨cur, h1, h2⟩ := h.hg
  have n1 := h.nr i hi
  exact { h with
    hp := (hg.block p (lt_at h.hp) (fun e => n1.2.1 (by cases e; rfl))).trans h.hp
    up := fun j hj => h.up j (Nat.le_trans hg.size hj)
    hg := ⟨cur, (hg.block gl (lt_at h1) (fun e => n1.2.2 (by cases e; rfl))).trans h1, h2⟩
    sv := fun j hj => (h.sv j hj).kept hg (fun e => h.dx j i hj hi (Option.some.inj e))
    sr := fun j hj => by
      by_cases e : j = i
      · subst e; rw [updf_same]; exact hs
      · rw [updf_other e]; exact (h.sr j hj).kept hg (fun e' => e (h.dr j i hj hi (Option.some.inj e')))
    lr := fun j hj => by
      by_cases e : j = i
      · subst e; rw [updf_same]; exact hl
      · rw [updf_other e]; exact h.lr j hj }
/-- What may be read of sector i is another set, in its old place. -/
theorem MdAt.inV (h : MdAt B w p n K gl cap bv br V R) (hi : i < n) (hg : w.grownBy w' (some (bv i))) (hs : SAt w' (bv i) S) (hl : S.length ≤ K) : MdAt B w' p n K gl cap bv br (updf V i S) R := by
  obtain ⟨cur, h1, h2⟩ := h.hg
  have n1 := h.nv i hi
  exact { h with
    hp := (hg.block p (lt_at h.hp) (fun e => n1.2.1 (by cases e; rfl))).trans h.hp
    up := fun j hj => h.up j (Nat.le_trans hg.size hj)
    hg := ⟨cur, (hg.block gl (lt_at h1) (fun e => n1.2.2 (by cases e; rfl))).trans h1, h2⟩
    sr := fun j hj => (h.sr j hj).kept hg (fun e => h.dx i j hi hj (Option.some.inj e).symm)
    sv := fun j hj => by
      by_cases e : j = i
      · subst e; rw [updf_same]; exact hs
      · rw [updf_other e]; exact (h.sv j hj).kept hg (fun e' => e (h.dv j i hj hi (Option.some.inj e')))
    lv := fun j hj => by
      by_cases e : j = i
      · subst e; rw [updf_same]; exact hl
      · rw [updf_other e]; exact h.lv j hj }
/-- A block that the model does not know. -/
structure MdAt.New (B : Nat → Prop) (p n gl : Nat) (bv br : Nat → Nat) (b : Nat) : Prop where
  lo : B b
  np : b ≠ p
  ng : b ≠ gl
  nv : ∀ j, j < n → b ≠ bv j
  nr : ∀ j, j < n → b ≠ br j
theorem MdAt.new (h : MdAt B w p n K gl cap bv br V R) (hb : w.heap.size ≤ b) : MdAt.New B p n gl bv br b := by
  obtain ⟨cur, h1, _⟩ := h.hg
  have l1 := lt_at h.hp
  have l2 := lt_at h1
  exact ⟨h.up b hb, by omega, by omega, fun j hj => by have := (h.sv j hj).lt; omega, fun j hj => by have := (h.sr j hj).lt; omega⟩
/-- What may be read of sector i is another set, elsewhere. -/
theorem MdAt.setV (h : MdAt B w p n K gl cap bv br V R) (hi : i < n) (hn : MdAt.New B p n gl bv br b) (hs : SAt w b S) (hl : S.length ≤ K) : MdAt B (w.setCell ⟨gl, i * 2, none⟩ (.map (some b))) p n K gl cap (updf bv i b) br (updf V i S) R := by
  obtain ⟨cur, h1, h2⟩ := h.hg
  exact { h with
    hp := (set_other (a := ⟨gl, i * 2, none⟩) h.hb.2.2).trans h.hp
    up := fun j hj => h.up j (by simpa using hj)
    hg := ⟨_, set_at h1 (i * 2) _, fun j hj => by
      rw [Array.getElem?_setIfInBounds, Array.getElem?_setIfInBounds, if_neg (show ¬ i * 2 = j * 2 + 1 by omega)]
      refine ⟨?_, (h2 j hj).2⟩
      by_cases e : j = i
      · subst e
        rw [if_pos rfl, updf_same, if_pos]
        have := (h2 j hj).1
        exact (Array.getElem?_eq_some_iff.1 this).1
      · rw [if_neg (by omega), updf_other e]; exact (h2 j hj).1⟩
    nv := fun j hj => by
      by_cases e : j = i
      · subst e; rw [updf_same]; exact ⟨hn.lo, hn.np, hn.ng⟩
      · rw [updf_other e]; exact h.nv j hj
    dv := fun j k hj hk => by
      by_cases e : j = i
      · by_cases e' : k = i
        · intro _; rw [e, e']
        · rw [e, updf_same, updf_other e']; exact fun x => absurd x (hn.nv k hk)
      · by_cases e' : k = i
        · rw [e', updf_same, updf_other e]; exact fun x => absurd x.symm (hn.nv j hj)
        · rw [updf_other e, updf_other e']; exact h.dv j k hj hk
    dx := fun j k hj hk => by
      by_cases e : j = i
      · rw [e, updf_same]; exact hn.nr k hk
      · rw [updf_other e]; exact h.dx j k hj hk
    sv := fun j hj => by
      by_cases e : j = i
      · subst e; rw [updf_same, updf_same]; exact hs.setCell hn.ng _
      · rw [updf_other e, updf_other e]; exact (h.sv j hj).setCell (h.nv j hj).2.2 _
    sr := fun j hj => (h.sr j hj).setCell (h.nr j hj).2.2 _
    lv := fun j hj => by
      by_cases e : j = i
      · subst e; rw [updf_same]; exact hl
      · rw [updf_other e]; exact h.lv j hj }
/-- What is left of sector i is another set, elsewhere. -/
theorem MdAt.setR (h : MdAt B w p n K gl cap bv br V R) (hi : i < n) (hn : MdAt.New B p n gl bv br b) (hs : SAt w b S) (hl : S.length ≤ K) : MdAt B (w.setCell ⟨gl, i * 2 + 1, none⟩ (.map (some b))) p n K gl cap bv (updf br i b) V (updf R i S) := by
  obtain ⟨cur, h1, h2⟩ := h.hg
  exact { h with
    hp := (set_other (a := ⟨gl, i * 2 + 1, none⟩) h.hb.2.2).trans h.hp
    up := fun j hj => h.up j (by simpa using hj)
    hg := ⟨_, set_at h1 (i * 2 + 1) _, fun j hj => by
      rw [Array.getElem?_setIfInBounds, Array.getElem?_setIfInBounds, if_neg (show ¬ i * 2 + 1 = j * 2 by omega)]
      refine ⟨(h2 j hj).1, ?_⟩
      by_cases e : j = i
      · subst e
        rw [if_pos rfl, updf_same, if_pos]
        have := (h2 j hj).2
        exact (Array.getElem?_eq_some_iff.1 this).1
      · rw [if_neg (by omega), updf_other e]; exact (h2 j hj).2⟩
    nr := fun j hj => by
      by_cases e : j = i
      · subst e; rw [updf_same]; exact ⟨hn.lo, hn.np, hn.ng⟩
      · rw [updf_other e]; exact h.nr j hj
    dr := fun j k hj hk => by
      by_cases e : j = i
      · by_cases e' : k = i
        · intro _; rw [e, e']
        · rw [e, updf_same, updf_other e']; exact fun x => absurd x (hn.nr k hk)
      · by_cases e' : k = i
        · rw [e', updf_same, updf_other e]; exact fun x => absurd x.symm (hn.nr j hj)
        · rw [updf_other e, updf_other e']; exact h.dr j k hj hk
    dx := fun j k hj hk => by
      by_cases e : k = i
      · rw [e, updf_same]; exact (hn.nv j hj).symm
      · rw [updf_other e]; exact h.dx j k hj hk
    sr := fun j hj => by
      by_cases e : j = i
      · subst e; rw [updf_same, updf_same]; exact hs.setCell hn.ng _
      · rw [updf_other e, updf_other e]; exact (h.sr j hj).setCell (h.nr j hj).2.2 _
    sv := fun j hj => (h.sv j hj).setCell (h.nv j hj).2.2 _
    lr := fun j hj => by
      by_cases e : j = i
      · subst e; rw [updf_same]; exact hl
      · rw [updf_other e]; exact h.lr j hj }
end

/-- From the form with a bound. -/
theorem MdAt.ofOld {B : Nat} {Q : Nat → Prop} {w w' : World} {p n K gl cap : Nat} {bv br : Nat → Nat} {V R : Nat → List Nat} (h : Go.Proofs.Ytboonpfdlbedoaa.MdAt B w p n K gl cap bv br V R) (hb : Below w.heap.size w w') (hQ : ∀ j, B ≤ j → j < w.heap.size → Q j) (up : ∀ j, w'.heap.size ≤ j → Q j) : MdAt Q w' p n K gl cap bv br V R := by
  have h2 := h.below hb
  obtain ⟨cur, h3, _⟩ := h.hg
  exact { hp := h2.hp, hg := h2.hg, hc := h2.hc, hb := ⟨hQ _ h.hb.1 (lt_at h.hp), hQ _ h.hb.2.1 (lt_at h3), h.hb.2.2⟩, up := up,
          nv := fun i hi => ⟨hQ _ (h.nv i hi).1 (h.sv i hi).lt, (h.nv i hi).2⟩, nr := fun i hi => ⟨hQ _ (h.nr i hi).1 (h.sr i hi).lt, (h.nr i hi).2⟩,
          dv := h.dv, dr := h.dr, dx := h.dx, sv := h2.sv, sr := h2.sr, lv := h.lv, lr := h.lr }
/-- The blocks of a model. -/
def MdB (p n gl : Nat) (bv br : Nat → Nat) : Nat → Prop := fun j => j = p ∨ j = gl ∨ ∃ i, i < n ∧ (j = bv i ∨ j = br i)
theorem MdAt.mdB {Q : Nat → Prop} {w : World} {p n K gl cap : Nat} {bv br : Nat → Nat} {V R : Nat → List Nat} (h : MdAt Q w p n K gl cap bv br V R) {j : Nat} (hj : MdB p n gl bv br j) : Q j ∧ j < w.heap.size := by
  obtain ⟨cur, h3, _⟩ := h.hg
  rcases hj with rfl | rfl | ⟨i, hi, rfl | rfl⟩
  · exact ⟨h.hb.1, lt_at h.hp⟩
  · exact ⟨h.hb.2.1, lt_at h3⟩
  · exact ⟨(h.nv i hi).1, (h.sv i hi).lt⟩
  · exact ⟨(h.nr i hi).1, (h.sr i hi).lt⟩
theorem SetAt_same {w w' : World} {b : Nat} {S : List Nat} (h : SAt w b S) (hb : w'.heap[b]? = w.heap[b]?) : SAt w' b S := h.same hb
/-- In another world, with another set. -/
theorem MdAt.conv {Q Q' : Nat → Prop} {w w' : World} {p n K gl cap : Nat} {bv br : Nat → Nat} {V R : Nat → List Nat} (h : MdAt Q w p n K gl cap bv br V R) (hs : ∀ j, MdB p n gl bv br j → w'.heap[j]? = w.heap[j]?) (hQ : ∀ j, MdB p n gl bv br j → Q' j) (up : ∀ j, w'.heap.size ≤ j → Q' j) : MdAt Q' w' p n K gl cap bv br V R := by
  obtain ⟨cur, h3, h4⟩ := h.hg
  exact { hp := (hs p (.inl rfl)).trans h.hp, hg := ⟨cur, (hs gl (.inr (.inl rfl))).trans h3, h4⟩, hc := h.hc, hb := ⟨hQ _ (.inl rfl), hQ _ (.inr (.inl rfl)), h.hb.2.2⟩, up := up,
          nv := fun i hi => ⟨hQ _ (.inr (.inr ⟨i, hi, .inl rfl⟩)), (h.nv i hi).2⟩, nr := fun i hi => ⟨hQ _ (.inr (.inr ⟨i, hi, .inr rfl⟩)), (h.nr i hi).2⟩,
          dv := h.dv, dr := h.dr, dx := h.dx, sv := fun i hi => (h.sv i hi).same (hs _ (.inr (.inr ⟨i, hi, .inl rfl⟩))), sr := fun i hi => (h.sr i hi).same (hs _ (.inr (.inr ⟨i, hi, .inr rfl⟩))), lv := h.lv, lr := h.lr }

set_option maxHeartbeats 1600000 in
theorem at_in {B : Nat → Prop} {w : World} {p n K gl cap : Nat} {bv br : Nat → Nat} {V R : Nat → List Nat} (h : MdAt B w p n K gl cap bv br V R) {i : Nat} (hi : i < n) :
    Calls Try.prog 25 #[.pointer (some ⟨p, 0, none⟩), .int .i64 (i : Nat)] w fun e w' => e = .returned (.pointer (some ⟨gl, i * 2, none⟩)) ∧ w = w' := by
  have c0 := h.cell0
  have i1 : (i : Int) < (n : Int) := by omega
  have i3 : (n : Int) ≤ (cap : Int) := by have := h.hc.1; omega
  have i4 : (cap : Int) ≤ 9223372036854775807 := by have := h.hc.2; unfold maxLen at this; omega
  clear h
  go_enter Try.func25, Try.ntmps25
  go_wp2_with fail
  go_ret
  exact ⟨rfl, rfl⟩

set_option maxHeartbeats 1600000 in
theorem at_out {B : Nat → Prop} {w : World} {p n K gl cap : Nat} {bv br : Nat → Nat} {V R : Nat → List Nat} (h : MdAt B w p n K gl cap bv br V R) {z : Int} (hz : z < 0 ∨ (n : Int) ≤ z) :
    Calls Try.prog 25 #[.pointer (some ⟨p, 0, none⟩), .int .i64 z] w fun e w' => e = .returned (.pointer none) ∧ w = w' := by
  have c0 := h.cell0
  clear h
  rcases hz with hz | hz
  · go_enter Try.func25, Try.ntmps25
    go_wp2_with fail
    go_ret
    exact ⟨rfl, rfl⟩
  · have h0 : ¬ z < 0 := by omega
    go_enter Try.func25, Try.ntmps25
    go_wp2_with fail
    go_ret
    exact ⟨rfl, rfl⟩

end Go.Proofs.Ytboonpfdlbedoaa.Qv
