/- Walks over the journal's laws: a journal and its model; JournalPlays. -/
import Derived.Test.YtkdjefnnhanhhaaZLke
import Derived.Test.YtkdjefnnhanhhaaZLkf
import Derived.Deep.RegionHeld3
set_option linter.unusedVariables false
namespace Go.Proofs.Ytkdjefnnhanhhaa
open Go Go.RowKit Go.Mem Go.Jn
set_option linter.unusedVariables false

theorem del_none {k : Nat} : ∀ {M : MM}, getM M k = none → delM k M = M
  | [], _ => rfl
  | p :: M, h => by
    rw [getM_cons] at h
    by_cases e : p.1 = k
    · rw [if_pos e] at h; cases h
    · rw [if_neg e] at h
      have := del_none h
      unfold delM at this ⊢
      rw [List.filter_cons_of_pos (by simpa using e), this]
/-- A script's call at power on. -/
theorem on_do {s : JS} {A : MM → Prop} {n : Nat} (hI : Inv s A n) (hn : n ≤ 1000000) (hO : On s.t) (o : HOp) (ho : o.Fit) (keys : Nat) (hk : 0 < keys ∧ keys ≤ 1000000) :
    (∃ B m, Inv (doJ s o keys).2 B m ∧ m ≤ n + 1) ∧ On (doJ s o keys).2.t ∧ (doJ s o keys).2.j.m = doM s o keys ∧ ((doJ s o keys).1 = 0 ∨ (doJ s o keys).1 = 90 ∨ (doJ s o keys).1 = 70) ∧ (doJ s o keys).2.t.nb = s.t.nb ∧ (doJ s o keys).2.t.size = s.t.size := by
  have hx : doX o keys < 18446744073709551616 := by
    have := Nat.mod_lt (absN' o.sector) hk.1
    unfold doX; omega
  unfold doJ doM
  by_cases h3 : doK o < 3
  · rw [if_pos h3, if_pos h3]
    have hons := on_set hO hI.bad (doX o keys) o.value
    rcases set_inv (k := doX o keys) (v := o.value) hI hn hx ho.2.2 with ⟨e1, e2, e3⟩ | ⟨e1, e2, e3, e4, e5, e6⟩
    · rw [e1]
      exact ⟨⟨A, n, hI, by omega⟩, hO, by rw [if_pos rfl], .inr (.inl rfl), rfl, rfl⟩
    · have h0 : (s.set (doX o keys) o.value).1 = 0 := by
        rcases hons.1 with h | h
        · exact h
        · rw [h] at e2; rcases e2 with e2 | e2 <;> cases e2
      obtain ⟨k1, k2⟩ := e3 h0
      exact ⟨⟨_, n + 1, k1, Nat.le_refl _⟩, hons.2, by rw [if_neg (by rw [h0]; decide)]; exact k2, .inl h0, e5, e6⟩
  · rw [if_neg h3, if_neg h3]
    by_cases h5 : doK o < 5
    · rw [if_pos h5, if_pos h5]
      have hons := on_drop hO hI.bad (doX o keys)
      rcases drop_inv (k := doX o keys) hI hn hx with ⟨e1, e2⟩ | ⟨e1, e2, e3, e4, e5, e6⟩
      · rw [e1]
        exact ⟨⟨A, n, hI, by omega⟩, hO, (del_none e2).symm, .inr (.inr rfl), rfl, rfl⟩
      · have h0 : (s.drop (doX o keys)).1 = 0 := by
          rcases hons.1 with h | h
          · exact h
          · rw [h] at e2; rcases e2 with e2 | e2 <;> cases e2
        obtain ⟨k1, k2⟩ := e3 h0
        exact ⟨⟨_, n + 1, k1, Nat.le_refl _⟩, hons.2, k2, .inl h0, e5, e6⟩
    · rw [if_neg h5, if_neg h5]
      obtain ⟨y1, y2, y3, y4, y5⟩ := sync_inv hI hn
      obtain ⟨z1, z2⟩ := on_sync hO hI.bad
      obtain ⟨i1, i2, i3⟩ := y2 z1
      exact ⟨⟨_, n + 1, i1, Nat.le_refl _⟩, z2, i3, .inl z1, y4, y5⟩
/-- A journal, and a model that holds the same. -/
structure Pl (w wr : World) (J T mb : Nat) (s : JS) (nb size n : Nat) : Prop where
  g : Gd (fun j => T ≤ j ∧ j ≠ mb) wr J T s nb size n
  m : MAt Try.prog 38 38 wr mb s.j.m
  b : Below w.heap.size w wr
  h : w.heap.size ≤ T ∧ T ≠ mb ∧ w.heap.size ≤ mb
section
variable {w wr : World} {J T mb nb size n : Nat} {s : JS}
theorem Pl.more (h : Pl w wr J T mb s nb size n) {m : Nat} (hm : n ≤ m) : Pl w wr J T mb s nb size m := ⟨h.g.more hm, h.m, h.b, h.h⟩
theorem Pl.below (h : Pl w wr J T mb s nb size n) {w' : World} (hb : Below wr.heap.size wr w') : Pl w w' J T mb s nb size n :=
  ⟨h.g.below hb, h.m.below hb, h.b.trans (hb.mono h.b.size), h.h⟩
/-- The model is made. -/
theorem Pl.made (hG : Gd (fun j => T ≤ j) wr J T s nb size n) (hb : Below w.heap.size w wr) (hT : w.heap.size ≤ T) (hm : s.j.m = []) : Pl w (wr.alloc (.map #[] 0)) J T wr.heap.size s nb size n := by
  have hTl := (jst_T hG.st).2
  refine ⟨⟨hG.st.shiftS (fun j hj _ => alloc_old hj) (fun j hj h => ⟨h, by omega⟩) (fun j hj => ?_), hG.inv, hG.on, hG.nb, hG.size⟩, ?_, hb.alloc hb.size _, hT, by omega, hb.size⟩
  · rw [World.size_alloc] at hj
    exact ⟨by omega, by omega⟩
  · rw [hm]; exact MAt.nil _ _ _ _
theorem Pl.off (h : Pl w wr J T mb s nb size n) {w' : World} (hF : Off (fun i => (T ≤ i ∧ i ≠ mb) ∨ i = mb) wr w') : Below w.heap.size w w' :=
  h.b.trans (hF.below h.b.size (fun j hj h' => by have := h.h; omega))
theorem Pl.room (h : Pl w wr J T mb s nb size n) :
    Calls Try.prog 13 #[.pointer (some ⟨J, 0, none⟩)] wr fun r w' => r = .returned (.int .i64 (s.t.room : Nat)) ∧ ∃ n, w' = wr.drewN n := h.g.room
theorem Pl.doo (h : Pl w wr J T mb s nb size n) (hn : n ≤ 1000000) (o : HOp) (ho : o.Fit) (keys : Nat) (hk : 0 < keys ∧ keys ≤ 1000000) :
    Calls Try.prog 18 #[.pointer (some ⟨J, 0, none⟩), .map (some mb), .agg #[.int .i64 o.kind, .int .i64 o.sector, .int .u64 (o.value : Nat)], .int .i64 (keys : Nat)] wr fun e w' => ∃ c s', e = .returned (.int .i64 c) ∧ (c = 0 ∨ c = 90 ∨ c = 70) ∧ Pl w w' J T mb s' nb size (n + 1) ∧ Off (fun i => w.heap.size ≤ i) wr w' := by
  obtain ⟨A, k, hI, hkn⟩ := h.g.inv
  obtain ⟨⟨B, m, i1, i2⟩, i3, i4, i5, i6, i7⟩ := on_do hI (by omega) h.g.on o ho keys hk
  refine (ldo_any h.g.st hI (by omega) h.m (fun h' => h'.2 rfl) o ho keys hk).mono ?_
  rintro e w' ⟨rfl, hS, hM, hF⟩
  refine ⟨_, _, rfl, i5, ⟨⟨hS, ⟨B, m, i1, by omega⟩, i3, i6.trans h.g.nb, i7.trans h.g.size⟩, by rw [i4]; exact hM, h.off hF, h.h⟩, hF.imp (fun i _ h' => ?_)⟩
  have := h.h
  show _ ≤ i
  omega
theorem Pl.sync (h : Pl w wr J T mb s nb size n) (hn : n ≤ 1000000) :
    Calls Try.prog 15 #[.pointer (some ⟨J, 0, none⟩)] wr fun e w' => ∃ s', e = .returned (.int .i64 0) ∧ Pl w w' J T mb s' nb size (n + 1) ∧ Clean s'.t ∧ (∃ k, Inv s' (fun m => m = s'.j.m) k ∧ k ≤ n + 1) ∧ s'.j.m = s.j.m := by
  refine (h.g.sync hn).mono ?_
  rintro e w' ⟨s', hF, rfl, hG, hm, hC, hI⟩
  exact ⟨s', rfl, ⟨hG, by rw [hm]; exact h.m.same (hF.block mb h.m.lt (fun h' => h'.2 rfl)), h.off (hF.imp (fun i _ h' => .inl h')), h.h⟩, hC, by rw [hm]; exact hI, hm⟩
theorem Pl.again (h : Pl w wr J T mb s nb size n) (hn : n ≤ 1000000) (hC : Clean s.t) (hI : ∃ k, Inv s (fun m => m = s.j.m) k ∧ k ≤ n) :
    Calls Try.prog 12 #[.iface 25 (.pointer (some ⟨T, 0, none⟩))] wr fun e w' => ∃ K s', e = .returned (.tuple #[.pointer (some ⟨K, 0, none⟩), .int .i64 0]) ∧ Pl w w' K T mb s' nb size (n + 1) ∧ Clean s'.t ∧ ∃ k', Inv s' (fun m => m = s'.j.m) k' ∧ k' ≤ n + 1 := by
  obtain ⟨k, hI, hk⟩ := hI
  refine (h.g.again hC hI hk hn).mono ?_
  rintro e w' ⟨K, s', rfl, _, hG, hF, hm, hC', hI'⟩
  exact ⟨K, s', rfl, ⟨hG, by rw [hm]; exact h.m.same (hF.block mb h.m.lt (fun e => h.h.2.1 e.symm)), h.off (hF.imp (fun i _ h' => .inl ⟨Nat.le_of_eq h'.symm, fun e => h.h.2.1 (h'.symm.trans e)⟩)), h.h⟩, hC', hI'⟩
theorem Pl.holds (h : Pl w wr J T mb s nb size n) :
    Calls Try.prog 19 #[.pointer (some ⟨J, 0, none⟩), .map (some mb)] wr fun e w' => e = .returned (.bool true) ∧ Pl w w' J T mb s nb size n := by
  obtain ⟨hT, b, rv, hJ⟩ := h.g.st
  have hf := h.g.few
  refine (holds_any hJ h.m (by omega) (by omega)).mono ?_
  rintro e w' ⟨rfl, hb⟩
  exact ⟨by simp, h.below hb⟩
end
end Go.Proofs.Ytkdjefnnhanhhaa
