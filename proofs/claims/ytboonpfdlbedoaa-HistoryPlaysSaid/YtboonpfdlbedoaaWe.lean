/- Walks over firkinref19 and history: New. -/
import Derived.Test.YtboonpfdlbedoaaWd
namespace Go.Proofs.Ytboonpfdlbedoaa.Qv
open Go Go.RowKit Go.Mem Go.Hs Go.Proofs Go.Proofs.Ytboonpfdlbedoaa
set_option linter.unusedVariables false

/-- One side of the model that is being made: I rows of one nought. -/
structure Sid (wr : World) (q : Nat) (sv : Value) (I : Nat) (vv : Nat → Value) : Prop where
  own : wr.ownsRow (q + 1) 37 1 sv I ((List.range I).map vv)
  rows : ∀ i, i < I → ∃ g, vv i = .slice (some ⟨g, 0, none⟩) 1 1 ∧ q < g ∧ sv.ownBlock ≠ some g ∧ Ow .u64 31 wr g 1 1 (fun _ => 0)
/-- Its blocks. -/
def SB (sv : Value) (I : Nat) (vv : Nat → Value) (j : Nat) : Prop := sv.ownBlock = some j ∨ ∃ i, i < I ∧ (vv i).ownBlock = some j
section
variable {w w' wr w7 : World} {q I J : Nat} {sv sr : Value} {vv rr : Nat → Value}
theorem Sid.lt (h : Sid wr q sv I vv) {j : Nat} (hj : SB sv I vv j) : q < j ∧ j < wr.heap.size := by
  rcases hj with hj | ⟨i, hi, hj⟩
  · have := World.ownsRow.lt h.own j hj; omega
  · obtain ⟨g, e, h1, _, how⟩ := h.rows i hi
    rw [e] at hj
    cases hj
    exact ⟨h1, how.lt⟩
theorem Sid.kept {row : Option Nat} (h : Sid w q sv I vv) (hg : w.grownBy w' row) (hne : ∀ j, row = some j → ¬ SB sv I vv j) : Sid w' q sv I vv := by
  refine ⟨World.ownsRow.kept h.own hg ?_, fun i hi => ?_⟩
  · cases hs : sv.ownBlock with
    | none => exact .inl rfl
    | some j => exact .inr (fun e => hne j e.symm (.inl hs))
  · obtain ⟨g, e, h1, h2, how⟩ := h.rows i hi
    exact ⟨g, e, h1, h2, how.same (hg.block g how.lt (fun e' => hne g e'.symm (.inr ⟨i, hi, by rw [e]; rfl⟩)))⟩
theorem map_snoc (vv : Nat → Value) (I : Nat) (v : Value) : (List.range (I + 1)).map (updf vv I v) = (List.range I).map vv ++ [v] := by
  rw [List.range_succ, List.map_append]
  congr 1
  · refine List.map_congr_left (fun i hi => updf_other ?_)
    have := List.mem_range.1 hi; omega
  · simp [updf_same]
/-- A row more on one side; the other side stays. -/
theorem Sid.step (ha : Sid wr q sv I vv) (hb : Sid wr q sr J rr) (hd : ∀ j, SB sv I vv j → SB sr J rr j → False) (hql : q < wr.heap.size) {g cap k : Nat} {o2 : Obj} {u : Value}
    (hown : w7.ownsRow (q + 1) 37 1 (.slice (some ⟨g, 0, none⟩) (I + 1) cap) (I + 1) ((List.range I).map vv ++ [.slice (some ⟨wr.heap.size, 0, none⟩) 1 1]))
    (hg : ((wr.alloc (.cells #[.int .u64 0] 31)).alloc o2).grownBy w7 sv.ownBlock) (hat : sv.ownBlock = some g ∨ g = wr.heap.size + 2) :
    w7.heap[q]? = wr.heap[q]? ∧ Sid (w7.setCell ⟨q, k, none⟩ u) q (.slice (some ⟨g, 0, none⟩) (I + 1) cap) (I + 1) (updf vv I (.slice (some ⟨wr.heap.size, 0, none⟩) 1 1)) ∧ Sid (w7.setCell ⟨q, k, none⟩ u) q sr J rr ∧
      ∀ j, SB (.slice (some ⟨g, 0, none⟩) (I + 1) cap) (I + 1) (updf vv I (.slice (some ⟨wr.heap.size, 0, none⟩) 1 1)) j → SB sr J rr j → False := by
  have hsb : ∀ j, sv.ownBlock = some j → q < j ∧ j < wr.heap.size := fun j hj => ha.lt (.inl hj)
  have hgg := World.ownsRow.lt hown g rfl
  have hb2 : Below wr.heap.size wr ((wr.alloc (.cells #[.int .u64 0] 31)).alloc o2) := ((Below.refl _ _).alloc (Nat.le_refl _) _).alloc (by simp) o2
  have hset : w7.grownBy (w7.setCell ⟨q, k, none⟩ u) (some q) := grown_set w7 q k u
  have kp : ∀ j, j < wr.heap.size → sv.ownBlock ≠ some j → w7.heap[j]? = wr.heap[j]? := fun j hj hne => (hg.block j (by simp; omega) (fun e => hne e.symm)).trans (hb2.block j hj)
  have kp2 : ∀ j, j < wr.heap.size → sv.ownBlock ≠ some j → j ≠ q → (w7.setCell ⟨q, k, none⟩ u).heap[j]? = wr.heap[j]? := fun j hj hne hq => (set_other hq).trans (kp j hj hne)
  have hgr : g ≠ wr.heap.size := by
    rcases hat with e | e
    · have := hsb g e; omega
    · omega
  refine ⟨kp q hql (fun e => by have := hsb q e; omega), ⟨?_, fun i hi => ?_⟩, ⟨?_, fun i hi => ?_⟩, fun j hj hr => ?_⟩
  · rw [map_snoc]
    exact World.ownsRow.kept hown hset (.inr (by simp only [Value.ownBlock, ne_eq, Option.some.injEq]; omega))
  · simp only [Value.ownBlock, ne_eq, Option.some.injEq]
    by_cases e : i = I
    · subst e
      rw [updf_same]
      refine ⟨_, rfl, hql, hgr, ?_⟩
      have h1 : Ow .u64 31 (wr.alloc (.cells #[.int .u64 0] 31)) wr.heap.size 1 1 (fun _ => 0) := ⟨_, alloc_new wr _, rfl, Nat.le_refl _, by unfold maxLen; omega, fun j hj => by
        obtain rfl : j = 0 := by omega
        rfl⟩
      have h2 := h1.same (w' := (wr.alloc (.cells #[.int .u64 0] 31)).alloc o2) (alloc_old (by simp))
      have h3 := h2.same (hg.block wr.heap.size (by simp; omega) (fun e => by have := hsb _ e.symm; omega))
      exact h3.same (set_other (by show wr.heap.size ≠ q; omega))
    · rw [updf_other e]
      obtain ⟨gi, e1, h1, h2, how⟩ := ha.rows i (by omega)
      refine ⟨gi, e1, h1, ?_, how.same (kp2 gi how.lt h2 (by omega))⟩
      rcases hat with e' | e'
      · intro e2; rw [e2] at e'; exact h2 e'
      · have := how.lt; omega
  · have h1 := World.ownsRow.kept hb.own (hb2.toGrown none) (by cases sr.ownBlock <;> simp)
    have h2 := World.ownsRow.kept h1 hg (by
      cases hs : sr.ownBlock with
      | none => exact .inl rfl
      | some j => exact .inr (fun e => hd j (.inl e.symm) (.inl hs)))
    exact World.ownsRow.kept h2 hset (by
      cases hs : sr.ownBlock with
      | none => exact .inl rfl
      | some j => exact .inr (fun e => by cases e; have := hb.lt (.inl hs); omega))
  · obtain ⟨gi, e1, h1, h2, how⟩ := hb.rows i hi
    exact ⟨gi, e1, h1, h2, how.same (kp2 gi how.lt (fun e => hd gi (.inl e) (.inr ⟨i, hi, by rw [e1]; rfl⟩)) (by omega))⟩
  · have hjl := hb.lt hr
    rcases hj with hj | ⟨i, hi, hj⟩
    · obtain rfl : g = j := Option.some.inj hj
      rcases hat with e | e
      · exact hd g (.inl e) hr
      · omega
    · by_cases e : i = I
      · subst e; rw [updf_same] at hj; have e9 : wr.heap.size = j := Option.some.inj hj; omega
      · rw [updf_other e] at hj; exact hd j (.inr ⟨i, by omega, hj⟩) hr
/-- The model so far. -/
structure NrL (wr : World) (q I J : Nat) (sv sr : Value) (vv rr : Nat → Value) : Prop where
  hq : wr.heap[q]? = some (.cells #[sv, sr] 41 (0, 0))
  a : Sid wr q sv I vv
  b : Sid wr q sr J rr
  d : ∀ j, SB sv I vv j → SB sr J rr j → False
theorem NrL.stepA (h : NrL wr q I J sv sr vv rr) {g cap : Nat} {o2 : Obj}
    (hown : w7.ownsRow (q + 1) 37 1 (.slice (some ⟨g, 0, none⟩) (I + 1) cap) (I + 1) ((List.range I).map vv ++ [.slice (some ⟨wr.heap.size, 0, none⟩) 1 1]))
    (hg : ((wr.alloc (.cells #[.int .u64 0] 31)).alloc o2).grownBy w7 sv.ownBlock) (hat : sv.ownBlock = some g ∨ g = wr.heap.size + 2) :
    w7.heap[q]? = some (.cells #[sv, sr] 41 (0, 0)) ∧ NrL (w7.setCell ⟨q, 0, none⟩ (.slice (some ⟨g, 0, none⟩) (I + 1) cap)) q (I + 1) J (.slice (some ⟨g, 0, none⟩) (I + 1) cap) sr (updf vv I (.slice (some ⟨wr.heap.size, 0, none⟩) 1 1)) rr := by
  obtain ⟨h1, h2, h3, h4⟩ := h.a.step h.b h.d (lt_at h.hq) hown hg hat (k := 0) (u := .slice (some ⟨g, 0, none⟩) (I + 1) cap)
  exact ⟨h1.trans h.hq, ⟨by have := set_at (h1.trans h.hq) 0 (.slice (some ⟨g, 0, none⟩) (I + 1) cap); simpa using this, h2, h3, h4⟩⟩
theorem NrL.stepB (h : NrL wr q I J sv sr vv rr) {g cap : Nat} {o2 : Obj}
    (hown : w7.ownsRow (q + 1) 37 1 (.slice (some ⟨g, 0, none⟩) (J + 1) cap) (J + 1) ((List.range J).map rr ++ [.slice (some ⟨wr.heap.size, 0, none⟩) 1 1]))
    (hg : ((wr.alloc (.cells #[.int .u64 0] 31)).alloc o2).grownBy w7 sr.ownBlock) (hat : sr.ownBlock = some g ∨ g = wr.heap.size + 2) :
    w7.heap[q]? = some (.cells #[sv, sr] 41 (0, 0)) ∧ NrL (w7.setCell ⟨q, 1, none⟩ (.slice (some ⟨g, 0, none⟩) (J + 1) cap)) q I (J + 1) sv (.slice (some ⟨g, 0, none⟩) (J + 1) cap) vv (updf rr J (.slice (some ⟨wr.heap.size, 0, none⟩) 1 1)) := by
  obtain ⟨h1, h2, h3, h4⟩ := h.b.step h.a (fun j x y => h.d j y x) (lt_at h.hq) hown hg hat (k := 1) (u := .slice (some ⟨g, 0, none⟩) (J + 1) cap)
  exact ⟨h1.trans h.hq, ⟨by have := set_at (h1.trans h.hq) 1 (.slice (some ⟨g, 0, none⟩) (J + 1) cap); simpa using this, h3, h2, fun j x y => h4 j y x⟩⟩
theorem own_cells {B n : Nat} {v : Value} {f : Nat → Value} (h : w.ownsRow B 37 1 v n ((List.range n).map f)) (h1 : 1 ≤ n) : ∃ g cap cur, v = .slice (some ⟨g, 0, none⟩) n cap ∧ B ≤ g ∧ w.heap[g]? = some (.cells cur 37 (0, 0)) ∧ n ≤ cap ∧ cap ≤ maxLen ∧ ∀ i, i < n → cur[i]? = some (f i) := by
  obtain ⟨hl, h2 | ⟨g, cap, cur, rfl, hg, hb, h3, h4, h5, h6⟩⟩ := h
  · omega
  · refine ⟨g, cap, cur, rfl, hg, hb, h3, h4, fun i hi => ?_⟩
    have h7 : ((List.range n).map f)[i]? = some (f i) := by simp [hi]
    rw [← h6, List.getElem?_take, if_pos (by omega), Array.getElem?_toList] at h7
    exact h7
theorem NrL.done {Q : Nat → Prop} (h : NrL wr q I I sv sr vv rr) (h1 : 1 ≤ I) (hQ : ∀ j, q ≤ j → Q j) : ∃ gv cv gr cr, RfAt Q wr q I gv cv gr cr vv rr (fun _ => [0]) (fun _ => [0]) := by
  obtain ⟨gv, cv, c1, rfl, a1, a2, a3, a4, a5⟩ := own_cells h.a.own h1
  obtain ⟨gr, cr, c2, rfl, b1, b2, b3, b4, b5⟩ := own_cells h.b.own h1
  have hql := lt_at h.hq
  refine ⟨gv, cv, gr, cr, ⟨h.hq, ⟨c1, a2, a5⟩, ⟨c2, b2, b5⟩, ⟨⟨a3, a4⟩, b3, b4⟩, ⟨⟨hQ _ (Nat.le_refl _), hQ _ (by omega), hQ _ (by omega)⟩, by omega, by omega, fun e => h.d gv (.inl rfl) (.inl (by rw [e]; rfl))⟩, fun j hj => hQ j (by omega), fun i hi => ?_, fun i hi => ?_⟩⟩
  · obtain ⟨g, e, g1, g2, how⟩ := h.a.rows i hi
    exact .inr ⟨g, 1, e, how.congr (fun j hj => by obtain rfl : j = 0 := by omega
                                                   rfl), hQ _ (by omega), by omega, fun e' => g2 (by rw [e']; rfl), fun e' => h.d g (.inr ⟨i, hi, by rw [e]; rfl⟩) (.inl (by rw [e']; rfl))⟩
  · obtain ⟨g, e, g1, g2, how⟩ := h.b.rows i hi
    exact .inr ⟨g, 1, e, how.congr (fun j hj => by obtain rfl : j = 0 := by omega
                                                   rfl), hQ _ (by omega), by omega, fun e' => h.d g (.inl (by rw [e']; rfl)) (.inr ⟨i, hi, by rw [e]; rfl⟩), fun e' => g2 (by rw [e']; rfl)⟩
end
theorem info_row : (Try.prog.info? 37).map (fun i => (i.zero, i.size, i.bytes)) = some (some (.slice none 0 0), 1, 24) := by kernel_rfl
theorem row_cells (w : World) (o1 : Obj) (T : TypeId) (v : Value) (j : Nat) (u : Value) (h : [v][j]? = some u) : ((w.alloc o1).alloc (.cells #[v] T)).cell? ((⟨w.heap.size + 1, 0, none⟩ : Addr).add j) = some u := by
  have hb : ((w.alloc o1).alloc (.cells #[v] T)).heap[w.heap.size + 1]? = some (.cells #[v] T (0, 0)) := alloc_at (by simp)
  rw [addp, Nat.zero_add, cell_at hb, ← Array.getElem?_toList]
  exact h
set_option maxRecDepth 100000 in
set_option maxHeartbeats 12800000 in
theorem rnew_any (n : Nat) (w : World) (h1 : 1 ≤ n) (h2 : n ≤ 4096) :
    Calls Try.prog 9 #[.int .i64 (n : Nat)] w fun e w' => e = .returned (.tuple #[.pointer (some ⟨w.heap.size, 0, none⟩), .bool true]) ∧ (∃ sv sr vv rr, NrL w' w.heap.size n n sv sr vv rr) ∧ Below w.heap.size w w' := by
  obtain ⟨i0, hi, hz0, hz1, hz2⟩ := info_parts info_row
  have t1 : ¬ (n : Int) < 1 := by omega
  have t2 : ¬ (4096 : Int) < (n : Int) := by omega
  go_enter Try.func9, Try.ntmps9
  go_wp2_with fail
  obtain ⟨w0, hw0⟩ : ∃ V, w.alloc (.cells #[.slice none 0 0, .slice none 0 0] 41) = V := ⟨_, rfl⟩
  obtain ⟨q, hqE⟩ : ∃ b, w.heap.size = b := ⟨_, rfl⟩
  have hq0 : w0.heap[q]? = some (.cells #[.slice none 0 0, .slice none 0 0] 41 (0, 0)) := by rw [← hw0, ← hqE]; exact alloc_new w _
  have hb0 : Below q w w0 := by rw [← hw0, ← hqE]; exact (Below.refl _ _).alloc (Nat.le_refl _) _
  rw [hw0, hqE]
  have HQE := Lib.hid hqE
  have HQ0 := Lib.hid hq0
  have HB0 := Lib.hid hb0
  clear hw0 hq0 hb0 hqE
  go_loopg [5] n (fun gk x wr => ∃ (I : Nat) (sv sr : Value) (vv rr : Nat → Value), I + gk = n ∧ x = .int .i64 (I : Nat) ∧ NrL wr q I I sv sr vv rr ∧ Below q w wr)
  case atStart =>
    exact ⟨0, _, _, fun _ => .slice none 0 0, fun _ => .slice none 0 0, by omega, rfl, ⟨HQ0.out, ⟨World.ownsRow_nil _ _ _ _, fun i hi => by omega⟩, ⟨World.ownsRow_nil _ _ _ _, fun i hi => by omega⟩, fun j hj => by rcases hj with hj | ⟨i, hi, _⟩; cases hj; omega⟩, HB0.out⟩
  case round =>
    obtain ⟨I, sv, sr, vv, rr, hI, rfl, hn, hb⟩ := hrel
    have HN := Lib.hid hn
    have HB := Lib.hid hb
    by_cases hlt : I < n
    · have i1 : (I : Int) < (n : Int) := by omega
      have p0 := cell_at hn.hq 0
      have z0 := free_at hn.hq 0
      have hql : q < wr.heap.size := lt_at hn.hq
      have hI4 : I ≤ 4096 := by omega
      have HI := Lib.hid hI4
      have HQL := Lib.hid hql
      clear hn hb
      go_upto_region 8 with (at_builtin; refine wpList_append_lies _ rfl _ _ 39 rfl (q + 1) 37 i0 (.slice none 0 0) 1 24 Try.underlying39 hi hz0 hz1 hz2 rfl (by decide) sv I ((List.range I).map vv) (by rfl) (World.ownsRow.alloc (World.ownsRow.alloc HN.out.a.own _) _) ⟨wr.heap.size + 1, 0, none⟩ 1 1 [.slice (some ⟨wr.heap.size, 0, none⟩) 1 1] (by rfl) rfl (row_cells _ _ _ _) (fun u hu => by simp at hu; subst hu; rfl) (by decide) (by have := HI.out; unfold maxLen; omega) (by have := HI.out; omega) (by have := HQL.out; simp; omega) (wr.heap.size + 2) (by simp) ?_; intro g cap w7 hown hgrow hat hlt7; have hst := HN.out.stepA hown hgrow hat; have p7 := cell_at hst.1 0; have z7 := free_at hst.1 0; have HST := Lib.hid hst.2; have HB7 := Lib.hid (grow_below (((HB.out.alloc (Nat.le_of_lt hql) _).alloc (by have := HQL.out; simp; omega) _)) (by have := HQL.out; simp; omega) hgrow (fun j hj => Nat.le_of_lt (HN.out.a.lt (.inl hj)).1)); clear hown hgrow hat hst)
      obtain ⟨W8, hW8⟩ : ∃ W, w7.setCell ⟨q, 0, none⟩ (.slice (some ⟨g, 0, none⟩) (I + 1) cap) = W := ⟨_, rfl⟩
      have hb8 : Below q w W8 := hW8 ▸ HB7.out.setCell (p := ⟨q, 0, none⟩) (Nat.le_refl q) _
      rw [hW8] at HST
      try rw [hW8]
      have HB8 := Lib.hid hb8
      clear hW8 hb8 p0 z0 p7 z7 HN HB HB7
      have p0 := cell_at HST.out.hq 1
      have z0 := free_at HST.out.hq 1
      have HQL8 := Lib.hid (show q < W8.heap.size from lt_at HST.out.hq)
      clear HQL
      have HQL := HQL8
      go_wp2_with (at_builtin; refine wpList_append_lies _ rfl _ _ 39 rfl (q + 1) 37 i0 (.slice none 0 0) 1 24 Try.underlying39 hi hz0 hz1 hz2 rfl (by decide) sr I ((List.range I).map rr) (by rfl) (World.ownsRow.alloc (World.ownsRow.alloc HST.out.b.own _) _) ⟨W8.heap.size + 1, 0, none⟩ 1 1 [.slice (some ⟨W8.heap.size, 0, none⟩) 1 1] (by rfl) rfl (row_cells _ _ _ _) (fun u hu => by simp at hu; subst hu; rfl) (by decide) (by have := HI.out; unfold maxLen; omega) (by have := HI.out; omega) (by have := HQL.out; simp; omega) (W8.heap.size + 2) (by simp) ?_; intro g2 cap2 w9 hown hgrow hat hlt7; have hst := HST.out.stepB hown hgrow hat; have p9 := cell_at hst.1 1; have z9 := free_at hst.1 1; have HST2 := Lib.hid hst.2; have HB9 := Lib.hid (grow_below (((HB8.out.alloc (Nat.le_of_lt HQL8.out) _).alloc (by have := HQL.out; simp; omega) _)) (by have := HQL.out; simp; omega) hgrow (fun j hj => Nat.le_of_lt (HST.out.b.lt (.inl hj)).1)); clear hown hgrow hat hst)
      go_roundg (gk - 1)
      case measure => omega
      case rel => exact ⟨I + 1, _, _, _, _, by omega, by go_num, HST2.out, HB9.out.setCell (p := ⟨q, 1, none⟩) (Nat.le_refl q) _⟩
    · obtain rfl : n = I := by omega
      go_wp2_with fail
      go_ret2
      exact ⟨by rw [HQE.out]; rfl, ⟨_, _, _, _, by rw [HQE.out]; exact HN.out⟩, by first | exact HB.out | (rw [HQE.out]; exact HB.out)⟩
set_option maxHeartbeats 3200000 in
theorem rnew_bad (z : Int) (w : World) (h : z < 1 ∨ 4096 < z) :
    Calls Try.prog 9 #[.int .i64 z] w fun e w' => e = .returned (.tuple #[.pointer none, .bool false]) ∧ w = w' := by
  rcases h with h | h
  · go_enter Try.func9, Try.ntmps9
    go_wp2_with fail
    go_ret2
    exact ⟨rfl, rfl⟩
  · have h1 : ¬ z < 1 := by omega
    go_enter Try.func9, Try.ntmps9
    go_wp2_with fail
    go_ret2
    exact ⟨rfl, rfl⟩
set_option maxHeartbeats 3200000 in
theorem hnew_bad (z : Int) (w : World) (h : z < 1 ∨ 4096 < z) :
    Calls Try.prog 8 #[.int .i64 z] w fun e w' => e = .returned (.tuple #[.pointer none, .int .i64 1]) ∧ w = w' := by
  rcases h with h | h
  · go_enter Try.func8, Try.ntmps8
    go_wp2_with fail
    go_ret2
    exact ⟨rfl, rfl⟩
  · have h1 : ¬ z < 1 := by omega
    go_enter Try.func8, Try.ntmps8
    go_wp2_with fail
    go_ret2
    exact ⟨rfl, rfl⟩
end Go.Proofs.Ytboonpfdlbedoaa.Qv
