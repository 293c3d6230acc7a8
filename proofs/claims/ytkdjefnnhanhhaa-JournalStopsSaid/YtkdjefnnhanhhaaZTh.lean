/- Walks over the document's tape: New. -/
import Derived.Test.YtkdjefnnhanhhaaZTg
import Derived.Test.YtkdjefnnhanhhaaUf
set_option linter.unusedVariables false
namespace Go.Proofs.Ytkdjefnnhanhhaa
open Go Go.RowKit Go.Mem
set_option linter.unusedVariables false

theorem info_byteT : (Try.prog.info? 5).map (fun i => (i.zero, i.size, i.bytes)) = some (some (.int .u8 0), 1, 1) := by kernel_rfl
theorem info_sls : (Try.prog.info? 22).map (fun i => (i.zero, i.size, i.bytes)) = some (some (.slice none 0 0), 1, 24) := by kernel_rfl
theorem mk_bytesT (n : Nat) (h : n ≤ 1000000000) (w : World) : (Instr.makeSlice 27 (.int .i64 n) (.int .i64 n)).run Try.prog w = .ok (.slice (some ⟨w.heap.size, 0, none⟩) n n) (w.alloc (.cells (fa .u8 n (fun _ => 0)) 5)) := by
  obtain ⟨i, hi, hz, hs, hb⟩ := info_parts info_byteT
  have := run_make (P := Try.prog) w 27 5 i _ Try.underlying27 hi hz .i64 .i64 n n (by omega) (Int.le_refl _) (by rw [hb]; omega) (by omega)
  rw [hs] at this
  simp only [Int.toNat_natCast, made_fa] at this
  exact this
/-- A new tape. -/
def tp0 (nb size : Nat) : Tp := ⟨nb, size, fun _ => List.replicate size 0, fun _ => [], 0, -1, false, false⟩
structure NwP (B : Nat) (w : World) (T size I J : Nat) (ka sa : Option Addr) (ck cs : Nat) (ks : List Value) : Prop where
  hp : w.heap[T]? = some (.cells #[.int .i64 (size : Nat), .slice ka I ck, .slice sa J cs, .int .i64 0, .int .i64 (-1), .bool false, .bool false] 30 (0, 0))
  ko : w.ownsRow B 27 1 (.slice ka I ck) I ks
  so : w.ownsRow B 22 1 (.slice sa J cs) J (List.replicate J (.slice none 0 0))
  rw : ∀ j, j < I → RwQ (fun j => B ≤ j) w (ks.getD j undef) (List.replicate size 0)
def NwC (B : Nat) (w : World) (T size I J : Nat) : Prop := ∃ (ka sa : Option Addr) (ck cs : Nat) (ks : List Value), NwP B w T size I J ka sa ck cs ks
theorem nwc_tape {B T size nb : Nat} {w : World} (h : NwC B w T size nb nb) (hT : B ≤ T) (hB : B ≤ w.heap.size) : TapeAt (fun j => B ≤ j) w T (tp0 nb size) := by
  obtain ⟨ka, sa, ck, cs, ks, ⟨h1, h2, h3, h4⟩⟩ := h
  have hck : nb ≤ ck ∧ ck ≤ maxLen := by
    rcases h2.2 with ⟨e, h0⟩ | ⟨g, cap, cur, e, _, _, e1, e2, _⟩
    · cases e; exact ⟨Nat.le_refl _, by unfold maxLen; omega⟩
    · cases e; exact ⟨e1, e2⟩
  have hcs : nb ≤ cs ∧ cs ≤ maxLen := by
    rcases h3.2 with ⟨e, h0⟩ | ⟨g, cap, cur, e, _, _, e1, e2, _⟩
    · cases e; exact ⟨Nat.le_refl _, by unfold maxLen; omega⟩
    · cases e; exact ⟨e1, e2⟩
  have hkl : ks.length = nb := by simpa using h2.1
  refine ⟨ka, sa, (ka.map Addr.block).getD 0, (sa.map Addr.block).getD 0, ck, cs, fun i => ks.getD i undef, fun _ => .slice none 0 0, ?_⟩
  exact {
    hp := h1
    ha := by
      rcases h2.2 with ⟨e, h0⟩ | ⟨g, cap, cur, e, _⟩
      · exact .inl h0
      · cases e
        rcases h3.2 with ⟨e, h0⟩ | ⟨g, cap, cur, e, _⟩
        · exact .inl h0
        · cases e; exact .inr ⟨rfl, rfl⟩
    hc := ⟨hck, hcs⟩
    hk := fun h0 => by
      obtain ⟨g, cap, e, _⟩ := World.ownsRow.form h2 h0
      cases e
      rcases h2.2 with ⟨e, h0⟩ | ⟨g, cap, cur, e, _, h5, _, _, h6, h7⟩
      · cases e
      · cases e
        refine ⟨cur, h5, fun i hi => ?_⟩
        have hi' : i < nb := hi
        have h8 := congrArg (fun l : List Value => l[i]?) h7
        simp only [List.getElem?_take, Nat.mul_one, if_pos hi'] at h8
        rw [Array.getElem?_toList] at h8
        rw [h8, List.getElem?_eq_getElem (by omega)]
        simp [List.getD, show i < ks.length by omega]
    hs := fun h0 => by
      obtain ⟨g, cap, e, _⟩ := World.ownsRow.form h3 h0
      cases e
      rcases h3.2 with ⟨e, h0⟩ | ⟨g, cap, cur, e, _, h5, _, _, h6, h7⟩
      · cases e
      · cases e
        refine ⟨cur, h5, fun i hi => ?_⟩
        have hi' : i < nb := hi
        have h8 := congrArg (fun l : List Value => l[i]?) h7
        simp only [List.getElem?_take, Nat.mul_one, if_pos hi'] at h8
        rw [Array.getElem?_toList] at h8
        rw [h8, List.getElem?_replicate, if_pos hi']
    rk := fun i hi => h4 i hi
    rs := fun i hi => ⟨[], ⟨rfl, .inl ⟨rfl, rfl⟩⟩, fun g hg => (by cases hg), fun k hk => (by cases hk)⟩
    dj := fun i j g hi hj e _ => (by cases e)
    q := ⟨hT, fun h0 => by
      obtain ⟨g, cap, e, hg, _⟩ := World.ownsRow.form h2 h0
      obtain ⟨g', cap', e', hg', _⟩ := World.ownsRow.form h3 h0
      cases e; cases e'
      exact ⟨hg, hg'⟩⟩
    ln := fun i hi => Nat.zero_le _
    up := fun j hj => Nat.le_trans hB hj
    fk := fun i hi => ⟨by simp [tp0], fun y hy => by rw [(List.mem_replicate.1 hy).2]; omega⟩
    fs := fun i hi x hx => (by cases hx) }
theorem orow_form {B e n : Nat} {W : World} {v : Value} {ks : List Value} (h : W.ownsRow B e 1 v n ks) : v.ownBlock = none ∨ ∃ g cu, v.ownBlock = some g ∧ W.heap[g]? = some (Obj.cells cu e (0, 0)) ∧ B ≤ g := by
  rcases h.2 with ⟨rfl, _⟩ | ⟨g, cap, cur, rfl, h1, h2, _⟩
  · exact .inl rfl
  · exact .inr ⟨g, _, rfl, h2, h1⟩
theorem orow_ne {B e n : Nat} {W : World} {v : Value} {ks : List Value} (h : W.ownsRow B e 1 v n ks) {j : Nat} {cu : Array Value} {tt : TypeId} {fz : Nat × Nat} (hj : W.heap[j]? = some (Obj.cells cu tt fz)) (hne : tt ≠ e) : some j ≠ v.ownBlock := fun e => by
  rcases orow_form h with e' | ⟨g, cu, e', hg, _⟩
  · rw [e'] at e; cases e
  · rw [e'] at e; cases e; exact ty_ne hj hg hne rfl
theorem NwP.k {B T size I J g5 cap5 : Nat} {w w5 : World} {ka sa : Option Addr} {ck cs : Nat} {ks : List Value} (h : NwP B w T size I J ka sa ck cs ks) (hB : B ≤ w.heap.size) (hsz : size ≤ 1000000)
    (hown : w5.ownsRow B 27 1 (.slice (some ⟨g5, 0, none⟩) (I + 1) cap5) (I + 1) (ks ++ [.slice (some ⟨w.heap.size, 0, none⟩) size size]))
    (hg : ((w.drew.alloc (.cells (fa .u8 size (fun _ => 0)) 5)).alloc (.cells #[.slice (some ⟨w.heap.size, 0, none⟩) size size] 27)).grownBy w5 (Value.slice ka I ck).ownBlock) :
    NwP B (w5.setCell ⟨T, 1, none⟩ (.slice (some ⟨g5, 0, none⟩) (I + 1) cap5)) T size (I + 1) J (some ⟨g5, 0, none⟩) sa cap5 cs (ks ++ [.slice (some ⟨w.heap.size, 0, none⟩) size size]) := by
  have keep : ∀ (j : Nat) (cu : Array Value) (tt : TypeId) (fz : Nat × Nat), w.heap[j]? = some (Obj.cells cu tt fz) → tt ≠ 27 → w5.heap[j]? = some (Obj.cells cu tt fz) := fun j cu tt fz hj hne => by
    have hl := lt_at hj
    exact (hg.block j (by simp; omega) (orow_ne h.ko hj hne)).trans ((alloc_old (by simp; omega)).trans ((alloc_old (w := w.drew) (by simpa using hl)).trans hj))
  have hT5 := keep _ _ _ _ h.hp (by decide)
  have hne : ∀ (j : Nat) (cu : Array Value) (tt : TypeId) (fz : Nat × Nat), w5.heap[j]? = some (Obj.cells cu tt fz) → tt ≠ 30 → (w5.setCell ⟨T, 1, none⟩ (.slice (some ⟨g5, 0, none⟩) (I + 1) cap5)).heap[j]? = some (Obj.cells cu tt fz) := fun j cu tt fz hj hne => (set_other (a := ⟨T, 1, none⟩) (ty_ne hj hT5 hne)).trans hj
  have hkl : ks.length = I := by simpa using h.ko.1
  have hnew : w5.heap[w.heap.size]? = some (.cells (fa .u8 size (fun _ => 0)) 5 (0, 0)) := by
    have h1 : ((w.drew.alloc (.cells (fa .u8 size (fun _ => 0)) 5)).alloc (.cells #[.slice (some ⟨w.heap.size, 0, none⟩) size size] 27)).heap[w.heap.size]? = some (.cells (fa .u8 size (fun _ => 0)) 5 (0, 0)) := (alloc_old (by simp)).trans (alloc_new w.drew _)
    refine (hg.block _ (by simp; omega) (fun e => ?_)).trans h1
    rcases orow_form h.ko with e' | ⟨g, cu, e', hgg, _⟩
    · rw [e'] at e; cases e
    · rw [e'] at e; cases e; have := lt_at hgg; omega
  exact {
    hp := by have := set_at hT5 1 (.slice (some ⟨g5, 0, none⟩) (I + 1) cap5); exact this
    ko := orow_same hown (fun j cu _ hh => hne j _ _ _ hh (by decide))
    so := orow_same (orow_same h.so (fun j cu _ hh => keep j _ _ _ hh (by decide))) (fun j cu _ hh => hne j _ _ _ hh (by decide))
    rw := fun j hj => by
      by_cases hj' : j < I
      · have e1 : (ks ++ [Value.slice (some ⟨w.heap.size, 0, none⟩) size size]).getD j undef = ks.getD j undef := by simp only [List.getD]; rw [List.getElem?_append_left (by omega)]
        rw [e1]
        exact ((h.rw j hj').same (fun k cu fz _ hh => keep k _ _ _ hh (by decide)) (fun _ _ h => h)).same (fun k cu fz _ hh => hne k _ _ _ hh (by decide)) (fun _ _ h => h)
      · obtain rfl : j = I := by omega
        have e1 : (ks ++ [Value.slice (some ⟨w.heap.size, 0, none⟩) size size]).getD j undef = .slice (some ⟨w.heap.size, 0, none⟩) size size := by rw [← hkl]; simp [List.getD]
        rw [e1]
        refine ⟨w.heap.size, size, _, by simp, hB, hne _ _ _ _ hnew (by decide), by simp, by unfold maxLen; omega, fun k hk => ?_⟩
        rw [List.length_replicate] at hk
        rw [fa_get hk]
        simp [List.getD, hk] }
theorem NwP.s {B T size I J g5 cap5 : Nat} {w w5 : World} {ka sa : Option Addr} {ck cs : Nat} {ks : List Value} (h : NwP B w T size I J ka sa ck cs ks)
    (hown : w5.ownsRow B 22 1 (.slice (some ⟨g5, 0, none⟩) (J + 1) cap5) (J + 1) (List.replicate J (.slice none 0 0) ++ [.slice none 0 0]))
    (hg : (w.alloc (.cells #[.slice none 0 0] 22)).grownBy w5 (Value.slice sa J cs).ownBlock) :
    NwP B (w5.setCell ⟨T, 2, none⟩ (.slice (some ⟨g5, 0, none⟩) (J + 1) cap5)) T size I (J + 1) ka (some ⟨g5, 0, none⟩) ck cap5 ks := by
  have keep : ∀ (j : Nat) (cu : Array Value) (tt : TypeId) (fz : Nat × Nat), w.heap[j]? = some (Obj.cells cu tt fz) → tt ≠ 22 → w5.heap[j]? = some (Obj.cells cu tt fz) := fun j cu tt fz hj hne => by
    have hl := lt_at hj
    exact (hg.block j (by simp; omega) (orow_ne h.so hj hne)).trans ((alloc_old hl).trans hj)
  have hT5 := keep _ _ _ _ h.hp (by decide)
  have hne : ∀ (j : Nat) (cu : Array Value) (tt : TypeId) (fz : Nat × Nat), w5.heap[j]? = some (Obj.cells cu tt fz) → tt ≠ 30 → (w5.setCell ⟨T, 2, none⟩ (.slice (some ⟨g5, 0, none⟩) (J + 1) cap5)).heap[j]? = some (Obj.cells cu tt fz) := fun j cu tt fz hj hne => (set_other (a := ⟨T, 2, none⟩) (ty_ne hj hT5 hne)).trans hj
  exact {
    hp := by have := set_at hT5 2 (.slice (some ⟨g5, 0, none⟩) (J + 1) cap5); exact this
    ko := orow_same (orow_same h.ko (fun j cu _ hh => keep j _ _ _ hh (by decide))) (fun j cu _ hh => hne j _ _ _ hh (by decide))
    so := by rw [List.replicate_succ']; exact orow_same hown (fun j cu _ hh => hne j _ _ _ hh (by decide))
    rw := fun j hj => ((h.rw j hj).same (fun k cu fz _ hh => keep k _ _ _ hh (by decide)) (fun _ _ h => h)).same (fun k cu fz _ hh => hne k _ _ _ hh (by decide)) (fun _ _ h => h) }
theorem below_grown {B : Nat} {a w w5 : World} {r : Option Nat} (hb : Below B a w) (hB : B ≤ w.heap.size) (hg : w.grownBy w5 r) (hr : ∀ j, r = some j → B ≤ j) : Below B a w5 :=
  hb.trans ⟨hg.os, hg.tape, hg.output, hg.size, fun j hj => hg.block j (by omega) (fun e => by have := hr j e.symm; omega)⟩
set_option maxRecDepth 100000 in
set_option maxHeartbeats 6400000 in
theorem tnew_any (nb size : Nat) (hn : nb ≤ 1000000) (hz : size ≤ 1000000) (w : World) :
    Calls Try.prog 11 #[.int .i64 (nb : Nat), .int .i64 (size : Nat)] w fun e w' => e = .returned (.pointer (some ⟨w.heap.size, 0, none⟩)) ∧ TapeAt (fun j => w.heap.size ≤ j) w' w.heap.size (tp0 nb size) ∧ Below w.heap.size w w' := by
  have hmk := fun w => mk_bytesT size (by omega) w
  obtain ⟨B, hB⟩ : ∃ B, w.heap.size = B := ⟨_, rfl⟩
  have HBE := hid hB
  obtain ⟨i0, hi0, hz0, hz1, hz2⟩ := info_parts info_sl
  obtain ⟨ti, hi1, hy0, hy1, hy2⟩ := info_parts info_sls
  rw [hB]
  go_enter Try.func11, Try.ntmps11
  go_wp2_with fail
  obtain ⟨W0, hW0⟩ : ∃ W, w.alloc (.cells #[.int .i64 (size : Nat), .slice none 0 0, .slice none 0 0, .int .i64 0, .int .i64 (-1), .bool false, .bool false] 30) = W := ⟨_, rfl⟩
  have H0 := hid (show NwC B W0 B size 0 0 from ⟨none, none, 0, 0, [], ⟨by rw [← hW0, ← hB]; exact alloc_new _ _, ⟨rfl, .inl ⟨rfl, rfl⟩⟩, ⟨rfl, .inl ⟨rfl, rfl⟩⟩, fun j hj => (by omega)⟩⟩)
  have HB0 := hid (show Below B w W0 from by rw [← hW0, ← hB]; exact (Below.refl _ _).alloc (Nat.le_refl _) _)
  rw [hW0]
  clear hW0 hB
  go_loopg [6] nb (fun gk vi wr => ∃ I : Nat, I + gk = nb ∧ vi = .int .i64 (I : Nat) ∧ NwC B wr B size I I ∧ Below B w wr)
  case atStart => exact ⟨0, by omega, rfl, H0.out, HB0.out⟩
  case round =>
    obtain ⟨I, hI, rfl, hnw, hb⟩ := hrel
    have HB := hid hb
    have hsz : B ≤ wr.heap.size := by rw [← HBE.out]; exact hb.size
    by_cases hlt : I < nb
    · have i1 : (I : Int) < (nb : Int) := by omega
      obtain ⟨ka, sa, ck, cs, ks, hP⟩ := hnw
      have c1 := cell_at hP.hp 1
      simp at c1
      have f1 := free_at hP.hp 1
      have hBl := lt_at hP.hp
      have hKn := orow_ne hP.ko hP.hp (by decide)
      have h2 := hP.ko
      have HP := hid hP
      have HKB := hid (show ∀ j, (Value.slice ka I ck).ownBlock = some j → B ≤ j from fun j e => by
        rcases orow_form hP.ko with e' | ⟨g, cu, e', hg, hgB⟩
        · rw [e'] at e; cases e
        · rw [e'] at e; cases e; exact hgB)
      clear hP hb H0 HB0
      go_upto_region 5 with (fail)
      go_region_law (refine step_append_lies _ (by rfl) (.tmp 19) (.tmp 22) 22 (by rfl) B 27 i0 (.slice none 0 0) 1 24 Try.underlying22 hi0 hz0 hz1 hz2 (by rfl) (by decide) (.slice ka I ck) I ks (by rfl) (by exact orow_same h2 (fun j cu _ hh => (alloc_old (by simp; have := lt_at hh; omega)).trans ((alloc_old (lt_at hh)).trans hh))) ⟨wr.heap.size + 1, 0, none⟩ 1 1 [.slice (some ⟨wr.heap.size, 0, none⟩) size size] (by rfl) (by rfl) (by exact World.news_of_block (by rw [show wr.heap.size + 1 = (wr.drew.alloc (.cells (fa .u8 size (fun _ => 0)) 5)).heap.size from by simp]; exact alloc_new _ _)) (by intro u hu; simp at hu; subst hu; rfl) (by omega) (by unfold maxLen; omega) (by omega) (by simp; omega) (wr.heap.size + 2) (by simp) ?_
                     intro g5 cap5 w5 hown5 hgrow5 hat5 hlt5
                     have m1 := (hgrow5.cell_far ⟨B, 1, none⟩ (by simp; omega) hKn).trans ((World.cell?_of_block (a := ⟨B, 1, none⟩) ((alloc_old (by simp; omega)).trans (alloc_old (w := wr.drew) hBl))).trans c1)
                     have mf := (hgrow5.frozen_far ⟨B, 1, none⟩ (by simp; omega) hKn).trans ((World.frozen?_of_block (a := ⟨B, 1, none⟩) ((alloc_old (by simp; omega)).trans (alloc_old (w := wr.drew) hBl))).trans f1))
      all_goals
        have hP6 := HP.out.k hsz hz hown5 hgrow5
        have hb6 : Below B w (w5.setCell ⟨B, 1, none⟩ (.slice (some ⟨g5, 0, none⟩) (I + 1) cap5)) := (below_grown (((HB.out.drew).alloc (by simpa using hsz) _).alloc (by simp; omega) _) (by simp; omega) hgrow5 HKB.out).setCell (p := ⟨B, 1, none⟩) (Nat.le_refl _) _
        obtain ⟨W6, hW6⟩ : ∃ W, w5.setCell ⟨B, 1, none⟩ (.slice (some ⟨g5, 0, none⟩) (I + 1) cap5) = W := ⟨_, rfl⟩
        rw [hW6] at hP6 hb6 ⊢
        have d2 := cell_at hP6.hp 2
        simp at d2
        have e2 := free_at hP6.hp 2
        have hSn := orow_ne hP6.so hP6.hp (by decide)
        have hBl6 := lt_at hP6.hp
        have h6 := hP6.so
        have HP6 := hid hP6
        have HB6 := hid hb6
        have hsz6 : B ≤ W6.heap.size := by omega
        have HSB := hid (show ∀ j, (Value.slice sa I cs).ownBlock = some j → B ≤ j from fun j e => by
          rcases orow_form hP6.so with e' | ⟨g, cu, e', hg, hgB⟩
          · rw [e'] at e; cases e
          · rw [e'] at e; cases e; exact hgB)
        clear hP6 hb6 hW6 hown5 hgrow5 hat5 hlt5 m1 mf c1 f1 h2 hKn HP HKB
        go_wp2_with (at_builtin; refine wpList_append_lies _ rfl _ _ 28 rfl B 22 ti (.slice none 0 0) 1 24 Try.underlying28 hi1 hy0 hy1 hy2 rfl (by decide) (.slice sa I cs) I (List.replicate I (.slice none 0 0)) rfl (orow_same h6 (fun j cu _ hh => (alloc_old (lt_at hh)).trans hh)) ⟨W6.heap.size, 0, none⟩ 1 1 [.slice none 0 0] rfl rfl (World.news_of_block (alloc_new _ _)) (by intro u hu; simp at hu; subst hu; rfl) (by omega) (by unfold maxLen; omega) (by omega) (by simp; omega) (W6.heap.size + 1) (by simp) ?_; intro g7 cap7 w7 hown7 hgrow7 hat7 hlt7
                     have n2 := (hgrow7.cell_far ⟨B, 2, none⟩ (by simp; omega) hSn).trans ((World.cell?_of_block (a := ⟨B, 2, none⟩) (alloc_old hBl6)).trans d2)
                     have nf := (hgrow7.frozen_far ⟨B, 2, none⟩ (by simp; omega) hSn).trans ((World.frozen?_of_block (a := ⟨B, 2, none⟩) (alloc_old hBl6)).trans e2))
        go_roundg (gk - 1)
        case measure => omega
        case rel =>
          refine ⟨I + 1, by omega, by go_num, ⟨_, _, _, _, _, HP6.out.s hown7 hgrow7⟩, ?_⟩
          exact (below_grown (HB6.out.alloc hsz6 _) (by simp; omega) hgrow7 HSB.out).setCell (p := ⟨B, 2, none⟩) (Nat.le_refl _) _
    · obtain rfl : I = nb := by omega
      go_wp2_with fail
      go_ret
      exact ⟨rfl, nwc_tape hnw (Nat.le_refl _) hsz, HB.out⟩
end Go.Proofs.Ytkdjefnnhanhhaa
