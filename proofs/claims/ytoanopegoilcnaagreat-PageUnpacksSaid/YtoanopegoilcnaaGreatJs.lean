/- Walks over page: a verdict whatever; rows of rows made anew. -/
import Derived.Test.YtoanopegoilcnaaGreatZKj
import Derived.Test.YtoanopegoilcnaaGreatJr
import Derived.Test.YtoanopegoilcnaaGreatZKk
import Derived.Outline
set_option linter.unusedVariables false
namespace Go.Proofs.YtoanopegoilcnaaGreat
open Go.RowKit Go.Mem Go.Pg

def vdb (fine : Bool) (k : Nat) : Nat := if fine then vd k else 3
def flb (fine : Bool) (k : Nat) : Nat := if fine then k else 0
theorem verdict_any (fine : Bool) (k F ob : Nat) (cs : Array Value) (w : World) (hk : k ≤ 1000) (hF : F ≤ 1000000) (hb : w.heap[ob]? = some (.cells cs 50 (0, 0))) (hc : cs[10]? = some (.int .i64 F)) :
    Calls Tryz.prog 37 #[.int .i64 k, .bool fine, .pointer (some ⟨ob, 0, none⟩)] w fun e w' => e = .returned (.int .i64 (vdb fine k : Nat)) ∧ w.setCell ⟨ob, 10, none⟩ (.int .i64 ((F + flb fine k : Nat) : Int)) = w' := by
  cases fine with
  | false =>
    refine (verdict_bad k _ w).mono ?_
    rintro e w' ⟨rfl, rfl⟩
    exact ⟨rfl, set_same hb hc⟩
  | true =>
    rcases Nat.eq_zero_or_pos k with rfl | h0
    · refine (verdict_clean _ w).mono ?_
      rintro e w' ⟨rfl, rfl⟩
      exact ⟨rfl, set_same hb hc⟩
    · refine (verdict_fixed k F ob w h0 hk hF ((cell_at hb 10).trans hc) (free_at hb 10)).mono ?_
      rintro e w' ⟨rfl, rfl⟩
      exact ⟨by unfold vdb vd; rw [if_pos rfl, if_neg (by omega)]; rfl, rfl⟩

theorem info_bytes : (Tryz.prog.info? 39).map (fun i => (i.zero, i.size, i.bytes)) = some (some (.slice none 0 0), 1, 24) := by kernel_rfl
theorem mk_rows (n : Nat) (h : n ≤ 100000000) (w : World) : (Instr.makeSlice 28 (.int .i64 n) (.int .i64 n)).run Tryz.prog w = .ok (.slice (some ⟨w.heap.size, 0, none⟩) n n) (w.alloc (.cells (fv n (fun _ => .slice none 0 0)) 39)) := by
  obtain ⟨i, hi, hz, hs, hb⟩ := info_parts info_bytes
  have := run_make (P := Tryz.prog) w 28 39 i _ Tryz.underlying28 hi hz .i64 .i64 n n (by omega) (Int.le_refl _) (by rw [hb]; omega) (by omega)
  rw [hs] at this
  rw [Int.toNat_natCast, made_fv _ rfl] at this
  exact this

/-! ### Eleven cells -/
theorem op_cells {w : World} {ob : Nat} {c0 c1 c2 c3 c4 c5 c6 c7 c8 c9 c10 : Value} {t : TypeId} (h : w.heap[ob]? = some (.cells #[c0, c1, c2, c3, c4, c5, c6, c7, c8, c9, c10] t (0, 0))) :
    w.cell? ⟨ob, 0, none⟩ = some c0 ∧ w.cell? ⟨ob, 1, none⟩ = some c1 ∧ w.cell? ⟨ob, 2, none⟩ = some c2 ∧ w.cell? ⟨ob, 3, none⟩ = some c3 ∧ w.cell? ⟨ob, 4, none⟩ = some c4 ∧ w.cell? ⟨ob, 5, none⟩ = some c5 ∧ w.cell? ⟨ob, 6, none⟩ = some c6 ∧ w.cell? ⟨ob, 7, none⟩ = some c7 ∧ w.cell? ⟨ob, 8, none⟩ = some c8 ∧ w.cell? ⟨ob, 9, none⟩ = some c9 ∧ w.cell? ⟨ob, 10, none⟩ = some c10 :=
  ⟨cell_at h 0, cell_at h 1, cell_at h 2, cell_at h 3, cell_at h 4, cell_at h 5, cell_at h 6, cell_at h 7, cell_at h 8, cell_at h 9, cell_at h 10⟩
theorem op_free {w : World} {ob : Nat} {cs : Array Value} {t : TypeId} (h : w.heap[ob]? = some (.cells cs t (0, 0))) :
    w.frozen? ⟨ob, 0, none⟩ = false ∧ w.frozen? ⟨ob, 1, none⟩ = false ∧ w.frozen? ⟨ob, 2, none⟩ = false ∧ w.frozen? ⟨ob, 3, none⟩ = false ∧ w.frozen? ⟨ob, 4, none⟩ = false ∧ w.frozen? ⟨ob, 5, none⟩ = false ∧ w.frozen? ⟨ob, 6, none⟩ = false ∧ w.frozen? ⟨ob, 7, none⟩ = false ∧ w.frozen? ⟨ob, 8, none⟩ = false ∧ w.frozen? ⟨ob, 9, none⟩ = false ∧ w.frozen? ⟨ob, 10, none⟩ = false :=
  ⟨free_at h 0, free_at h 1, free_at h 2, free_at h 3, free_at h 4, free_at h 5, free_at h 6, free_at h 7, free_at h 8, free_at h 9, free_at h 10⟩
theorem op_same {w : World} {ob : Nat} {c0 c1 c2 c3 c4 c5 c6 c7 c8 c9 c10 : Value} {t : TypeId} (h : w.heap[ob]? = some (.cells #[c0, c1, c2, c3, c4, c5, c6, c7, c8, c9, c10] t (0, 0))) :
    ((((((((((w.setCell ⟨ob, 0, none⟩ c0).setCell ⟨ob, 1, none⟩ c1).setCell ⟨ob, 2, none⟩ c2).setCell ⟨ob, 3, none⟩ c3).setCell ⟨ob, 4, none⟩ c4).setCell ⟨ob, 5, none⟩ c5).setCell ⟨ob, 6, none⟩ c6).setCell ⟨ob, 7, none⟩ c7).setCell ⟨ob, 8, none⟩ c8).setCell ⟨ob, 9, none⟩ c9).setCell ⟨ob, 10, none⟩ c10 = w := by
  rw [set_same (j := 0) (v := c0) h rfl, set_same (j := 1) (v := c1) h rfl, set_same (j := 2) (v := c2) h rfl, set_same (j := 3) (v := c3) h rfl, set_same (j := 4) (v := c4) h rfl, set_same (j := 5) (v := c5) h rfl, set_same (j := 6) (v := c6) h rfl, set_same (j := 7) (v := c7) h rfl, set_same (j := 8) (v := c8) h rfl, set_same (j := 9) (v := c9) h rfl, set_same (j := 10) (v := c10) h rfl]
end Go.Proofs.YtoanopegoilcnaaGreat
/- What stands in memory while Unpack goes on. -/
namespace Go.Proofs.YtoanopegoilcnaaGreat
open Go.RowKit Go.Mem Go.Pg

/-- The five blocks. -/
structure Ub (B bb ob ab wb sb : Nat) : Prop where
  hbb : bb = B
  hob : ob = B + 1
  hab : ab = B + 2
  hws : (wb = B + 3 ∧ sb = B + 4) ∨ (wb = B + 4 ∧ sb = B + 3)
structure UsW (w wr : World) (bb ob ab wb sb g o L cap N A : Nat) (cs : Array Value) (fw : Nat → Nat) (q : Nat → Value) : Prop where
  bel : Below w.heap.size w wr
  siz : w.heap.size + 5 ≤ wr.heap.size
  hb : wr.heap[bb]? = some (.cells #[.slice (some ⟨g, o, none⟩) L cap] 39 (0, 0))
  ha : wr.heap[ab]? = some (.cells #[.int .i64 A] 3 (0, 0))
  ho : wr.heap[ob]? = some (.cells cs 50 (0, 0))
  hw : wr.heap[wb]? = some (.cells (fa .i64 N fw) 3 (0, 0))
  hs : wr.heap[sb]? = some (.cells (fv N q) 39 (0, 0))
section
variable {w wr V : World} {bb ob ab wb sb g o L cap N A : Nat} {cs : Array Value} {fw : Nat → Nat} {q : Nat → Value}
theorem UsW.drewN (h : UsW w wr bb ob ab wb sb g o L cap N A cs fw q) (n : Nat) : UsW w (wr.drewN n) bb ob ab wb sb g o L cap N A cs fw q := ⟨h.bel.drewN n, h.siz, h.hb, h.ha, h.ho, h.hw, h.hs⟩
theorem UsW.below (h : UsW w wr bb ob ab wb sb g o L cap N A cs fw q) (hV : Below wr.heap.size wr V) : UsW w V bb ob ab wb sb g o L cap N A cs fw q :=
  ⟨h.bel.comp hV, Nat.le_trans h.siz hV.size, (hV.block _ (lt_at h.hb)).trans h.hb, (hV.block _ (lt_at h.ha)).trans h.ha, (hV.block _ (lt_at h.ho)).trans h.ho, (hV.block _ (lt_at h.hw)).trans h.hw, (hV.block _ (lt_at h.hs)).trans h.hs⟩
theorem UsW.next (u : Ub w.heap.size bb ob ab wb sb) (h : UsW w wr bb ob ab wb sb g o L cap N A cs fw q) {A' : Nat} (hV : Below wr.heap.size (wr.setCell ⟨ab, 0, none⟩ (.int .i64 (A' : Nat))) V) :
    UsW w V bb ob ab wb sb g o L cap N A' cs fw q ∧ Keep (w.heap.size + 5) wr V := by
  obtain ⟨u1, u2, u3, u4⟩ := u
  have hg := grown_of_set hV
  have hne : ∀ k, k < wr.heap.size → k ≠ ab → V.heap[k]? = wr.heap[k]? := fun k hk he => hg.block k hk (fun e => he (by simpa using e))
  have s := h.siz
  refine ⟨⟨below_grown h.bel hg (by omega) h.bel.size, Nat.le_trans h.siz hg.size, (hne _ (lt_at h.hb) (by omega)).trans h.hb, at_of_set hV h.ha, (hne _ (lt_at h.ho) (by omega)).trans h.ho, (hne _ (lt_at h.hw) (by omega)).trans h.hw, (hne _ (lt_at h.hs) (by omega)).trans h.hs⟩, Keep.of_grown hg (by omega)⟩
theorem UsW.setO (u : Ub w.heap.size bb ob ab wb sb) (h : UsW w wr bb ob ab wb sb g o L cap N A cs fw q) (j : Nat) (v : Value) :
    UsW w (wr.setCell ⟨ob, j, none⟩ v) bb ob ab wb sb g o L cap N A (cs.setIfInBounds j v) fw q ∧ Keep (w.heap.size + 5) wr (wr.setCell ⟨ob, j, none⟩ v) := by
  obtain ⟨u1, u2, u3, u4⟩ := u
  have hne : ∀ k, k ≠ ob → (wr.setCell ⟨ob, j, none⟩ v).heap[k]? = wr.heap[k]? := fun k he => set_other he
  have s := h.siz
  exact ⟨⟨bl_set h.bel (by show w.heap.size ≤ ob; omega) _, by simpa using h.siz, (hne _ (by omega)).trans h.hb, (hne _ (by omega)).trans h.ha, set_at h.ho j v, (hne _ (by omega)).trans h.hw, (hne _ (by omega)).trans h.hs⟩, ⟨by simp, fun k hk hs => hne k (by omega)⟩⟩
theorem UsW.setA (u : Ub w.heap.size bb ob ab wb sb) (h : UsW w wr bb ob ab wb sb g o L cap N A cs fw q) (A' : Nat) :
    UsW w (wr.setCell ⟨ab, 0, none⟩ (.int .i64 (A' : Nat))) bb ob ab wb sb g o L cap N A' cs fw q ∧ Keep (w.heap.size + 5) wr (wr.setCell ⟨ab, 0, none⟩ (.int .i64 (A' : Nat))) :=
  UsW.next u h ⟨rfl, rfl, rfl, by simp, fun _ _ => rfl⟩
theorem UsW.setW (u : Ub w.heap.size bb ob ab wb sb) (h : UsW w wr bb ob ab wb sb g o L cap N A cs fw q) (j x : Nat) :
    UsW w (wr.setCell ⟨wb, j, none⟩ (.int .i64 (x : Nat))) bb ob ab wb sb g o L cap N A cs (upd fw j x) q ∧ Keep (w.heap.size + 5) wr (wr.setCell ⟨wb, j, none⟩ (.int .i64 (x : Nat))) := by
  obtain ⟨u1, u2, u3, u4⟩ := u
  have hne : ∀ k, k ≠ wb → (wr.setCell ⟨wb, j, none⟩ (.int .i64 (x : Nat))).heap[k]? = wr.heap[k]? := fun k he => set_other he
  have s := h.siz
  exact ⟨⟨bl_set h.bel (by show w.heap.size ≤ wb; omega) _, by simpa using h.siz, (hne _ (by omega)).trans h.hb, (hne _ (by omega)).trans h.ha, (hne _ (by omega)).trans h.ho, set_fa h.hw j x, (hne _ (by omega)).trans h.hs⟩, ⟨by simp, fun k hk hs => hne k (by omega)⟩⟩
theorem UsW.setS (u : Ub w.heap.size bb ob ab wb sb) (h : UsW w wr bb ob ab wb sb g o L cap N A cs fw q) (j : Nat) (v : Value) :
    UsW w (wr.setCell ⟨sb, j, none⟩ v) bb ob ab wb sb g o L cap N A cs fw (updv q j v) ∧ Keep (w.heap.size + 5) wr (wr.setCell ⟨sb, j, none⟩ v) := by
  obtain ⟨u1, u2, u3, u4⟩ := u
  have hne : ∀ k, k ≠ sb → (wr.setCell ⟨sb, j, none⟩ v).heap[k]? = wr.heap[k]? := fun k he => set_other he
  have s := h.siz
  refine ⟨⟨bl_set h.bel (by show w.heap.size ≤ sb; omega) _, by simpa using h.siz, (hne _ (by omega)).trans h.hb, (hne _ (by omega)).trans h.ha, (hne _ (by omega)).trans h.ho, (hne _ (by omega)).trans h.hw, ?_⟩, ⟨by simp, fun k hk hs => hne k (by omega)⟩⟩
  rw [set_at h.hs, fv_set]
end

/-- The five blocks at the start. -/
theorem us_start {w W2 : World} {bb ob ab g o L cap N : Nat} (hd : w.heap.size = bb ∧ w.heap.size + 1 = ob ∧ w.heap.size + 2 = ab ∧ w.heap.size + 3 = W2.heap.size) (i2 : Below w.heap.size w W2)
    (i3 : W2.heap[bb]? = some (.cells #[.slice (some ⟨g, o, none⟩) L cap] 39 (0, 0)))
    (i4 : W2.heap[ob]? = some (.cells #[.bool false, .int .i64 0, .int .i64 0, .int .u32 0, .int .i64 0, .int .i64 0, .int .i64 0, .slice none 0 0, .slice none 0 0, .slice none 0 0, .int .i64 0] 50 (0, 0)))
    (i5 : W2.heap[ab]? = some (.cells #[.int .i64 0] 3 (0, 0))) (wb sb : Nat) (X Y : Obj)
    (hws : (wb = W2.heap.size ∧ sb = W2.heap.size + 1 ∧ X = .cells (fa .i64 N (fun _ => 0)) 3 ∧ Y = .cells (fv N (fun _ => .slice none 0 0)) 39) ∨ (wb = W2.heap.size + 1 ∧ sb = W2.heap.size ∧ Y = .cells (fa .i64 N (fun _ => 0)) 3 ∧ X = .cells (fv N (fun _ => .slice none 0 0)) 39)) :
    Ub w.heap.size bb ob ab wb sb ∧ UsW w ((((W2.setCell ⟨ob, 8, none⟩ (.slice (some ⟨wb, 0, none⟩) N N)).setCell ⟨ob, 9, none⟩ (.slice (some ⟨sb, 0, none⟩) N N)).alloc X).alloc Y).drew bb ob ab wb sb g o L cap N 0
      #[.bool false, .int .i64 0, .int .i64 0, .int .u32 0, .int .i64 0, .int .i64 0, .int .i64 0, .slice none 0 0, .slice (some ⟨wb, 0, none⟩) N N, .slice (some ⟨sb, 0, none⟩) N N, .int .i64 0] (fun _ => 0) (fun _ => .slice none 0 0) := by
  obtain ⟨d1, d2, d3, d4⟩ := hd
  obtain ⟨U, hU⟩ : ∃ U, (W2.setCell ⟨ob, 8, none⟩ (.slice (some ⟨wb, 0, none⟩) N N)).setCell ⟨ob, 9, none⟩ (.slice (some ⟨sb, 0, none⟩) N N) = U := ⟨_, rfl⟩
  have hs : U.heap.size = W2.heap.size := by rw [← hU]; simp
  have hbU : Below w.heap.size w U := by rw [← hU]; exact bl_set (bl_set i2 (by show w.heap.size ≤ ob; omega) _) (by show w.heap.size ≤ ob; omega) _
  have hne : ∀ k, k ≠ ob → U.heap[k]? = W2.heap[k]? := fun k hk => by rw [← hU]; exact (set_other hk).trans (set_other hk)
  have hoU : U.heap[ob]? = some (.cells #[.bool false, .int .i64 0, .int .i64 0, .int .u32 0, .int .i64 0, .int .i64 0, .int .i64 0, .slice none 0 0, .slice (some ⟨wb, 0, none⟩) N N, .slice (some ⟨sb, 0, none⟩) N N, .int .i64 0] 50 (0, 0)) := by
    rw [← hU]; exact set_at (set_at i4 8 _) 9 _
  rw [hU]
  have old : ∀ k, k < W2.heap.size → ((U.alloc X).alloc Y).drew.heap[k]? = U.heap[k]? := fun k hk => (alloc_old (o := Y) (w := U.alloc X) (by simp; omega)).trans (alloc_old (by omega))
  have x1 : ((U.alloc X).alloc Y).drew.heap[W2.heap.size]? = some X := (alloc_old (o := Y) (w := U.alloc X) (by simp; omega)).trans (alloc_at (by omega))
  have x2 : ((U.alloc X).alloc Y).drew.heap[W2.heap.size + 1]? = some Y := alloc_at (w := U.alloc X) (by simp; omega)
  refine ⟨⟨d1.symm, d2.symm, d3.symm, ?_⟩, ⟨(bl_alloc (bl_alloc hbU _) _).drew, ?_, ?_, ?_, ?_, ?_, ?_⟩⟩
  · rcases hws with ⟨h1, h2, _⟩ | ⟨h1, h2, _⟩
    · left; omega
    · right; omega
  · have hh : ((U.alloc X).alloc Y).drew.heap.size = U.heap.size + 2 := by simp
    omega
  · exact (old _ (by omega)).trans ((hne _ (by omega)).trans i3)
  · exact (old _ (by omega)).trans ((hne _ (by omega)).trans i5)
  · exact (old _ (by omega)).trans hoU
  · rcases hws with ⟨h1, h2, h3, h4⟩ | ⟨h1, h2, h3, h4⟩
    · subst h1 h3; exact x1
    · subst h1 h3; exact x2
  · rcases hws with ⟨h1, h2, h3, h4⟩ | ⟨h1, h2, h3, h4⟩
    · subst h2 h4; exact x2
    · subst h2 h4; exact x1

/-- What the next codeword is told to be, as slots. -/
def NextU (M m t n : Nat) (l : List Nat) (w' : World) (x s k fn : Value) : Prop :=
  ∃ kN : Nat, k = .int .i64 kN ∧ kN ≤ t ∧
    ((∃ g c xs sN, fn = .bool true ∧ M ≤ g ∧ g < w'.heap.size ∧ n ≤ c ∧ c ≤ maxLen ∧ x = .slice (some ⟨g, 0, none⟩) n c ∧ s = .int .u32 (sN : Nat) ∧ Rd .u8 w' (.slice (some ⟨g, 0, none⟩) n c) xs ∧ xs.length = n ∧ (∀ y ∈ xs, y < 256) ∧ sN < 4294967296 ∧ opnB m t n l = some (xs, sN, kN)) ∨
    (fn = .bool false ∧ opnB m t n l = none))
theorem next_u (M c n t m g o L cap bb ab A : Nat) (l : List Nat) (w : World) (hp : Par (n + 4) t m) (h : CodeAt w c (n + 4) t m) (hbb : w.heap[bb]? = some (.cells #[.slice (some ⟨g, o, none⟩) L cap] 39 (0, 0))) (hab : w.heap[ab]? = some (.cells #[.int .i64 A] 3 (0, 0)))
    (hv : Rd .u8 w (.slice (some ⟨g, o, none⟩) L cap) l) (hl : l.length = L) (hlx : ∀ y ∈ l, y < 256) (hA : A + (n + 4 + pcn m t) ≤ L) (hL : L ≤ 100000) (hne : ab ≠ g) (hnc : ∀ V, w.grownBy V (some ab) → CodeAt V c (n + 4) t m) (hn : 1 ≤ n) (hM : M ≤ w.heap.size) :
    Calls Tryz.prog 33 #[.pointer (some ⟨c, 0, none⟩), .int .i64 n, .pointer (some ⟨bb, 0, none⟩), .pointer (some ⟨ab, 0, none⟩)] w fun e w' =>
      ∃ x s k fn, e = .returned (.tuple #[x, s, k, fn]) ∧ NextU M m t n (cut l A (n + 4 + pcn m t)) w' x s k fn ∧ Below w.heap.size (w.setCell ⟨ab, 0, none⟩ (.int .i64 ((A + (n + 4 + pcn m t) : Nat) : Int))) w' := by
  refine (next_any c n t m g o L cap bb ab A l w hp h (cell_at hbb 0) hab hv hl hlx hA hL hne hnc hn).mono ?_
  rintro e w' ⟨hr, hb⟩
  rcases hr with ⟨g', c', x, s, k, h1, h2, h3, rfl, h4, h5, h6, h7, h8, h9⟩ | ⟨rfl, h9⟩
  · have hlt : g' < w'.heap.size := by
      obtain ⟨a, cp, he, _, _, hx⟩ := h4
      obtain ⟨gg, oo, ha, hc⟩ := hx 0 (by omega)
      cases he; cases ha
      exact World.block_lt_of_cell? _ _ hc
    exact ⟨_, _, _, _, rfl, ⟨k, rfl, h7, .inl ⟨g', c', x, s, rfl, Nat.le_trans hM h1, hlt, h2, h3, rfl, rfl, h4, h5, h6, h8, h9⟩⟩, hb⟩
  · exact ⟨_, .int .u32 0, .int .i64 0, _, rfl, ⟨0, rfl, Nat.zero_le _, .inr ⟨rfl, h9⟩⟩, hb⟩

/-- The head, ahead of its slots' trial. -/
def HdU (S N T mw mh : Nat) (l : List Nat) (w' : World) (M : Nat) (x fn : Value) (kN : Nat) : Prop :=
  (∃ g c xs, fn = .bool true ∧ M ≤ g ∧ g < w'.heap.size ∧ x = .slice (some ⟨g, 0, none⟩) (9 + 11 * N) c ∧ Rd .u8 w' (.slice (some ⟨g, 0, none⟩) (9 + 11 * N) c) xs ∧ xs.length = 9 + 11 * N ∧ (∀ y ∈ xs, y < 256) ∧ hdO S N T mw mh l = if (headP N xs).May N then some (headP N xs, kN) else none) ∨
  (fn = .bool false ∧ hdO S N T mw mh l = none)
theorem hdo_none {S N T mw mh : Nat} {l : List Nat} (h : opnB mh T (9 + 11 * N) (cut l (N * wdB S T mw) (9 + 11 * N + 4 + pcn mh T)) = none) : hdO S N T mw mh l = none := by
  unfold hdO; rw [h]
theorem hdo_no {S N T mw mh : Nat} {l xs : List Nat} {s k : Nat} (h : opnB mh T (9 + 11 * N) (cut l (N * wdB S T mw) (9 + 11 * N + 4 + pcn mh T)) = some (xs, s, k)) (hn : ¬ (sum xs = s ∧ ones (l.drop (lastB S N T mw mh)) ≤ T)) : hdO S N T mw mh l = none := by
  unfold hdO; rw [h]; dsimp only; rw [if_neg (fun e => hn ⟨e.1, e.2.1⟩)]
theorem hdo_yes {S N T mw mh : Nat} {l xs : List Nat} {s k : Nat} (h : opnB mh T (9 + 11 * N) (cut l (N * wdB S T mw) (9 + 11 * N + 4 + pcn mh T)) = some (xs, s, k)) (h1 : sum xs = s) (h2 : ones (l.drop (lastB S N T mw mh)) ≤ T) :
    hdO S N T mw mh l = if (headP N xs).May N then some (headP N xs, k) else none := by
  unfold hdO; rw [h]; dsimp only
  by_cases hm : (headP N xs).May N
  · rw [if_pos ⟨h1, h2, hm⟩, if_pos hm]
  · rw [if_neg (fun e => hm e.2.2), if_neg hm]

/-- The eleven cells of what is told. -/
def opA (wh : Nat) (h : Head) (sv : Value) (wb sb N F : Nat) : Array Value := #[.bool false, .int .i64 (wh : Nat), .int .i64 h.kind, .int .u32 (h.id : Nat), .int .i64 h.row, .int .i64 h.place, .int .i64 h.width, sv, .slice (some ⟨wb, 0, none⟩) N N, .slice (some ⟨sb, 0, none⟩) N N, .int .i64 (F : Nat)]
def Head.zero : Head := ⟨0, 0, 0, 0, 0, []⟩
section
variable {w wr : World} {bb ob ab wb sb g o L cap N A wh F : Nat} {h : Head} {sv : Value} {fw : Nat → Nat} {q : Nat → Value}
theorem UsW.setHead (u : Ub w.heap.size bb ob ab wb sb) (hs : UsW w wr bb ob ab wb sb g o L cap N A (opA wh h sv wb sb N F) fw q) (h' : Head) (sv' : Value) :
    UsW w ((((((wr.setCell ⟨ob, 2, none⟩ (.int .i64 h'.kind)).setCell ⟨ob, 3, none⟩ (.int .u32 (h'.id : Nat))).setCell ⟨ob, 4, none⟩ (.int .i64 h'.row)).setCell ⟨ob, 5, none⟩ (.int .i64 h'.place)).setCell ⟨ob, 6, none⟩ (.int .i64 h'.width)).setCell ⟨ob, 7, none⟩ sv') bb ob ab wb sb g o L cap N A (opA wh h' sv' wb sb N F) fw q ∧
    Keep (w.heap.size + 5) wr ((((((wr.setCell ⟨ob, 2, none⟩ (.int .i64 h'.kind)).setCell ⟨ob, 3, none⟩ (.int .u32 (h'.id : Nat))).setCell ⟨ob, 4, none⟩ (.int .i64 h'.row)).setCell ⟨ob, 5, none⟩ (.int .i64 h'.place)).setCell ⟨ob, 6, none⟩ (.int .i64 h'.width)).setCell ⟨ob, 7, none⟩ sv') := by
  have s2 := hs.setO u 2 (.int .i64 h'.kind)
  have s3 := s2.1.setO u 3 (.int .u32 (h'.id : Nat))
  have s4 := s3.1.setO u 4 (.int .i64 h'.row)
  have s5 := s4.1.setO u 5 (.int .i64 h'.place)
  have s6 := s5.1.setO u 6 (.int .i64 h'.width)
  have s7 := s6.1.setO u 7 sv'
  exact ⟨s7.1, ((((s2.2.trans s3.2).trans s4.2).trans s5.2).trans s6.2).trans s7.2⟩
theorem UsW.setWhole (u : Ub w.heap.size bb ob ab wb sb) (hs : UsW w wr bb ob ab wb sb g o L cap N A (opA wh h sv wb sb N F) fw q) (wh' : Nat) :
    UsW w (wr.setCell ⟨ob, 1, none⟩ (.int .i64 (wh' : Nat))) bb ob ab wb sb g o L cap N A (opA wh' h sv wb sb N F) fw q ∧ Keep (w.heap.size + 5) wr (wr.setCell ⟨ob, 1, none⟩ (.int .i64 (wh' : Nat))) :=
  hs.setO u 1 _
theorem UsW.setFlips (u : Ub w.heap.size bb ob ab wb sb) (hs : UsW w wr bb ob ab wb sb g o L cap N A (opA wh h sv wb sb N F) fw q) (F' : Nat) :
    UsW w (wr.setCell ⟨ob, 10, none⟩ (.int .i64 (F' : Nat))) bb ob ab wb sb g o L cap N A (opA wh h sv wb sb N F') fw q ∧ Keep (w.heap.size + 5) wr (wr.setCell ⟨ob, 10, none⟩ (.int .i64 (F' : Nat))) :=
  hs.setO u 10 _
theorem opA_cells {w : World} {t : TypeId} (hh : w.heap[ob]? = some (.cells (opA wh h sv wb sb N F) t (0, 0))) :
    w.cell? ⟨ob, 0, none⟩ = some (.bool false) ∧ w.cell? ⟨ob, 1, none⟩ = some (.int .i64 (wh : Nat)) ∧ w.cell? ⟨ob, 2, none⟩ = some (.int .i64 h.kind) ∧ w.cell? ⟨ob, 3, none⟩ = some (.int .u32 (h.id : Nat)) ∧ w.cell? ⟨ob, 4, none⟩ = some (.int .i64 h.row) ∧ w.cell? ⟨ob, 5, none⟩ = some (.int .i64 h.place) ∧ w.cell? ⟨ob, 6, none⟩ = some (.int .i64 h.width) ∧ w.cell? ⟨ob, 7, none⟩ = some sv ∧ w.cell? ⟨ob, 8, none⟩ = some (.slice (some ⟨wb, 0, none⟩) N N) ∧ w.cell? ⟨ob, 9, none⟩ = some (.slice (some ⟨sb, 0, none⟩) N N) ∧ w.cell? ⟨ob, 10, none⟩ = some (.int .i64 (F : Nat)) :=
  op_cells hh
end

theorem upd_ext (F : Nat → Nat) (I : Nat) : upd (fun j => if j < I then F j else 0) I (F I) = fun j => if j < I + 1 then F j else 0 := by
  funext j
  unfold upd
  by_cases hj : j = I
  · rw [if_pos hj, if_pos (by omega), hj]
  · rw [if_neg hj]
    by_cases h2 : j < I
    · rw [if_pos (show j < I + 1 by omega)]; exact if_pos h2
    · rw [if_neg (show ¬ j < I + 1 by omega)]; exact if_neg h2
theorem rb_of_fv {w : World} {b n : Nat} {q : Nat → Value} {t : TypeId} {fz : Nat × Nat} {rows : List (List Nat)} (h : w.heap[b]? = some (.cells (fv n q) t fz)) (hl : rows.length = n) (hn : n ≤ maxLen) (hq : ∀ j, j < n → Rd .u8 w (q j) (rows.getD j [])) : RB w (.slice (some ⟨b, 0, none⟩) n n) rows := by
  refine ⟨some ⟨b, 0, none⟩, n, by rw [hl], by omega, hn, fun j hj => ⟨b, 0, q j, rfl, ?_, hq j (by omega)⟩⟩
  rw [Nat.zero_add, cell_at h, fv_get (by omega)]
theorem rd_of_if {w : World} {b n : Nat} {F : Nat → Nat} {t : TypeId} {fz : Nat × Nat} (h : w.heap[b]? = some (.cells (fa .i64 n (fun j => if j < n then F j else 0)) t fz)) (hn : n ≤ maxLen) : Rd .i64 w (.slice (some ⟨b, 0, none⟩) n n) ((List.range n).map F) := by
  have h2 := Rd.of_fa h n n (Nat.le_refl _) (Nat.le_refl _) hn
  have e : (List.range n).map (fun j => if j < n then F j else 0) = (List.range n).map F := List.map_congr_left (fun j hj => if_pos (List.mem_range.1 hj))
  rwa [e] at h2
theorem opn_bad {S N T mw mh : Nat} {l : List Nat} (he : ¬ 8 * l.length - ones l ≤ T) (h : hdO S N T mw mh l = none) : opn S N T mw mh l = ⟨false, 3, none, List.replicate N 3, List.replicate N none, 0⟩ := by
  unfold opn; rw [if_neg he, h]
theorem opn_good {S N T mw mh k : Nat} {l : List Nat} {h : Head} (he : ¬ 8 * l.length - ones l ≤ T) (hh : hdO S N T mw mh l = some (h, k)) : opn S N T mw mh l = ⟨false, vd k, some h, (List.range N).map (fun i => vdO (scO S T mw l h i)), (List.range N).map (fun i => (scO S T mw l h i).map (·.1)), k + ((List.range N).map fun i => flO (scO S T mw l h i)).sum⟩ := by
  unfold opn; rw [if_neg he, hh]

/-! ### Sectors -/
noncomputable def flS (S T mw : Nat) (l : List Nat) (h : Head) (I : Nat) : Nat := ((List.range I).map fun i => flO (scO S T mw l h i)).sum
theorem flS_succ (S T mw : Nat) (l : List Nat) (h : Head) (I : Nat) : flS S T mw l h (I + 1) = flS S T mw l h I + flO (scO S T mw l h I) := by
  unfold flS; rw [List.range_succ]; simp
theorem sco_none {S T mw i : Nat} {l : List Nat} {h : Head} (ho : opnB mw T S (cut l (i * wdB S T mw) (S + 4 + pcn mw T)) = none) : scO S T mw l h i = none := by
  unfold scO; rw [show wdB S T mw = S + 4 + pcn mw T from rfl] at *; rw [ho]
theorem sco_no {S T mw i s k : Nat} {l xs : List Nat} {h : Head} (ho : opnB mw T S (cut l (i * wdB S T mw) (S + 4 + pcn mw T)) = some (xs, s, k)) (hn : ¬ sumB (h.slots.getD i Slot.zero) xs = s) : scO S T mw l h i = none := by
  unfold scO; rw [show wdB S T mw = S + 4 + pcn mw T from rfl] at *; rw [ho]; exact if_neg hn
theorem sco_yes {S T mw i s k : Nat} {l xs : List Nat} {h : Head} (ho : opnB mw T S (cut l (i * wdB S T mw) (S + 4 + pcn mw T)) = some (xs, s, k)) (hn : sumB (h.slots.getD i Slot.zero) xs = s) : scO S T mw l h i = some (xs, k) := by
  unfold scO; rw [show wdB S T mw = S + 4 + pcn mw T from rfl] at *; rw [ho]; exact if_pos hn
/-- Sectors are read as far as I. -/
def SecU (w wr : World) (bb ob ab wb sb g o L cap S N T mw kN : Nat) (l : List Nat) (h : Head) (sv : Value) (I : Nat) : Prop :=
  ∃ q, UsW w wr bb ob ab wb sb g o L cap N (I * wdB S T mw) (opA (vd kN) h sv wb sb N (kN + flS S T mw l h I)) (fun j => if j < I then vdO (scO S T mw l h j) else 0) q ∧
    SlM (w.heap.size + 5) wr sv h.slots ∧ (∀ j, j < N → RowM (w.heap.size + 5) wr (q j) (if j < I then ((scO S T mw l h j).map (·.1)).getD [] else [])) ∧ kN + flS S T mw l h I ≤ 8 * (I + 1)
/-- A sector that was read, or wasn't. -/
def ScU (S T mw : Nat) (l : List Nat) (h : Head) (I M : Nat) (w' : World) (x : Value) (k : Nat) (b : Bool) : Prop :=
  (b = true ∧ ∃ xs, scO S T mw l h I = some (xs, k) ∧ RowM M w' x xs) ∨ (b = false ∧ scO S T mw l h I = none)
theorem ScU.keep {S T mw : Nat} {l : List Nat} {h : Head} {I M : Nat} {w w' : World} {x : Value} {k : Nat} {b : Bool} (hu : ScU S T mw l h I M w x k b) (hk : Keep M w w') : ScU S T mw l h I M w' x k b := by
  rcases hu with ⟨h1, xs, h2, h3⟩ | h1
  · exact .inl ⟨h1, xs, h2, h3.keep hk⟩
  · exact .inr h1
theorem ScU.vd {S T mw : Nat} {l : List Nat} {h : Head} {I M : Nat} {w : World} {x : Value} {k : Nat} {b : Bool} (hu : ScU S T mw l h I M w x k b) : vdb b k = vdO (scO S T mw l h I) ∧ flb b k = flO (scO S T mw l h I) := by
  rcases hu with ⟨h1, xs, h2, h3⟩ | ⟨h1, h2⟩
  · rw [h1, h2]; exact ⟨rfl, rfl⟩
  · rw [h1, h2]; exact ⟨rfl, rfl⟩
/-- A slot's bytes, behind nothing. -/
theorem slot_nil (s : Slot) (w : World) (hs : s.Ok) (hk : s.key < 4294967296) :
    Calls Tryz.prog 22 #[.slice none 0 0, .agg #[.int .u32 (s.key : Nat), .int .i64 s.st, .int .u64 (s.seq : Nat)]] w fun e w' => ∃ v', e = .returned v' ∧ Rd .u8 w' v' (slotB s) ∧ Below w.heap.size w w' := by
  refine (slot_any w.heap.size (.slice none 0 0) [] s w (Own.nil _ _ _ _) (Nat.le_refl _) (by simp) hs hk).mono ?_
  rintro e w' ⟨v', rfl, h1, h2, _⟩
  exact ⟨v', rfl, by simpa using h1.rd, ⟨h2.os, h2.tape, h2.output, h2.size, fun k hk => h2.block k hk (by simp [Value.ownBlock])⟩⟩

theorem SlM.cells {M : Nat} {w : World} {sg N sc : Nat} {l : List Slot} (h : SlM M w (.slice (some ⟨sg, 0, none⟩) N sc) l) (hl : l.length = N) {j : Nat} (hj : j < N) :
    N ≤ sc ∧ sc ≤ maxLen ∧ w.cell? ⟨sg, j * 3, none⟩ = some (.int .u32 ((l.getD j Slot.zero).key : Nat)) ∧ w.cell? ⟨sg, j * 3 + 1, none⟩ = some (.int .i64 (l.getD j Slot.zero).st) ∧ w.cell? ⟨sg, j * 3 + 2, none⟩ = some (.int .u64 ((l.getD j Slot.zero).seq : Nat)) := by
  obtain ⟨g, cap, h1, h2, he, hr⟩ := h
  obtain ⟨a, c, hv, b1, b2, hc⟩ := hr
  cases hv
  obtain ⟨g', o', ha, x1, x2, x3⟩ := hc j (by omega)
  cases ha
  rw [Nat.zero_add] at x1 x2 x3
  exact ⟨by omega, b2, x1, x2, x3⟩
end Go.Proofs.YtoanopegoilcnaaGreat
/- Walks over page: Unpack of a page that is erased, or of another number of bytes. -/
namespace Go.Proofs.YtoanopegoilcnaaGreat
open Go.RowKit Go.Mem Go.Pg

/-- What is told of a page, in memory. -/
def Opn.hd (o : Opn) : Head := o.head.getD Head.zero
def OpV (w : World) (v : Value) (o : Opn) : Prop :=
  ∃ sv ws ss, v = .agg #[.bool o.erased, .int .i64 (o.whole : Nat), .int .i64 o.hd.kind, .int .u32 (o.hd.id : Nat), .int .i64 o.hd.row, .int .i64 o.hd.place, .int .i64 o.hd.width, sv, ws, ss, .int .i64 (o.flips : Nat)] ∧ SlR w sv o.hd.slots ∧ Rd .i64 w ws o.words ∧ RB w ss (o.sectors.map (·.getD []))
theorem OpV.below {w w' : World} {v : Value} {o : Opn} (h : OpV w v o) (hb : Below w.heap.size w w') : OpV w' v o := by
  obtain ⟨sv, ws, ss, e, h1, h2, h3⟩ := h
  exact ⟨sv, ws, ss, e, h1.below hb, h2.below hb, h3.below hb⟩
theorem opv_mk {w : World} {er : Bool} {wh fl : Nat} {h : Head} {words : List Nat} {sectors : List (Option (List Nat))} {sv ws ss : Value} (h1 : SlR w sv h.slots) (h2 : Rd .i64 w ws words) (h3 : RB w ss (sectors.map (·.getD []))) :
    OpV w (.agg #[.bool er, .int .i64 (wh : Nat), .int .i64 h.kind, .int .u32 (h.id : Nat), .int .i64 h.row, .int .i64 h.place, .int .i64 h.width, sv, ws, ss, .int .i64 (fl : Nat)]) ⟨er, wh, some h, words, sectors, fl⟩ := ⟨sv, ws, ss, rfl, h1, h2, h3⟩
theorem byB_page (S N T mw mh : Nat) : byB S N T mw mh = pageB S N T mw mh := by
  unfold byB pageB lastB wdB pcn; rfl
theorem pageB_le {S N T mw mh : Nat} (hL : Lay S N T mw mh) : pageB S N T mw mh ≤ 2500 := by
  have hN8 := hL.n2
  have hS2 := hL.s2
  have hT2 := hL.t2
  have r1 := hL.pw.r.2.2.2.1
  have r2 := hL.ph.r.2.2.2.1
  unfold pageB lastB wdB pcn
  have : N * (S + 4 + (rr mw T + 7) / 8) ≤ 8 * (256 + 4 + 14) := Nat.mul_le_mul hN8 (by omega)
  omega
/-- The eleven cells of what is told, all 0. -/
def op0 : Array Value := #[.bool false, .int .i64 0, .int .i64 0, .int .u32 0, .int .i64 0, .int .i64 0, .int .i64 0, .slice none 0 0, .slice none 0 0, .slice none 0 0, .int .i64 0]
set_option maxRecDepth 100000 in
set_option maxHeartbeats 1600000 in
theorem unpack_erased (f S N T mw mh g o cap L : Nat) (l : List Nat) (w : World) (hL : Lay S N T mw mh) (hf : FrAt w f S N T mw mh) (hv : Rd .u8 w (.slice (some ⟨g, o, none⟩) L cap) l) (hl : l.length = L) (hp : L = pageB S N T mw mh) (hx : ∀ y ∈ l, y < 256) (he : 8 * L - ones l ≤ T) :
    Calls Tryz.prog 12 #[.pointer (some ⟨f, 0, none⟩), .slice (some ⟨g, o, none⟩) L cap] w fun e w' => (∃ ov, e = .returned (.tuple #[ov, .int .i64 0]) ∧ OpV w' ov (opn S N T mw mh l)) ∧ Below w.heap.size w w' := by
  have hN8 := hL.n2
  have hS2 := hL.s2
  have hT2 := hL.t2
  have hLm : L ≤ 2500 := hp ▸ pageB_le hL
  have hopn : opn S N T mw mh l = ⟨true, 0, none, [], [], 0⟩ := by unfold opn; rw [if_pos (by rw [hl]; exact he)]
  obtain ⟨n1, hn1⟩ : ∃ n1, ones l = n1 := ⟨_, rfl⟩
  have hn8 : n1 ≤ 8 * L := by rw [← hn1, ← hl]; exact ones_le l
  have HBY : Hid (∀ V, Below w.heap.size w V → Calls Tryz.prog 16 #[.pointer (some ⟨f, 0, none⟩)] V fun e w' => e = .returned (.int .i64 (L : Nat)) ∧ ∃ m, w' = V.drewN m) := hid fun V hV => by
    rw [hp, ← byB_page]; exact bytes_any f S N T mw mh V (hf.below hV) hL.pw hL.ph hS2 hN8
  have HON : Hid (∀ V, Below w.heap.size w V → Calls Tryz.prog 32 #[.slice (some ⟨g, o, none⟩) L cap] V fun e w' => e = .returned (.int .i64 (n1 : Nat)) ∧ V = w') := hid fun V hV => by
    rw [← hn1]; exact ones_any _ l V (hv.below hV) hx (by omega)
  rw [hn1] at he
  have hex : 8 * (L : Int) - (n1 : Int) ≤ (T : Int) := by omega
  have HF := hid hf
  obtain ⟨c0, c1, c2⟩ := hf.cells
  have HOPN := hid hopn
  clear hf hv hx hL hl hp hopn hn1 he c0 c1
  have hfl : f < w.heap.size := World.block_lt_of_cell? _ _ c2
  obtain ⟨W, hW⟩ : ∃ W, (w.alloc (.cells #[.slice (some ⟨g, o, none⟩) L cap] 39)).alloc (.cells op0 50) = W := ⟨_, rfl⟩
  have hbb : W.heap[w.heap.size]? = some (.cells #[.slice (some ⟨g, o, none⟩) L cap] 39 (0, 0)) := by rw [← hW]; exact (alloc_old (by simp)).trans (alloc_new w _)
  have hob : W.heap[w.heap.size + 1]? = some (.cells op0 50 (0, 0)) := by rw [← hW]; exact alloc_at (by simp)
  have hbW : Below w.heap.size w W := by rw [← hW]; exact ((Below.refl _ _).alloc (Nat.le_refl _) _).alloc (by simp) _
  unfold op0 at hW
  have HBQ : Hid (∀ n, Calls Tryz.prog 16 #[.pointer (some ⟨f, 0, none⟩)] (W.drewN n) fun e w' => e = .returned (.int .i64 (L : Nat)) ∧ ∃ m, w' = W.drewN m) := hid fun n =>
    (HBY.out _ (hbW.drewN n)).mono fun e w' ⟨h1, m, h2⟩ => ⟨h1, n + m, by rw [h2]; simp⟩
  have c2' := (hbW.cell (p := ⟨f, 2, none⟩) hfl).trans c2
  have HBW := hid hbW
  have HW := hid hW
  clear hW c2 HBY hbW
  go_enter Tryz.func12, Tryz.ntmps12
  go_wp2_with fail
  rw [HW.out]
  obtain ⟨bb, hbE⟩ : ∃ b, w.heap.size = b := ⟨_, rfl⟩
  obtain ⟨ob, hoE⟩ : ∃ b, w.heap.size + 1 = b := ⟨_, rfl⟩
  rw [hoE] at hob ⊢
  rw [hbE] at hbb ⊢
  have HBE := hid hbE
  have HOE := hid hoE
  have q0 := cell_at hbb 0
  have HOB := hid hob
  have HBB := hid hbb
  clear hbE hoE hob hbb HW
  go_quiet ((go_at_call 16; exact HBQ.out _))
  go_wp2_with fail
  have hx1 : IntKind.i64.wrap (8 * (L : Int)) = 8 * (L : Int) := IntWalk.i64_in _ (by omega)
  have hx2 : IntKind.i64.wrap (8 * (L : Int) - (n1 : Int)) = 8 * (L : Int) - (n1 : Int) := IntWalk.i64_in _ (by omega)
  obtain ⟨V, hV⟩ : ∃ V, W.drewN nq = V := ⟨_, rfl⟩
  have hbV : Below w.heap.size w V := by rw [← hV]; exact HBW.out.drewN nq
  have hbV2 : V.heap = W.heap := by rw [← hV]; rfl
  have q0' : V.cell? ⟨bb, 0, none⟩ = some (.slice (some ⟨g, o, none⟩) L cap) := by rw [← hV]; exact q0
  have c2'' : V.cell? ⟨f, 2, none⟩ = some (.int .i64 T) := by rw [← hV]; exact c2'
  rw [hV]
  have HBV := hid hbV
  have HVH := hid hbV2
  clear hV hbV hbV2 q0 c2'
  go_quiet ((go_at_call 32; exact quiet_eq (HON.out _ (HBV.out.drewN _))))
  clear hx1 hx2
  obtain ⟨V2, hV2⟩ : ∃ V2, V.drewN nq = V2 := ⟨_, rfl⟩
  have hob : V2.heap[ob]? = some (.cells op0 50 (0, 0)) := by rw [← hV2]; show V.heap[ob]? = _; rw [HVH.out]; exact HOB.out
  have hb2 : Below w.heap.size w V2 := by rw [← hV2]; exact HBV.out.drewN nq
  rw [hV2]
  have HB2 := hid hb2
  have f0 := free_at hob 0
  have p0 : V2.cell? ⟨ob, 0, none⟩ = some (.bool false) := cell_at hob 0
  have HO2 := hid hob
  clear hV2 hob hb2 q0' c2''
  go_upto_region 5 with (fail)
  have hob3 := set_at HO2.out 0 (.bool true)
  have hb3 : Below w.heap.size w (V2.setCell ⟨ob, 0, none⟩ (.bool true)) := bl_set HB2.out (by have := HOE.out; show w.heap.size ≤ ob; omega) _
  obtain ⟨V3, hV3⟩ : ∃ V3, V2.setCell ⟨ob, 0, none⟩ (.bool true) = V3 := ⟨_, rfl⟩
  rw [hV3] at hob3 hb3 ⊢
  have hob4 : V3.heap[ob]? = some (.cells #[.bool true, .int .i64 0, .int .i64 0, .int .u32 0, .int .i64 0, .int .i64 0, .int .i64 0, .slice none 0 0, .slice none 0 0, .slice none 0 0, .int .i64 0] 50 (0, 0)) := hob3
  obtain ⟨p0, p1, p2, p3, p4, p5, p6, p7, p8, p9, p10⟩ := op_cells hob4
  obtain ⟨f0, f1, f2, f3, f4, f5, f6, f7, f8, f9, f10⟩ := op_free hob4
  have HO3 := hid hob4
  have HB3 := hid hb3
  clear hV3 hob3 hob4 hb3
  go_wp2_with fail
  rw [op_same HO3.out]
  refine bodyPost_ret (v := .tuple #[.agg #[.bool true, .int .i64 0, .int .i64 0, .int .u32 0, .int .i64 0, .int .i64 0, .int .i64 0, .slice none 0 0, .slice none 0 0, .slice none 0 0, .int .i64 0], .int .i64 0]) (by simp [results, Tryz.results12, go_sem, p0, p1, p2, p3, p4, p5, p6, p7, p8, p9, p10]) rfl ⟨⟨_, rfl, ?_⟩, HB3.out⟩
  rw [HOPN.out]
  exact ⟨_, _, _, rfl, SlR.nil _, ⟨none, 0, rfl, Nat.le_refl _, by unfold maxLen; omega, fun j hj => by simp at hj⟩, RB.nil _⟩
end Go.Proofs.YtoanopegoilcnaaGreat
