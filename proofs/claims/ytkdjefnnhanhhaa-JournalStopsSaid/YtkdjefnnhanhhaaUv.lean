/- A journal, plain: what its functions do to it and to its tape. No program in sight. -/
import Derived.Test.YtkdjefnnhanhhaaZTh
import Derived.Test.YtkdjefnnhanhhaaZJm
import Derived.Test.YtkdjefnnhanhhaaUu
import Derived.Test.YtkdjefnnhanhhaaZJg
set_option linter.unusedVariables false
namespace Go.Proofs.Ytkdjefnnhanhhaa
open Go Go.RowKit Go.Mem Go.Jn
set_option linter.unusedVariables false

/-- A journal. -/
structure Jo where
  m : MM
  gen : Nat
  top : Nat
  area : Nat
  block : Nat
  rows : List Rec
  seq : Nat
  dirty : Bool
  late : Bool
  bad : Int
/-- A journal and its tape. -/
structure JS where
  j : Jo
  t : Tp
def Tp.per (t : Tp) : Nat := (t.size - 20) / 37
def Tp.sz (t : Tp) : Nat := (t.nb - 2) / 2
def Tp.room (t : Tp) : Nat := max 1 (t.sz * t.per / 2)
def padTo (n : Nat) (xs : List Nat) : List Nat := xs ++ List.replicate (n - xs.length) 0
/-- A block of an area, as it is written. -/
def rawB (gen blk : Nat) (rows : List Rec) : List Nat := Pg.low gen 8 ++ Pg.low blk 4 ++ Pg.low rows.length 4 ++ rows.flatMap recB
def blockB (size gen blk : Nat) (rows : List Rec) : List Nat := sealB (padTo (size - 4) (rawB gen blk rows))
def rawR (gen area : Nat) : List Nat := Pg.low magicN 4 ++ Pg.low area 4 ++ Pg.low gen 8
def rootB (size gen area : Nat) : List Nat := sealB (padTo (size - 4) (rawR gen area))
def Tp.err (t : Tp) : Int := if t.step.off = true then 40 else 0
def Jo.fail (j : Jo) (e : Int) : Jo := if e = 0 then j else { j with bad := e }
/-- A tape's operation, its error noted. -/
def JS.wr (s : JS) (i : Nat) (b : List Nat) : Int × JS := (s.t.err, ⟨s.j.fail s.t.err, s.t.write i b⟩)
def JS.syn (s : JS) : Int × JS := (s.t.err, ⟨s.j.fail s.t.err, s.t.sync⟩)
def JS.write (s : JS) : Int × JS := s.wr (2 + s.j.area * s.t.sz + s.j.block) (blockB s.t.size s.j.gen s.j.block s.j.rows)
def Jo.next (j : Jo) (p : Nat) : Jo := if j.rows.length = p then { j with block := j.block + 1, rows := [] } else j
def Jo.push (j : Jo) (r : Rec) (p : Nat) : Jo := { (j.next p) with seq := j.seq + 1, rows := (j.next p).rows ++ [{ r with seq := j.seq + 1 }], dirty := true }
def JS.put (s : JS) (r : Rec) : Int × JS :=
  if (s.j.push r s.t.per).rows.length = s.t.per then (JS.mk { (s.j.push r s.t.per) with dirty := false } s.t).write else (0, ⟨s.j.push r s.t.per, s.t⟩)
def Jo.apply (j : Jo) (r : Rec) : Jo := { j with seq := max j.seq r.seq, m := if r.kind = 1 then putM r.a r.b j.m else if r.kind = 2 then delM r.a j.m else j.m }
def JS.full (s : JS) : Bool := decide (s.j.gen = 0) || s.j.late || (decide (s.j.block = s.t.sz - 1) && decide (s.j.rows.length = s.t.per))
def JS.flush (s : JS) : Int × JS :=
  if s.j.dirty = true then (if s.write.1 = 0 then (JS.mk { s.write.2.j with dirty := false } s.write.2.t).syn else s.write) else s.syn
def setR (p : Nat × Nat) : Rec := ⟨1, 0, p.1, p.2, 0⟩
/-- The first I keys are put. -/
def JS.puts (s : JS) : MM → Int × JS
  | [] => (0, s)
  | p :: l => if (s.put (setR p)).1 = 0 then (s.put (setR p)).2.puts l else s.put (setR p)
def Jo.start (j : Jo) : Jo := { j with top := j.top + 1, late := false, gen := j.top + 1, area := 1 - j.area, block := 0, rows := [], dirty := true }
def JS.root (s : JS) : Int × JS := s.wr (s.j.gen % 2) (rootB s.t.size s.j.gen s.j.area)
def JS.checkpoint (s : JS) : Int × JS :=
  let a := (JS.mk s.j.start s.t).puts s.j.m
  if a.1 ≠ 0 then a else
  let b := a.2.flush
  if b.1 ≠ 0 then b else
  let c := b.2.root
  if c.1 ≠ 0 then c else c.2.syn
def JS.note (s : JS) (r : Rec) : Int × JS :=
  if s.j.bad ≠ 0 then (s.j.bad, s) else if (JS.mk (s.j.apply r) s.t).full = true then (JS.mk (s.j.apply r) s.t).checkpoint else (JS.mk (s.j.apply r) s.t).put r
def JS.set (s : JS) (k v : Nat) : Int × JS :=
  if (getM s.j.m k).isSome = false ∧ s.t.room ≤ s.j.m.length ∧ s.j.bad = 0 then (90, s) else s.note ⟨1, 0, k, v, 0⟩
def JS.drop (s : JS) (k : Nat) : Int × JS :=
  if (getM s.j.m k).isSome = false ∧ s.j.bad = 0 then (70, s) else s.note ⟨2, 0, k, 0, 0⟩
def JS.sync (s : JS) : Int × JS :=
  if s.j.bad ≠ 0 then (s.j.bad, s) else if s.j.gen = 0 ∨ s.j.late = true then s.checkpoint else s.flush

/-! ### What stays within bounds -/
theorem padTo_len {n : Nat} {xs : List Nat} (h : xs.length ≤ n) : (padTo n xs).length = n := by unfold padTo; simp; omega
theorem sealB_len4 (xs : List Nat) : (sealB xs).length = xs.length + 4 := by unfold sealB; rw [List.length_append, Pg.low_len]
theorem flat_len (l : List Rec) : (l.flatMap recB).length = l.length * 37 := by
  induction l with
  | nil => rfl
  | cons r l ih => rw [List.flatMap_cons, List.length_append, ih, List.length_cons, recB_len]; omega
theorem rawB_len (gen blk : Nat) (rows : List Rec) : (rawB gen blk rows).length = 16 + rows.length * 37 := by
  unfold rawB; simp only [List.length_append, Pg.low_len, flat_len]
theorem rawR_len (gen area : Nat) : (rawR gen area).length = 16 := by unfold rawR; simp only [List.length_append, Pg.low_len]
theorem per_le {t : Tp} {n : Nat} (h : n ≤ t.per) (h2 : 20 ≤ t.size) : 16 + n * 37 ≤ t.size - 4 := by
  unfold Tp.per at h
  have := Nat.div_mul_le_self (t.size - 20) 37
  have h3 := Nat.mul_le_mul_right 37 h
  omega
theorem sealB_lt {xs : List Nat} (h : ∀ y ∈ xs, y < 256) : ∀ y ∈ sealB xs, y < 256 := fun y hy => by
  unfold sealB at hy
  rcases List.mem_append.1 hy with hy | hy
  · exact h y hy
  · exact Pg.low_lt _ _ y hy
theorem recB_lt {r : Rec} (h : r.Fit) : ∀ y ∈ recB r, y < 256 := sealB_lt (rawI_lt r h 4)
theorem padTo_lt {n : Nat} {xs : List Nat} (h : ∀ y ∈ xs, y < 256) : ∀ y ∈ padTo n xs, y < 256 := fun y hy => by
  unfold padTo at hy
  rcases List.mem_append.1 hy with hy | hy
  · exact h y hy
  · rw [(List.mem_replicate.1 hy).2]; omega
theorem rawB_lt {gen blk : Nat} {rows : List Rec} (h : ∀ r ∈ rows, r.Fit) : ∀ y ∈ rawB gen blk rows, y < 256 := fun y hy => by
  unfold rawB at hy
  rcases List.mem_append.1 hy with hy | hy
  · rcases List.mem_append.1 hy with hy | hy
    · rcases List.mem_append.1 hy with hy | hy
      · exact Pg.low_lt _ _ y hy
      · exact Pg.low_lt _ _ y hy
    · exact Pg.low_lt _ _ y hy
  · obtain ⟨r, hr, hy⟩ := List.mem_flatMap.1 hy
    exact recB_lt (h r hr) y hy
theorem rawR_lt {gen area : Nat} : ∀ y ∈ rawR gen area, y < 256 := fun y hy => by
  unfold rawR at hy
  rcases List.mem_append.1 hy with hy | hy
  · rcases List.mem_append.1 hy with hy | hy
    · exact Pg.low_lt _ _ y hy
    · exact Pg.low_lt _ _ y hy
  · exact Pg.low_lt _ _ y hy
theorem blockB_ok {t : Tp} {gen blk : Nat} {rows : List Rec} (h : rows.length ≤ t.per) (h2 : 20 ≤ t.size) (hr : ∀ r ∈ rows, r.Fit) : BytesN t.size (blockB t.size gen blk rows) := by
  have := per_le h h2
  refine ⟨?_, ?_⟩
  · unfold blockB; rw [sealB_len4, padTo_len (by rw [rawB_len]; omega)]; omega
  · exact sealB_lt (padTo_lt (rawB_lt hr))
theorem rootB_ok {t : Tp} {gen area : Nat} (h2 : 20 ≤ t.size) : BytesN t.size (rootB t.size gen area) := by
  refine ⟨?_, ?_⟩
  · unfold rootB; rw [sealB_len4, padTo_len (by rw [rawR_len]; omega)]; omega
  · exact sealB_lt (padTo_lt rawR_lt)
/-- A tape a journal may lie on. -/
structure Tp.Ok (t : Tp) : Prop where
  n8 : 8 ≤ t.nb
  nl : t.nb ≤ 1000
  s128 : 128 ≤ t.size
  sl : t.size ≤ 1000
theorem Tp.Ok.per {t : Tp} (h : Tp.Ok t) : 2 ≤ t.per ∧ t.per ≤ 27 := by unfold Tp.per; have := h.s128; have := h.sl; omega
theorem Tp.Ok.sz {t : Tp} (h : Tp.Ok t) : 3 ≤ t.sz ∧ t.sz ≤ 499 ∧ 2 + 2 * t.sz ≤ t.nb := by unfold Tp.sz; have := h.n8; have := h.nl; omega
/-- What holds of a journal that is in use. -/
structure Jo.Ok (j : Jo) (t : Tp) : Prop where
  fit : FitM j.m
  few : j.m.length ≤ 60000
  gen : j.gen < 1000000000000000000
  top : j.top < 1000000000000000000
  area : j.area ≤ 1
  block : j.block < t.sz
  rows : j.rows.length ≤ t.per
  rfit : ∀ r ∈ j.rows, r.Fit
  seq : j.seq < 1000000000000000000
  bad : j.bad = 0 ∨ j.bad = 40
end Go.Proofs.Ytkdjefnnhanhhaa
/- A journal in memory, beside its tape. -/
namespace Go.Proofs.Ytkdjefnnhanhhaa
open Go Go.RowKit Go.Mem Go.Jn
set_option linter.unusedVariables false

/-- The types of a tape's blocks. -/
def TT (tt : TypeId) : Prop := tt = 5 ∨ tt = 27 ∨ tt = 22 ∨ tt = 30
section
variable {Q Q' : Nat → Prop} {w w' : World} {T K S ck cs : Nat} {t : Tp} {ka sa : Option Addr} {kv sv : Nat → Value} {v : Value} {xs : List Nat} {l : List (List Nat)}
theorem RwQ.sameT (h : RwQ Q w v xs) (hw : ∀ j cs tt fz, TT tt → Q j → w.heap[j]? = some (.cells cs tt fz) → w'.heap[j]? = some (.cells cs tt fz) ∧ Q' j) : RwQ Q' w' v xs := by
  obtain ⟨g, cap, cur, h1, h2, h3, h4⟩ := h
  obtain ⟨k1, k2⟩ := hw g _ _ _ (.inl rfl) h2 h3
  exact ⟨g, cap, cur, h1, k2, k1, h4⟩
theorem SnQ.sameT (h : SnQ Q w K v l) (hw : ∀ j cs tt fz, TT tt → Q j → w.heap[j]? = some (.cells cs tt fz) → w'.heap[j]? = some (.cells cs tt fz) ∧ Q' j) : SnQ Q' w' K v l := by
  obtain ⟨vs, h1, h2, h3⟩ := h
  refine ⟨vs, orow_same h1 (fun j cs hj hh => (hw j cs _ _ (.inr (.inl rfl)) (h2 j hj).1 hh).1), fun g hg => ?_, fun j hj => (h3 j hj).sameT hw⟩
  obtain ⟨cs, hh⟩ := orow_lt h1 hg
  exact ⟨(hw g _ _ _ (.inr (.inl rfl)) (h2 g hg).1 hh).2, (h2 g hg).2⟩
theorem TapeAt.shiftT (h : TapeAt Q w T t) (hw : ∀ j cs tt fz, TT tt → Q j → w.heap[j]? = some (.cells cs tt fz) → w'.heap[j]? = some (.cells cs tt fz) ∧ Q' j) (up : ∀ j, w'.heap.size ≤ j → Q' j) : TapeAt Q' w' T t := by
  obtain ⟨ka, sa, K, S, ck, cs, kv, sv, h⟩ := h
  refine ⟨ka, sa, K, S, ck, cs, kv, sv, ?_⟩
  have hT := hw _ _ _ _ (.inr (.inr (.inr rfl))) h.q.1 h.hp
  exact { h with
    hp := hT.1
    hk := fun h0 => by obtain ⟨cur, h1, h2⟩ := h.hk h0; exact ⟨cur, (hw _ _ _ _ (.inr (.inl rfl)) (h.q.2 h0).1 h1).1, h2⟩
    hs := fun h0 => by obtain ⟨cur, h1, h2⟩ := h.hs h0; exact ⟨cur, (hw _ _ _ _ (.inr (.inr (.inl rfl))) (h.q.2 h0).2 h1).1, h2⟩
    rk := fun i hi => (h.rk i hi).sameT hw
    rs := fun i hi => (h.rs i hi).sameT hw
    q := ⟨hT.2, fun h0 => ⟨by obtain ⟨cur, h1, h2⟩ := h.hk h0; exact (hw _ _ _ _ (.inr (.inl rfl)) (h.q.2 h0).1 h1).2, by obtain ⟨cur, h1, h2⟩ := h.hs h0; exact (hw _ _ _ _ (.inr (.inr (.inl rfl))) (h.q.2 h0).2 h1).2⟩⟩
    up := up }
end

def Jo.cells (j : Jo) (T b : Nat) (rv : Value) : Array Value :=
  #[ifT T, .map (some b), .int .u64 (j.gen : Nat), .int .u64 (j.top : Nat), .int .i64 (j.area : Nat), .int .i64 (j.block : Nat), rv, .int .u64 (j.seq : Nat), .bool j.dirty, .bool j.late, .int .i64 j.bad]
structure JAtC (Q : Nat → Prop) (w : World) (J T : Nat) (j : Jo) (b : Nat) (rv : Value) : Prop where
  hp : w.heap[J]? = some (.cells (j.cells T b rv) 65 (0, 0))
  mp : MAt Try.prog 38 38 w b j.m
  ro : ORec 0 w rv j.rows
  qj : Q J
  qb : Q b
  qr : ∀ g, rv.ownBlock = some g → Q g
/-- A journal at J, on the tape at T. -/
def JSt (Q : Nat → Prop) (w : World) (J T : Nat) (s : JS) : Prop := TapeAt Q w T s.t ∧ ∃ b rv, JAtC Q w J T s.j b rv
section
variable {Q Q' : Nat → Prop} {w w' : World} {J T T' b : Nat} {j : Jo} {t : Tp} {rv : Value}
theorem JAtC.c0 (h : JAtC Q w J T j b rv) : w.cell? ⟨J, 0, none⟩ = some (ifT T) := cell_at h.hp 0
theorem JAtC.c1 (h : JAtC Q w J T j b rv) : w.cell? ⟨J, 1, none⟩ = some (.map (some b)) := cell_at h.hp 1
theorem JAtC.c2 (h : JAtC Q w J T j b rv) : w.cell? ⟨J, 2, none⟩ = some (.int .u64 (j.gen : Nat)) := cell_at h.hp 2
theorem JAtC.c3 (h : JAtC Q w J T j b rv) : w.cell? ⟨J, 3, none⟩ = some (.int .u64 (j.top : Nat)) := cell_at h.hp 3
theorem JAtC.c4 (h : JAtC Q w J T j b rv) : w.cell? ⟨J, 4, none⟩ = some (.int .i64 (j.area : Nat)) := cell_at h.hp 4
theorem JAtC.c5 (h : JAtC Q w J T j b rv) : w.cell? ⟨J, 5, none⟩ = some (.int .i64 (j.block : Nat)) := cell_at h.hp 5
theorem JAtC.c6 (h : JAtC Q w J T j b rv) : w.cell? ⟨J, 6, none⟩ = some rv := cell_at h.hp 6
theorem JAtC.c7 (h : JAtC Q w J T j b rv) : w.cell? ⟨J, 7, none⟩ = some (.int .u64 (j.seq : Nat)) := cell_at h.hp 7
theorem JAtC.c8 (h : JAtC Q w J T j b rv) : w.cell? ⟨J, 8, none⟩ = some (.bool j.dirty) := cell_at h.hp 8
theorem JAtC.c9 (h : JAtC Q w J T j b rv) : w.cell? ⟨J, 9, none⟩ = some (.bool j.late) := cell_at h.hp 9
theorem JAtC.c10 (h : JAtC Q w J T j b rv) : w.cell? ⟨J, 10, none⟩ = some (.int .i64 j.bad) := cell_at h.hp 10
theorem JAtC.ff (h : JAtC Q w J T j b rv) (k : Nat) : w.frozen? ⟨J, k, none⟩ = false := free_at h.hp k
theorem orec_own {n₀ : Nat} {W : World} {v : Value} {l : List Rec} (h : ORec n₀ W v l) : v.ownBlock = none ∨ ∃ g cu, v.ownBlock = some g ∧ W.heap[g]? = some (Obj.cells cu 74 (0, 0)) := by
  rcases h.2 with ⟨rfl, _⟩ | ⟨g, cap, cur, rfl, h1, h2, _⟩
  · exact .inl rfl
  · exact .inr ⟨g, _, rfl, h2⟩
/-- What neither turns J's block nor its map nor its rows. -/
theorem JAtC.shift (h : JAtC Q w J T j b rv) (hw : ∀ i, i < w.heap.size → (i = J ∨ i = b ∨ rv.ownBlock = some i) → w'.heap[i]? = w.heap[i]? ∧ Q' i) : JAtC Q' w' J T j b rv := by
  have hJ := hw J (lt_at h.hp) (.inl rfl)
  have hb := hw b h.mp.lt (.inr (.inl rfl))
  have hr : ∀ g, rv.ownBlock = some g → w'.heap[g]? = w.heap[g]? ∧ Q' g := fun g e => by
    rcases orec_own h.ro with e' | ⟨g', cu, e', hg⟩
    · rw [e'] at e; cases e
    · rw [e'] at e; cases e; exact hw _ (lt_at hg) (.inr (.inr e'))
  exact {
    hp := hJ.1.trans h.hp
    mp := h.mp.same hb.1
    ro := orec_kept h.ro (fun i cs t fz hh e => (hr i e.symm).1.trans hh)
    qj := hJ.2
    qb := hb.2
    qr := fun g e => (hr g e).2 }
theorem JAtC.bJ (h : JAtC Q w J T j b rv) : b ≠ J := fun e => by
  obtain ⟨es, c, hb⟩ := h.mp.isMap
  rw [e, h.hp] at hb; cases hb
theorem JAtC.rJ (h : JAtC Q w J T j b rv) : rv.ownBlock ≠ some J := fun e => by
  rcases orec_own h.ro with e' | ⟨g', cu, e', hg⟩
  · rw [e'] at e; cases e
  · rw [e'] at e; cases e; exact ty_ne hg h.hp (by decide) rfl
theorem JAtC.rb (h : JAtC Q w J T j b rv) : rv.ownBlock ≠ some b := fun e => by
  obtain ⟨es, c, hb⟩ := h.mp.isMap
  rcases orec_own h.ro with e' | ⟨g', cu, e', hg⟩
  · rw [e'] at e; cases e
  · rw [e'] at e; cases e; rw [hg] at hb; cases hb
/-- The tape's own blocks. -/
def Qt (Q : Nat → Prop) (w : World) (J b : Nat) (rv : Value) (i : Nat) : Prop := Q i ∧ ¬ (i < w.heap.size ∧ (i = J ∨ i = b ∨ rv.ownBlock = some i))
theorem tape_part (hT : TapeAt Q w T t) (hJ : JAtC Q w J T' j b rv) : TapeAt (Qt Q w J b rv) w T t := by
  refine hT.shiftT (fun i cs tt fz ht hq hh => ⟨hh, hq, fun ⟨_, h⟩ => ?_⟩) (fun i hi => ⟨hT.upq i hi, fun h => by omega⟩)
  rcases h with rfl | rfl | h
  · have h1 := hJ.hp; rw [hh] at h1; simp at h1
    obtain ⟨_, rfl, _⟩ := h1
    revert ht; unfold TT; decide
  · obtain ⟨es, c, hb⟩ := hJ.mp.isMap; rw [hh] at hb; cases hb
  · rcases orec_own hJ.ro with e' | ⟨g', cu, e', hg⟩
    · rw [e'] at h; cases h
    · rw [e'] at h; cases h; rw [hh] at hg; simp at hg
      obtain ⟨_, rfl, _⟩ := hg
      revert ht; unfold TT; decide
theorem tape_back (hT : TapeAt Q w T t) (hJ : JAtC Q w J T' j b rv) {t' : Tp} (h1 : TapeAt (Qt Q w J b rv) w' T t') (h2 : Off (Qt Q w J b rv) w w') : TapeAt Q w' T t' ∧ JAtC Q w' J T' j b rv ∧ Off Q w w' :=
  ⟨h1.shiftT (fun i cs tt fz ht hq hh => ⟨hh, hq.1⟩) (fun i hi => hT.upq i (Nat.le_trans h2.size hi)),
   hJ.shift (fun i hi h => ⟨h2.block i hi (fun hq => hq.2 ⟨hi, h⟩), by
     rcases h with rfl | rfl | h
     · exact hJ.qj
     · exact hJ.qb
     · exact hJ.qr _ h⟩),
   h2.imp (fun i hi h => h.1)⟩
/-- A store into the journal's head. -/
theorem JAtC.head (h : JAtC Q w J T j b rv) {j' : Jo} {rv' : Value} (k : Nat) (v : Value) (hcs : (j.cells T b rv).setIfInBounds k v = j'.cells T b rv') (hm : j'.m = j.m) (hr : ORec 0 w rv' j'.rows) (hq : ∀ g, rv'.ownBlock = some g → Q g) : JAtC Q (w.setCell ⟨J, k, none⟩ v) J T j' b rv' := by
  exact {
    hp := by have := set_at h.hp k v; rwa [hcs] at this
    mp := by rw [hm]; exact h.mp.setCell (a := ⟨J, k, none⟩) h.bJ v
    ro := orec_kept hr (fun i cs t fz hh e => (set_other (a := ⟨J, k, none⟩) (fun e' => by
      rcases orec_own hr with e2 | ⟨g', cu, e2, hg⟩
      · rw [e2] at e; cases e
      · rw [e2] at e; cases e; exact ty_ne hg h.hp (by decide) e')).trans hh)
    qj := h.qj
    qb := h.qb
    qr := hq }
theorem JAtC.headS (h : JAtC Q w J T j b rv) {j' : Jo} (k : Nat) (v : Value) (hcs : (j.cells T b rv).setIfInBounds k v = j'.cells T b rv) (hm : j'.m = j.m) (hr : j'.rows = j.rows) : JAtC Q (w.setCell ⟨J, k, none⟩ v) J T j' b rv :=
  h.head k v hcs hm (by rw [hr]; exact h.ro) h.qr
theorem TapeAt.setJ (hT : TapeAt Q w T t) (hJ : JAtC Q w J T' j b rv) (k : Nat) (v : Value) : TapeAt Q (w.setCell ⟨J, k, none⟩ v) T t :=
  hT.shiftT (fun i cs tt fz ht hq hh => ⟨(set_other (a := ⟨J, k, none⟩) (ty_ne hh hJ.hp (fun e => by subst e; revert ht; unfold TT; decide))).trans hh, hq⟩) (fun i hi => hT.upq i (by simpa using hi))
theorem JAtC.below (h : JAtC Q w J T j b rv) (hb : Below w.heap.size w w') : JAtC Q w' J T j b rv := h.shift (fun i hi h' => ⟨hb.block i hi, by
     rcases h' with rfl | rfl | h'
     · exact h.qj
     · exact h.qb
     · exact h.qr _ h'⟩)
end
end Go.Proofs.Ytkdjefnnhanhhaa
/- Walks over journal: fail, full, Room, Get. -/
namespace Go.Proofs.Ytkdjefnnhanhhaa
open Go Go.RowKit Go.Mem Go.Jn
set_option linter.unusedVariables false

section
variable {Q : Nat → Prop} {w : World} {J T b : Nat} {j : Jo} {t : Tp} {rv : Value}
theorem jsize_any (hT : TapeAt Q w T t) (ho : t.Ok) : Calls Try.prog 24 #[ifT T] w fun e w' => e = .returned (.int .i64 (t.sz : Nat)) ∧ w = w' := by
  obtain ⟨ka, sa, K, S, ck, cs, kv, sv, h⟩ := hT
  exact size_any h.c1 (by have := ho.n8; omega) (by have := ho.nl; omega)
theorem jper_any (hT : TapeAt Q w T t) (ho : t.Ok) : Calls Try.prog 26 #[ifT T] w fun e w' => e = .returned (.int .i64 (t.per : Nat)) ∧ w = w' := by
  obtain ⟨ka, sa, K, S, ck, cs, kv, sv, h⟩ := hT
  exact per_any h.c0 (by have := ho.s128; omega) (by have := ho.sl; omega)
theorem tm_u64 : TMap Try.prog 44 38 38 := ⟨Try.underlying44, Try.underlying38, Try.underlying38, fun w => by kernel_rfl⟩
set_option maxRecDepth 100000 in
set_option maxHeartbeats 1600000 in
theorem fail_any (hT : TapeAt Q w T t) (hJ : JAtC Q w J T j b rv) (e : Int) :
    Calls Try.prog 42 #[.pointer (some ⟨J, 0, none⟩), .int .i64 e] w fun r w' => r = .returned (.int .i64 e) ∧ TapeAt Q w' T t ∧ JAtC Q w' J T (j.fail e) b rv ∧ Off Q w w' := by
  have hd := cell_at hJ.hp 10
  have hf := hJ.ff 10
  have c10 := hJ.c10
  have HT := hid hT
  have HJ := hid hJ
  have HQ := hid hJ.qj
  clear hT hJ hd
  by_cases h0 : e = 0
  · subst h0
    go_enter Try.func42, Try.ntmps42
    go_wp2_with fail
    go_ret
    exact ⟨rfl, HT.out, HJ.out, Off.refl _ _⟩
  · have h1 : (e != 0) = true := by simp [h0]
    go_enter Try.func42, Try.ntmps42
    go_wp2_with fail
    go_ret
    have hj := HJ.out.headS (j' := j.fail e) 10 (.int .i64 e) (by unfold Jo.fail; rw [if_neg h0]; rfl) (by unfold Jo.fail; rw [if_neg h0]) (by unfold Jo.fail; rw [if_neg h0])
    exact ⟨rfl, HT.out.setJ HJ.out _ _, hj, (Off.refl _ _).setCell (p := ⟨J, 10, none⟩) HQ.out _⟩
set_option maxRecDepth 100000 in
set_option maxHeartbeats 3200000 in
theorem full_any (hT : TapeAt Q w T t) (hJ : JAtC Q w J T j b rv) (ho : t.Ok) (hj : j.Ok t) :
    Calls Try.prog 38 #[.pointer (some ⟨J, 0, none⟩)] w fun r w' => r = .returned (.bool (JS.mk j t).full) ∧ TapeAt Q w' T t ∧ JAtC Q w' J T j b rv ∧ Off Q w w' := by
  obtain ⟨ra, rc, hrv⟩ := orec_form hJ.ro
  have c0 := hJ.c0
  have c2 := hJ.c2
  have c5 := hJ.c5
  have c6 := hJ.c6
  have c9 := hJ.c9
  rw [hrv] at c6
  unfold ifT at c0
  have HT := hid hT
  have HJ := hid hJ
  have HS := hid (fun n => jsize_any (hT.below ((Below.refl _ _).drewN n)) ho)
  have HP := hid (fun n => jper_any (hT.below ((Below.refl _ _).drewN n)) ho)
  unfold ifT at HS HP
  have hs := ho.sz
  have hp := ho.per
  have hr := hj.rows
  obtain ⟨sz, hsz⟩ : ∃ n, t.sz = n := ⟨_, rfl⟩
  obtain ⟨pr, hpr⟩ : ∃ n, t.per = n := ⟨_, rfl⟩
  obtain ⟨gn, hgn⟩ : ∃ n, j.gen = n := ⟨_, rfl⟩
  obtain ⟨bk, hbk⟩ : ∃ n, j.block = n := ⟨_, rfl⟩
  obtain ⟨rn, hrn⟩ : ∃ n, j.rows.length = n := ⟨_, rfl⟩
  obtain ⟨lt, hlt⟩ : ∃ n, j.late = n := ⟨_, rfl⟩
  have HF := hid (show (JS.mk j t).full = (decide (gn = 0) || lt || (decide (bk = sz - 1) && decide (rn = pr))) from by unfold JS.full; rw [hsz, hpr, hgn, hbk, hrn, hlt])
  rw [hsz] at HS hs
  rw [hpr] at HP hp hr
  rw [hrn] at c6 hr
  rw [hgn] at c2
  rw [hbk] at c5
  rw [hlt] at c9
  clear hT hJ hj ho hsz hpr hgn hbk hrn hlt hrv
  by_cases h1 : gn = 0
  · subst h1
    have HF2 := hid (show (JS.mk j t).full = true from by rw [HF.out]; simp)
    go_enter Try.func38, Try.ntmps38
    go_wp2_with fail
    go_quiet (fail)
    go_wp2_with fail
    go_ret
    rw [HF2.out]
    exact ⟨rfl, HT.out.below ((Below.refl _ _).drewN _), HJ.out.below ((Below.refl _ _).drewN _), (Off.refl _ _).drewN _⟩
  · have e1 : ((gn : Int) == 0) = false := beq_eq_false_iff_ne.2 (by omega)
    cases lt with
    | true =>
      have HF2 := hid (show (JS.mk j t).full = true from by rw [HF.out]; simp)
      go_enter Try.func38, Try.ntmps38
      go_wp2_with fail
      go_quiet (fail)
      go_wp2_with fail
      go_ret
      rw [HF2.out]
      exact ⟨rfl, HT.out.below ((Below.refl _ _).drewN _), HJ.out.below ((Below.refl _ _).drewN _), (Off.refl _ _).drewN _⟩
    | false =>
      by_cases h2 : bk = sz - 1
      · have e2 : ((bk : Int) == (sz : Int) - 1) = true := beq_iff_eq.2 (by omega)
        by_cases h3 : rn = pr
        · have e3 : ((rn : Int) == (pr : Int)) = true := beq_iff_eq.2 (by omega)
          have HF2 := hid (show (JS.mk j t).full = true from by rw [HF.out]; simp [h2, h3])
          clear h2 h3
          go_enter Try.func38, Try.ntmps38
          go_wp2_with fail
          go_quiet ((first | (go_at_call 24; exact quiet_eq (HS.out _)) | (go_at_call 26; exact quiet_eq (HP.out _)) | fail))
          go_wp2_with fail
          go_ret
          rw [HF2.out]
          exact ⟨rfl, HT.out.below ((Below.refl _ _).drewN _), HJ.out.below ((Below.refl _ _).drewN _), (Off.refl _ _).drewN _⟩
        · have e3 : ((rn : Int) == (pr : Int)) = false := beq_eq_false_iff_ne.2 (by omega)
          have HF2 := hid (show (JS.mk j t).full = false from by rw [HF.out]; simp [h2, h3, h1])
          clear h2 h3
          go_enter Try.func38, Try.ntmps38
          go_wp2_with fail
          go_quiet ((first | (go_at_call 24; exact quiet_eq (HS.out _)) | (go_at_call 26; exact quiet_eq (HP.out _)) | fail))
          go_wp2_with fail
          go_ret
          rw [HF2.out]
          exact ⟨rfl, HT.out.below ((Below.refl _ _).drewN _), HJ.out.below ((Below.refl _ _).drewN _), (Off.refl _ _).drewN _⟩
      · have e2 : ((bk : Int) == (sz : Int) - 1) = false := beq_eq_false_iff_ne.2 (by omega)
        have HF2 := hid (show (JS.mk j t).full = false from by rw [HF.out]; simp [h2, h1])
        clear h2
        go_enter Try.func38, Try.ntmps38
        go_wp2_with fail
        go_quiet ((first | (go_at_call 24; exact quiet_eq (HS.out _)) | (go_at_call 26; exact quiet_eq (HP.out _)) | fail))
        go_wp2_with fail
        go_ret
        rw [HF2.out]
        exact ⟨rfl, HT.out.below ((Below.refl _ _).drewN _), HJ.out.below ((Below.refl _ _).drewN _), (Off.refl _ _).drewN _⟩
set_option maxRecDepth 100000 in
set_option maxHeartbeats 3200000 in
theorem room_any (hT : TapeAt Q w T t) (hJ : JAtC Q w J T j b rv) (ho : t.Ok) :
    Calls Try.prog 13 #[.pointer (some ⟨J, 0, none⟩)] w fun r w' => r = .returned (.int .i64 (t.room : Nat)) ∧ ∃ n, w' = w.drewN n := by
  have c0 := hJ.c0
  unfold ifT at c0
  have HS := hid (fun n => jsize_any (hT.below ((Below.refl _ _).drewN n)) ho)
  have HP := hid (fun n => jper_any (hT.below ((Below.refl _ _).drewN n)) ho)
  unfold ifT at HS HP
  have hs := ho.sz
  have hp := ho.per
  obtain ⟨sz, hsz⟩ : ∃ n, t.sz = n := ⟨_, rfl⟩
  obtain ⟨pr, hpr⟩ : ∃ n, t.per = n := ⟨_, rfl⟩
  have HR := hid (show t.room = max 1 (sz * pr / 2) from by unfold Tp.room; rw [hsz, hpr])
  rw [hsz] at HS hs
  rw [hpr] at HP hp
  clear hT hJ ho hsz hpr
  obtain ⟨pd, hpd⟩ : ∃ n, sz * pr = n := ⟨_, rfl⟩
  have hpd1 : 6 ≤ pd := by rw [← hpd]; exact Nat.mul_le_mul hs.1 hp.1
  have hpd2 : pd ≤ 499 * 27 := by rw [← hpd]; exact Nat.mul_le_mul hs.2.1 hp.2
  have em : (sz : Int) * (pr : Int) = (pd : Int) := by rw [← hpd]; push_cast; rfl
  have ed : (pd : Int) / 2 = ((pd / 2 : Nat) : Int) := by omega
  have HM := hid (show t.room = pd / 2 from by rw [HR.out, hpd]; omega)
  have k1 : (1 : Int) < (pd : Int) / 2 := by omega
  have k2 : ¬ (pd : Int) / 2 < 1 := by omega
  clear hpd HR
  go_enter Try.func13, Try.ntmps13
  go_wp2_with fail
  go_quiet ((first | (go_at_call 24; exact quiet_eq (HS.out _)) | (go_at_call 26; exact quiet_eq (HP.out _)) | fail))
  go_wp2_with fail
  go_ret
  rw [HM.out]
  have w1 : IntKind.i64.wrap (pd : Int) = (pd : Int) := IntWalk.i64_in _ ⟨by omega, by omega⟩
  have w2 : (pd : Int).tdiv 2 = ((pd / 2 : Nat) : Int) := by rw [Int.tdiv_eq_ediv_of_nonneg (by omega)]; omega
  have w3 : IntKind.i64.wrap ((pd / 2 : Nat) : Int) = ((pd / 2 : Nat) : Int) := IntWalk.i64_in _ ⟨by omega, by omega⟩
  refine ⟨?_, _, rfl⟩
  simp
  rw [w1, w2, w3, ed, Int.max_eq_right (by omega)]
set_option maxRecDepth 100000 in
set_option maxHeartbeats 3200000 in
theorem get_any (hJ : JAtC Q w J T j b rv) (k : Nat) (hk : k < 18446744073709551616) :
    Calls Try.prog 16 #[.pointer (some ⟨J, 0, none⟩), .int .u64 (k : Nat)] w fun r w' => r = .returned (.tuple #[.int .u64 (((getM j.m k).getD 0 : Nat) : Int), .bool (getM j.m k).isSome]) ∧ w = w' := by
  have c1 := hJ.c1
  have hl := hJ.mp.look2 tm_u64 hk
  go_enter Try.func16, Try.ntmps16
  go_wp2_with fail
  go_ret2
  exact ⟨rfl, rfl⟩
end
end Go.Proofs.Ytkdjefnnhanhhaa
/- Walks over journal: apply. -/
namespace Go.Proofs.Ytkdjefnnhanhhaa
open Go Go.RowKit Go.Mem Go.Jn
set_option linter.unusedVariables false

section
variable {Q : Nat → Prop} {w w' : World} {J T b : Nat} {j : Jo} {t : Tp} {rv : Value}
theorem JAtC.mapd (h : JAtC Q w J T j b rv) {m' : MM} (hm : MAt Try.prog 38 38 w' b m') (hg : w.grownBy w' (some b)) : JAtC Q w' J T { j with m := m' } b rv := by
  exact {
    hp := (hg.block J (lt_at h.hp) (fun e => h.bJ (Option.some.inj e).symm)).trans h.hp
    mp := hm
    ro := orec_kept h.ro (fun i cs t fz hh e => (hg.block i (lt_at hh) (fun e' => by cases e'; exact h.rb e.symm)).trans hh)
    qj := h.qj
    qb := h.qb
    qr := h.qr }
theorem TapeAt.mapd (hT : TapeAt Q w T t) (h : JAtC Q w J T j b rv) (hg : w.grownBy w' (some b)) : TapeAt Q w' T t :=
  hT.shiftT (fun i cs tt fz ht hq hh => ⟨(hg.block i (lt_at hh) (fun e => by
    obtain ⟨es, c, hb⟩ := h.mp.isMap
    cases e; rw [hh] at hb; cases hb)).trans hh, hq⟩) (fun i hi => hT.upq i (Nat.le_trans hg.size hi))
set_option maxRecDepth 100000 in
set_option maxHeartbeats 3200000 in
theorem apply_core (hJ : JAtC Q w J T j b rv) (r : Rec) (hr : ∀ i, r.ns i < 18446744073709551616) (hj : j.seq < 18446744073709551616) (hl : j.m.length ≤ 60000) :
    Calls Try.prog 25 #[.pointer (some ⟨J, 0, none⟩), r.val] w fun e w' => (∃ v, e = .returned v) ∧ JAtC Q w' J T (j.apply r) b rv ∧ Off Q w w' := by
  obtain ⟨k, sq, ra, rb, rc⟩ := r
  have hsq := hr 0
  have hra := hr 1
  have hrb := hr 2
  simp only [Rec.ns] at hsq hra hrb
  obtain ⟨W0, hW0⟩ : ∃ W, w.alloc (.cells #[.int .i64 (k : Nat), .int .u64 (sq : Nat), .int .u64 (ra : Nat), .int .u64 (rb : Nat), .int .u64 (rc : Nat)] 74) = W := ⟨_, rfl⟩
  obtain ⟨R, hR⟩ : ∃ R, w.heap.size = R := ⟨_, rfl⟩
  have hb0 : Below w.heap.size w W0 := by rw [← hW0]; exact (Below.refl _ _).alloc (Nat.le_refl _) _
  have hr0 : W0.heap[R]? = some (.cells #[.int .i64 (k : Nat), .int .u64 (sq : Nat), .int .u64 (ra : Nat), .int .u64 (rb : Nat), .int .u64 (rc : Nat)] 74 (0, 0)) := by rw [← hW0, ← hR]; exact alloc_new _ _
  have hJR : J ≠ R := by have := lt_at hJ.hp; omega
  have hbR : b ≠ R := by have := hJ.mp.lt; omega
  have hJ0 := hJ.below hb0
  have q1 : W0.cell? ⟨R, 1, none⟩ = some (.int .u64 (sq : Nat)) := cell_at hr0 1
  have c7 := hJ0.c7
  have f7 := hJ0.ff 7
  obtain ⟨js, hjs⟩ : ∃ n, j.seq = n := ⟨_, rfl⟩
  have HJS := hid hjs
  rw [hjs] at c7 hj
  obtain ⟨mx, hmx⟩ : ∃ n, max js sq = n := ⟨_, rfl⟩
  have emx : max (js : Int) (sq : Int) = (mx : Int) := by omega
  have HMX := hid hmx
  have hmxb : mx < 18446744073709551616 := by omega
  have HJ := hid hJ0
  have HF := hid (show Off Q w W0 from Off.of_below hb0)
  have HQJ := hid hJ.qj
  have HQB := hid hJ.qb
  have HR0 := hid hr0
  have HL := hid hl
  unfold Rec.val
  clear hJ hJ0 hb0 hr0 hjs hmx hr hl
  go_enter Try.func25, Try.ntmps25
  go_upto_region 1 with (fail)
  try rw [hW0, hR]
  refine wp_region_quiet_tail 10 (by kernel_rfl) (by kernel_rfl) ?_
  simp only [List.take_succ_cons, List.take_zero, List.drop_succ_cons, List.drop_zero]
  repeat (go_big_quiet_step (fail))
  refine wpQuiet_nil ?_
  intro _ hw'
  obtain ⟨nq, hw''⟩ := hw'
  subst hw''
  obtain ⟨W1, hW1⟩ : ∃ W, (W0.drewN nq).setCell ⟨J, 7, none⟩ (.int .u64 (mx : Nat)) = W := ⟨_, rfl⟩
  have hJ1 := ((HJ.out.below ((Below.refl _ _).drewN nq)).headS (j' := { j with seq := mx }) 7 (.int .u64 (mx : Nat)) rfl rfl rfl)
  have hF1 := ((HF.out.drewN nq).setCell (p := ⟨J, 7, none⟩) HQJ.out (.int .u64 (mx : Nat)))
  have hr1 : W1.heap[R]? = some (.cells #[.int .i64 (k : Nat), .int .u64 (sq : Nat), .int .u64 (ra : Nat), .int .u64 (rb : Nat), .int .u64 (rc : Nat)] 74 (0, 0)) := by rw [← hW1]; exact (set_other (a := ⟨J, 7, none⟩) (fun e => hJR e.symm)).trans HR0.out
  rw [hW1] at hJ1 hF1
  have HJ1 := hid hJ1
  have HF1 := hid hF1
  have p0 : W1.cell? ⟨R, 0, none⟩ = some (.int .i64 (k : Nat)) := cell_at hr1 0
  have p2 : W1.cell? ⟨R, 2, none⟩ = some (.int .u64 (ra : Nat)) := cell_at hr1 2
  have p3 : W1.cell? ⟨R, 3, none⟩ = some (.int .u64 (rb : Nat)) := cell_at hr1 3
  have c1 := hJ1.c1
  have HAP := hid (show j.apply ⟨k, sq, ra, rb, rc⟩ = { j with seq := mx, m := if k = 1 then putM ra rb j.m else if k = 2 then delM ra j.m else j.m } from by unfold Jo.apply; rw [HJS.out, HMX.out])
  clear hJ1 hF1 hr1 HJ HF HR0
  by_cases hk1 : k = 1
  · subst hk1
    have HAP2 := hid (show j.apply ⟨1, sq, ra, rb, rc⟩ = { ({ j with seq := mx } : Jo) with m := putM ra rb j.m } from HAP.out)
    rw [show ((1 : Nat) : Int) = 1 from rfl] at p0
    go_upto_region 4 with (fail)
    try rw [hW1]
    refine wp_region_quiet_tail 8 (by kernel_rfl) (by kernel_rfl) ?_
    simp only [List.take_succ_cons, List.take_zero, List.drop_succ_cons, List.drop_zero]
    repeat (go_big_quiet_step (fail))
    refine wpQuiet_nil ?_
    intro _ hw'
    obtain ⟨nq2, hw''⟩ := hw'
    subst hw''
    have hJ2 := HJ1.out.below ((Below.refl _ _).drewN nq2)
    obtain ⟨es, c, hrun, hm2, hg2⟩ := hJ2.mp.upd tm_u64 hra hrb (by have := HL.out; unfold maxLen; show j.m.length < _; omega)
    have HJ3 := hid (hJ2.mapd hm2 hg2)
    have HF3 := hid ((HF1.out.drewN nq2).trans (off_of_grown hg2 (fun i e => by cases e; exact HQB.out)))
    clear hJ2 hm2 hg2
    go_wp2_with fail
    go_end0
    rw [HAP2.out]
    exact ⟨⟨_, rfl⟩, HJ3.out, HF3.out⟩
  · by_cases hk2 : k = 2
    · subst hk2
      have HAP2 := hid (show j.apply ⟨2, sq, ra, rb, rc⟩ = { ({ j with seq := mx } : Jo) with m := delM ra j.m } from HAP.out)
      rw [show ((2 : Nat) : Int) = 2 from rfl] at p0
      go_upto_region 6 with (fail)
      try rw [hW1]
      refine wp_region_quiet_tail 6 (by kernel_rfl) (by kernel_rfl) ?_
      simp only [List.take_succ_cons, List.take_zero, List.drop_succ_cons, List.drop_zero]
      repeat (go_big_quiet_step (fail))
      refine wpQuiet_nil ?_
      intro _ hw'
      obtain ⟨nq2, hw''⟩ := hw'
      subst hw''
      have hJ2 := HJ1.out.below ((Below.refl _ _).drewN nq2)
      obtain ⟨es, c, hrun, hm2, hg2⟩ := hJ2.mp.drop tm_u64 hra
      have hrun2 := hrun 0
      have HJ3 := hid (hJ2.mapd hm2 hg2)
      have HF3 := hid ((HF1.out.drewN nq2).trans (off_of_grown hg2 (fun i e => by cases e; exact HQB.out)))
      clear hJ2 hm2 hg2
      go_wp2_with fail
      go_end0
      rw [HAP2.out]
      exact ⟨⟨_, rfl⟩, HJ3.out, HF3.out⟩
    · have e1 : ((k : Int) == 1) = false := beq_eq_false_iff_ne.2 (by omega)
      have e2 : ((k : Int) == 2) = false := beq_eq_false_iff_ne.2 (by omega)
      have HAP2 := hid (show j.apply ⟨k, sq, ra, rb, rc⟩ = { j with seq := mx } from by rw [HAP.out, if_neg hk1, if_neg hk2])
      clear hk1 hk2
      go_wp2_with fail
      go_end0
      rw [HAP2.out]
      first | exact ⟨⟨_, rfl⟩, HJ1.out, HF1.out⟩ | (rw [hW1]; exact ⟨⟨_, rfl⟩, HJ1.out, HF1.out⟩)
theorem apply_any (hT : TapeAt Q w T t) (hJ : JAtC Q w J T j b rv) (r : Rec) (hr : ∀ i, r.ns i < 18446744073709551616) (hj : j.seq < 18446744073709551616) (hl : j.m.length ≤ 60000) :
    Calls Try.prog 25 #[.pointer (some ⟨J, 0, none⟩), r.val] w fun e w' => (∃ v, e = .returned v) ∧ TapeAt Q w' T t ∧ JAtC Q w' J T (j.apply r) b rv ∧ Off Q w w' := by
  have hJ' : JAtC (fun i => i < w.heap.size → i = J ∨ i = b ∨ rv.ownBlock = some i) w J T j b rv := hJ.shift (fun i hi h => ⟨rfl, fun _ => h⟩)
  refine (apply_core hJ' r hr hj hl).mono ?_
  rintro e w' ⟨h1, J2, F2⟩
  have hq : ∀ i, i < w.heap.size → (i < w.heap.size → i = J ∨ i = b ∨ rv.ownBlock = some i) → Q i := fun i hi h => by
    rcases h hi with h | h | h
    · rw [h]; exact hJ.qj
    · rw [h]; exact hJ.qb
    · exact hJ.qr _ h
  refine ⟨h1, hT.shiftT (fun i cs tt fz ht hqi hh => ⟨(F2.block i (lt_at hh) (fun h => ?_)).trans hh, hqi⟩) (fun i hi => hT.upq i (Nat.le_trans F2.size hi)), J2.shift (fun i hi h => ⟨rfl, ?_⟩), F2.imp hq⟩
  · rcases h (lt_at hh) with h | h | h
    · rw [h] at hh; exact ty_ne hh hJ.hp (fun e => by subst e; revert ht; unfold TT; decide) rfl
    · rw [h] at hh; obtain ⟨es, c, hb⟩ := hJ.mp.isMap; rw [hh] at hb; cases hb
    · rcases orec_own hJ.ro with e' | ⟨g', cu, e', hg'⟩
      · rw [e'] at h; cases h
      · rw [e'] at h; cases h; exact ty_ne hh hg' (fun e => by subst e; revert ht; unfold TT; decide) rfl
  · rcases h with h | h | h
    · rw [h]; exact hJ.qj
    · rw [h]; exact hJ.qb
    · exact hJ.qr _ h
end
end Go.Proofs.Ytkdjefnnhanhhaa
