/- The document's tape in memory. No program in sight but its types. -/
import Derived.Test.YtkdjefnnhanhhaaUh
import Derived.Test.YtkdjefnnhanhhaaUd
import Derived.Deep.AppendLies
import Derived.Outline
set_option linter.unusedVariables false
namespace Go.Proofs.Ytkdjefnnhanhhaa
open Go Go.RowKit Go.Mem
set_option linter.unusedVariables false

/-- Nothing turns but what may. -/
structure Off (Q : Nat → Prop) (w w' : World) : Prop where
  os : w'.os = w.os
  tape : w'.tape = w.tape
  output : w'.output = w.output
  size : w.heap.size ≤ w'.heap.size
  block : ∀ j, j < w.heap.size → ¬ Q j → w'.heap[j]? = w.heap[j]?
theorem Off.refl (Q : Nat → Prop) (w : World) : Off Q w w := ⟨rfl, rfl, rfl, Nat.le_refl _, fun _ _ _ => rfl⟩
section
variable {Q : Nat → Prop} {a b c w w' : World}
theorem Off.trans (h1 : Off Q a b) (h2 : Off Q b c) : Off Q a c := ⟨h2.os.trans h1.os, h2.tape.trans h1.tape, h2.output.trans h1.output, Nat.le_trans h1.size h2.size, fun j hj hq => (h2.block j (Nat.lt_of_lt_of_le hj h1.size) hq).trans (h1.block j hj hq)⟩
theorem Off.of_below (h : Below a.heap.size a b) : Off Q a b := ⟨h.os, h.tape, h.output, h.size, fun j hj _ => h.block j hj⟩
theorem Off.drew (h : Off Q a b) : Off Q a b.drew := h.trans (Off.of_below (Below.refl _ _).drew)
theorem Off.drewN (h : Off Q a b) (n : Nat) : Off Q a (b.drewN n) := h.trans (Off.of_below ((Below.refl _ _).drewN n))
theorem Off.alloc (h : Off Q a b) (o : Obj) : Off Q a (b.alloc o) := h.trans (Off.of_below ((Below.refl _ _).alloc (Nat.le_refl _) o))
theorem Off.setCell (h : Off Q a b) {p : Addr} (hp : Q p.block) (v : Value) : Off Q a (b.setCell p v) := h.trans ⟨rfl, rfl, rfl, by simp, fun j hj hq => set_other (fun e => hq (e ▸ hp))⟩
theorem off_of_grown {k : Option Nat} (hg : w.grownBy w' k) (hk : ∀ j, k = some j → Q j) : Off Q w w' := ⟨hg.os, hg.tape, hg.output, hg.size, fun j hj hq => hg.block j hj (fun e => hq (hk j e.symm))⟩
theorem Off.below (h : Off Q a b) {B : Nat} (hB : B ≤ a.heap.size) (hQ : ∀ j, j < B → ¬ Q j) : Below B a b := ⟨h.os, h.tape, h.output, h.size, fun j hj => h.block j (Nat.lt_of_lt_of_le hj hB) (hQ j hj)⟩
theorem Off.imp {Q' : Nat → Prop} (h : Off Q a b) (hQ : ∀ j, j < a.heap.size → Q j → Q' j) : Off Q' a b := ⟨h.os, h.tape, h.output, h.size, fun j hj hq => h.block j hj (fun h' => hq (hQ j hj h'))⟩
end

/-! ### A tape -/
structure Tp where
  nb : Nat
  size : Nat
  kept : Nat → List Nat
  since : Nat → List (List Nat)
  ops : Nat
  cut : Int
  half : Bool
  off : Bool
/-- An operation. -/
def Tp.step (t : Tp) : Tp := { t with ops := t.ops + 1, off := t.off || (decide (0 ≤ t.cut) && decide (t.cut < (t.ops : Int) + 1)) }
/-- A block's last bytes. -/
def Tp.last (t : Tp) (i : Nat) : List Nat := ((t.since i).getLast?).getD (t.kept i)
def Tp.cells (t : Tp) (ka sa : Option Addr) (ck cs : Nat) : Array Value :=
  #[.int .i64 (t.size : Nat), .slice ka t.nb ck, .slice sa t.nb cs, .int .i64 (t.ops : Nat), .int .i64 t.cut, .bool t.half, .bool t.off]
def upf {α : Type} (f : Nat → α) (i : Nat) (x : α) : Nat → α := fun j => if j = i then x else f j
theorem upf_same {α : Type} {f : Nat → α} {i : Nat} {x : α} : upf f i x i = x := if_pos rfl
theorem upf_other {α : Type} {f : Nat → α} {i j : Nat} {x : α} (h : j ≠ i) : upf f i x j = f j := if_neg h

/-- A row of bytes in a block of its own. -/
def RwQ (Q : Nat → Prop) (w : World) (v : Value) (xs : List Nat) : Prop :=
  ∃ g cap cur, v = .slice (some ⟨g, 0, none⟩) xs.length cap ∧ Q g ∧ w.heap[g]? = some (.cells cur 5 (0, 0)) ∧ xs.length ≤ cap ∧ cap ≤ maxLen ∧ ∀ j, j < xs.length → cur[j]? = some (.int .u8 ((xs.getD j 0 : Nat) : Int))
/-- Rows of bytes: what was written since. -/
def SnQ (Q : Nat → Prop) (w : World) (K : Nat) (v : Value) (l : List (List Nat)) : Prop :=
  ∃ vs, w.ownsRow 0 27 1 v l.length vs ∧ (∀ g, v.ownBlock = some g → Q g ∧ g ≠ K) ∧ ∀ j, j < l.length → RwQ Q w (vs.getD j undef) (l.getD j [])
/-- Bytes of a block. -/
def BytesN (n : Nat) (xs : List Nat) : Prop := xs.length = n ∧ ∀ y ∈ xs, y < 256
/-- The tape t at T. -/
structure TpC (Q : Nat → Prop) (w : World) (T : Nat) (t : Tp) (ka sa : Option Addr) (K S ck cs : Nat) (kv sv : Nat → Value) : Prop where
  hp : w.heap[T]? = some (.cells (t.cells ka sa ck cs) 30 (0, 0))
  ha : t.nb = 0 ∨ (ka = some ⟨K, 0, none⟩ ∧ sa = some ⟨S, 0, none⟩)
  hc : (t.nb ≤ ck ∧ ck ≤ maxLen) ∧ (t.nb ≤ cs ∧ cs ≤ maxLen)
  hk : 0 < t.nb → ∃ cur, w.heap[K]? = some (.cells cur 27 (0, 0)) ∧ ∀ i, i < t.nb → cur[i]? = some (kv i)
  hs : 0 < t.nb → ∃ cur, w.heap[S]? = some (.cells cur 22 (0, 0)) ∧ ∀ i, i < t.nb → cur[i]? = some (sv i)
  rk : ∀ i, i < t.nb → RwQ Q w (kv i) (t.kept i)
  rs : ∀ i, i < t.nb → SnQ Q w K (sv i) (t.since i)
  dj : ∀ i j g, i < t.nb → j < t.nb → (sv i).ownBlock = some g → (sv j).ownBlock = some g → i = j
  q : Q T ∧ (0 < t.nb → Q K ∧ Q S)
  ln : ∀ i, i < t.nb → (t.since i).length ≤ t.ops
  up : ∀ j, w.heap.size ≤ j → Q j
  fk : ∀ i, i < t.nb → BytesN t.size (t.kept i)
  fs : ∀ i, i < t.nb → ∀ x ∈ t.since i, BytesN t.size x
def TapeAt (Q : Nat → Prop) (w : World) (T : Nat) (t : Tp) : Prop := ∃ ka sa K S ck cs kv sv, TpC Q w T t ka sa K S ck cs kv sv

section
variable {Q Q' : Nat → Prop} {w w' : World} {T K S ck cs : Nat} {t : Tp} {ka sa : Option Addr} {kv sv : Nat → Value} {v : Value} {xs : List Nat} {l : List (List Nat)}
theorem RwQ.same (h : RwQ Q w v xs) (hw : ∀ j cs fz, Q j → w.heap[j]? = some (.cells cs 5 fz) → w'.heap[j]? = some (.cells cs 5 fz)) (hq : ∀ j, j < w.heap.size → Q j → Q' j) : RwQ Q' w' v xs := by
  obtain ⟨g, cap, cur, h1, h2, h3, h4⟩ := h
  exact ⟨g, cap, cur, h1, hq g (lt_at h3) h2, hw g _ _ h2 h3, h4⟩
theorem RwQ.rd (h : RwQ Q w v xs) : Rd .u8 w v xs := by
  obtain ⟨g, cap, cur, h1, h2, h3, h4, h5, h6⟩ := h
  exact ⟨_, cap, h1, h4, h5, fun j hj => ⟨g, 0, rfl, by rw [Nat.zero_add, cell_at h3]; exact h6 j hj⟩⟩
theorem RwQ.form (h : RwQ Q w v xs) : ∃ g cap, v = .slice (some ⟨g, 0, none⟩) xs.length cap ∧ g < w.heap.size := by
  obtain ⟨g, cap, cur, h1, h2, h3, h4, h5, h6⟩ := h
  exact ⟨g, cap, h1, lt_at h3⟩
theorem orow_same {n k : Nat} {e : TypeId} {u : Value} {ys : List Value} (h : w.ownsRow n e 1 u k ys) (hw : ∀ j cs, u.ownBlock = some j → w.heap[j]? = some (.cells cs e (0, 0)) → w'.heap[j]? = some (.cells cs e (0, 0))) : w'.ownsRow n e 1 u k ys := by
  refine ⟨h.1, ?_⟩
  rcases h.2 with h' | ⟨g, cap, cur, rfl, h1, h2, h3⟩
  · exact .inl h'
  · exact .inr ⟨g, cap, cur, rfl, h1, hw g _ rfl h2, h3⟩
theorem orow_lt {n k : Nat} {e : TypeId} {u : Value} {ys : List Value} (h : w.ownsRow n e 1 u k ys) {g : Nat} (hg : u.ownBlock = some g) : ∃ cs, w.heap[g]? = some (.cells cs e (0, 0)) := by
  rcases h.2 with ⟨rfl, _⟩ | ⟨g', cap, cur, rfl, h1, h2, h3⟩
  · cases hg
  · cases hg; exact ⟨_, h2⟩
theorem SnQ.same (h : SnQ Q w K v l) (hw : ∀ j cs tt fz, Q j → w.heap[j]? = some (.cells cs tt fz) → (tt = 5 ∨ (tt = 27 ∧ v.ownBlock = some j)) → w'.heap[j]? = some (.cells cs tt fz)) (hq : ∀ j, j < w.heap.size → Q j → Q' j) : SnQ Q' w' K v l := by
  obtain ⟨vs, h1, h2, h3⟩ := h
  refine ⟨vs, orow_same h1 (fun j cs hj hh => hw j cs _ _ (h2 j hj).1 hh (.inr ⟨rfl, hj⟩)), fun g hg => ?_, fun j hj => (h3 j hj).same (fun i cs fz hi hh => hw i cs _ fz hi hh (.inl rfl)) hq⟩
  obtain ⟨cs, hh⟩ := orow_lt h1 hg
  exact ⟨hq g (lt_at hh) (h2 g hg).1, (h2 g hg).2⟩
theorem TpC.shift (h : TpC Q w T t ka sa K S ck cs kv sv) (hw : ∀ j, j < w.heap.size → Q j → w'.heap[j]? = w.heap[j]?) (hq : ∀ j, j < w.heap.size → Q j → Q' j) (up : ∀ j, w'.heap.size ≤ j → Q' j) : TpC Q' w' T t ka sa K S ck cs kv sv := by
  have hw' : ∀ (j : Nat) (cs : Array Value) (tt : TypeId) (fz : Nat × Nat), Q j → w.heap[j]? = some (Obj.cells cs tt fz) → w'.heap[j]? = some (.cells cs tt fz) := fun j cs tt fz hj hh => (hw j (lt_at hh) hj).trans hh
  exact { h with
    hp := hw' _ _ _ _ h.q.1 h.hp
    hk := fun h0 => by obtain ⟨cur, h1, h2⟩ := h.hk h0; exact ⟨cur, hw' _ _ _ _ (h.q.2 h0).1 h1, h2⟩
    hs := fun h0 => by obtain ⟨cur, h1, h2⟩ := h.hs h0; exact ⟨cur, hw' _ _ _ _ (h.q.2 h0).2 h1, h2⟩
    rk := fun i hi => (h.rk i hi).same (fun j cs fz hj hh => hw' j _ _ _ hj hh) hq
    rs := fun i hi => (h.rs i hi).same (fun j cs tt fz hj hh _ => hw' j _ _ _ hj hh) hq
    q := ⟨hq _ (lt_at h.hp) h.q.1, fun h0 => ⟨by obtain ⟨cur, h1, h2⟩ := h.hk h0; exact hq _ (lt_at h1) (h.q.2 h0).1, by obtain ⟨cur, h1, h2⟩ := h.hs h0; exact hq _ (lt_at h1) (h.q.2 h0).2⟩⟩
    up := up }
theorem TapeAt.shift (h : TapeAt Q w T t) (hw : ∀ j, j < w.heap.size → Q j → w'.heap[j]? = w.heap[j]?) (hq : ∀ j, j < w.heap.size → Q j → Q' j) (up : ∀ j, w'.heap.size ≤ j → Q' j) : TapeAt Q' w' T t := by
  obtain ⟨ka, sa, K, S, ck, cs, kv, sv, h⟩ := h
  exact ⟨ka, sa, K, S, ck, cs, kv, sv, h.shift hw hq up⟩
theorem TapeAt.upq (h : TapeAt Q w T t) : ∀ j, w.heap.size ≤ j → Q j := by obtain ⟨ka, sa, K, S, ck, cs, kv, sv, h⟩ := h; exact h.up
theorem TapeAt.below (h : TapeAt Q w T t) (hb : Below w.heap.size w w') : TapeAt Q w' T t := h.shift (fun j hj _ => hb.block j hj) (fun _ _ h => h) (fun j hj => h.upq j (Nat.le_trans hb.size hj))
theorem TpC.below (h : TpC Q w T t ka sa K S ck cs kv sv) (hb : Below w.heap.size w w') : TpC Q w' T t ka sa K S ck cs kv sv := h.shift (fun j hj _ => hb.block j hj) (fun _ _ h => h) (fun j hj => h.up j (Nat.le_trans hb.size hj))
/-- The head's cells. -/
theorem TpC.c0 (h : TpC Q w T t ka sa K S ck cs kv sv) : w.cell? ⟨T, 0, none⟩ = some (.int .i64 (t.size : Nat)) := cell_at h.hp 0
theorem TpC.c1 (h : TpC Q w T t ka sa K S ck cs kv sv) : w.cell? ⟨T, 1, none⟩ = some (.slice ka t.nb ck) := cell_at h.hp 1
theorem TpC.c2 (h : TpC Q w T t ka sa K S ck cs kv sv) : w.cell? ⟨T, 2, none⟩ = some (.slice sa t.nb cs) := cell_at h.hp 2
theorem TpC.c3 (h : TpC Q w T t ka sa K S ck cs kv sv) : w.cell? ⟨T, 3, none⟩ = some (.int .i64 (t.ops : Nat)) := cell_at h.hp 3
theorem TpC.c4 (h : TpC Q w T t ka sa K S ck cs kv sv) : w.cell? ⟨T, 4, none⟩ = some (.int .i64 t.cut) := cell_at h.hp 4
theorem TpC.c5 (h : TpC Q w T t ka sa K S ck cs kv sv) : w.cell? ⟨T, 5, none⟩ = some (.bool t.half) := cell_at h.hp 5
theorem TpC.c6 (h : TpC Q w T t ka sa K S ck cs kv sv) : w.cell? ⟨T, 6, none⟩ = some (.bool t.off) := cell_at h.hp 6
theorem TpC.ff (h : TpC Q w T t ka sa K S ck cs kv sv) (j : Nat) : w.frozen? ⟨T, j, none⟩ = false := free_at h.hp j
theorem TpC.kc (h : TpC Q w T t ka sa K S ck cs kv sv) {i : Nat} (hi : i < t.nb) : w.cell? ⟨K, i, none⟩ = some (kv i) := by
  obtain ⟨cur, h1, h2⟩ := h.hk (by omega)
  rw [cell_at h1]; exact h2 i hi
theorem TpC.sc (h : TpC Q w T t ka sa K S ck cs kv sv) {i : Nat} (hi : i < t.nb) : w.cell? ⟨S, i, none⟩ = some (sv i) := by
  obtain ⟨cur, h1, h2⟩ := h.hs (by omega)
  rw [cell_at h1]; exact h2 i hi
theorem TpC.kf (h : TpC Q w T t ka sa K S ck cs kv sv) (h0 : 0 < t.nb) (j : Nat) : w.frozen? ⟨K, j, none⟩ = false := by
  obtain ⟨cur, h1, h2⟩ := h.hk h0; exact free_at h1 j
theorem TpC.sf (h : TpC Q w T t ka sa K S ck cs kv sv) (h0 : 0 < t.nb) (j : Nat) : w.frozen? ⟨S, j, none⟩ = false := by
  obtain ⟨cur, h1, h2⟩ := h.hs h0; exact free_at h1 j
theorem ty_ne {w : World} {i j : Nat} {c c' : Array Value} {t1 t2 : TypeId} {f f' : Nat × Nat} (h1 : w.heap[i]? = some (Obj.cells c t1 f)) (h2 : w.heap[j]? = some (Obj.cells c' t2 f')) (hne : t1 ≠ t2) : i ≠ j := fun e => by
  subst e
  rw [h1] at h2
  simp at h2
  exact hne h2.2.1
/-- A store into the head. -/
theorem TpC.head (h : TpC Q w T t ka sa K S ck cs kv sv) {t' : Tp} (j : Nat) (v : Value) (hcs : (t.cells ka sa ck cs).setIfInBounds j v = t'.cells ka sa ck cs) (h1 : t'.nb = t.nb) (h2 : t'.kept = t.kept) (h3 : t'.since = t.since) (h4 : t.ops ≤ t'.ops) (h5 : t'.size = t.size) :
    TpC Q (w.setCell ⟨T, j, none⟩ v) T t' ka sa K S ck cs kv sv := by
  have hw' : ∀ (i : Nat) (cs : Array Value) (tt : TypeId) (fz : Nat × Nat), w.heap[i]? = some (Obj.cells cs tt fz) → tt ≠ 30 → (w.setCell ⟨T, j, none⟩ v).heap[i]? = some (Obj.cells cs tt fz) := fun i cs tt fz hh hne => (set_other (a := ⟨T, j, none⟩) (ty_ne hh h.hp hne)).trans hh
  exact {
    hp := by have := set_at h.hp j v; rwa [hcs] at this
    ha := by rw [h1]; exact h.ha
    hc := by rw [h1]; exact h.hc
    hk := fun h0 => by rw [h1] at h0 ⊢; obtain ⟨cur, k1, k2⟩ := h.hk h0; exact ⟨cur, hw' _ _ _ _ k1 (by decide), k2⟩
    hs := fun h0 => by rw [h1] at h0 ⊢; obtain ⟨cur, k1, k2⟩ := h.hs h0; exact ⟨cur, hw' _ _ _ _ k1 (by decide), k2⟩
    rk := fun i hi => by rw [h1] at hi; rw [h2]; exact (h.rk i hi).same (fun j cs fz hj hh => hw' j _ _ _ hh (by decide)) (fun _ _ h => h)
    rs := fun i hi => by
      rw [h1] at hi; rw [h3]
      refine (h.rs i hi).same (fun j cs tt fz hj hh ht => hw' j _ _ _ hh ?_) (fun _ _ h => h)
      rcases ht with rfl | ⟨rfl, _⟩ <;> decide
    dj := by rw [h1]; exact h.dj
    q := by rw [h1]; exact h.q
    ln := fun i hi => by rw [h1] at hi; rw [h3]; exact Nat.le_trans (h.ln i hi) h4
    up := fun j hj => h.up j (by simpa using hj)
    fk := fun i hi => by rw [h1] at hi; rw [h2, h5]; exact h.fk i hi
    fs := fun i hi => by rw [h1] at hi; rw [h3, h5]; exact h.fs i hi }
end
end Go.Proofs.Ytkdjefnnhanhhaa
/- Walks over the document's tape: Blocks, Bytes, step. -/
namespace Go.Proofs.Ytkdjefnnhanhhaa
open Go Go.RowKit Go.Mem
set_option linter.unusedVariables false

set_option maxRecDepth 100000 in
set_option maxHeartbeats 3200000 in
theorem grownBy_setCell0_t (W : World) (b j : Nat) (v : Value) : W.grownBy (W.setCell ⟨b, j, none⟩ v) (some b) :=
  ⟨rfl, rfl, rfl, by simp, fun k _ hk => set_other (fun e => hk (by rw [e]))⟩
set_option maxRecDepth 100000 in
set_option maxHeartbeats 3200000 in
theorem blocks_any {T nb ck : Nat} {ka : Option Addr} {w : World} (h : w.cell? ⟨T, 1, none⟩ = some (.slice ka nb ck)) :
    Calls Try.prog 95 #[.pointer (some ⟨T, 0, none⟩)] w fun e w' => e = .returned (.int .i64 (nb : Nat)) ∧ w = w' := by
  go_enter Try.func95, Try.ntmps95
  go_wp2_with fail
  go_ret
  exact ⟨rfl, rfl⟩
set_option maxRecDepth 100000 in
set_option maxHeartbeats 3200000 in
theorem bytes_any {T n : Nat} {w : World} (h : w.cell? ⟨T, 0, none⟩ = some (.int .i64 (n : Nat))) :
    Calls Try.prog 96 #[.pointer (some ⟨T, 0, none⟩)] w fun e w' => e = .returned (.int .i64 (n : Nat)) ∧ w = w' := by
  go_enter Try.func96, Try.ntmps96
  go_wp2_with fail
  go_ret
  exact ⟨rfl, rfl⟩
theorem meth_tape (T : Nat) (w : World) : (method 247 25 (.pointer (some ⟨T, 0, none⟩)) "Blocks").run Try.prog w = .ok (95, .pointer (some ⟨T, 0, none⟩)) w := by kernel_rfl
theorem meth_bytes (T : Nat) (w : World) : (method 247 25 (.pointer (some ⟨T, 0, none⟩)) "Bytes").run Try.prog w = .ok (96, .pointer (some ⟨T, 0, none⟩)) w := by kernel_rfl
theorem meth_read (T : Nat) (w : World) : (method 247 25 (.pointer (some ⟨T, 0, none⟩)) "Read").run Try.prog w = .ok (97, .pointer (some ⟨T, 0, none⟩)) w := by kernel_rfl
theorem meth_write (T : Nat) (w : World) : (method 247 25 (.pointer (some ⟨T, 0, none⟩)) "Write").run Try.prog w = .ok (99, .pointer (some ⟨T, 0, none⟩)) w := by kernel_rfl
theorem meth_sync (T : Nat) (w : World) : (method 247 25 (.pointer (some ⟨T, 0, none⟩)) "Sync").run Try.prog w = .ok (98, .pointer (some ⟨T, 0, none⟩)) w := by kernel_rfl
def ifT (T : Nat) : Value := .iface 25 (.pointer (some ⟨T, 0, none⟩))
set_option maxRecDepth 100000 in
set_option maxHeartbeats 3200000 in
theorem size_any {T nb ck : Nat} {ka : Option Addr} {w : World} (h : w.cell? ⟨T, 1, none⟩ = some (.slice ka nb ck)) (hn : 2 ≤ nb) (hn2 : nb ≤ 1000000) :
    Calls Try.prog 24 #[ifT T] w fun e w' => e = .returned (.int .i64 ((nb - 2) / 2 : Nat)) ∧ w = w' := by
  unfold ifT
  have hm := meth_tape T
  have HB := hid (blocks_any h)
  clear h
  go_enter Try.func24, Try.ntmps24
  go_wp2_with fail
  refine HB.out.mono ?_
  rintro e w' ⟨rfl, rfl⟩
  have e2 : ((nb : Int) - 2) / 2 = (((nb - 2) / 2 : Nat) : Int) := by omega
  go_wp2_with fail
  rw [e2]
  go_ret
  exact ⟨rfl, rfl⟩
set_option maxRecDepth 100000 in
set_option maxHeartbeats 3200000 in
theorem per_any {T n : Nat} {w : World} (h : w.cell? ⟨T, 0, none⟩ = some (.int .i64 (n : Nat))) (hn : 20 ≤ n) (hn2 : n ≤ 1000000) :
    Calls Try.prog 26 #[ifT T] w fun e w' => e = .returned (.int .i64 ((n - 20) / 37 : Nat)) ∧ w = w' := by
  unfold ifT
  have hm := meth_bytes T
  have HB := hid (bytes_any h)
  clear h
  go_enter Try.func26, Try.ntmps26
  go_wp2_with fail
  refine HB.out.mono ?_
  rintro e w' ⟨rfl, rfl⟩
  have e2 : ((n : Int) - 16 - 4) / 37 = (((n - 20) / 37 : Nat) : Int) := by omega
  go_wp2_with fail
  try rw [e2]
  go_ret
  exact ⟨rfl, rfl⟩

set_option maxRecDepth 100000 in
set_option maxHeartbeats 3200000 in
theorem step_any {Q : Nat → Prop} {w : World} {T K S ck cs : Nat} {t : Tp} {ka sa : Option Addr} {kv sv : Nat → Value} (h : TpC Q w T t ka sa K S ck cs kv sv) (ho : t.ops < 5000000000000) :
    Calls Try.prog 101 #[.pointer (some ⟨T, 0, none⟩)] w fun e w' => e = .returned (.bool (!t.step.off)) ∧ TpC Q w' T t.step ka sa K S ck cs kv sv ∧ w.grownBy w' (some T) := by
  obtain ⟨W1, hW1⟩ : ∃ W, w.setCell ⟨T, 3, none⟩ (.int .i64 ((t.ops + 1 : Nat) : Int)) = W := ⟨_, rfl⟩
  have h1 : TpC Q W1 T { t with ops := t.ops + 1 } ka sa K S ck cs kv sv := by rw [← hW1]; exact h.head 3 _ rfl rfl rfl rfl (Nat.le_succ _) rfl
  have hg1 : w.grownBy W1 (some T) := by rw [← hW1]; exact grownBy_setCell0_t _ _ _ _
  have c3 := h.c3
  have f3 := h.ff 3
  have c4 := h1.c4
  have d3 := h1.c3
  have c6 := h1.c6
  have f6 := h1.ff 6
  have H1 := hid h1
  have HG1 := hid hg1
  have hW1' : w.setCell ⟨T, 3, none⟩ (.int .i64 ((t.ops : Int) + 1)) = W1 := by rw [← hW1]; rfl
  obtain ⟨op, hop⟩ : ∃ o, t.ops = o := ⟨_, rfl⟩
  obtain ⟨ct, hct⟩ : ∃ o, t.cut = o := ⟨_, rfl⟩
  obtain ⟨of, hof⟩ : ∃ o, t.off = o := ⟨_, rfl⟩
  have HS := hid (show t.step = { t with ops := op + 1, off := of || (decide (0 ≤ ct) && decide (ct < (op : Int) + 1)) } from by rw [← hop, ← hct, ← hof]; rfl)
  dsimp only at c4 d3 c6
  rw [hop] at c3 d3 ho hW1'
  rw [hct] at c4
  rw [hof] at c6
  clear h h1 hg1 hW1
  go_enter Try.func101, Try.ntmps101
  go_wp2_with fail
  by_cases h0 : 0 ≤ ct
  · have d0 : decide ((0 : Int) ≤ ct) = true := decide_eq_true h0
    by_cases h1 : ct < (op : Int) + 1
    · have d1 : decide (ct < (op : Int) + 1) = true := decide_eq_true h1
      have HS2 := hid (show t.step = { t with ops := op + 1, off := true } from by rw [HS.out, d0, d1]; simp)
      go_quiet (fail)
      go_wp2_with fail
      go_ret
      rw [HS2.out]
      subst hop hct hof
      exact ⟨rfl, (H1.out.below ((Below.refl _ _).drewN nq)).head 6 _ rfl rfl rfl rfl (Nat.le_refl _) rfl, grown_trans HG1.out (grown_trans (((Below.refl _ _).drewN nq).toGrown _) (grownBy_setCell0_t _ _ _ _))⟩
    · have d1 : decide (ct < (op : Int) + 1) = false := decide_eq_false h1
      have HS2 := hid (show t.step = { t with ops := op + 1, off := of } from by rw [HS.out, d0, d1]; simp)
      go_quiet (fail)
      go_wp2_with fail
      go_ret
      rw [HS2.out]
      subst hop hct hof
      exact ⟨rfl, H1.out.below ((Below.refl _ _).drewN nq), grown_trans HG1.out (((Below.refl _ _).drewN nq).toGrown _)⟩
  · have d0 : decide ((0 : Int) ≤ ct) = false := decide_eq_false h0
    have HS2 := hid (show t.step = { t with ops := op + 1, off := of } from by rw [HS.out, d0]; simp)
    go_quiet (fail)
    go_wp2_with fail
    go_ret
    rw [HS2.out]
    subst hop hct hof
    exact ⟨rfl, H1.out.below ((Below.refl _ _).drewN nq), grown_trans HG1.out (((Below.refl _ _).drewN nq).toGrown _)⟩
end Go.Proofs.Ytkdjefnnhanhhaa
/- Walks over the document's tape: Read. -/
namespace Go.Proofs.Ytkdjefnnhanhhaa
open Go Go.RowKit Go.Mem
set_option linter.unusedVariables false

theorem SnQ.form {Q : Nat → Prop} {w : World} {K : Nat} {v : Value} {l : List (List Nat)} (h : SnQ Q w K v l) : ∃ a c, v = .slice a l.length c ∧ l.length ≤ c ∧ c ≤ maxLen := by
  obtain ⟨vs, h1, _⟩ := h
  rcases h1.2 with ⟨rfl, h0⟩ | ⟨g, cap, cur, rfl, _, _, h3, h4, _⟩
  · exact ⟨none, 0, by rw [h0], by omega, by unfold maxLen; omega⟩
  · exact ⟨_, _, rfl, h3, h4⟩
theorem SnQ.at {Q : Nat → Prop} {w : World} {K : Nat} {v : Value} {l : List (List Nat)} (h : SnQ Q w K v l) {j : Nat} (hj : j < l.length) : ∃ g c u, v = .slice (some ⟨g, 0, none⟩) l.length c ∧ l.length ≤ c ∧ c ≤ maxLen ∧ w.cell? ⟨g, j, none⟩ = some u ∧ RwQ Q w u (l.getD j []) := by
  obtain ⟨vs, h1, h2, h3⟩ := h
  rcases h1.2 with ⟨rfl, h0⟩ | ⟨g, cap, cur, rfl, _, h4, h5, h6, h7, h8⟩
  · omega
  · have hl : vs.length = l.length * 1 := h1.1
    have hv : vs[j]? = some (vs.getD j undef) := by rw [List.getElem?_eq_getElem (by omega)]; simp [List.getD, show j < vs.length by omega]
    refine ⟨g, cap, vs.getD j undef, rfl, h5, h6, ?_, h3 j hj⟩
    rw [cell_at h4, ← hv, ← h8, List.getElem?_take, if_pos (by omega), Array.getElem?_toList]
theorem last_nil {t : Tp} {i : Nat} (h : (t.since i).length = 0) : t.last i = t.kept i := by
  unfold Tp.last; rw [List.length_eq_zero_iff.1 h]; rfl
theorem last_pos {t : Tp} {i : Nat} (h : 0 < (t.since i).length) : t.last i = (t.since i).getD ((t.since i).length - 1) [] := by
  unfold Tp.last
  rw [List.getLast?_eq_getElem?, List.getElem?_eq_getElem (by omega)]
  simp [List.getD, show (t.since i).length - 1 < (t.since i).length by omega]

set_option maxRecDepth 100000 in
set_option maxHeartbeats 3200000 in
theorem tread_any {Q : Nat → Prop} {w : World} {T K S ck cs : Nat} {t : Tp} {ka sa : Option Addr} {kv sv : Nat → Value} (h : TpC Q w T t ka sa K S ck cs kv sv) (ho : t.ops < 5000000000000) (i : Nat) (hi : i < t.nb) (hn : t.nb ≤ 1000000) (hz : 0 < t.size ∧ t.size ≤ 1000000) :
    Calls Try.prog 97 #[.pointer (some ⟨T, 0, none⟩), .int .i64 (i : Nat)] w fun e w' => ((t.step.off = true ∧ e = .returned (.tuple #[.slice none 0 0, .int .i64 40])) ∨ (t.step.off = false ∧ ∃ v, e = .returned (.tuple #[v, .int .i64 0]) ∧ Own .u8 5 w.heap.size w' v (t.last i))) ∧ TpC Q w' T t.step ka sa K S ck cs kv sv ∧ w.grownBy w' (some T) := by
  have HS := hid (step_any h ho)
  have hnbS : t.step.nb = t.nb := rfl
  obtain ⟨of, hof⟩ : ∃ o, t.step.off = o := ⟨_, rfl⟩
  obtain ⟨nb, hnb⟩ : ∃ n, t.nb = n := ⟨_, rfl⟩
  have HOF := hid hof
  have HI := hid hi
  have HNB := hid hnb
  have HHA := hid h.ha
  have HHC := hid h.hc
  have HZ := hid hz
  rw [hnb] at hi hn
  rw [hof] at HS
  clear h ho hof hnb hnbS hz
  go_enter Try.func97, Try.ntmps97
  go_wp2_with fail
  refine HS.out.mono ?_
  rintro e w1 ⟨rfl, h1, hg1⟩
  have H1 := hid h1
  have HG1 := hid hg1
  clear h1 hg1
  cases of with
  | true =>
    go_wp2_with fail
    refine bodyPost_ret (v := .tuple #[.slice none 0 0, .int .i64 40]) (by simp [results, Try.results97, go_sem]) rfl ?_
    exact ⟨.inl ⟨HOF.out, rfl⟩, H1.out, HG1.out⟩
  | false =>
    obtain ⟨rfl, rfl⟩ : ka = some ⟨K, 0, none⟩ ∧ sa = some ⟨S, 0, none⟩ := by
      rcases HHA.out with h | h
      · have := HI.out; omega
      · exact h
    have c1 : w1.cell? ⟨T, 1, none⟩ = some (.slice (some ⟨K, 0, none⟩) nb ck) := H1.out.c1.trans (by rw [← HNB.out]; rfl)
    have c2 : w1.cell? ⟨T, 2, none⟩ = some (.slice (some ⟨S, 0, none⟩) nb cs) := H1.out.c2.trans (by rw [← HNB.out]; rfl)
    have hi' : i < t.step.nb := HI.out
    have ck' := H1.out.kc hi'
    have cs' := H1.out.sc hi'
    have hk := H1.out.rk i hi'
    have hs := H1.out.rs i hi'
    obtain ⟨gk, capk, hkv, _⟩ := hk.form
    obtain ⟨asv, caps, hsv, hsc1, hsc2⟩ := hs.form
    rw [hkv] at ck'
    rw [hsv] at cs'
    have HK := hid hk
    have HSN := hid hs
    have HKV := hid hkv
    have HSV := hid hsv
    have e1 : decide ((i : Int) < 0) = false := decide_eq_false (by omega)
    have e2 : decide ((nb : Int) ≤ (i : Int)) = false := decide_eq_false (by omega)
    have e3 : (i : Int) < (nb : Int) := by omega
    have l1 := (H1.out.fk i hi').1
    obtain ⟨sl, hsl⟩ : ∃ n, (t.step.since i).length = n := ⟨_, rfl⟩
    obtain ⟨kl, hkl⟩ : ∃ n, (t.step.kept i).length = n := ⟨_, rfl⟩
    have HSL := hid hsl
    have HKL := hid hkl
    rw [hsl] at cs'
    rw [hkl] at ck'
    have hk0 : 0 < kl ∧ kl ≤ 1000000 := by rw [← hkl, l1]; exact HZ.out
    clear hk hs hkv hsv hsc1 hsl hkl l1
    by_cases h0 : sl = 0
    · have hlast := last_nil (t := t) (i := i) (HSL.out.trans h0)
      have HLA := hid hlast
      subst h0
      have hRW : RwQ Q w1 (.slice (some ⟨gk, 0, none⟩) kl capk) (t.last i) := by
        have := HK.out; rw [HKV.out, HKL.out] at this; rw [hlast]; exact this
      have HRW := hid hRW
      have hLL : (t.last i).length = kl := by rw [hlast]; exact HKL.out
      have HLL := hid hLL
      clear hlast hRW hLL
      go_wp2_with (at_builtin; refine app_row el_b8 rfl _ _ rfl w1.heap.size (.slice none 0 0) [] rfl (Own.nil _ _ _ _) (t.last i) (by exact HRW.out.rd) (by rw [HLL.out]; omega) (by rw [HLL.out]; simp; omega) (Nat.le_refl _) ?_; rw [HLL.out]; simp only [List.length_nil, Nat.zero_add, List.nil_append]; intro g7 cap7 w7 hown hgrow hat)
      have hb7 : Below w1.heap.size w1 w7 := ⟨hgrow.os, hgrow.tape, hgrow.output, hgrow.size, fun k hk => hgrow.block k hk (by simp [Value.ownBlock])⟩
      refine bodyPost_ret (v := .tuple #[.slice (some ⟨g7, 0, none⟩) kl cap7, .int .i64 0]) (by simp [results, Try.results97, go_sem]) rfl ?_
      exact ⟨.inr ⟨HOF.out, _, rfl, hown.mono HG1.out.size⟩, H1.out.below hb7, grown_trans HG1.out (hb7.toGrown _)⟩
    · have h0' : 0 < sl := by omega
      obtain ⟨gs, cp, u, hu1, hu2, hu3, hu4, hu5⟩ := HSN.out.at (j := sl - 1) (by rw [HSL.out]; omega)
      have hue := HSV.out.symm.trans hu1
      simp only [Value.slice.injEq] at hue
      obtain ⟨rfl, _, rfl⟩ := hue
      obtain ⟨gu, cu, rfl, _⟩ := hu5.form
      have hlast := last_pos (t := t) (i := i) (by show 0 < (t.step.since i).length; rw [HSL.out]; exact h0')
      have hl2 : (t.since i).length = sl := HSL.out
      rw [hl2] at hlast
      have HRW := hid (show RwQ Q w1 _ (t.last i) from by rw [hlast]; exact hu5)
      have hLL : ((t.step.since i).getD (sl - 1) []).length = t.size := by
        have hm : (t.step.since i).getD (sl - 1) [] ∈ t.step.since i := by
          rw [List.getD, List.getElem?_eq_getElem (by rw [HSL.out]; omega)]; simp
        exact (H1.out.fs i hi' _ hm).1
      obtain ⟨ul, hul⟩ : ∃ n, ((t.step.since i).getD (sl - 1) []).length = n := ⟨_, rfl⟩
      have HLL := hid (show (t.last i).length = ul from by rw [hlast]; exact hul)
      rw [hul] at HRW hLL
      have hk0 : 0 < ul ∧ ul ≤ 1000000 := by rw [hLL]; exact HZ.out
      rw [hul] at hu4
      have e4 : (0 : Int) < (sl : Int) := by omega
      obtain ⟨sm, hsm⟩ : ∃ m, sl - 1 = m := ⟨_, rfl⟩
      have e5 : (sl : Int) - 1 = (sm : Int) := by omega
      have e6 : (sm : Int) < (sl : Int) := by omega
      have e7 : IntKind.i64.wrap (sm : Int) = (sm : Int) := by exact IntWalk.i64_in _ ⟨by omega, by have := hsc2; unfold maxLen at this; have := hu2; rw [HSL.out] at this; omega⟩
      rw [hsm] at hu4
      clear hlast hu1 hu5 hl2 hLL hul hsm
      go_upto_region 8 with (fail)
      go_quiet (fail)
      go_wp2_with (at_builtin; refine app_row el_b8 rfl _ _ rfl w1.heap.size (.slice none 0 0) [] rfl (Own.nil _ _ _ _) (t.last i) (by exact HRW.out.rd) (by rw [HLL.out]; omega) (by rw [HLL.out]; simp; omega) (Nat.le_refl _) ?_; rw [HLL.out]; simp only [List.length_nil, Nat.zero_add, List.nil_append]; intro g7 cap7 w7 hown hgrow hat)
      have hb7 : Below w1.heap.size w1 w7 := ⟨hgrow.os, hgrow.tape, hgrow.output, hgrow.size, fun k hk => hgrow.block k hk (by simp [Value.ownBlock])⟩
      refine bodyPost_ret (v := .tuple #[.slice (some ⟨g7, 0, none⟩) ul cap7, .int .i64 0]) (by simp [results, Try.results97, go_sem]) rfl ?_
      exact ⟨.inr ⟨HOF.out, _, rfl, hown.mono HG1.out.size⟩, H1.out.below hb7, grown_trans HG1.out (hb7.toGrown _)⟩
end Go.Proofs.Ytkdjefnnhanhhaa
