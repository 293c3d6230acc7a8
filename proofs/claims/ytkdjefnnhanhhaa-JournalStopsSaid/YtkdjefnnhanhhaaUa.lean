/- Memory: blocks told by functions, rows of numbers, what is kept; a region whose head is quiet and whose tail is forced. No program in sight. -/
import Derived.WalkKit
import Derived.WalkSpells
import Derived.WalkLawsBesides
import Derived.BigQuiet
import Derived.Deep.QuietTactic
import Derived.StillTail
import Derived.Deep.AppendLies
import Derived.Laws.AppendOwnNone
import Derived.OpenShut
set_option linter.unusedVariables false
namespace Go.Mem
open Go.RowKit

theorem hid {p : Prop} (h : p) : Hid p := h

/-- A callee that leaves the world alone, met in a quiet region. -/
theorem quiet_eq {P : Program} {f : FuncId} {args : Array Value} {w : World} {n : Nat} {v : Value}
    (h : Calls P f args (w.drewN n) fun e w' => e = .returned v ∧ w.drewN n = w') : Calls P f args (w.drewN n) fun e w'' => e = .returned v ∧ ∃ m, w'' = w.drewN m :=
  h.mono fun _ _ ⟨he, hm⟩ => ⟨he, n, hm.symm⟩

/-! ### A quiet head, a forced tail -/
section
variable {P : Program} {ops : Array Oper} {md : Region.Mode} {C : World → Prop}

def wpAnyLQ (P : Program) (md : Region.Mode) (ops : Array Oper) (C : World → Prop) (n : Nat) (L : Array Bool → Act → Prop) : Nat → Array Bool → Act → Prop
  | 0, listed, a => L listed a
  | f + 1, listed, a =>
    Region.ready md ops listed ≠ [] ∧ ∀ i ∈ Region.ready md ops listed, i < n ∧ qOp P ops C i (wpAnyLQ P md ops C n L f (listed.setIfInBounds i true)) a

theorem wpAny_of_headQ {n g : Nat} {L : Array Bool → Act → Prop} {Q' : Exit → Act → World → Prop} (hL : ∀ listed a w, C w → L listed a → wpAny P md ops Q' g listed a w) :
    ∀ (f : Nat) (listed : Array Bool) (a : Act) (w : World), C w → wpAnyLQ P md ops C n L f listed a → wpAny P md ops Q' (f + g) listed a w
  | 0, listed, a, w, hw, h => by rw [Nat.zero_add]; exact hL _ _ _ hw h
  | f + 1, listed, a, w, hw, h => by
    rw [show f + 1 + g = (f + g) + 1 by omega]
    exact ⟨fun h0 => absurd h0 h.1, fun i hi => wpOp_of_qOp hw (fun a' w' hw' h' => wpAny_of_headQ hL f _ a' w' hw' h') (h.2 i hi).2⟩

theorem wpAnyLQ_first {n i : Nat} {oi : Oper} {v : Value} {L : Array Bool → Act → Prop} (hi : ops[i]? = some oi) (hsel : ∀ (j : Nat) (o : Oper) cs b, ops[j]? = some o → o.op ≠ .select cs b)
    (hs : Region.sinkB md ops n = true) (hc : Region.chainB md ops n = true) (hn : n < ops.size) (hin : i < n)
    (hdone : ∀ listed a, L listed a → ∀ j ∈ Region.ready md ops listed, n ≤ j) :
    ∀ (f : Nat) (listed : Array Bool) (a : Act), HeadInv md ops n listed →
      (∀ j oj, ops[j]? = some oj → j ≠ i → listed.getD j true = false → (∀ e ∈ oj.after, Region.binds md e = true → e.on ≠ i) → oi.apart ops oj = true) →
      i ∈ Region.ready md ops listed → YieldsIn P ops C oi v a →
      wpAnyLQ P md ops C n L f (listed.setIfInBounds i true) (a.put oi.dst v) → wpAnyLQ P md ops C n L (f + 1) listed a := by
  intro f
  induction f with
  | zero =>
    intro listed a inv _ hr hy H
    have hun := (mem_ready.1 hr).1
    refine ⟨fun h => (by rw [h] at hr; cases hr), fun j hj => ?_⟩
    have hjn : j < n := by
      rcases Nat.lt_or_ge j n with h | h
      · exact h
      · exact absurd hj (tail_waits hs hc hn inv _ i rfl hin hun j h)
    refine ⟨hjn, ?_⟩
    by_cases hji : j = i
    · subst hji; exact hy.qOp hi H
    · have := hdone _ _ H j (ready_mono hj hji)
      omega
  | succ f ih =>
    intro listed a inv hfree hr hy H
    have hun := (mem_ready.1 hr).1
    refine ⟨fun h => (by rw [h] at hr; cases hr), fun j hj => ?_⟩
    have hjn : j < n := by
      rcases Nat.lt_or_ge j n with h | h
      · exact h
      · exact absurd hj (tail_waits hs hc hn inv _ i rfl hin hun j h)
    refine ⟨hjn, ?_⟩
    by_cases hji : j = i
    · subst hji; exact hy.qOp hi H
    · have h1 := (H.2 j (ready_mono hj hji)).2
      obtain ⟨hjun, oj, hoj, hall⟩ := mem_ready.1 hj
      have hnot : ∀ e ∈ oj.after, Region.binds md e = true → e.on ≠ i := fun e he hb heq => by
        have h1 := hall e he hb
        rw [heq, getD_both hun] at h1
        cases h1
      have h2 := qOp_put hoj (hfree j oj hoj hji hjun hnot) (fun cs b => hsel i oi cs b hi) (fun cs b => hsel j oj cs b hoj) hy h1
      have hfree' : ∀ k ok, ops[k]? = some ok → k ≠ i → (listed.setIfInBounds j true).getD k true = false →
          (∀ e ∈ ok.after, Region.binds md e = true → e.on ≠ i) → oi.apart ops ok = true := fun k ok hk hki hun hno => by
        refine hfree k ok hk hki ?_ hno
        by_cases hjk : j = k
        · subst hjk; exact hjun
        · rw [getD_set_ne true hjk] at hun; exact hun
      refine qOp_mono (fun a' h3 => ih (listed.setIfInBounds j true) a' (inv.set hj hjn) hfree' (ready_mono hr (Ne.symm hji)) h3.1 ?_) h2
      rw [Array.setIfInBounds_comm _ _ hji]
      exact h3.2

theorem wpAnyLQ_lex {n g : Nat} {Lq : Act → Prop} (hsel : Region.noSelect ops = true) (hs : Region.sinkB md ops n = true) (hc : Region.chainB md ops n = true) (hn : n < ops.size) :
    ∀ (l : List Oper) (k : Nat) (listed : Array Bool) (a : Act), (∀ j, j < l.length → l[j]? = ops[k + j]?) → k + l.length = n → HeadInv md ops n listed →
    Region.lexHead md ops g l.length k listed = true → wpQuiet P ops C Lq l a →
    wpAnyLQ P md ops C n (fun listed' a' => Region.seqB md ops g n listed' = true ∧ Lq a') l.length listed a
  | [], k, listed, a, _, hk, _, hB, h => by
    have : k = n := by simpa using hk
    subst this
    exact ⟨by simpa [Region.lexHead] using hB, h⟩
  | o :: l, k, listed, a, hl, hk, inv, hB, h => by
    have h0 : ops[k]? = some o := by simpa using (hl 0 (by simp)).symm
    simp only [List.length_cons, Region.lexHead, Bool.and_eq_true] at hB
    obtain ⟨⟨hr, hf⟩, hB'⟩ := hB
    have hkn : k < n := by simp only [List.length_cons] at hk; omega
    have hr' : k ∈ Region.ready md ops listed := by simpa using hr
    have hst : qOp P ops C k (wpQuiet P ops C Lq l) a := by unfold qOp; simp only [h0]; exact h
    obtain ⟨v, hy, hK⟩ := yieldsIn_of_qOp h0 hst
    exact wpAnyLQ_first h0 (Region.noSelect_spec hsel) hs hc hn hkn (fun listed' a' hL => seqB_ready hL.1) l.length listed a inv (Region.free_spec h0 hf) hr' hy
      (wpAnyLQ_lex hsel hs hc hn l (k + 1) _ _ (fun j hj => by have := hl (j + 1) (by simp; omega); simpa [Nat.add_assoc, Nat.add_comm 1 j] using this) (by simp only [List.length_cons] at hk; omega) (inv.set hr' hkn) hB' hK)

/-- A region that draws its order: the first n operations only read, or call what only reads; the rest have one order. One walk, in the text's order. -/
theorem wp_region_quiet_tail {id : Nat} {Q : Exit → Act → World → Prop} {a : Act} {w : World} {l : List Oper} (n : Nat) (hm : P.follows .mixedOrders = true) (hB : Region.lexTailB .any l.toArray n = true)
    (h : wpQuiet P l.toArray (fun w' => ∃ n, w' = w.drewN n) (fun a' => ∀ w', (∃ n, w' = w.drewN n) → wpList P l.toArray Q (l.drop n) a' w') (l.take n) a) : (Code.region id l.toArray true).wp P Q a w := by
  simp only [Region.lexTailB, Bool.and_eq_true, decide_eq_true_eq] at hB
  obtain ⟨⟨⟨⟨hsel, hn⟩, hs⟩, hc⟩, hlex⟩ := hB
  have hn' : n < l.length := by simpa using hn
  have htl : (l.take n).length = n := by simp; omega
  have hdl : (l.drop n).length = l.toArray.size - n := by simp
  have inv0 : HeadInv .any l.toArray n (Array.replicate l.toArray.size false) :=
    ⟨by simp, fun j oj _ hl => (by rw [getD_replicate_false] at hl; cases hl), fun t _ ht => getD_in (by simpa using ht) (getD_replicate_false _ _)⟩
  have H := wpAnyLQ_lex (md := .any) (g := l.toArray.size - n) hsel hs hc hn (l.take n) 0 _ a (fun j hj => by
    have hj' : j < n := by rw [htl] at hj; exact hj
    simp [hj']) (by simpa using htl) inv0 (by rw [htl]; exact hlex) h
  refine wp_region_any hm ?_
  have := wpAny_of_headQ (Q' := Q) (g := l.toArray.size - n) (fun listed a' w' hw' hL => by
    have := wpAny_of_seq (md := .any) (Q' := Q) (l.drop n) n listed a' w' (fun j => by simp [List.getElem?_drop]) (by rw [hdl]; exact hL.1) (hL.2 w' hw')
    rwa [hdl] at this) _ _ _ w.drew ⟨1, rfl⟩ H
  rw [htl, show n + (l.toArray.size - n) = l.toArray.size by omega] at this
  exact this
end

/-! ### Blocks told by functions -/

/-- Cells that hold numbers. -/
def fa (k : IntKind) (n : Nat) (f : Nat → Nat) : Array Value := ((List.range n).map (fun j => Value.int k (f j : Nat))).toArray
def upd (f : Nat → Nat) (j x : Nat) : Nat → Nat := fun i => if i = j then x else f i

theorem fa_get {k : IntKind} {n : Nat} {f : Nat → Nat} {j : Nat} (h : j < n) : (fa k n f)[j]? = some (.int k (f j : Nat)) := by
  simp [fa, h]
theorem fa_none {k : IntKind} {n : Nat} {f : Nat → Nat} {j : Nat} (h : n ≤ j) : (fa k n f)[j]? = none := by
  simp [fa, h]
theorem fa_size (k : IntKind) (n : Nat) (f : Nat → Nat) : (fa k n f).size = n := by simp [fa]
theorem fa_set (k : IntKind) (n : Nat) (f : Nat → Nat) (j x : Nat) : (fa k n f).setIfInBounds j (.int k (x : Nat)) = fa k n (upd f j x) := by
  apply Array.ext_getElem?
  intro i
  rw [Array.getElem?_setIfInBounds, fa_size]
  by_cases hi : i < n
  · rw [fa_get hi, fa_get hi]
    by_cases e : j = i
    · subst e; simp [upd, hi]
    · rw [if_neg e]; simp [upd, show ¬ i = j from fun h => e h.symm]
  · rw [fa_none (by omega), fa_none (by omega)]
    by_cases e : j = i
    · subst e; simp [hi]
    · rw [if_neg e]
theorem fa_congr {k : IntKind} {n : Nat} {f g : Nat → Nat} (h : ∀ j, j < n → f j = g j) : fa k n f = fa k n g := by
  unfold fa; congr 1
  apply List.map_congr_left
  intro j hj
  rw [h j (by simpa using hj)]

theorem cell_at {w : World} {b : Nat} {cs : Array Value} {t : TypeId} {fz : Nat × Nat} (h : w.heap[b]? = some (.cells cs t fz)) (j : Nat) : w.cell? ⟨b, j, none⟩ = cs[j]? := by
  simp [World.cell?, h]
theorem free_at {w : World} {b : Nat} {cs : Array Value} {t : TypeId} (h : w.heap[b]? = some (.cells cs t (0, 0))) (j : Nat) : w.frozen? ⟨b, j, none⟩ = false := by
  simp [World.frozen?, h]
theorem lt_at {w : World} {b : Nat} {o : Obj} (h : w.heap[b]? = some o) : b < w.heap.size := (Array.getElem?_eq_some_iff.1 h).1
theorem fa_cell {w : World} {b : Nat} {k : IntKind} {n : Nat} {f : Nat → Nat} {t : TypeId} {fz : Nat × Nat} (h : w.heap[b]? = some (.cells (fa k n f) t fz)) {j : Nat} (hj : j < n) : w.cell? ⟨b, j, none⟩ = some (.int k (f j : Nat)) := by
  rw [cell_at h, fa_get hj]
theorem set_at {w : World} {b : Nat} {cs : Array Value} {t : TypeId} {fz : Nat × Nat} (h : w.heap[b]? = some (.cells cs t fz)) (j : Nat) (v : Value) : (w.setCell ⟨b, j, none⟩ v).heap[b]? = some (.cells (cs.setIfInBounds j v) t fz) := by
  simp [World.setCell, Array.getElem?_modify, h]
theorem set_other {w : World} {a : Addr} {v : Value} {b : Nat} (h : b ≠ a.block) : (w.setCell a v).heap[b]? = w.heap[b]? := Below.heap_setCell _ _ _ _ h
theorem set_fa {w : World} {b : Nat} {k : IntKind} {n : Nat} {f : Nat → Nat} {t : TypeId} {fz : Nat × Nat} (h : w.heap[b]? = some (.cells (fa k n f) t fz)) (j x : Nat) : (w.setCell ⟨b, j, none⟩ (.int k (x : Nat))).heap[b]? = some (.cells (fa k n (upd f j x)) t fz) := by
  rw [set_at h, fa_set]
theorem alloc_new (w : World) (o : Obj) : (w.alloc o).heap[w.heap.size]? = some o := heap_alloc_new w o
theorem alloc_old {w : World} {o : Obj} {b : Nat} (h : b < w.heap.size) : (w.alloc o).heap[b]? = w.heap[b]? := Below.heap_alloc _ _ _ h

/-- New cells that hold 0. -/
theorem made_fa (k : IntKind) (n : Nat) : madeCells (Value.cells (.int k 0)) (n * 1) = fa k n (fun _ => 0) := by
  apply Array.ext_getElem?
  intro i
  by_cases hi : i < n
  · rw [fa_get hi]; simp [madeCells, hi, Value.cells, Nat.mod_one]
  · rw [fa_none (by omega)]; simp [madeCells, hi]

/-- A slice that reads as a row of numbers. -/
def Rd (k : IntKind) (w : World) (v : Value) (xs : List Nat) : Prop :=
  ∃ a cap, v = .slice a xs.length cap ∧ xs.length ≤ cap ∧ cap ≤ maxLen ∧ ∀ j, j < xs.length → ∃ g o, a = some ⟨g, o, none⟩ ∧ w.cell? ⟨g, o + j, none⟩ = some (.int k ((xs.getD j 0 : Nat) : Int))
def lenOf : Value → Nat | .slice _ k _ => k | _ => 0

theorem Rd.drewN {k : IntKind} {w : World} {v : Value} {xs : List Nat} (h : Rd k w v xs) (n : Nat) : Rd k (w.drewN n) v xs := h
theorem Rd.below {k : IntKind} {w w' : World} {v : Value} {xs : List Nat} (h : Rd k w v xs) (hb : Below w.heap.size w w') : Rd k w' v xs := by
  obtain ⟨a, cap, hv, h1, h2, hc⟩ := h
  refine ⟨a, cap, hv, h1, h2, fun j hj => ?_⟩
  obtain ⟨g, o, ha, hx⟩ := hc j hj
  exact ⟨g, o, ha, by rw [hb.cell (World.block_lt_of_cell? _ _ hx)]; exact hx⟩
theorem Rd.len {k : IntKind} {w : World} {v : Value} {xs : List Nat} (h : Rd k w v xs) : xs.length ≤ 9223372036854775807 := by
  obtain ⟨a, cap, hv, h1, h2, hc⟩ := h
  unfold maxLen at h2; omega
theorem Rd.of_fa {k : IntKind} {w : World} {g n : Nat} {f : Nat → Nat} {t : TypeId} {fz : Nat × Nat} (h : w.heap[g]? = some (.cells (fa k n f) t fz)) (m cap : Nat) (hm : m ≤ n) (h1 : m ≤ cap) (h2 : cap ≤ maxLen) : Rd k w (.slice (some ⟨g, 0, none⟩) m cap) ((List.range m).map f) := by
  refine ⟨_, cap, by simp, by simpa using h1, h2, fun j hj => ⟨g, 0, rfl, ?_⟩⟩
  have hj' : j < m := by simpa using hj
  rw [Nat.zero_add, fa_cell h (by omega)]
  simp [List.getD, hj']
theorem getD_mem {xs : List Nat} {k : Nat} (h : k < xs.length) : xs.getD k 0 ∈ xs := by
  simp [List.getD, h]

theorem bits_xor_nat (k : IntKind) (j : Nat) (hj : j ≤ k.bits) (hk : ∀ n : Int, 0 ≤ n → n < 2 ^ j → k.wrap n = n) (a b : Nat) (ha : a < 2 ^ j) (hb : b < 2 ^ j) :
    bits .xor k a b = ((a ^^^ b : Nat) : Int) := by
  have hp : 2 ^ j ≤ 2 ^ k.bits := Nat.pow_le_pow_right (by decide) hj
  have ha' : a % 2 ^ k.bits = a := Nat.mod_eq_of_lt (Nat.lt_of_lt_of_le ha hp)
  have hb' : b % 2 ^ k.bits = b := Nat.mod_eq_of_lt (Nat.lt_of_lt_of_le hb hp)
  have cast : ∀ n : Nat, n < 2 ^ j → ((n : Nat) : Int) < 2 ^ j := fun n h => by exact_mod_cast h
  simp only [bits, BitVec.ofInt_natCast, BitVec.toNat_xor, BitVec.toNat_ofNat, ha', hb']
  exact hk _ (Int.natCast_nonneg _) (cast _ (Nat.xor_lt_two_pow ha hb))

theorem xor_i64 (a b : Nat) (ha : a < 4611686018427387904) (hb : b < 4611686018427387904) : bits .xor .i64 (a : Int) (b : Int) = ((a ^^^ b : Nat) : Int) :=
  bits_xor_nat .i64 62 (by decide) (fun n h0 h1 => IntWalk.i64_in n ⟨by omega, by omega⟩) a b ha hb

theorem drewN_add (w : World) (a b : Nat) : (w.drewN a).drewN b = w.drewN (a + b) := World.drewN_drewN _ _ _
theorem _root_.Go.RowKit.Below.drewN {B : Nat} {a w : World} (h : Below B a w) (n : Nat) : Below B a (w.drewN n) := ⟨h.os, h.tape, h.output, h.size, h.block⟩
theorem _root_.Go.RowKit.Below.toGrown {w w' : World} (h : Below w.heap.size w w') (r : Option Nat) : w.grownBy w' r :=
  ⟨h.os, h.tape, h.output, h.size, fun k hk _ => h.block k hk⟩
theorem grown_trans {w w1 w2 : World} {r : Option Nat} (h : w.grownBy w1 r) (h2 : w1.grownBy w2 r) : w.grownBy w2 r :=
  ⟨h2.os.trans h.os, h2.tape.trans h.tape, h2.output.trans h.output, Nat.le_trans h.size h2.size, fun k hk hr => (h2.block k (Nat.lt_of_lt_of_le hk h.size) hr).trans (h.block k hk hr)⟩
theorem _root_.Go.RowKit.Below.comp {w w1 w2 : World} (h : Below w.heap.size w w1) (h2 : Below w1.heap.size w1 w2) : Below w.heap.size w w2 :=
  h.trans (h2.mono h.size)
theorem and1_i64 (b k : Nat) (hb : b < 4611686018427387904) : bits .and .i64 ((b : Int) / 2 ^ k) 1 = if b.testBit k then 1 else 0 := by
  have e : ((b : Int) / 2 ^ k) = ((b / 2 ^ k : Nat) : Int) := by simp
  have h := (bits_nat .i64 62 (by decide) (fun n h0 h1 => IntWalk.i64_in n ⟨by omega, by omega⟩) (b / 2^k) 1 (Nat.lt_of_le_of_lt (Nat.div_le_self _ _) hb) (by decide)).1
  rw [e]
  refine Eq.trans h ?_
  rw [Nat.and_one_is_mod, Nat.testBit_eq_decide_div_mod_eq]
  have := Nat.mod_two_eq_zero_or_one (b / 2^k)
  rcases this with h | h <;> simp [h]
theorem and1_u64 (b k : Nat) (hb : b < 18446744073709551616) : bits .and .u64 ((b : Int) / 2 ^ k) 1 = if b.testBit k then 1 else 0 := by
  have e : ((b : Int) / 2 ^ k) = ((b / 2 ^ k : Nat) : Int) := by simp
  have h := bits_and_u64_nat (b / 2^k) 1 (Nat.lt_of_le_of_lt (Nat.div_le_self _ _) hb) (by decide)
  rw [e]
  refine Eq.trans h ?_
  rw [Nat.and_one_is_mod, Nat.testBit_eq_decide_div_mod_eq]
  have := Nat.mod_two_eq_zero_or_one (b / 2^k)
  rcases this with h | h <;> simp [h]
theorem or_shl_u64 (lo g I : Nat) (h1 : lo < 18446744073709551616) (h2 : g ≤ 1) (h3 : I < 64) : bits .or .u64 (lo : Int) (IntKind.u64.wrap ((g : Int) * 2 ^ I)) = ((lo ||| g * 2 ^ I : Nat) : Int) := by
  have h4 : 2 ^ I ≤ 2 ^ 63 := Nat.pow_le_pow_right (by decide) (by omega)
  have h5 : g * 2 ^ I ≤ 1 * 2 ^ I := Nat.mul_le_mul_right _ h2
  have e : ((g : Int) * 2 ^ I) = ((g * 2 ^ I : Nat) : Int) := by simp
  rw [e, IntKind.wrap_u64]
  generalize g * 2 ^ I = q at *
  rw [Int.emod_eq_of_lt (by omega) (by omega)]
  exact bits_or_u64_nat lo q h1 (by omega)
theorem and1_wrap (x k : Nat) (hx : x < 256) : bits .and .u64 (IntKind.u64.wrap ((x : Int) / 2 ^ k)) 1 = (((x.testBit k).toNat : Nat) : Int) := by
  have e0 : ((x : Int) / 2 ^ k) = ((x / 2 ^ k : Nat) : Int) := by simp
  have hle : x / 2 ^ k ≤ x := Nat.div_le_self _ _
  have e1 : IntKind.u64.wrap ((x : Int) / 2 ^ k) = (x : Int) / 2 ^ k := by
    rw [e0, IntKind.wrap_u64]
    generalize x / 2 ^ k = q at *
    exact Int.emod_eq_of_lt (by omega) (by omega)
  rw [e1, and1_u64 x k (by omega)]
  cases x.testBit k <;> rfl
theorem twice_hi (zh zl : Nat) (h1 : zl < 18446744073709551616) : bits .or .u64 (IntKind.u64.wrap ((zh : Int) * 2)) ((zl : Int) / 9223372036854775808) = (((((zh * 2) % 2^64) ||| (zl / 2^63) : Nat) : Nat) : Int) := by
  have e1 : IntKind.u64.wrap ((zh : Int) * 2) = (((zh * 2) % 2^64 : Nat) : Int) := by rw [IntKind.wrap_u64]; omega
  have e2 : ((zl : Int) / 9223372036854775808) = ((zl / 2^63 : Nat) : Int) := by omega
  rw [e1, e2]
  exact bits_or_u64_nat _ _ (by omega) (by omega)
theorem twice_lo (zl : Nat) : IntKind.u64.wrap ((zl : Int) * 2) = (((zl * 2) % 2^64 : Nat) : Int) := by
  rw [IntKind.wrap_u64]; omega
theorem neg_mask (tp : Nat) (h : tp ≤ 1) : IntKind.u64.wrap (-(tp : Int)) = ((if tp = 1 then 2^64 - 1 else 0 : Nat) : Int) := by
  rw [IntKind.wrap_u64]
  rcases (show tp = 0 ∨ tp = 1 by omega) with rfl | rfl <;> rfl
theorem bl_alloc {w a : World} (h : Below w.heap.size w a) (o : Obj) : Below w.heap.size w (a.alloc o) := h.alloc h.size o
theorem bl_drew {w a : World} (h : Below w.heap.size w a) : Below w.heap.size w a.drew := h.drew
theorem bl_drewN {w a : World} (h : Below w.heap.size w a) (n : Nat) : Below w.heap.size w (a.drewN n) := h.drewN n
theorem bl_set {w a : World} (h : Below w.heap.size w a) {p : Addr} (hp : w.heap.size ≤ p.block) (v : Value) : Below w.heap.size w (a.setCell p v) := h.setCell hp v
theorem bcell {W w1 : World} (hb : Below W.heap.size W w1) : (∀ b o, b < W.heap.size → w1.cell? ⟨b, o, none⟩ = W.cell? ⟨b, o, none⟩) ∧ (∀ b o, b < W.heap.size → w1.frozen? ⟨b, o, none⟩ = W.frozen? ⟨b, o, none⟩) :=
  ⟨fun b o h => hb.cell (p := ⟨b, o, none⟩) h, fun b o h => hb.frozen (p := ⟨b, o, none⟩) h⟩
end Go.Mem
/- Memory: a row of numbers at the head of a block, with whatever room behind it. No program in sight. -/
namespace Go.Mem
open Go.RowKit

theorem set_pair {w : World} {b : Nat} {x y x' y' : Value} {t : TypeId} {fz : Nat × Nat} (h : w.heap[b]? = some (.cells #[x, y] t fz)) : ((w.setCell ⟨b, 0, none⟩ x').setCell ⟨b, 1, none⟩ y').heap[b]? = some (.cells #[x', y'] t fz) := by
  have h1 := set_at h 0 x'
  have h2 := set_at h1 1 y'
  simpa using h2
theorem alloc_at {w : World} {o : Obj} {b : Nat} (h : b = w.heap.size) : (w.alloc o).heap[b]? = some o := by subst h; exact alloc_new _ _

/-- Block g holds n numbers, told by f, and room for cap. -/
def Ow (k : IntKind) (e : TypeId) (w : World) (g n cap : Nat) (f : Nat → Nat) : Prop :=
  ∃ cur, w.heap[g]? = some (.cells cur e (0, 0)) ∧ cur.size = cap ∧ n ≤ cap ∧ cap ≤ maxLen ∧ ∀ j, j < n → cur[j]? = some (.int k (f j : Nat))

section
variable {k : IntKind} {e : TypeId} {w : World} {g n cap : Nat} {f : Nat → Nat}
theorem Ow.cell (h : Ow k e w g n cap f) {j : Nat} (hj : j < n) : w.cell? ⟨g, j, none⟩ = some (.int k (f j : Nat)) := by
  obtain ⟨cur, h1, _, _, _, h5⟩ := h
  rw [cell_at h1]; exact h5 j hj
theorem Ow.free (h : Ow k e w g n cap f) (j : Nat) : w.frozen? ⟨g, j, none⟩ = false := by
  obtain ⟨cur, h1, _⟩ := h
  exact free_at h1 j
theorem Ow.lt (h : Ow k e w g n cap f) : g < w.heap.size := by obtain ⟨cur, h1, _⟩ := h; exact lt_at h1
theorem Ow.same {w' : World} (h : Ow k e w g n cap f) (he : w'.heap[g]? = w.heap[g]?) : Ow k e w' g n cap f := by
  obtain ⟨cur, h1, h2⟩ := h
  exact ⟨cur, he.trans h1, h2⟩
theorem Ow.set (h : Ow k e w g n cap f) (j x : Nat) : Ow k e (w.setCell ⟨g, j, none⟩ (.int k (x : Nat))) g n cap (upd f j x) := by
  obtain ⟨cur, h1, h2, h3, h4, h5⟩ := h
  refine ⟨cur.setIfInBounds j (.int k (x : Nat)), set_at h1 j _, by simpa using h2, h3, h4, fun i hi => ?_⟩
  unfold upd
  by_cases hij : i = j
  · subst hij; rw [if_pos rfl, Array.getElem?_setIfInBounds_self, if_pos (by omega)]
  · rw [if_neg hij, Array.getElem?_setIfInBounds_ne (by omega)]; exact h5 i hi
theorem Ow.congr {f' : Nat → Nat} (h : Ow k e w g n cap f) (hf : ∀ j, j < n → f j = f' j) : Ow k e w g n cap f' := by
  obtain ⟨cur, h1, h2, h3, h4, h5⟩ := h
  exact ⟨cur, h1, h2, h3, h4, fun j hj => by rw [h5 j hj, hf j hj]⟩
theorem Ow.rd (h : Ow k e w g n cap f) : Rd k w (.slice (some ⟨g, 0, none⟩) n cap) ((List.range n).map f) := by
  have hc := h
  obtain ⟨cur, h1, h2, h3, h4, h5⟩ := h
  refine ⟨some ⟨g, 0, none⟩, cap, by simp, by simpa using h3, h4, fun j hj => ⟨g, 0, rfl, ?_⟩⟩
  have hj' : j < n := by simpa using hj
  rw [Nat.zero_add, hc.cell hj']
  simp [List.getD, hj']
theorem Ow.of_fa (h : w.heap[g]? = some (.cells (fa k n f) e (0, 0))) (hn : n ≤ maxLen) : Ow k e w g n n f :=
  ⟨_, h, fa_size _ _ _, Nat.le_refl _, hn, fun _ hj => fa_get hj⟩
theorem Ow.of_owns {base m c : Nat} {xs : List Value} (h : w.ownsRow base e 1 (.slice (some ⟨g, 0, none⟩) m c) m xs) (hxs : ∀ j, j < m → xs[j]? = some (.int k (f j : Nat))) : base ≤ g ∧ m ≤ c ∧ Ow k e w g m c f := by
  obtain ⟨_, h | ⟨g', cap', cur, hv, hb, hg, h1, h2, h3, h4⟩⟩ := h
  · cases h.1
  · cases hv
    refine ⟨hb, h1, cur, hg, by omega, h1, h2, fun j hj => ?_⟩
    have := hxs j hj
    rw [← h4, List.getElem?_take] at this
    split at this
    · simpa using this
    · cases this
end
end Go.Mem
/- Memory: slices of the call's own that read as rows of numbers; append to them. No program in sight. -/
namespace Go.Mem
open Go.RowKit

/-- A slice of the call's own (nil, or made behind block B) that reads as a row of numbers. -/
def Own (k : IntKind) (e : TypeId) (B : Nat) (w : World) (v : Value) (xs : List Nat) : Prop := w.ownsRow B e 1 v xs.length (xs.map fun x => Value.int k (x : Nat))

section
variable {k : IntKind} {e : TypeId} {B : Nat} {w w' : World} {v : Value} {xs : List Nat}
theorem Own.nil (k : IntKind) (e : TypeId) (B : Nat) (w : World) : Own k e B w (.slice none 0 0) [] := World.ownsRow_nil w B e 1
theorem Own.alloc (h : Own k e B w v xs) (o : Obj) : Own k e B (w.alloc o) v xs := World.ownsRow.alloc h o
theorem Own.drewN (h : Own k e B w v xs) (n : Nat) : Own k e B (w.drewN n) v xs := h
theorem Own.kept {row : Option Nat} (h : Own k e B w v xs) (hg : w.grownBy w' row) (hne : v.ownBlock = none ∨ v.ownBlock ≠ row) : Own k e B w' v xs := World.ownsRow.kept h hg hne
theorem Own.below (h : Own k e B w v xs) (hb : Below w.heap.size w w') : Own k e B w' v xs := h.kept (hb.toGrown none) (by cases v.ownBlock <;> simp)
theorem Own.blk (h : Own k e B w v xs) : ∀ g, v.ownBlock = some g → B ≤ g ∧ g < w.heap.size := World.ownsRow.lt h
theorem Own.mono {B' : Nat} (h : Own k e B w v xs) (hb : B' ≤ B) : Own k e B' w v xs := by
  obtain ⟨h1, h2 | ⟨g, cap, cur, hv, hg, hr⟩⟩ := h
  · exact ⟨h1, .inl h2⟩
  · exact ⟨h1, .inr ⟨g, cap, cur, hv, Nat.le_trans hb hg, hr⟩⟩
theorem Own.ow (h : Own k e B w v xs) (h0 : 0 < xs.length) : ∃ g cap, v = .slice (some ⟨g, 0, none⟩) xs.length cap ∧ B ≤ g ∧ Ow k e w g xs.length cap (xs.getD · 0) := by
  have h' := h
  obtain ⟨h1, h2 | ⟨g, cap, cur, hv, hg, hr⟩⟩ := h
  · omega
  · subst hv
    refine ⟨g, cap, rfl, hg, (Ow.of_owns h' (fun j hj => ?_)).2.2⟩
    rw [List.getElem?_map, List.getElem?_eq_getElem hj]
    simp [List.getD, hj]
theorem Own.rd (h : Own k e B w v xs) : Rd k w v xs := by
  rcases Nat.eq_zero_or_pos xs.length with h0 | h0
  · obtain ⟨h1, h2 | ⟨g, cap, cur, hv, hg, h3, h4, h5, h6⟩⟩ := h
    · exact ⟨none, 0, by rw [h2.1, h0], by omega, by unfold maxLen; omega, fun j hj => by omega⟩
    · exact ⟨_, cap, hv, h4, h5, fun j hj => by omega⟩
  · obtain ⟨g, cap, hv, _, ho⟩ := h.ow h0
    have := ho.rd
    rw [hv]
    have e : (List.range xs.length).map (xs.getD · 0) = xs := by
      apply List.ext_getElem (by simp)
      intro i h1 h2
      simp [List.getD, h2]
    rwa [e] at this
theorem Own.of_ow {g n cap : Nat} {f : Nat → Nat} (h : Ow k e w g n cap f) (hb : B ≤ g) : Own k e B w (.slice (some ⟨g, 0, none⟩) n cap) ((List.range n).map f) := by
  obtain ⟨cur, h1, h2, h3, h4, h5⟩ := h
  refine ⟨by simp, .inr ⟨g, cap, cur, by simp, hb, h1, by simpa using h3, h4, by simpa using h2, ?_⟩⟩
  apply List.ext_getElem?
  intro j
  rw [Nat.mul_one, List.getElem?_take]
  by_cases hj : j < n
  · rw [if_pos (by simpa using hj)]
    have := h5 j hj
    rw [Array.getElem?_toList, this]
    simp [hj]
  · rw [if_neg (by simpa using hj), List.getElem?_eq_none (by simp; omega)]
end

/-- Slices of a kind of integers. -/
structure ElT (P : Program) (T e : TypeId) (k : IntKind) (bytes : Nat) : Prop where
  und : P.underlying T = some (.slice e)
  inf : (P.info? e).map (fun i => (i.zero, i.size, i.bytes)) = some (some (.int k 0), 1, bytes)
  small : bytes ≤ 8

section
variable {P : Program} {T e : TypeId} {k : IntKind} {bytes : Nat} {B : Nat} {w : World} {v : Value} {xs : List Nat}
variable {ops : Array Oper} {rest : List Oper} {o : Oper} {a : Act} {Q : Exit → Act → World → Prop}

theorem grown_below {w0 w w' : World} {B : Nat} {v : Value} {xs : List Nat} (h : Own k e B w v xs) (hb : Below B w0 w) (hB : B ≤ w.heap.size) (hg : w.grownBy w' v.ownBlock) : Below B w0 w' := by
  refine ⟨hg.os.trans hb.os, hg.tape.trans hb.tape, hg.output.trans hb.output, Nat.le_trans hb.size hg.size, fun i hi => (hg.block i (by omega) (fun he => ?_)).trans (hb.block i hi)⟩
  have := (h.blk i he.symm).1
  omega

/-- Four cells, and all that was there, behind a call that makes memory alone. -/
theorem keep4 {W0 W w' : World} {R : Nat} {v0 v1 v2 v3 : Value} (hb : Below W.heap.size W w') (h0 : W.cell? ⟨R, 0, none⟩ = some v0) (h1 : W.cell? ⟨R, 1, none⟩ = some v1) (h2 : W.cell? ⟨R, 2, none⟩ = some v2) (h3 : W.cell? ⟨R, 3, none⟩ = some v3)
    (hW : Below W0.heap.size W0 W) : w'.cell? ⟨R, 0, none⟩ = some v0 ∧ w'.cell? ⟨R, 1, none⟩ = some v1 ∧ w'.cell? ⟨R, 2, none⟩ = some v2 ∧ w'.cell? ⟨R, 3, none⟩ = some v3 ∧ Below W0.heap.size W0 w' :=
  ⟨(hb.cell (World.block_lt_of_cell? _ _ h0)).trans h0, (hb.cell (World.block_lt_of_cell? _ _ h1)).trans h1, (hb.cell (World.block_lt_of_cell? _ _ h2)).trans h2, (hb.cell (World.block_lt_of_cell? _ _ h3)).trans h3, hW.comp hb⟩
/-- Four cells, one after another. -/
theorem four_set {W : World} {R : Nat} {a0 a1 a2 a3 : Value} {t : TypeId} (h : W.heap[R]? = some (.cells #[a0, a1, a2, a3] t (0, 0))) (v0 v1 v2 v3 : Value) :
    (W.setCell ⟨R, 0, none⟩ v0).cell? ⟨R, 0, none⟩ = some v0 ∧ ((W.setCell ⟨R, 0, none⟩ v0).setCell ⟨R, 1, none⟩ v1).cell? ⟨R, 1, none⟩ = some v1 ∧
    (((W.setCell ⟨R, 0, none⟩ v0).setCell ⟨R, 1, none⟩ v1).setCell ⟨R, 2, none⟩ v2).cell? ⟨R, 2, none⟩ = some v2 ∧
    ((((W.setCell ⟨R, 0, none⟩ v0).setCell ⟨R, 1, none⟩ v1).setCell ⟨R, 2, none⟩ v2).setCell ⟨R, 3, none⟩ v3).cell? ⟨R, 3, none⟩ = some v3 ∧
    ((((W.setCell ⟨R, 0, none⟩ v0).setCell ⟨R, 1, none⟩ v1).setCell ⟨R, 2, none⟩ v2).setCell ⟨R, 3, none⟩ v3).heap[R]? = some (.cells #[v0, v1, v2, v3] t (0, 0)) ∧
    W.grownBy ((((W.setCell ⟨R, 0, none⟩ v0).setCell ⟨R, 1, none⟩ v1).setCell ⟨R, 2, none⟩ v2).setCell ⟨R, 3, none⟩ v3) (some R) := by
  have s0 := set_at h 0 v0
  have s1 := set_at s0 1 v1
  have s2 := set_at s1 2 v2
  have s3 := set_at s2 3 v3
  have hne : ∀ k, some k ≠ some R → k ≠ R := fun k hk e => hk (by rw [e])
  exact ⟨cell_at s0 0, cell_at s1 1, cell_at s2 2, cell_at s3 3, s3, ⟨rfl, rfl, rfl, by simp, fun k _ hk => (set_other (hne k hk)).trans ((set_other (hne k hk)).trans ((set_other (hne k hk)).trans (set_other (hne k hk))))⟩⟩
theorem fz_alloc {w : World} {o : Obj} {b j : Nat} (h : w.frozen? ⟨b, j, none⟩ = false) (hb : b < w.heap.size) : ((w.alloc o).drew).frozen? ⟨b, j, none⟩ = false := by
  refine Eq.trans ?_ h
  exact World.frozen?_of_block (a := ⟨b, j, none⟩) (alloc_old (w := w) (o := o) hb)
theorem cl_alloc {w : World} {o : Obj} {b j : Nat} {v : Value} (h : w.cell? ⟨b, j, none⟩ = some v) : ((w.alloc o).drew).cell? ⟨b, j, none⟩ = some v := by
  refine Eq.trans ?_ h
  exact World.cell?_of_block (a := ⟨b, j, none⟩) (alloc_old (w := w) (o := o) (World.block_lt_of_cell? _ _ h))
theorem grown_set (w : World) (b j : Nat) (v : Value) : w.grownBy (w.setCell ⟨b, j, none⟩ v) (some b) := ⟨rfl, rfl, rfl, by simp, fun _ _ hk => set_other (fun e => hk (by rw [e]))⟩
theorem new_cell (w : World) (v : Value) (t : TypeId) : (w.alloc (.cells #[v] t)).cell? ⟨w.heap.size, 0, none⟩ = some v := cell_at (alloc_new w _) 0
theorem grow_below {w0 w w' : World} {B : Nat} {v : Value} (hb : Below B w0 w) (hB : B ≤ w.heap.size) (hg : w.grownBy w' v.ownBlock) (hv : ∀ g, v.ownBlock = some g → B ≤ g) : Below B w0 w' := by
  refine ⟨hg.os.trans hb.os, hg.tape.trans hb.tape, hg.output.trans hb.output, Nat.le_trans hb.size hg.size, fun i hi => (hg.block i (by omega) (fun he => ?_)).trans (hb.block i hi)⟩
  have := hv i he.symm
  omega
/-- One more element. -/
theorem app_one (E : ElT P T e k bytes) (hgd : o.guard = none) (s x : Operand) (ho : o.op = .call { callee := .builtin .append, args := #[s, x], argTypes := #[T, T] })
    (B : Nat) (v : Value) (xs : List Nat) (hs : a.eval s = v) (hown : Own k e B w v xs) (ad : Addr) (c y : Nat) (hx : a.eval x = .slice (some ad) 1 c) (hcell : w.cell? ad = some (.int k (y : Nat)))
    (hlen : xs.length ≤ 1000000000) (hB : B ≤ w.heap.size)
    (h : ∀ g cap w', Own k e B w' (.slice (some ⟨g, 0, none⟩) (xs.length + 1) cap) (xs ++ [y]) → w.grownBy w' v.ownBlock → (v.ownBlock = some g ∨ g = w.heap.size) →
      wpList P ops Q rest (a.put o.dst (.slice (some ⟨g, 0, none⟩) (xs.length + 1) cap)) w') : wpList P ops Q (o :: rest) a w := by
  obtain ⟨i, hi, hz, hs', hb⟩ := info_parts E.inf
  have h8 := E.small
  refine wpList_append_lies w hgd s x T ho B e i (.int k 0) 1 bytes E.und hi hz hs' hb rfl (by decide) v xs.length _ hs hown ad 1 c [.int k (y : Nat)] hx rfl (fun j u hu => ?_) (fun u hu => by simp at hu; subst hu; rfl) (by decide) (by unfold maxLen; omega) ?_ hB _ rfl ?_
  · cases j with
    | zero =>
      simp at hu; subst hu
      have : ad.add 0 = ad := by unfold Addr.add; split <;> simp_all
      rw [this]; exact hcell
    | succ j => simp at hu
  · have : (xs.length + 1) * bytes ≤ (xs.length + 1) * 8 := Nat.mul_le_mul_left _ h8
    omega
  · intro g cap w' h2 h3 h4 _
    refine h g cap w' ?_ h3 h4
    unfold Own
    simpa using h2

/-- A row more, that is not empty. -/
theorem app_row (E : ElT P T e k bytes) (hgd : o.guard = none) (s x : Operand) (ho : o.op = .call { callee := .builtin .append, args := #[s, x], argTypes := #[T, T] })
    (B : Nat) (v : Value) (xs : List Nat) (hs : a.eval s = v) (hown : Own k e B w v xs) (ys : List Nat) (hsrc : Rd k w (a.eval x) ys) (h0 : 0 < ys.length)
    (hlen : xs.length + ys.length ≤ 1000000000) (hB : B ≤ w.heap.size)
    (h : ∀ g cap w', Own k e B w' (.slice (some ⟨g, 0, none⟩) (xs.length + ys.length) cap) (xs ++ ys) → w.grownBy w' v.ownBlock → (v.ownBlock = some g ∨ g = w.heap.size) →
      wpList P ops Q rest (a.put o.dst (.slice (some ⟨g, 0, none⟩) (xs.length + ys.length) cap)) w') : wpList P ops Q (o :: rest) a w := by
  obtain ⟨i, hi, hz, hs', hb⟩ := info_parts E.inf
  have h8 := E.small
  obtain ⟨sa, c, hx, hc1, hc2, hcell⟩ := hsrc
  obtain ⟨g0, o0, rfl, _⟩ := hcell 0 h0
  refine wpList_append_lies w hgd s x T ho B e i (.int k 0) 1 bytes E.und hi hz hs' hb rfl (by decide) v xs.length _ hs hown ⟨g0, o0, none⟩ ys.length c (ys.map fun x => Value.int k (x : Nat)) hx (by simp) (fun j u hu => ?_) (fun u hu => ?_) h0 (by unfold maxLen; omega) ?_ hB _ rfl ?_
  · have hadd : (⟨g0, o0, none⟩ : Addr).add j = ⟨g0, o0 + j, none⟩ := by unfold Addr.add; split <;> simp_all
    rw [hadd]
    rw [List.getElem?_map] at hu
    rcases Nat.lt_or_ge j ys.length with hj | hj
    · obtain ⟨g', o', he, hx'⟩ := hcell j hj
      cases he
      rw [hx']
      rw [List.getElem?_eq_getElem hj] at hu
      simp only [Option.map_some, Option.some.injEq] at hu
      rw [← hu]; simp [List.getD, hj]
    · rw [List.getElem?_eq_none hj] at hu; cases hu
  · obtain ⟨y, _, rfl⟩ := List.mem_map.1 hu
    rfl
  · have : (xs.length + ys.length) * bytes ≤ (xs.length + ys.length) * 8 := Nat.mul_le_mul_left _ h8
    omega
  · intro g cap w' h2 h3 h4 _
    refine h g cap w' ?_ h3 h4
    unfold Own
    simpa using h2

/-- Nothing more. -/
theorem app_none (E : ElT P T e k bytes) (hgd : o.guard = none) (s x : Operand) (ho : o.op = .call { callee := .builtin .append, args := #[s, x], argTypes := #[T, T] })
    (B : Nat) (v : Value) (xs : List Nat) (hs : a.eval s = v) (hown : Own k e B w v xs) (hx : a.eval x = .slice none 0 0)
    (h : wpList P ops Q rest (a.put o.dst v) w) : wpList P ops Q (o :: rest) a w := by
  obtain ⟨i, hi, hz, hs', hb⟩ := info_parts E.inf
  exact wpList_append_own_none hgd s x T ho B e i 1 E.und hi v xs.length _ hs hown hx h
end
end Go.Mem
namespace Go.Mem
open Go.RowKit
section
variable {P : Program} {T e : TypeId} {k : IntKind} {bytes : Nat} {B : Nat} {w : World} {v : Value} {xs : List Nat}
variable {ops : Array Oper} {o : Oper} {a : Act} {Q : Exit → Act → World → Prop} {K : Act → World → Prop} {E' : Prop}
/-- One more element, at a step of a region that draws. -/
theorem step_one (E : ElT P T e k bytes) (hgd : o.guard = none) (s x : Operand) (ho : o.op = .call { callee := .builtin .append, args := #[s, x], argTypes := #[T, T] })
    (B : Nat) (v : Value) (xs : List Nat) (hs : a.eval s = v) (hown : Own k e B w v xs) (ad : Addr) (c y : Nat) (hx : a.eval x = .slice (some ad) 1 c) (hcell : w.cell? ad = some (.int k (y : Nat)))
    (hlen : xs.length ≤ 1000000000) (hB : B ≤ w.heap.size)
    (h : ∀ g cap w', Own k e B w' (.slice (some ⟨g, 0, none⟩) (xs.length + 1) cap) (xs ++ [y]) → w.grownBy w' v.ownBlock → (v.ownBlock = some g ∨ g = w.heap.size) →
      K (a.put o.dst (.slice (some ⟨g, 0, none⟩) (xs.length + 1) cap)) w') : if Region.wanted o (yielded ops a.tmps) = true then Oper.wp P o a w K Q else E' := by
  obtain ⟨i, hi, hz, hs', hb⟩ := info_parts E.inf
  have h8 := E.small
  refine step_append_lies w hgd s x T ho B e i (.int k 0) 1 bytes E.und hi hz hs' hb rfl (by decide) v xs.length _ hs hown ad 1 c [.int k (y : Nat)] hx rfl (fun j u hu => ?_) (fun u hu => by simp at hu; subst hu; rfl) (by decide) (by unfold maxLen; omega) ?_ hB _ rfl ?_
  · cases j with
    | zero =>
      simp at hu; subst hu
      have : ad.add 0 = ad := by unfold Addr.add; split <;> simp_all
      rw [this]; exact hcell
    | succ j => simp at hu
  · have : (xs.length + 1) * bytes ≤ (xs.length + 1) * 8 := Nat.mul_le_mul_left _ h8
    omega
  · intro g cap w' h2 h3 h4 _
    refine h g cap w' ?_ h3 h4
    unfold Own
    simpa using h2
end
end Go.Mem
/- Slices that came in, as rows of numbers. -/
namespace Go.Mem
open Go.RowKit
/-- What the walk is told of a slice of integers that came in. -/
def IsRow (k : IntKind) (w : World) (a : Option Addr) (len cap : Nat) (zs : List Int) : Prop :=
  (a = none ∧ len = 0 ∧ cap = 0 ∧ zs = []) ∨
  ∃ x, a = some x ∧ len ≤ cap ∧ cap ≤ maxLen ∧ zs.length = cap ∧ (∀ i, i < zs.length → w.cell? (x.add i) = some (.int k (zs.getD i 0))) ∧ ∀ n ∈ zs, (Lit.int k n).wf = true

/-- Bytes that came in. -/
theorem IsRow.bytes {w : World} {a : Option Addr} {len cap : Nat} {zs : List Int} (h : IsRow .u8 w a len cap zs) : ∃ xs : List Nat, Rd .u8 w (.slice a len cap) xs ∧ xs.length = len ∧ ∀ y ∈ xs, y < 256 := by
  rcases h with ⟨rfl, rfl, rfl, rfl⟩ | ⟨x, rfl, h1, h2, h3, hc, hw⟩
  · exact ⟨[], ⟨none, 0, rfl, Nat.le_refl _, by unfold maxLen; omega, fun j hj => by simp at hj⟩, rfl, fun y hy => by simp at hy⟩
  · have hb : ∀ i, i < zs.length → 0 ≤ zs.getD i 0 ∧ zs.getD i 0 ≤ 255 := fun i hi => by
      have : zs.getD i 0 ∈ zs := by simp [List.getD, hi]
      exact bounds_u8 (hw _ this)
    refine ⟨(List.range len).map (fun i => (zs.getD i 0).toNat), ⟨some x, cap, by simp, by simpa using h1, h2, fun j hj => ?_⟩, by simp, fun y hy => ?_⟩
    · have hj' : j < len := by simpa using hj
      obtain ⟨b, o, sp⟩ := x
      have hx := hc j (by omega)
      obtain rfl : sp = none := by simpa [Addr.add] using World.cell?_spot (hc 0 (by omega))
      refine ⟨b, o, rfl, ?_⟩
      have hadd : (⟨b, o, none⟩ : Addr).add j = ⟨b, o + j, none⟩ := by unfold Addr.add; split <;> simp_all
      rw [hadd] at hx
      rw [hx]
      have := hb j (by omega)
      have e : ((List.range len).map (fun i => (zs.getD i 0).toNat)).getD j 0 = (zs.getD j 0).toNat := by simp [List.getD, hj']
      rw [e, Int.toNat_of_nonneg this.1]
    · obtain ⟨i, hi, rfl⟩ := List.mem_map.1 hy
      have := hb i (by have : i < len := by simpa using hi
                       omega)
      omega

/-- A slice that reads as a row of whole numbers. -/
def RdI (k : IntKind) (w : World) (v : Value) (zs : List Int) : Prop :=
  ∃ a cap, v = .slice a zs.length cap ∧ zs.length ≤ cap ∧ cap ≤ maxLen ∧ ∀ j, j < zs.length → ∃ g o, a = some ⟨g, o, none⟩ ∧ w.cell? ⟨g, o + j, none⟩ = some (.int k (zs.getD j 0))
theorem RdI.below {k : IntKind} {w w' : World} {v : Value} {xs : List Int} (h : RdI k w v xs) (hb : Below w.heap.size w w') : RdI k w' v xs := by
  obtain ⟨a, cap, hv, h1, h2, hc⟩ := h
  refine ⟨a, cap, hv, h1, h2, fun j hj => ?_⟩
  obtain ⟨g, o, ha, hx⟩ := hc j hj
  exact ⟨g, o, ha, by rw [hb.cell (World.block_lt_of_cell? _ _ hx)]; exact hx⟩
theorem IsRow.nums {k : IntKind} {w : World} {a : Option Addr} {len cap : Nat} {zs : List Int} (h : IsRow k w a len cap zs) : ∃ xs : List Int, RdI k w (.slice a len cap) xs ∧ xs.length = len ∧ ∀ y ∈ xs, (Lit.int k y).wf = true := by
  rcases h with ⟨rfl, rfl, rfl, rfl⟩ | ⟨x, rfl, h1, h2, h3, hc, hw⟩
  · exact ⟨[], ⟨none, 0, rfl, Nat.le_refl _, by unfold maxLen; omega, fun j hj => by simp at hj⟩, rfl, fun y hy => by simp at hy⟩
  · refine ⟨zs.take len, ⟨some x, cap, by rw [List.length_take]; congr 1; omega, by rw [List.length_take]; omega, h2, fun j hj => ?_⟩, by rw [List.length_take]; omega, fun y hy => hw y (List.mem_of_mem_take hy)⟩
    have hj' : j < len := by rw [List.length_take] at hj; omega
    obtain ⟨b, o, sp⟩ := x
    have hx := hc j (by omega)
    obtain rfl : sp = none := by simpa [Addr.add] using World.cell?_spot (hc 0 (by omega))
    refine ⟨b, o, rfl, ?_⟩
    have hadd : (⟨b, o, none⟩ : Addr).add j = ⟨b, o + j, none⟩ := by unfold Addr.add; split <;> simp_all
    rw [hadd] at hx
    rw [hx]
    congr 2
    simp only [List.getD]
    rw [List.getElem?_take_of_lt hj']
end Go.Mem
