/- The keys of map[uint64]uint64, one by one, collected, sorted. (Printed by a program out of Hk, Hl, Se.) -/
import Derived.Test.YtkdjefnnhanhhaaZJm
import Derived.Test.YtkdjefnnhanhhaaUa
import Derived.Test.YtkdjefnnhanhhaaZSt
import Derived.RangeFuncSeq
import Derived.RangeFuncGives
import Derived.RangeFuncBound
import Derived.Sort.MapsRangeIn
import Derived.Sort.KeysCollected
import Derived.WalkKit
import Derived.OwnWalkIn
import Derived.TacticsInMore
import Derived.RegionIn
import Derived.LoopNIn
import Derived.LoopIn
import Derived.Shelf.AbstractIn
import Derived.Maps.AppendAt
import Derived.Shelf.SlIter.Collect
import Derived.Shelf.SlIter.Sorted
set_option linter.unusedVariables false
namespace Go.Proofs.Ytkdjefnnhanhhaa
open Go Go.RowKit Go.Mem Go.Hs Go.Jn Go.Maps Go.Sort Go.Proofs
set_option linter.unusedVariables false

/-- The keys of a map. -/
def keysM (M : MM) : List Nat := M.map Prod.fst
theorem keys_get (M : MM) (x : Nat) : (getM M x).isSome = decide (x ∈ keysM M) := by
  induction M with
  | nil => rfl
  | cons p M ih =>
    rw [getM_cons]
    by_cases e : p.1 = x
    · rw [if_pos e]; simp [keysM, e]
    · rw [if_neg e, ih]
      have : (x ∈ keysM (p :: M)) ↔ x ∈ keysM M := by simp [keysM, show ¬ x = p.1 from fun h => e h.symm]
      simp only [this]
theorem keys_rising {M : MM} (h : RisM M) : Rising (keysM M) := List.pairwise_map.2 h
abbrev encU : Nat → Value := fun x => .int .u64 (x : Nat)
theorem encU_inj {x y : Nat} (h : encU x = encU y) : x = y := by
  simp only [encU, Value.int.injEq, true_and] at h
  omega
theorem keyOf_u64 {P : Program} {k : TypeId} (hk : P.underlying k = some (.int .u64)) {key : Value} {kl : Lit} (h : keyOf P k key = some kl) : ∃ x : Nat, key = encU x ∧ kl = keyL x := by
  cases key <;> simp [keyOf, hk, mapKey] at h
  rename_i q a
  obtain ⟨⟨rfl, hw⟩, rfl⟩ := h
  simp only [Lit.wf, Bool.and_eq_true, decide_eq_true_eq] at hw
  have h0 : (0 : Int) ≤ a := hw.1
  obtain ⟨x, rfl⟩ := Int.eq_ofNat_of_zero_le h0
  exact ⟨x, rfl, rfl⟩
theorem has_setD (M : MM) (x : Nat) : has (mD M) (keyL x) = decide (x ∈ keysM M) := by rw [has_mD, keys_get]
/-- No number twice; a number has come just where the set has it and it is no longer to come. -/
def ColU (M : MM) (left : Lit → Bool) (ss : List Nat) : Prop := ss.Nodup ∧ ∀ x, x ∈ ss ↔ (x ∈ keysM M ∧ left (keyL x) = false)
theorem ColU.start (M : MM) : ColU M (has (mD M)) [] := ⟨List.nodup_nil, fun x => by rw [has_setD]; simp⟩
theorem ColU.step {M : MM} {left : Lit → Bool} {ss : List Nat} (h : ColU M left ss) {x : Nat} {y : DataW Unit} (hlk : left (keyL x) = true) (hat : ∀ zd, (mD M).atKey (keyL x) zd = y) : ColU M (fun z => left z && !z.sameKey (keyL x)) (ss ++ [x]) := by
  have hhas : x ∈ keysM M := by
    have := has_true_of_atKey hat
    rw [has_setD] at this
    simpa using this
  have hnew : x ∉ ss := fun hx => by have := ((h.2 x).1 hx).2; rw [hlk] at this; cases this
  refine ⟨List.nodup_append.2 ⟨h.1, by simp, fun a ha b hb => by simp at hb; subst hb; exact fun e => hnew (e ▸ ha)⟩, fun y => ?_⟩
  by_cases hy : y = x
  · subst hy; simp [hhas, same_keyL]
  · simp [h.2 y, hy, same_keyL]
theorem ColU.perm {M : MM} {left : Lit → Bool} {ss : List Nat} (h : ColU M left ss) (hS : Rising (keysM M)) (hl : ∀ kl, left kl = false) : ss.Perm (keysM M) := by
  refine (List.perm_ext_iff_of_nodup h.1 (hS.imp (fun h => by omega))).2 fun x => ?_
  rw [h.2 x, hl]; simp

set_option maxRecDepth 100000 in
set_option maxHeartbeats 1000000 in
/-- The iterator: each key comes once, in some order. -/
theorem keys1_in (F : Fence) (n : Nat) (hfn : F.fn 47) (hro : F.round = none) (hn : 1 ≤ n) (l Bm b : Nat) (M : MM) (J : List Nat → World → Prop)
    (hY : ∀ pre x W, J pre W → pre.length < M.length → YieldAt F (n - 1) Try.prog l #[encU x] W fun e W' => e = .returned (.bool true) ∧ J (pre ++ [x]) W' ∧ KeepsWalks W W')
    (W : World) (hJ : AbidesFrom W.heap.size J) (hm : W.cell? ⟨Bm, 0, none⟩ = some (.map (some b))) (hown : MAt Try.prog 38 38 W b M) (h0 : J [] W) :
    CallsIn F n Try.prog 47 #[.func (.yield l) #[] #[], .pointer (some ⟨Bm, 0, none⟩)] W fun e W' => (∃ v, e = .returned v) ∧ ∃ ss : List Nat, ss.Perm (keysM M) ∧ J ss W' := by
  obtain ⟨hown, hris0, _⟩ := hown
  have hris := keys_rising hris0
  have hsz : Maps.size (mD M) = M.length := size_mD M
  refine callsIn_of_wp Try.func47 rfl hfn ?_ hro
  simp only [Try.ntmps47, List.size_toArray, List.length_cons, List.length_nil, Nat.reduceAdd, Nat.reduceSub, Array.replicate_succ, Array.replicate_zero, List.push_toArray, List.append_toArray, List.nil_append, List.cons_append]
  gi_wp2_with (first
    | (gi_at_range; refine wpListIn_range_own _ rfl _ 44 rfl 38 38 (int_keyed Try.underlying38) Try.underlying44 _ b M.length _ rfl hown ?_; intro w0 hrg0 hg0 hs0)
    | gi_in)
  go_frame
  gi_loopw [3] (fun _ wr => ∃ (left : Lit → Bool) (cnt : Nat) (ss : List Nat), wr.ranges Try.prog 38 (plainElem Try.prog 38) b W.heap.size M.length (mD M) left cnt ∧ ss.length + cnt ≤ M.length ∧ ColU M left ss ∧ J ss wr)
    (fun _ wr => wr.rangeLeft b W.heap.size)
  case atStart =>
    exact ⟨_, _, [], hrg0, by simp [hsz], ColU.start M, hJ [] W w0 none h0 hg0 (fun r e => by cases e)⟩
  case round =>
    obtain ⟨left, cnt, ss, hrg, hcs, hC, hJs⟩ := hrel
    gi_wp2_with (first
      | (gi_at_next; refine wpListIn_next_ranges _ rfl _ rfl 38 (int_keyed Try.underlying38) (plainElem Try.prog 38) encU id (fun key kl hk => by obtain ⟨x, hx, _⟩ := keyOf_u64 Try.underlying38 hk; exact ⟨x, hx⟩) (fun v _ _ => ⟨v, rfl⟩) b W.heap.size M.length _ _ _ rfl hrg ?_ ?_)
      | gi_in)
    · intro hc0 hl0
      gi_wp2
      go_end0
      exact ⟨⟨_, rfl⟩, ss, hC.perm hris hl0, hJs⟩
    · intro x c kl yd yp w2 cnt2 hkey hlk hv hat hrg2 hlt hg2 hs2 hen
      obtain ⟨x', ex, rfl⟩ := keyOf_u64 Try.underlying38 hkey
      obtain rfl : x = x' := encU_inj ex
      have hJ2 : J ss w2 := hJ ss wr w2 (some W.heap.size) hJs hg2 (fun r e => by cases e; exact ⟨Nat.le_refl _, hrg.iter_walk⟩)
      obtain ⟨fn, tmps, assign, body, hy, hR⟩ := hY ss x w2 hJ2 (by omega)
      clear hs2
      gi_wp2
      refine hR.mono ?_
      rintro e W3 ⟨rfl, hJ3, hk3⟩
      gi_wp2
      have hrg3 := hrg2.of_walks hk3
      go_roundw
      case rel => exact ⟨_, cnt2, ss ++ [x], hrg3, by simp; omega, hC.step hlk hat, hJ3⟩
      case measure => rw [hrg3.left_eq, hrg.left_eq]; exact hlt

set_option maxHeartbeats 1000000 in
theorem keys_in (F : Fence) (n : Nat) (hfn : F.fn 32) (hro : F.round = none) (mb : Option Nat) (w : World) :
    CallsIn F n Try.prog 32 #[.map mb] w fun e w' => e = .returned (.func (.func 47) #[] #[.pointer (some ⟨w.heap.size, 0, none⟩)]) ∧ w' = w.alloc (.cells #[.map mb] 44) := by
  refine callsIn_of_wp Try.func32 rfl hfn ?_ hro
  simp only [Try.ntmps32, List.size_toArray, List.length_cons, List.length_nil, Nat.reduceAdd, Nat.reduceSub, Array.replicate_succ, Array.replicate_zero, List.push_toArray, List.append_toArray, List.nil_append, List.cons_append]
  gi_wp2
  go_ret
  exact ⟨rfl, rfl⟩
theorem keys_gives (F : Fence) (n : Nat) (hfn : F.fn 47) (hro : F.round = none) (hn : 1 ≤ n) (Bm b : Nat) (M : MM) (w : World) (hBm : Bm < w.heap.size)
    (hm : w.cell? ⟨Bm, 0, none⟩ = some (.map (some b))) (hown : MAt Try.prog 38 38 w b M) :
    SeqGives F n Try.prog 47 #[.pointer (some ⟨Bm, 0, none⟩)] encU (fun ss => ss.Perm (keysM M)) M.length w := fun l J W hW hJ hY h0 =>
  keys1_in F n hfn hro hn l Bm b M J hY W hJ ((hW.cell (p := ⟨Bm, 0, none⟩) hBm).trans hm) (hown.below hW) h0
def apAssign : Code := (Code.region 2 #[{ dst := some 5, op := Op.assign (Operand.tmp 7), type := 38, pos := "iter.go:51", after := #[], guard := none }] false)
def apBody : Code := (Code.block 1 (Code.region 3 #[{ dst := some 8, op := Op.load 45 (Operand.tmp 2), type := 45, pos := "iter.go:52", after := #[], guard := none }, { dst := some 9, op := Op.move (Operand.tmp 5), type := 38, pos := "iter.go:52", after := #[], guard := none }, { dst := some 10, op := Op.buildSlice 45 1 #[(0, Operand.tmp 9)], type := 45, pos := "iter.go:52", after := #[{ on := 1, ground := Ground.data }], guard := none }, { dst := some 11, op := Op.call { callee := Callee.builtin Builtin.append, args := #[Operand.tmp 8, Operand.tmp 10], argTypes := #[45, 45] }, type := 45, pos := "iter.go:52", after := #[{ on := 0, ground := Ground.data }, { on := 2, ground := Ground.data }], guard := none }, { dst := none, op := Op.store 45 (Operand.tmp 2) (Operand.tmp 11), type := 0, pos := "iter.go:52", after := #[{ on := 3, ground := Ground.data }, { on := 3, ground := Ground.chain }, { on := 0, ground := Ground.phase }, { on := 1, ground := Ground.phase }, { on := 2, ground := Ground.phase }, { on := 3, ground := Ground.phase }], guard := none }] false))
/-- The loop's record. -/
def apRec (fn : FuncId) (sv : Value) (Bs D : Nat) (st : LoopState) (pend : Option Code) : Loop :=
  { state := st, pending := pend, fn, tmps := #[.slice none 0 0, sv, .pointer (some ⟨Bs, 0, none⟩), undef, .slice none 0 0, undef, sv, undef, undef, undef, undef, undef, undef], params := #[7], assign := apAssign, body := apBody, defers := D }
/-- Between two rounds. -/
structure ApAt (w0 : World) (fn : FuncId) (sv : Value) (Bs l D : Nat) (ss : List Nat) (W : World) : Prop where
  box : ∃ v, W.heap[Bs]? = some (.cells #[v] 45 (0, 0)) ∧ W.ownsRow w0.heap.size 38 1 v ss.length (ss.map encU) ∧ (v = .slice none 0 0 ↔ ss = [])
  L : W.heap[l]? = some (.loop (apRec fn sv Bs D .ready none))
  K : W.heap[D]? = some (.deferred (some []))
  below : Below w0.heap.size w0 W
theorem ap_abides (w0 : World) (fn : FuncId) (sv : Value) (Bs l D B : Nat) (hB : w0.heap.size ≤ B) : AbidesFrom B (ApAt w0 fn sv Bs l D) := fun s W W' row h hg hrow => by
  have hrow' : ∀ r, row = some r → ∃ o : Obj, W.heap[r]? = some o ∧ o.isWalk = true := fun r e => (hrow r e).2
  obtain ⟨v, hv, hr, hn⟩ := h.box
  exact ⟨⟨v, (grownBy_keeps hg hrow' hv rfl).trans hv, ownsRow_abides_a hr hg hrow', hn⟩, (grownBy_keeps hg hrow' h.L rfl).trans h.L, (grownBy_keeps hg hrow' h.K rfl).trans h.K,
    h.below.grown hg h.below.size (fun k e => Nat.le_trans hB (hrow k e).1)⟩
theorem info_u64 : (Try.prog.info? 38).map (fun i => (i.zero, i.size, i.bytes)) = some (some (.int .u64 0), 1, 8) := by kernel_rfl
set_option maxRecDepth 100000 in
set_option maxHeartbeats 2000000 in
theorem apYield (F : Fence) (m : Nat) (w0 : World) (fn : FuncId) (hfn : F.fn fn) (sv : Value) (Bs l D : Nat) (hBl : Bs ≠ l) (hDl : D ≠ l) (hDB : D ≠ Bs) (h0B : w0.heap.size ≤ Bs) (h0l : w0.heap.size ≤ l)
    (N : Nat) (hN : N ≤ 1000000) (ss : List Nat) (x : Nat) (W : World) (h : ApAt w0 fn sv Bs l D ss W) (hlen : ss.length < N) :
    YieldAt F m Try.prog l #[encU x] W fun e W' => e = .returned (.bool true) ∧ ApAt w0 fn sv Bs l D (ss ++ [x]) W' ∧ KeepsWalks W W' := by
  have hNm : N ≤ maxLen := by unfold maxLen; omega
  have hne : (45 : Nat) ≠ 38 := by decide
  obtain ⟨i0, hi, hz0, hz1, hz2⟩ := info_parts info_u64
  obtain ⟨v, hv, hrow, _⟩ := h.box
  refine ⟨fn, #[.slice none 0 0, sv, .pointer (some ⟨Bs, 0, none⟩), undef, .slice none 0 0, undef, sv, encU x, undef, undef, undef, undef, undef], apAssign, apBody, by simpa [apRec] using run_yield (P := Try.prog) (args := #[encU x]) h.L rfl, roundIn_of_wpIn hfn ?_⟩
  have hl : l < W.heap.size := (Array.getElem?_eq_some_iff.1 h.L).1
  have hbr := run_beginRound (P := Try.prog) h.L rfl
  obtain ⟨W2, hW2⟩ : ∃ W2, W.putObj l (.loop { apRec fn sv Bs D .ready none with state := .busy }) = W2 := ⟨_, rfl⟩
  rw [hW2] at hbr
  have hg2 : W.grownBy W2 (some l) := by rw [← hW2]; exact grownBy_putObj_a _ _ _
  have hk2 : KeepsWalks W W2 := by rw [← hW2]; exact KeepsWalks.putObj _ h.L rfl
  have hv2 : W2.heap[Bs]? = some (.cells #[v] 45 (0, 0)) := by rw [← hW2]; exact (World.putObj_heap_other hBl).trans hv
  have hK2 : W2.heap[D]? = some (.deferred (some [])) := by rw [← hW2]; exact (World.putObj_heap_other hDl).trans h.K
  have hL2 : W2.heap[l]? = some (.loop { apRec fn sv Bs D .ready none with state := .busy }) := by rw [← hW2]; exact World.putObj_heap_same hl
  have hrow2 : W2.ownsRow w0.heap.size 38 1 v ss.length (ss.map encU) := hrow.kept hg2 (ownsRow_ne_a hrow h.L (fun cur e => by first | cases e | exact hne (Obj.cells.inj e).2.1))
  have hb2 : Below w0.heap.size w0 W2 := h.below.grown hg2 h.below.size (fun k e => by cases e; exact h0l)
  obtain ⟨hc2, hf2⟩ := cell_of_box_a hv2
  have hBlt : Bs < W2.heap.size := (Array.getElem?_eq_some_iff.1 hv2).1
  have hl2 : l < W2.heap.size := (Array.getElem?_eq_some_iff.1 hL2).1
  have hDlt : D < W2.heap.size := (Array.getElem?_eq_some_iff.1 hK2).1
  have ne_of : ∀ {j : Nat} {o : Obj}, W2.heap[j]? = some o → (∀ cur, o ≠ .cells cur 38 (0, 0)) → some j ≠ v.ownBlock := fun hj hno => by
    rcases ownsRow_ne_a hrow2 hj hno with e | e
    · rw [e]; simp
    · exact fun e' => e e'.symm
  clear hW2
  unfold apAssign
  gi_wp2_with gi_round_op_a
  unfold apBody
  gi_wp2_with (first
    | (gi_at_builtin; refine wpListIn_append_own _ rfl _ _ 45 rfl w0.heap.size 38 i0 (.int .u64 0) 1 8 Try.underlying45 hi hz0 hz1 hz2 rfl (by decide) _ _ _ rfl (hrow2.alloc _) ⟨W2.heap.size, 0, none⟩ 1 1 [encU x] rfl rfl (cell_one_new _ _ _) (by simp [Value.oneCell', encU]) (by omega) (by omega) (by have := hb2.size; simp; omega) ?_; intro v' w3 hown' hg3 hnil3
       have hv3 : w3.heap[Bs]? = some (.cells #[v] 45 (0, 0)) := (hg3.block Bs (by simp; omega) (ne_of hv2 (fun cur e => by first | cases e | exact hne (Obj.cells.inj e).2.1))).trans ((Below.heap_alloc _ _ Bs hBlt).trans hv2)
       obtain ⟨hc3, hf3⟩ := cell_of_box_a hv3
       obtain ⟨g', cap', cur', rfl, hbase', hgb', hr1, hr2, hr3, hr4⟩ : ∃ g' cap' cur', v' = .slice (some ⟨g', 0, none⟩) (ss.length + 1) cap' ∧ w0.heap.size ≤ g' ∧ w3.heap[g']? = some (.cells cur' 38 (0, 0)) ∧ ss.length + 1 ≤ cap' ∧ cap' ≤ maxLen ∧ cur'.size = cap' * 1 ∧ cur'.toList.take ((ss.length + 1) * 1) = ss.map encU ++ [encU x] := by
         rcases hown'.2 with ⟨_, h0⟩ | h'
         · exact absurd h0 (by omega)
         · exact h'
       go_frame)
    | gi_round_op_a)
  have hg3' : (W2.alloc (.cells #[encU x] 38)).grownBy w3 v.ownBlock := hg3
  have hL3 : w3.heap[l]? = some (.loop { apRec fn sv Bs D .ready none with state := .busy }) := (hg3'.block l (by simp; omega) (ne_of hL2 (fun cur e => by first | cases e | exact hne (Obj.cells.inj e).2.1))).trans ((Below.heap_alloc _ _ l hl2).trans hL2)
  have hK3 : w3.heap[D]? = some (.deferred (some [])) := (hg3'.block D (by simp; omega) (ne_of hK2 (fun cur e => by first | cases e | exact hne (Obj.cells.inj e).2.1))).trans ((Below.heap_alloc _ _ D hDlt).trans hK2)
  obtain ⟨w4, hw4⟩ : ∃ w4, w3.setCell ⟨Bs, 0, none⟩ (.slice (some ⟨g', 0, none⟩) (ss.length + 1) cap') = w4 := ⟨_, rfl⟩
  rw [hw4]
  have hg4 : w3.grownBy w4 (some Bs) := by rw [← hw4]; exact grownBy_setCell0_a _ _ _
  have hv4 : w4.heap[Bs]? = some (.cells #[.slice (some ⟨g', 0, none⟩) (ss.length + 1) cap'] 45 (0, 0)) := by rw [← hw4]; exact heap_setCell_box_a _ hv3
  have hL4 : w4.heap[l]? = some (.loop { apRec fn sv Bs D .ready none with state := .busy }) := (hg4.block l (Array.getElem?_eq_some_iff.1 hL3).1 (fun e => hBl (by cases e; rfl))).trans hL3
  have hK4 : w4.heap[D]? = some (.deferred (some [])) := (hg4.block D (Array.getElem?_eq_some_iff.1 hK3).1 (fun e => hDB (by cases e; rfl))).trans hK3
  have hrow4 := hown'.kept hg4 (ownsRow_ne_a hown' hv3 (fun cur e => by first | cases e | exact hne (Obj.cells.inj e).2.1))
  have hl4 : l < w4.heap.size := (Array.getElem?_eq_some_iff.1 hL4).1
  have hb3 : Below w0.heap.size w0 w3 := (hb2.alloc hb2.size _).grown hg3' (by have := hb2.size; simp; omega) (fun k e => (hrow2.lt k e).1)
  have hb4 : Below w0.heap.size w0 w4 := hb3.grown hg4 hb3.size (fun k e => by cases e; exact h0B)
  have hk4 : KeepsWalks W w4 := ((hk2.trans (KeepsWalks.alloc _ _)).trans (KeepsWalks.of_grownBy hg3' (ownsRow_not_walk_a (hrow2.alloc _)))).trans (by rw [← hw4]; exact KeepsWalks.setCell _ _ _)
  clear hw4
  refine ⟨_, _, run_endRound none hL4, rfl, ⟨⟨_, (World.putObj_heap_other hBl).trans hv4, ?_, by simp⟩, World.putObj_heap_same hl4, (World.putObj_heap_other hDl).trans hK4, hb4.grown (grownBy_putObj_a _ _ _) hb4.size (fun k e => by cases e; exact h0l)⟩, hk4.trans (KeepsWalks.putObj _ hL4 rfl)⟩
  have := hrow4.kept (grownBy_putObj_a w4 l (.loop { { apRec fn sv Bs D .ready none with state := .busy } with state := if (none : Option Code).isNone then .ready else .done, pending := none })) (ownsRow_ne_a hrow4 hL4 (fun cur e => by first | cases e | exact hne (Obj.cells.inj e).2.1))
  simpa using this

set_option maxRecDepth 100000 in
set_option maxHeartbeats 2000000 in
theorem appendSeq_in (F : Fence) (n : Nat) (hfn0 : F.fn 56) (hro : F.round = none) (hn : 2 ≤ n) (g : Nat) (lb : Array Value) (hFg : F.fn g) (eg : ∀ args w, (callFunc g args).run Try.prog w = .ok (.enter g args) w)
    (S : List Nat → Prop) (N : Nat) (hN : N ≤ 1000000) (w : World) (hseq : SeqGives F (n - 1) Try.prog g lb encU S N w) :
    CallsIn F n Try.prog 56 #[.slice none 0 0, .func (.func g) #[] lb] w fun e w' => ∃ (v : Value) (ss : List Nat), e = .returned v ∧ S ss ∧ w'.ownsRow w.heap.size 38 1 v ss.length (ss.map encU) ∧ (v = .slice none 0 0 ↔ ss = []) ∧ Below w.heap.size w w' := by
  have h1 : 1 ≤ n := by omega
  have hne : (45 : Nat) ≠ 38 := by decide
  refine callsIn_of_wp_marks Try.func56 rfl hfn0 ?_ hro
  simp only [Try.ntmps56, List.size_toArray, List.length_cons, List.length_nil, Nat.reduceAdd, Nat.reduceSub, Array.replicate_succ, Array.replicate_zero, List.push_toArray, List.append_toArray, List.nil_append, List.cons_append]
  gi_wp2
  refine wpIn_rangeFunc ?_
  intro fn hfn
  rw [hro]
  obtain ⟨W0, hW0⟩ : ∃ W0, w.alloc (.cells #[.slice none 0 0] 45) = W0 := ⟨_, rfl⟩
  have hs0 : W0.heap.size = w.heap.size + 1 := by rw [← hW0]; simp
  have hv0 : W0.heap[w.heap.size]? = some (.cells #[.slice none 0 0] 45 (0, 0)) := by rw [← hW0]; exact World.alloc_heap_new w _
  have hb0 : Below w.heap.size w W0 := by rw [← hW0]; exact (Below.refl _ w).alloc (Nat.le_refl _) _
  rw [hW0]
  obtain ⟨W1, hW1⟩ : ∃ W1, (W0.alloc (.deferred (some []))).alloc (.loop (apRec fn (.func (.func g) #[] lb) w.heap.size W0.heap.size .ready none)) = W1 := ⟨_, rfl⟩
  have hold : ∀ k, k < W0.heap.size → W1.heap[k]? = W0.heap[k]? := fun k hk => by
    rw [← hW1]; exact (Below.heap_alloc _ _ k (by simp; omega)).trans (Below.heap_alloc _ _ k hk)
  have hb1 : Below w.heap.size w W1 := by rw [← hW1]; exact (hb0.alloc hb0.size _).alloc (by have := hb0.size; simp; omega) _
  have hs1 : W1.heap.size = W0.heap.size + 2 := by rw [← hW1]; simp
  have hM : ApAt w fn (.func (.func g) #[] lb) w.heap.size (W0.heap.size + 1) W0.heap.size [] W1 :=
    ⟨⟨_, (hold w.heap.size (by omega)).trans hv0, ⟨rfl, .inl ⟨rfl, rfl⟩⟩, by simp⟩,
     by rw [← hW1]; have := World.alloc_heap_new (W0.alloc (.deferred (some []))) (.loop (apRec fn (.func (.func g) #[] lb) w.heap.size W0.heap.size .ready none)); rwa [World.size_alloc] at this,
     by rw [← hW1]; exact (Below.heap_alloc _ _ _ (by simp)).trans (World.alloc_heap_new W0 _), hb1⟩
  refine ⟨W0.heap.size + 1, [{ target := .collected W0.heap.size, args := #[] }], W1, { target := .fn (.func g) lb, args := #[.func (.yield (W0.heap.size + 1)) #[] #[]] }, W1, g,
    #[.func (.yield (W0.heap.size + 1)) #[] #[]] ++ lb, W1, ?_, ?_, ?_, ?_, fun _ => h1, ?_⟩
  · rw [← hW1]; exact run_enterLoop_outer _ _ _ _ _
  · simp [resolve, go_sem]
  · intro f' hf'; simp [Target.leads] at hf'; subst hf'; exact hFg
  · simp [invoke, go_sem, eg]
  · refine (hseq (W0.heap.size + 1) (ApAt w fn (.func (.func g) #[] lb) w.heap.size (W0.heap.size + 1) W0.heap.size) W1 hb1 (ap_abides _ _ _ _ _ _ _ hb1.size)
      (fun pre x W hJ hl => apYield F (n - 1 - 1) w fn hfn _ w.heap.size (W0.heap.size + 1) W0.heap.size (by omega) (by omega) (by omega) (Nat.le_refl _) (by omega) N hN pre x W hJ hl) hM).mono ?_
    rintro e W2 ⟨⟨v0, rfl⟩, ss, hS, h2⟩
    obtain ⟨v, hv, hrow, hnil⟩ := h2.box
    have hend := run_endLoop (P := Try.prog) h2.L (by simp [apRec])
    obtain ⟨W3, hW3⟩ : ∃ W3, W2.putObj (W0.heap.size + 1) (.loop { apRec fn (.func (.func g) #[] lb) w.heap.size W0.heap.size .ready none with state := .exhausted }) = W3 := ⟨_, rfl⟩
    rw [hW3] at hend
    have hg3 : W2.grownBy W3 (some (W0.heap.size + 1)) := by rw [← hW3]; exact grownBy_putObj_a _ _ _
    have hv3 : W3.heap[w.heap.size]? = some (.cells #[v] 45 (0, 0)) := by rw [← hW3]; exact (World.putObj_heap_other (by omega)).trans hv
    have hK3 : W3.heap[W0.heap.size]? = some (.deferred (some [])) := by rw [← hW3]; exact (World.putObj_heap_other (by omega)).trans h2.K
    have hrow3 := hrow.kept hg3 (ownsRow_ne_a hrow h2.L (fun cur e => by first | cases e | exact hne (Obj.cells.inj e).2.1))
    have hb3 : Below w.heap.size w W3 := h2.below.grown hg3 h2.below.size (fun k e => by cases e; omega)
    obtain ⟨hc3, hf3⟩ := cell_of_box_a hv3
    clear hW3
    refine ⟨none, W3, hend, ?_⟩
    gi_wp2
    rw [← hs0]
    refine ⟨by simp, .inl ⟨_, _, rfl, run_takeDeferred hK3, ?_⟩⟩
    exact ⟨_, results_tmp rfl _ _ _, v, ss, rfl, hS, hrow3.kept (grownBy_putObj_a _ _ _) (ownsRow_ne_a hrow3 hK3 (fun cur e => by first | cases e | exact hne (Obj.cells.inj e).2.1)), hnil, hb3.grown (grownBy_putObj_a _ _ _) hb3.size (fun k e => by cases e; omega)⟩

set_option maxHeartbeats 1000000 in
theorem collect_in (F : Fence) (n : Nat) (h8 : F.fn 45) (h11 : F.fn 56) (hro : F.round = none) (hn : 3 ≤ n) (g : Nat) (lb : Array Value) (hFg : F.fn g) (eg : ∀ args w, (callFunc g args).run Try.prog w = .ok (.enter g args) w)
    (S : List Nat → Prop) (N : Nat) (hN : N ≤ 1000000) (w : World) (hseq : SeqGives F (n - 1 - 1) Try.prog g lb encU S N w) :
    CallsIn F n Try.prog 45 #[.func (.func g) #[] lb] w fun e w' => ∃ (v : Value) (ss : List Nat), e = .returned v ∧ S ss ∧ w'.ownsRow w.heap.size 38 1 v ss.length (ss.map encU) ∧ (v = .slice none 0 0 ↔ ss = []) ∧ Below w.heap.size w w' := by
  have h1 : 1 ≤ n := by omega
  refine callsIn_of_wp Try.func45 rfl h8 ?_ hro
  simp only [Try.ntmps45, List.size_toArray, List.length_cons, List.length_nil, Nat.reduceAdd, Nat.reduceSub, Array.replicate_succ, Array.replicate_zero, List.push_toArray, List.append_toArray, List.nil_append, List.cons_append]
  gi_wp2_with (gi_at_call 56; refine (appendSeq_in F (n - 1) h11 hro (by omega) g lb hFg eg S N hN _ hseq).mono ?_; rintro e w' ⟨v, ss, rfl, hS, hrow, hnil, hb⟩)
  go_ret
  exact ⟨v, ss, rfl, hS, hrow, hnil, hb⟩
theorem ow_own {k : IntKind} {e : TypeId} {B : Nat} {w : World} {g n cap : Nat} {f : Nat → Nat} {xs : List Nat} (h : Ow k e w g n cap f) (hB : B ≤ g) (hl : xs.length = n) (hx : ∀ j, j < n → xs[j]? = some (f j)) : Own k e B w (.slice (some ⟨g, 0, none⟩) n cap) xs := by
  obtain ⟨cur, h1, h2, h3, h4, h5⟩ := h
  subst hl
  refine ⟨by simp, .inr ⟨g, cap, cur, rfl, hB, h1, h3, h4, by omega, ?_⟩⟩
  apply List.ext_getElem?
  intro j
  rw [List.getElem?_take, Nat.mul_one]
  by_cases hj : j < xs.length
  · rw [if_pos hj, Array.getElem?_toList, h5 j hj, List.getElem?_map, hx j hj]; rfl
  · rw [if_neg hj, List.getElem?_eq_none (by simpa using hj)]
set_option maxRecDepth 100000 in
set_option maxHeartbeats 3200000 in
theorem sorted_any (N : Nat) (hok : SortOk N) (hN : N ≤ 1000000) (S : List Nat) (hS : Rising S) (h0 : S ≠ []) (hl : S.length ≤ N) (g : Nat) (lb : Array Value) (eg : ∀ args w, (callFunc g args).run Try.prog w = .ok (.enter g args) w) (w : World) (hseq : SeqGives Fence.wide 2 Try.prog g lb encU (fun ss => ss.Perm S) S.length w) :
    CallsIn Fence.wide 5 Try.prog 31 #[.func (.func g) #[] lb] w fun e w' => (∃ v, e = .returned v ∧ Own .u64 38 w.heap.size w' v S) ∧ Below w.heap.size w w' := by
  have hfC : Fence.wide.fn 45 := trivial
  have hfS : Fence.wide.fn 46 := trivial
  refine callsIn_of_wp Try.func31 rfl trivial ?_ rfl
  simp only [Try.ntmps31, List.size_toArray, List.length_cons, List.length_nil, Nat.reduceAdd, Nat.reduceSub, Array.replicate_succ, Array.replicate_zero, List.push_toArray, List.append_toArray, List.nil_append, List.cons_append]
  gi_wp2_with (gi_at_call 45; refine (collect_in Fence.wide 4 trivial trivial rfl (by omega) g lb trivial eg _ S.length (by omega) _ hseq).mono ?_; rintro e W ⟨v, ss, rfl, hP, hrow, hnil, hb⟩)
  have hsl : ss.length = S.length := hP.length_eq
  have hS1 : 0 < S.length := List.length_pos_iff.2 h0
  obtain ⟨g1, cap, rfl⟩ : ∃ g1 cap, v = .slice (some ⟨g1, 0, none⟩) ss.length cap := by
    rcases hrow.2 with ⟨_, hz⟩ | ⟨g1, cap, cur, rfl, _⟩
    · omega
    · exact ⟨g1, cap, rfl⟩
  obtain ⟨hbase, _, how⟩ := Ow.of_owns (k := .u64) (f := fun j => ss.toArray[j]!) hrow (fun j hj => by rw [List.getElem?_map, List.getElem?_eq_getElem hj, getElem!_pos ss.toArray j (by simpa using hj)]; rfl)
  have hR : RwU W g1 cap ss.toArray := by unfold RwU; simpa using how
  have cS := hok g1 cap ss.toArray W hR (by simp; omega)
  have cS' := (callsIn_wide (n := 4)).2 cS
  rw [show ss.toArray.size = ss.length by simp] at cS'
  clear cS hnil hrow how
  gi_wp2_with (gi_at_call 46; refine cS'.mono ?_; rintro e w' ⟨rfl, d', h1, h2, h3, h4⟩)
  go_ret
  have he := sorted_eq h2 h3 (by simpa using hP) hS
  have hz : d'.size = S.length := by rw [h2.1]; simpa using hsl
  have h1' : Ow .u64 38 w' g1 d'.size cap (fun j => d'[j]!) := h1
  rw [hz] at h1'
  refine ⟨⟨_, rfl, ow_own h1' hbase rfl (fun j hj => ?_)⟩, ?_⟩
  · have hj' : j < d'.size := by omega
    rw [← he, Array.getElem?_toList, Array.getElem?_eq_getElem hj', getElem!_pos d' j hj']
  · exact hb.grown h4 hb.size (fun k e => by cases e; exact hbase)

end Go.Proofs.Ytkdjefnnhanhhaa
/- The keys of a map of numbers, sorted: also of an empty one. -/
namespace Go.Proofs.Ytkdjefnnhanhhaa
open Go Go.RowKit Go.Mem Go.Hs Go.Jn Go.Maps Go.Sort Go.Proofs
set_option linter.unusedVariables false

set_option maxHeartbeats 3200000 in
theorem ins_nil (w : World) : Calls Try.prog 61 #[.slice none 0 0, .int .i64 0, .int .i64 0] w fun e w' => e = .returned (.tuple #[]) ∧ w = w' := by
  go_enter Try.func61, Try.ntmps61
  go_wp2_with fail
  refine wp_loop_rounds 1 ?_
  rw [rounds_succ]
  go_wp2_with fail
  go_end0
  exact ⟨rfl, rfl⟩
set_option maxHeartbeats 3200000 in
theorem pdq_nil (L : Nat) (w : World) : Calls Try.prog 57 #[.slice none 0 0, .int .i64 0, .int .i64 0, .int .i64 (L : Nat)] w fun e w' => e = .returned (.tuple #[]) ∧ w = w' := by
  go_enter Try.func57, Try.ntmps57
  go_wp2_with fail
  refine wp_loop_rounds 1 ?_
  rw [rounds_succ]
  go_wp2_with fail
  refine (ins_nil w).mono ?_
  rintro e w' ⟨rfl, rfl⟩
  go_wp2_with fail
  exact bodyPost_ret (v := .tuple #[]) (by simp [results, Try.results57, go_sem]) rfl ⟨rfl, rfl⟩
set_option maxHeartbeats 3200000 in
theorem sort_nil (w : World) : Calls Try.prog 46 #[.slice none 0 0] w fun e w' => e = .returned (.tuple #[]) ∧ w = w' := by
  have HL := Lib.hid (len_any 0 w (by omega))
  go_enter Try.func46, Try.ntmps46
  go_wp2_with fail
  refine HL.out.mono ?_
  rintro e w' ⟨⟨L, rfl, hL⟩, rfl⟩
  go_wp2_with fail
  refine (pdq_nil L w).mono ?_
  rintro e w' ⟨rfl, rfl⟩
  go_wp2_with fail
  go_end0
  exact ⟨rfl, rfl⟩
set_option maxRecDepth 100000 in
set_option maxHeartbeats 3200000 in
theorem sorted_nil (g : Nat) (lb : Array Value) (eg : ∀ args w, (callFunc g args).run Try.prog w = .ok (.enter g args) w) (w : World) (hseq : SeqGives Fence.wide 2 Try.prog g lb encU (fun ss => ss.Perm []) 0 w) :
    CallsIn Fence.wide 5 Try.prog 31 #[.func (.func g) #[] lb] w fun e w' => (∃ v, e = .returned v ∧ Own .u64 38 w.heap.size w' v []) ∧ Below w.heap.size w w' := by
  have hfC : Fence.wide.fn 45 := trivial
  have hfS : Fence.wide.fn 46 := trivial
  refine callsIn_of_wp Try.func31 rfl trivial ?_ rfl
  simp only [Try.ntmps31, List.size_toArray, List.length_cons, List.length_nil, Nat.reduceAdd, Nat.reduceSub, Array.replicate_succ, Array.replicate_zero, List.push_toArray, List.append_toArray, List.nil_append, List.cons_append]
  have cS' := fun W => (callsIn_wide (n := 4)).2 (sort_nil W)
  gi_wp2_with (gi_at_call 45; refine (collect_in Fence.wide 4 trivial trivial rfl (by omega) g lb trivial eg _ 0 (by omega) _ hseq).mono ?_; rintro e W ⟨v, ss, rfl, hP, hrow, hnil, hb⟩; obtain rfl : ss = [] := hP.eq_nil; obtain rfl := hnil.2 rfl; clear hnil hrow hP)
  gi_wp2_with (gi_at_call 46; refine (cS' _).mono ?_; rintro e w' ⟨rfl, rfl⟩)
  go_ret
  exact ⟨⟨_, rfl, ⟨rfl, .inl ⟨rfl, rfl⟩⟩⟩, hb⟩
/-- The keys of a map by rising numbers, out of an iterator over them. -/
theorem sortedM_any (M : MM) (hl : M.length ≤ 60000) (Bm b : Nat) (w : World) (hBm : Bm < w.heap.size) (hm : w.cell? ⟨Bm, 0, none⟩ = some (.map (some b))) (h : MAt Try.prog 38 38 w b M) :
    Calls Try.prog 31 #[.func (.func 47) #[] #[.pointer (some ⟨Bm, 0, none⟩)]] w fun e w' => (∃ v, e = .returned v ∧ Own .u64 38 w.heap.size w' v (keysM M)) ∧ Below w.heap.size w w' := by
  refine (callsIn_wide (n := 5)).1 ?_
  have hseq := keys_gives Fence.wide 2 trivial rfl (by omega) Bm b M w hBm hm h
  have eg := enters_of Try.func47 (by kernel_rfl) rfl
  by_cases h0 : M = []
  · subst h0
    exact sorted_nil _ _ eg w hseq
  · have hl2 : (keysM M).length = M.length := by simp [keysM]
    refine sorted_any 60000 sort_long (by omega) (keysM M) (keys_rising h.2.1) (fun e => h0 (by simpa [keysM] using e)) (by omega) _ _ eg w ?_
    rw [hl2]; exact hseq
theorem keysM_any (b : Nat) (w : World) : Calls Try.prog 32 #[.map (some b)] w fun e w' => e = .returned (.func (.func 47) #[] #[.pointer (some ⟨w.heap.size, 0, none⟩)]) ∧ w' = w.alloc (.cells #[.map (some b)] 44) :=
  callsIn_wide.1 (keys_in Fence.wide 5 trivial rfl (some b) w)
end Go.Proofs.Ytkdjefnnhanhhaa
