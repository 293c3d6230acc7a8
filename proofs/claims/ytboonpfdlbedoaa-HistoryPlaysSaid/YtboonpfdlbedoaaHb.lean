/- Sets of numbers in memory: map[uint64]bool. No program in sight. -/
import Derived.Test.YtboonpfdlbedoaaHa
import Derived.Test.YtboonpfdlbedoaaMem
import Derived.WalkArith
namespace Go.Hs
open Go Go.RowKit Go.Mem Go.ChangeMaps Go.MapKept Go.Maps

/-- The three types of a set. -/
structure TSet (P : Program) (t k e : TypeId) : Prop where
  und : P.underlying t = some (.map k e)
  key : P.underlying k = some (.int .u64)
  elm : P.underlying e = some .bool
  zero : ∀ w : World, (zeroValue e).run P w = .ok (.bool false) w
/-- Block b is the set S. -/
def SetAt (P : Program) (k e : TypeId) (w : World) (b : Nat) (S : List Nat) : Prop :=
  w.ownsMap P k (plainElem P e) b S.length (setD S) ∧ Rising S ∧ ∀ x ∈ S, x < 18446744073709551616
theorem wf_key {v : Nat} (h : v < 18446744073709551616) : (Lit.int .u64 (v : Nat)).wf = true := WalkArith.wf_u64 (by omega)
theorem plainElem_bool_inv {H : Type} {P : Program} {e : TypeId} (he : P.underlying e = some .bool) {v : Value} {z : DataW H × List MemPlace} (h : plainElem P e v = some z) : ∃ x, v = .bool x ∧ z = (.lit (.bool x), []) := by
  unfold plainElem at h
  rw [he] at h
  cases v <;> simp at h
  exact ⟨_, rfl, h.symm⟩
section
variable {P : Program} {t k e : TypeId} {w w' : World} {b v : Nat} {S : List Nat}
theorem own_tight {R : Value → Option (DataW Unit × List MemPlace)} {n : Nat} (h : w.ownsMap P k R b n (setD S)) : w.ownsMap P k R b S.length (setD S) := by
  obtain ⟨es, clock, hb, F, _, hD⟩ := h
  refine ⟨es, clock, hb, F, ?_, hD⟩
  have h1 := congrArg Maps.size hD
  rw [size_setD] at h1
  simp only [Maps.size, length_sorted, List.length_map, Array.length_toList] at h1
  omega
theorem SetAt.lt (h : SetAt P k e w b S) : b < w.heap.size := h.1.lt
theorem SetAt.same (h : SetAt P k e w b S) (hb : w'.heap[b]? = w.heap[b]?) : SetAt P k e w' b S := by
  obtain ⟨⟨es, clock, h1, h2⟩, h3⟩ := h
  exact ⟨⟨es, clock, hb.trans h1, h2⟩, h3⟩
theorem SetAt.kept {row : Option Nat} (h : SetAt P k e w b S) (hg : w.grownBy w' row) (hne : some b ≠ row) : SetAt P k e w' b S := h.same (hg.block b h.lt hne)
theorem SetAt.below (h : SetAt P k e w b S) (hb : Below w.heap.size w w') : SetAt P k e w' b S := h.same (hb.block b h.lt)
theorem SetAt.alloc (h : SetAt P k e w b S) (o : Obj) : SetAt P k e (w.alloc o) b S := h.same (alloc_old h.lt)
theorem SetAt.drewN (h : SetAt P k e w b S) (n : Nat) : SetAt P k e (w.drewN n) b S := h.same rfl
theorem SetAt.setCell (h : SetAt P k e w b S) {a : Addr} (ha : b ≠ a.block) (u : Value) : SetAt P k e (w.setCell a u) b S := h.same (set_other ha)
theorem SetAt.nil (P : Program) (k e : TypeId) (w : World) : SetAt P k e (w.alloc (.map #[] 0)) w.heap.size [] :=
  ⟨World.ownsMap_made w P k (plainElem P e), rising_nil, fun x hx => by cases hx⟩
/-- Is a number in it? -/
theorem SetAt.look (T : TSet P t k e) (h : SetAt P k e w b S) (hv : v < 18446744073709551616) : (Instr.lookup t (.map (some b)) (.int .u64 (v : Nat)) false).run P w = .ok (.bool (decide (v ∈ S))) w := by
  obtain ⟨x, ps, hrun, hR⟩ := h.1.lookup (int_keyed T.key) T.und (T.zero w) (plainElem_bool T.elm false) (keyOf_int_mk T.key (wf_key hv))
  have h2 : (setD S).atKey (.int .u64 (v : Nat)) (.lit (.bool false)) = .lit (.bool (decide (v ∈ S))) := at_setD v S
  rw [h2] at hR
  obtain ⟨c, rfl, hz⟩ := plainElem_bool_inv T.elm hR
  simp only [Prod.mk.injEq, DataW.lit.injEq, Lit.bool.injEq] at hz
  rw [hrun, ← hz.1]
theorem setBlock_new (w : World) (o o' : Obj) : setBlock (w.alloc o) w.heap.size o' = w.alloc o' := by
  unfold setBlock World.alloc
  congr 1
  apply Array.ext_getElem?
  intro i
  simp only [Array.getElem?_setIfInBounds, Array.getElem?_push, Array.size_push]
  by_cases hi : w.heap.size = i
  · subst hi; simp
  · rw [if_neg hi, if_neg (fun h => hi h.symm), if_neg (fun h => hi h.symm)]
theorem ins_ok (hv : v < 18446744073709551616) (h : Rising S ∧ ∀ x ∈ S, x < 18446744073709551616) : Rising (ins v S) ∧ ∀ x ∈ ins v S, x < 18446744073709551616 :=
  ⟨ins_rising v h.1, fun x hx => by rcases mem_ins.1 hx with rfl | hx; exact hv; exact h.2 x hx⟩
/-- A number more. -/
theorem SetAt.upd (T : TSet P t k e) (h : SetAt P k e w b S) (hv : v < 18446744073709551616) (hn : S.length < maxLen) :
    ∃ es c, (Instr.mapUpdate t (.map (some b)) (.int .u64 (v : Nat)) (.bool true)).run P w = .ok () (setBlock w b (.map es c)) ∧ SetAt P k e (setBlock w b (.map es c)) b (ins v S) ∧ w.grownBy (setBlock w b (.map es c)) (some b) := by
  obtain ⟨w1, h1, h2, h3⟩ := h.1.store (int_keyed T.key) T.und hn (keyOf_int_mk T.key (wf_key hv)) (plainElem_bool T.elm true)
  have h4 : (setD S).put (.int .u64 (v : Nat)) (.lit (.bool true)) = setD (ins v S) := put_setD h.2.1
  rw [h4] at h2
  have h5 := h3.grown
  obtain ⟨es0, c0, es, c, _, rfl⟩ := h3
  exact ⟨es, c, h1, ⟨own_tight h2, ins_ok hv h.2⟩, h5⟩
/-- A new set with one number. -/
theorem set_one (T : TSet P t k e) (w : World) (hv : v < 18446744073709551616) :
    ∃ es c, (Instr.mapUpdate t (.map (some w.heap.size)) (.int .u64 (v : Nat)) (.bool true)).run P (w.alloc (.map #[] 0)) = .ok () (w.alloc (.map es c)) ∧ SetAt P k e (w.alloc (.map es c)) w.heap.size [v] := by
  obtain ⟨es, c, h1, h2, _⟩ := (SetAt.nil P k e w).upd T hv (by unfold maxLen; simp)
  rw [setBlock_new] at h1 h2
  exact ⟨es, c, h1, h2⟩
/-- Emptied. -/
theorem SetAt.clear (T : TSet P t k e) (h : SetAt P k e w b S) :
    ∃ c, (∀ ty, (Builtin.clear_ #[t] ty #[.map (some b)]).run P w = .ok (.tuple #[]) (setBlock w b (.map #[] c))) ∧ SetAt P k e (setBlock w b (.map #[] c)) b [] ∧ w.grownBy (setBlock w b (.map #[] c)) (some b) := by
  obtain ⟨⟨es, c, hb, _⟩, _⟩ := h
  refine ⟨c, fun ty => ?_, ⟨⟨#[], c, heap_setBlock_same hb _, ⟨by simp, stamped_empty c, by simp⟩, Nat.le_refl _, rfl⟩, rising_nil, fun x hx => by cases hx⟩, ⟨rfl, rfl, rfl, by simp [setBlock], fun i _ hi => heap_setBlock_other hb _ (fun e => hi (by rw [e]))⟩⟩
  simp [Builtin.clear_, run_underlying T.und, MapKept.run_getObj_map hb, MapKept.run_setObj_map _ hb, Result.andThen, setBlock]
/-- Copied. -/
theorem SetAt.clone (h : SetAt P k e w b S) (t : TypeId) :
    ∃ es c, (Extern.MapsClone.clone #[.iface t (.map (some b))]).run P w = .ok (.iface t (.map (some w.heap.size))) (w.alloc (.map es c)) ∧ SetAt P k e (w.alloc (.map es c)) w.heap.size S := by
  obtain ⟨⟨es, c, hb, h2⟩, h3⟩ := h
  exact ⟨es, c, Go.Proofs.run_maps_clone_sl w t hb, ⟨⟨es, c, (MapKept.heap_alloc w _).1, h2⟩, h3⟩⟩
/-- A number more, in two steps: the entry, then its value. -/
theorem SetAt.entry (T : TSet P t k e) (h : SetAt P k e w b S) (hv : v < 18446744073709551616) (hn : S.length < maxLen) :
    ∃ (v0 : Value) (st : Nat) (es1 : Array MapEntry) (c1 : Nat), (Instr.mapEntry t (.map (some b)) (.int .u64 (v : Nat))).run P w = .ok (.tuple #[v0, goInt st]) (setBlock w b (.map es1 c1)) ∧ w.grownBy (setBlock w b (.map es1 c1)) (some b) ∧
      ∀ w2 : World, w2.heap[b]? = some (.map es1 c1) → ∃ es' c', (Instr.entryStore t (.map (some b)) (goInt st) (.bool true)).run P w2 = .ok () (setBlock w2 b (.map es' c')) ∧ SetAt P k e (setBlock w2 b (.map es' c')) b (ins v S) ∧ w2.grownBy (setBlock w2 b (.map es' c')) (some b) := by
  obtain ⟨esu, cu, hu1, hu2, _⟩ := h.upd T hv hn
  obtain ⟨⟨es, clock, hb, F, hs, hD⟩, hr⟩ := h
  have K := int_keyed T.key
  have hkey := keyOf_int_mk T.key (wf_key hv)
  obtain ⟨s1, s2, _⟩ := F.stamped
  have grow : ∀ (u : World) (es0 : Array MapEntry) (c0 : Nat) (o : Obj), u.heap[b]? = some (.map es0 c0) → u.grownBy (setBlock u b o) (some b) := fun u es0 c0 o hu =>
    ⟨rfl, rfl, rfl, by simp [setBlock], fun i _ hi => heap_setBlock_other hu _ (fun e => hi (by rw [e]))⟩
  have fin : ∀ (u : World) (es0 : Array MapEntry) (c0 : Nat), u.heap[b]? = some (.map es0 c0) → SetAt P k e (setBlock u b (.map esu cu)) b (ins v S) := fun u es0 c0 hu =>
    hu2.same ((heap_setBlock_same hu _).trans (heap_setBlock_same hb _).symm)
  have fit : ∀ (esx : Array MapEntry) (cx : Nat), (Instr.mapUpdate t (.map (some b)) (.int .u64 (v : Nat)) (.bool true)).run P w = .ok () (setBlock w b (.map esx cx)) → esx = esu ∧ cx = cu := fun esx cx hx => by
    rw [hu1] at hx
    have h1 := congrArg (fun r => match r with | Result.ok _ u => u.heap[b]? | _ => none) hx
    simp only [heap_setBlock_same hb, Option.some.injEq, Obj.map.injEq] at h1
    exact ⟨h1.1.symm, h1.2.symm⟩
  rcases K.find w hkey es.toList F.keys with ⟨h1, h2⟩ | ⟨j, e0, h1, h2, h3⟩
  · refine ⟨.bool false, clock, es.push ⟨.int .u64 (v : Nat), .bool false, clock⟩, clock + 1, ?_, grow w es clock _ hb, fun w2 hw2 => ?_⟩
    · simp [Instr.mapEntry, run_underlying T.und, MapKept.run_getObj_map hb, K.check w false hkey, h1, T.zero, MapKept.run_setObj_map _ hb, Result.andThen, setBlock]
    · have hidx : (es.push ⟨.int .u64 (v : Nat), .bool false, clock⟩).findIdx? (fun e => ((e.born : Nat) : Int) == ((clock : Nat) : Int)) = some es.size := by
        rw [WideElems.findIdx_arr]
        exact WideElems.findIdx_born (l := (es.push ⟨.int .u64 (v : Nat), .bool false, clock⟩).toList) (j := es.size) (e0 := ⟨.int .u64 (v : Nat), .bool false, clock⟩) (by
          simp only [Array.toList_push, List.map_append, List.map_cons, List.map_nil]
          refine List.nodup_append.2 ⟨s2, by simp, fun a ha c hc e1 => ?_⟩
          simp only [List.mem_singleton] at hc
          obtain ⟨x, hx, rfl⟩ := List.mem_map.1 ha
          have := s1 x hx
          omega) (by simp)
      have hmod : (es.push ⟨.int .u64 (v : Nat), .bool false, clock⟩).modify es.size (fun e => { e with val := .bool true }) = es.push ⟨.int .u64 (v : Nat), .bool true, clock⟩ := by
        apply Array.ext'
        rw [Array.toList_modify, Array.toList_push, Array.toList_push, ← Array.length_toList, WideElems.modify_last]
      obtain ⟨rfl, rfl⟩ := fit (es.push ⟨.int .u64 (v : Nat), .bool true, clock⟩) (clock + 1) (by simp [Instr.mapUpdate, run_underlying T.und, MapKept.run_getObj_map hb, K.check w false hkey, h1, MapKept.run_setObj_map _ hb, Result.andThen, setBlock])
      refine ⟨_, _, ?_, fin w2 _ _ hw2, grow w2 _ _ _ hw2⟩
      simp [Instr.entryStore, MapKept.run_getObj_map hw2, asInt, asIntOf, goInt, hidx, hmod, MapKept.run_setObj_map _ hw2, Result.andThen, setBlock]
  · have hj : es[j]? = some e0 := by simpa using h2
    have hsame : es.modify j (fun e => { e with key := .int .u64 (v : Nat) }) = es := by
      apply Array.ext'
      rw [Array.toList_modify, modify_eq_set _ _ _ _ h2]
      have : ({ e0 with key := .int .u64 (v : Nat) } : MapEntry) = e0 := by rw [← h3]
      rw [this]
      exact WideElems.set_self _ _ _ h2
    have hself : setBlock w b (.map es clock) = w := by
      unfold setBlock
      have e : w.heap.setIfInBounds b (.map es clock) = w.heap := by
        apply Array.ext_getElem?
        intro i
        by_cases hi : i = b
        · subst hi
          exact (heap_setBlock_same hb _).trans hb.symm
        · exact heap_setBlock_other hb _ hi
      rw [e]
    refine ⟨e0.val, e0.born, es, clock, ?_, grow w es clock _ hb, fun w2 hw2 => ?_⟩
    · simp [Instr.mapEntry, run_underlying T.und, MapKept.run_getObj_map hb, K.check w false hkey, h1, hj, h3, K.stays w hkey, hsame, MapKept.run_setObj_map _ hb, Result.andThen, setBlock]
    · have hidx : es.findIdx? (fun e => ((e.born : Nat) : Int) == ((e0.born : Nat) : Int)) = some j := by
        rw [WideElems.findIdx_arr]
        exact WideElems.findIdx_born s2 h2
      have hmod : es.modify j (fun e => { e with val := .bool true }) = es.modify j (fun e' => { e' with key := .int .u64 (v : Nat), val := .bool true }) := by
        apply Array.ext'
        rw [Array.toList_modify, Array.toList_modify, modify_eq_set _ _ _ _ h2, modify_eq_set _ _ _ _ h2, ← h3]
      obtain ⟨rfl, rfl⟩ := fit (es.modify j (fun e' => { e' with key := .int .u64 (v : Nat), val := .bool true })) clock (by simp [Instr.mapUpdate, run_underlying T.und, MapKept.run_getObj_map hb, K.check w false hkey, h1, hj, h3, K.stays w hkey, MapKept.run_setObj_map _ hb, Result.andThen, setBlock])
      refine ⟨_, _, ?_, fin w2 _ _ hw2, grow w2 _ _ _ hw2⟩
      simp [Instr.entryStore, MapKept.run_getObj_map hw2, asInt, asIntOf, goInt, hidx, hmod, MapKept.run_setObj_map _ hw2, Result.andThen, setBlock]
theorem SetAt.entry2 (T : TSet P t k e) (h : SetAt P k e w b S) (hv : v < 18446744073709551616) (hn : S.length < maxLen) :
    ∃ (v0 : Value) (st : Nat) (W1 W2 : World), (Instr.mapEntry t (.map (some b)) (.int .u64 (v : Nat))).run P w = .ok (.tuple #[v0, .int .i64 (st : Nat)]) W1 ∧ (Instr.entryStore t (.map (some b)) (.int .i64 (st : Nat)) (.bool true)).run P W1 = .ok () W2 ∧
      SetAt P k e W2 b (ins v S) ∧ w.grownBy W2 (some b) := by
  obtain ⟨v0, st, es1, c1, r1, g1, f1⟩ := h.entry T hv hn
  obtain ⟨⟨es, c, hb, _⟩, _⟩ := h
  obtain ⟨es', c', r2, s2, g2⟩ := f1 _ (heap_setBlock_same hb _)
  exact ⟨v0, st, _, _, r1, r2, s2, ⟨g2.os.trans g1.os, g2.tape.trans g1.tape, g2.output.trans g1.output, Nat.le_trans g1.size g2.size, fun j hj hne => (g2.block j (Nat.lt_of_lt_of_le hj g1.size) hne).trans (g1.block j hj hne)⟩⟩
end
end Go.Hs
