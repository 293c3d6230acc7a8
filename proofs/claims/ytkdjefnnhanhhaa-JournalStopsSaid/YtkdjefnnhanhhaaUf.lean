/- A call that leaves the world alone, at a step of a region that draws. No program in sight. -/
import Derived.Test.YtkdjefnnhanhhaaUa
import Derived.Test.YtkdjefnnhanhhaaUe
import Derived.Shelf.Abstract
import Derived.Deep.RegionLaw
set_option linter.unusedVariables false
namespace Go.Mem
open Go.RowKit Go.Shelf

theorem step_call {P : Program} {ops : Array Oper} {o : Oper} {a : Act} {w : World} {K : Act → World → Prop} {Q : Exit → Act → World → Prop} {E : Prop} (hgd : o.guard = none) (f : FuncId) (he : ∀ args w, (callFunc f args).run P w = .ok (.enter f args) w)
    (x : Operand) (ts : Array TypeId) (ho : o.op = .call { callee := .value (.func f), args := #[x], argTypes := ts }) (v : Value) (hv : a.eval x = v) (u : Value)
    (hc : Calls P f #[v] w fun e w' => e = .returned u ∧ w = w') (h : K (a.put o.dst u) w) : if Region.wanted o (yielded ops a.tmps) = true then Oper.wp P o a w K Q else E := by
  have hw : Region.wanted o (yielded ops a.tmps) = true := by simp [Region.wanted, hgd]
  rw [if_pos hw]
  have hrun : (execOp a.eval o).run P w = .ok (.enter f #[v]) w := by
    have hf : a.eval (.func f) = .func (.func f) #[] #[] := rfl
    unfold execOp
    simp [ho, resolve, invoke, hf, hv, Deferred.ofValue, he]
  unfold Oper.wp
  rw [hrun, Oper.upon_enter]
  refine hc.mono ?_
  rintro e w' ⟨rfl, rfl⟩
  exact h
/-- A call with two arguments that makes memory. -/
theorem step_call2 {P : Program} {ops : Array Oper} {o : Oper} {a : Act} {w : World} {K : Act → World → Prop} {Q : Exit → Act → World → Prop} {E : Prop} (hgd : o.guard = none) (f : FuncId) (he : ∀ args w, (callFunc f args).run P w = .ok (.enter f args) w)
    (x y : Operand) (ts : Array TypeId) (ho : o.op = .call { callee := .value (.func f), args := #[x, y], argTypes := ts }) (v z : Value) (hv : a.eval x = v) (hz : a.eval y = z) (u : Value) (R : World → Prop)
    (hc : Calls P f #[v, z] w fun e w' => e = .returned u ∧ R w') (h : ∀ w', R w' → K (a.put o.dst u) w') : if Region.wanted o (yielded ops a.tmps) = true then Oper.wp P o a w K Q else E := by
  have hw : Region.wanted o (yielded ops a.tmps) = true := by simp [Region.wanted, hgd]
  rw [if_pos hw]
  have hrun : (execOp a.eval o).run P w = .ok (.enter f #[v, z]) w := by
    have hf : a.eval (.func f) = .func (.func f) #[] #[] := rfl
    unfold execOp
    simp [ho, resolve, invoke, hf, hv, hz, Deferred.ofValue, he]
  unfold Oper.wp
  rw [hrun, Oper.upon_enter]
  refine hc.mono ?_
  rintro e w' ⟨rfl, hr⟩
  exact h w' hr
end Go.Mem
/- Walks over the document's tape: Write. -/
namespace Go.Proofs.Ytkdjefnnhanhhaa
open Go Go.RowKit Go.Mem
set_option linter.unusedVariables false

/-- A block's new bytes. -/
def Tp.write (t : Tp) (i : Nat) (b : List Nat) : Tp :=
  if t.step.off = false ∨ (t.off = false ∧ t.half = true) then { t.step with since := upf t.since i (t.since i ++ [b]) } else t.step
section
variable {Q Q' : Nat → Prop} {w w5 : World} {T K S ck cs : Nat} {t : Tp} {ka sa : Option Addr} {kv sv : Nat → Value}
/-- A row more of what was written since. -/
theorem TpC.put (h : TpC Q w T t ka sa K S ck cs kv sv) {i g' c' : Nat} (hi : i < t.nb) {b : List Nat} (hb : BytesN t.size b) (hops : (t.since i).length + 1 ≤ t.ops) {x : Value} (hx : RwQ Q w x b) {vs : List Value}
    (hvs : w.ownsRow 0 27 1 (sv i) (t.since i).length vs) (hvr : ∀ j, j < (t.since i).length → RwQ Q w (vs.getD j undef) ((t.since i).getD j [])) (hg : w.grownBy w5 (sv i).ownBlock)
    (hrow : w5.ownsRow 0 27 1 (.slice (some ⟨g', 0, none⟩) ((t.since i).length + 1) c') ((t.since i).length + 1) (vs ++ [x])) (hat : (sv i).ownBlock = some g' ∨ w.heap.size ≤ g') :
    TpC Q (w5.setCell ⟨S, i, none⟩ (.slice (some ⟨g', 0, none⟩) ((t.since i).length + 1) c')) T { t with since := upf t.since i (t.since i ++ [b]) } ka sa K S ck cs kv (upf sv i (.slice (some ⟨g', 0, none⟩) ((t.since i).length + 1) c')) := by
  have h0 : 0 < t.nb := by omega
  obtain ⟨kcur, hk1, hk2⟩ := h.hk h0
  obtain ⟨scur, hs1, hs2⟩ := h.hs h0
  have hsi := h.rs i hi
  obtain ⟨_, _, hq, _⟩ := hsi
  have hown : ∀ {g}, (sv i).ownBlock = some g → ∃ cu, w.heap[g]? = some (Obj.cells cu 27 (0, 0)) := fun e => orow_lt hvs e
  -- what is neither the old row nor S lies as it lay
  have keep : ∀ (j : Nat) (cu : Array Value) (tt : TypeId) (fz : Nat × Nat), w.heap[j]? = some (Obj.cells cu tt fz) → (sv i).ownBlock ≠ some j → j ≠ S → (w5.setCell ⟨S, i, none⟩ (.slice (some ⟨g', 0, none⟩) ((t.since i).length + 1) c')).heap[j]? = some (Obj.cells cu tt fz) := fun j cu tt fz hj h1 h2 =>
    (set_other (a := ⟨S, i, none⟩) h2).trans ((hg.block j (lt_at hj) (fun e => h1 e.symm)).trans hj)
  have keepT : ∀ (j : Nat) (cu : Array Value) (tt : TypeId) (fz : Nat × Nat), w.heap[j]? = some (Obj.cells cu tt fz) → tt ≠ 27 → tt ≠ 22 → (w5.setCell ⟨S, i, none⟩ (.slice (some ⟨g', 0, none⟩) ((t.since i).length + 1) c')).heap[j]? = some (Obj.cells cu tt fz) := fun j cu tt fz hj h1 h2 =>
    keep j cu tt fz hj (fun e => by obtain ⟨cu', hh⟩ := hown e; rw [hj] at hh; simp at hh; exact h1 hh.2.1) (ty_ne hj hs1 h2)
  have hS5 : w5.heap[S]? = some (.cells scur 22 (0, 0)) := (hg.block S (lt_at hs1) (fun e => by obtain ⟨cu', hh⟩ := hown e.symm; rw [hs1] at hh; simp at hh)).trans hs1
  have hgb := hrow.2
  have hg'5 : ∃ cu, w5.heap[g']? = some (Obj.cells cu 27 (0, 0)) := by
    rcases hgb with ⟨e, _⟩ | ⟨g, cap, cur, e, _, hh, _⟩
    · cases e
    · cases e; exact ⟨_, hh⟩
  have hg'S : g' ≠ S := by obtain ⟨cu, hh⟩ := hg'5; exact ty_ne hh hS5 (by decide)
  have rwk : ∀ {u : Value} {ys : List Nat}, RwQ Q w u ys → RwQ Q (w5.setCell ⟨S, i, none⟩ (.slice (some ⟨g', 0, none⟩) ((t.since i).length + 1) c')) u ys := fun hr => hr.same (fun j cu fz hj hh => keepT j _ _ _ hh (by decide) (by decide)) (fun _ _ h => h)
  exact {
    hp := keepT _ _ _ _ h.hp (by decide) (by decide)
    ha := h.ha
    hc := h.hc
    hk := fun _ => ⟨kcur, keep _ _ _ _ hk1 (fun e => (hq _ e).2 rfl) (ty_ne hk1 hs1 (by decide)), hk2⟩
    hs := fun _ => ⟨_, set_at hS5 i _, fun j hj => by
      rw [Array.getElem?_setIfInBounds]
      by_cases e : i = j
      · subst e; rw [if_pos rfl, upf_same, if_pos (Array.getElem?_eq_some_iff.1 (hs2 i hi)).1]
      · rw [if_neg e, upf_other (fun h => e h.symm)]; exact hs2 j hj⟩
    rk := fun j hj => rwk (h.rk j hj)
    rs := fun j hj => by
      by_cases e : j = i
      · subst e
        simp only [upf_same]
        refine ⟨vs ++ [x], ?_, fun g hg0 => ?_, fun k hk => ?_⟩
        · rw [List.length_append, List.length_singleton]
          exact orow_same hrow (fun k cu hk hh => by cases hk; exact (set_other (a := ⟨S, j, none⟩) hg'S).trans hh)
        · obtain rfl : g' = g := Option.some.inj hg0
          rcases hat with e | e
          · exact hq _ e
          · exact ⟨h.up _ e, fun e' => by have := lt_at hk1; omega⟩
        · have hl : vs.length = (t.since j).length := by simpa using hvs.1
          rw [List.length_append, List.length_singleton] at hk
          by_cases hk' : k < (t.since j).length
          · have e1 : (vs ++ [x]).getD k undef = vs.getD k undef := by simp only [List.getD]; rw [List.getElem?_append_left (by omega)]
            have e2 : (t.since j ++ [b]).getD k [] = (t.since j).getD k [] := by simp only [List.getD]; rw [List.getElem?_append_left (by omega)]
            rw [e1, e2]; exact rwk (hvr k hk')
          · have ek : k = (t.since j).length := by omega
            subst ek
            have e1 : (vs ++ [x]).getD (t.since j).length undef = x := by rw [← hl]; simp [List.getD]
            have e2 : (t.since j ++ [b]).getD (t.since j).length [] = b := by simp [List.getD]
            rw [e1, e2]; exact rwk hx
      · simp only [upf_other e]
        refine (h.rs j hj).same (fun k cu tt fz hk hh ht => ?_) (fun _ _ h => h)
        rcases ht with rfl | ⟨rfl, hb⟩
        · exact keepT _ _ _ _ hh (by decide) (by decide)
        · exact keep _ _ _ _ hh (fun e' => e (h.dj _ _ _ hj hi hb e')) (ty_ne hh hs1 (by decide))
    dj := fun j k g hj hk e1 e2 => by
      have hlt : ∀ m, m < t.nb → ∀ g, (sv m).ownBlock = some g → g < w.heap.size := fun m hm g e => by
        obtain ⟨us, hu, _⟩ := h.rs m hm
        obtain ⟨cu, hh⟩ := orow_lt hu e
        exact lt_at hh
      by_cases ej : j = i
      · by_cases ek : k = i
        · rw [ej, ek]
        · exfalso
          rw [ej, upf_same] at e1
          rw [upf_other ek] at e2
          obtain rfl : g' = g := Option.some.inj e1
          rcases hat with e | e
          · exact ek (h.dj _ _ _ hk hi e2 e)
          · have := hlt k hk _ e2; omega
      · by_cases ek : k = i
        · exfalso
          rw [ek, upf_same] at e2
          rw [upf_other ej] at e1
          obtain rfl : g' = g := Option.some.inj e2
          rcases hat with e | e
          · exact ej (h.dj _ _ _ hj hi e1 e)
          · have := hlt j hj _ e1; omega
        · rw [upf_other ej] at e1
          rw [upf_other ek] at e2
          exact h.dj _ _ _ hj hk e1 e2
    q := h.q
    ln := fun j hj => by
      by_cases e : j = i
      · subst e; simp only [upf_same, List.length_append, List.length_singleton]; exact hops
      · simp only [upf_other e]; exact h.ln j hj
    up := fun j hj => h.up j (Nat.le_trans hg.size (by simpa using hj))
    fk := h.fk
    fs := fun j hj y hy => by
      by_cases e : j = i
      · subst e
        simp only [upf_same] at hy
        rcases List.mem_append.1 hy with hy | hy
        · exact h.fs j hj y hy
        · rw [List.mem_singleton.1 hy]; exact hb
      · simp only [upf_other e] at hy; exact h.fs j hj y hy }
end
theorem info_sl : (Try.prog.info? 27).map (fun i => (i.zero, i.size, i.bytes)) = some (some (.slice none 0 0), 1, 24) := by kernel_rfl
end Go.Proofs.Ytkdjefnnhanhhaa
/- Memory: bytes 0 behind a slice of the call's own (append of a made slice). No program in sight. -/
namespace Go.Mem
open Go.RowKit

theorem zeroCells_fa (m : Nat) : Builtin.zeroCells (Value.cells (.int .u8 0)) m = fa .u8 m (fun _ => 0) := by
  apply Array.ext_getElem?
  intro i
  by_cases hi : i < m
  · rw [fa_get hi]
    simp [Builtin.zeroCells, Value.cells, hi, Nat.mod_one]
  · rw [fa_none (by omega)]
    simp [Builtin.zeroCells, Value.cells, hi]
theorem fa_list (m : Nat) : (fa .u8 m (fun _ => 0)).toList = (List.replicate m 0).map (fun x : Nat => Value.int .u8 (x : Nat)) := by
  unfold fa
  apply List.ext_getElem (by simp)
  intro i h1 h2
  simp
section
variable {P : Program} {T e ti : TypeId} {B : Nat} {w : World} {v : Value} {xs : List Nat}
theorem run_append_zeros (E : ElT P T e .u8 1) (hti : P.underlying ti = some (.int .i64)) (ty : TypeId) (hown : Own .u8 e B w v xs) (h0 : 0 < xs.length) (m : Nat) (hm0 : 0 < m) (hm : m ≤ 1000000) (hl : xs.length ≤ 1000000000) (hB : B ≤ w.heap.size) :
    ∃ g cap w', (Builtin.append_ #[T, ti] ty #[v, .int .i64 (m : Nat)]).run P w = .ok (.slice (some ⟨g, 0, none⟩) (xs.length + m) cap) w' ∧
      Own .u8 e B w' (.slice (some ⟨g, 0, none⟩) (xs.length + m) cap) (xs ++ List.replicate m 0) ∧ w.grownBy w' v.ownBlock ∧ (v.ownBlock = some g ∨ g = w.heap.size) := by
  obtain ⟨i, hi, hz, hs, hb⟩ := info_parts E.inf
  have ht := E.und
  have hw : IntKind.i64.wrap (m : Int) = (m : Int) := IntWalk.i64_in _ ⟨by omega, by omega⟩
  have hnn : ¬ ((m : Int) < 0) := by omega
  have hbig : ¬ ((281474976710656 : Int) < (m : Int) * (i.bytes : Int)) := by rw [hb]; omega
  obtain ⟨h1, h2 | ⟨g, cap, cur, rfl, hbg, hg, hnc, hcm, hcs, htake⟩⟩ := hown
  · omega
  · rw [Nat.mul_one] at hcs htake
    obtain ⟨Z, hZ⟩ : ∃ Z : List Value, (List.replicate m 0).map (fun x : Nat => Value.int .u8 (x : Nat)) = Z := ⟨_, rfl⟩
    have hZl : Z.length = m := by rw [← hZ]; simp
    have hZ1 : ∀ u ∈ Z, u.oneCell' = true := fun u hu => by rw [← hZ] at hu; obtain ⟨y, _, rfl⟩ := List.mem_map.1 hu; rfl
    have hzc : Builtin.zeroCells (Value.cells (.int .u8 0)) m = Z.toArray := by
      rw [zeroCells_fa]; apply Array.ext'; rw [fa_list, hZ]
    have hxs : (xs ++ List.replicate m 0).map (fun x : Nat => Value.int .u8 (x : Nat)) = xs.map (fun x : Nat => Value.int .u8 (x : Nat)) ++ Z := by rw [List.map_append, hZ]
    have hzc' : Builtin.zeroCells #[.int .u8 0] m = Z.toArray := hzc
    by_cases hroom : xs.length + m ≤ cap
    · have hst := run_storeCells_at P g xs.length e Z 0 cur w hg (by rw [hZl]; omega) hZ1
      simp only [Nat.add_zero] at hst
      refine ⟨g, cap, w.setRow g (cur.toList.take xs.length ++ Z ++ cur.toList.drop (xs.length + Z.length)).toArray, ?_, ?_, ?_, .inl rfl⟩
      · simp [Builtin.append_, run_underlying ht, run_underlying hti, sizeOf, typeInfo, zeroValue, asInt, asIntOf, hi, hz, hs, hw, hnn, hbig, hroom, show m ≠ 0 by omega, hzc', Value.cells, Addr.add_lit, hst]
      · refine ⟨by simp, .inr ⟨g, cap, _, by simp, hbg, setRow_heap w g cur _ e _ hg, by simpa using hroom, hcm, ?_, ?_⟩⟩
        · simp [hZl]; omega
        · rw [htake, hxs]
          have hl2 : (xs ++ List.replicate m 0).length * 1 = (xs.map (fun x : Nat => Value.int .u8 (x : Nat)) ++ Z).length := by simp [hZl]
          rw [hl2]
          exact List.take_left
      · exact ⟨rfl, rfl, rfl, by simp, fun k _ hk => setRow_other w g k _ (fun e => hk (by simp [Value.ownBlock, e]))⟩
    · have hn : ¬ (xs.length + m ≤ cap) := hroom
      have h63' : ¬ (9223372036854775807 < ((xs.length : Int) + (m : Int))) := by omega
      have h48' : ¬ (281474976710656 < Builtin.nextslicecap (xs.length + m) cap * i.bytes) := by
        have := growslice_fits (need := xs.length + m) (old := cap) (bytes := i.bytes) (by omega) (by rw [hb]; omega)
        omega
      obtain ⟨X, hX⟩ : ∃ X : List Value, xs.map (fun x : Nat => Value.int .u8 (x : Nat)) = X := ⟨_, rfl⟩
      have hXl : X.length = xs.length := by rw [← hX]; simp
      have hold : ∀ j u, X[j]? = some u → w.cell? ((⟨g, 0, none⟩ : Addr).add j) = some u := fun j u hu => by
        have hadd : (⟨g, 0, none⟩ : Addr).add j = ⟨g, j, none⟩ := by unfold Addr.add; split <;> simp_all
        rw [hadd, cell_at hg, ← Array.getElem?_toList]
        rw [← hX, ← htake, List.getElem?_take] at hu
        split at hu
        · exact hu
        · cases hu
      have hfo := run_firstCells_some (P := P) w.drew 1 xs.length ⟨g, 0, none⟩ xs.length cap X (by omega) (by simpa using hold)
      have hge := grownCap_ge w (xs.length + m) cap e
      have hcm2 : grownCap w (xs.length + m) cap e ≤ maxLen := grownCap_le_maxLen w (xs.length + m) cap e (by unfold maxLen; omega)
      refine ⟨w.heap.size, grownCap w (xs.length + m) cap e, w.drew.alloc (.cells (X.toArray ++ Z.toArray ++ Builtin.zeroCells (Value.cells (.int .u8 0)) (grownCap w (xs.length + m) cap e - (xs.length + m))) e), ?_, ?_, ?_, .inr rfl⟩
      · simp [Builtin.append_, run_underlying ht, run_underlying hti, sizeOf, typeInfo, zeroValue, asInt, asIntOf, hi, hz, hs, hw, hnn, hbig, hn, h63', h48', show m ≠ 0 by omega, Question.forced, hzc', hfo, newRow, grownCap, Value.cells]
        try (congr 2; apply Array.ext'; simp [List.append_assoc])
      · refine ⟨by simp, .inr ⟨w.heap.size, grownCap w (xs.length + m) cap e, _, by simp, hB, heap_alloc_new w.drew _, by simpa using hge, hcm2, ?_, ?_⟩⟩
        · simp [hXl, hZl, size_zeroCells, Value.cells]; omega
        · rw [hxs, hX]
          have hl2 : (xs ++ List.replicate m 0).length * 1 = (X ++ Z).length := by simp [hZl, hXl]
          rw [hl2]
          simp only [Array.toList_append]
          exact List.take_left
      · exact ⟨rfl, rfl, rfl, by simp, fun k hk _ => alloc_old (w := w.drew) hk⟩
variable {ops : Array Oper} {rest : List Oper} {o : Oper} {a : Act} {Q : Exit → Act → World → Prop} {K : Act → World → Prop} {E' : Prop}
/-- Bytes 0 more, at an operation. -/
theorem wp_zeros (E : ElT P T e .u8 1) (hti : P.underlying ti = some (.int .i64)) (s x : Operand) (ho : o.op = .call { callee := .builtin .append, args := #[s, x], argTypes := #[T, ti] })
    (B : Nat) (v : Value) (xs : List Nat) (hs : a.eval s = v) (hown : Own .u8 e B w v xs) (h0 : 0 < xs.length) (m : Nat) (hx : a.eval x = .int .i64 (m : Nat)) (hm0 : 0 < m) (hm : m ≤ 1000000) (hl : xs.length ≤ 1000000000) (hB : B ≤ w.heap.size)
    (h : ∀ g cap w', Own .u8 e B w' (.slice (some ⟨g, 0, none⟩) (xs.length + m) cap) (xs ++ List.replicate m 0) → w.grownBy w' v.ownBlock → (v.ownBlock = some g ∨ g = w.heap.size) →
      K (a.put o.dst (.slice (some ⟨g, 0, none⟩) (xs.length + m) cap)) w') : o.wp P a w K Q := by
  obtain ⟨g, cap, w', hr, h1, h2, h3⟩ := run_append_zeros E hti o.type hown h0 m hm0 hm hl hB
  unfold Oper.wp execOp
  simp only [ho, resolve, invoke, builtin, Sem.run_bind, Sem.run_pure, Result.andThen_ok, List.map_toArray, List.map_cons, List.map_nil, hs, hx, hr]
  exact h g cap w' h1 h2 h3
/-- .. at a step of a region that draws. -/
theorem step_zeros (hgd : o.guard = none) (E : ElT P T e .u8 1) (hti : P.underlying ti = some (.int .i64)) (s x : Operand) (ho : o.op = .call { callee := .builtin .append, args := #[s, x], argTypes := #[T, ti] })
    (B : Nat) (v : Value) (xs : List Nat) (hs : a.eval s = v) (hown : Own .u8 e B w v xs) (h0 : 0 < xs.length) (m : Nat) (hx : a.eval x = .int .i64 (m : Nat)) (hm0 : 0 < m) (hm : m ≤ 1000000) (hl : xs.length ≤ 1000000000) (hB : B ≤ w.heap.size)
    (h : ∀ g cap w', Own .u8 e B w' (.slice (some ⟨g, 0, none⟩) (xs.length + m) cap) (xs ++ List.replicate m 0) → w.grownBy w' v.ownBlock → (v.ownBlock = some g ∨ g = w.heap.size) →
      K (a.put o.dst (.slice (some ⟨g, 0, none⟩) (xs.length + m) cap)) w') : if Region.wanted o (yielded ops a.tmps) = true then Oper.wp P o a w K Q else E' := by
  rw [if_pos (by simp [Region.wanted, hgd])]
  exact wp_zeros E hti s x ho B v xs hs hown h0 m hx hm0 hm hl hB h
end
end Go.Mem
