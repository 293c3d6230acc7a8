/- journal.chunk: the loop over record.All. -/
import Derived.Test.YtkdjefnnhanhhaaUi
import Derived.Test.YtkdjefnnhanhhaaUf
import Derived.Maps.OwnIn
import Derived.Deep.AppendLies
import Derived.Deep.RegionHeld3
set_option linter.unusedVariables false
namespace Go.Proofs.Ytkdjefnnhanhhaa
open Go Go.RowKit Go.Mem Go.Pg Go.Shelf
set_option linter.unusedVariables false
attribute [local go_sem] Oper.semAt_some

/-! ### A function's contract where its body holds a range over a function -/
theorem enter_marks {P : Program} {f : FuncId} {fn : Func} {c : Code} {args : Array Value} {w : World} {R : Ending → World → Prop}
    (hf : P.funcs[f]? = some fn) (hb : fn.body = some c)
    (h : c.wp P (bodyPostM Fence.wide 10 P fn R) { tmps := args ++ Array.replicate (fn.ntmps - args.size) undef, defers := [] } w) : Calls P f args w R :=
  callsIn_wide.1 (callsIn_of_wp_marks (n := 10) hf hb trivial (wpIn_wide.2 h) rfl)
theorem postM_ret {P : Program} {fn : Func} {R : Ending → World → Prop} {tmps : Array Value} {w : World} {v : Value} (hr : (results fn tmps).run P w = .ok v w) (h : R (.returned v) w) :
    bodyPostM Fence.wide 10 P fn R .ret { tmps := tmps, defers := [] } w := ⟨v, hr, h⟩
theorem postM_ret1 {P : Program} {fn : Func} {R : Ending → World → Prop} {tmps : Array Value} {w : World} {v : Value} {D : Nat} (hD : w.heap[D]? = some (.deferred (some [])))
    (hr : (results fn tmps).run P (w.putObj D (.deferred none)) = .ok v (w.putObj D (.deferred none))) (h : R (.returned v) (w.putObj D (.deferred none))) :
    bodyPostM Fence.wide 10 P fn R .ret { tmps := tmps, defers := [{ target := .collected D, args := #[] }] } w := ⟨by simp, .inl ⟨_, _, rfl, run_takeDeferred hD, ⟨v, hr, h⟩⟩⟩

/-! ### Rows of records -/
def Rec.cells (r : Rec) : List Value := [.int .i64 (r.kind : Nat), .int .u64 (r.seq : Nat), .int .u64 (r.a : Nat), .int .u64 (r.b : Nat), .int .u64 (r.c : Nat)]
theorem Rec.val_cells (r : Rec) : r.val = .agg r.cells.toArray := rfl
/-- v owns a row of records. -/
def ORec (n₀ : Nat) (W : World) (v : Value) (l : List Rec) : Prop := W.ownsRow n₀ 74 5 v l.length (l.flatMap Rec.cells)
theorem cells_len (l : List Rec) : (l.flatMap Rec.cells).length = l.length * 5 := by
  induction l with
  | nil => rfl
  | cons r l ih => rw [List.flatMap_cons, List.length_append, ih, List.length_cons]; show 5 + _ = _; omega
theorem orec_nil (n₀ : Nat) (W : World) : ORec n₀ W (.slice none 0 0) [] := ⟨rfl, .inl ⟨rfl, rfl⟩⟩
theorem orec_form {n₀ : Nat} {W : World} {v : Value} {l : List Rec} (h : ORec n₀ W v l) : ∃ a c, v = .slice a l.length c := by
  rcases h.2 with ⟨rfl, h0⟩ | ⟨g, cap, cur, rfl, _⟩
  · exact ⟨none, 0, by rw [h0]⟩
  · exact ⟨_, _, rfl⟩
theorem info_rec : (Try.prog.info? 74).map (fun i => (i.zero, i.size, i.bytes)) = some (some recZ, 5, 40) := by kernel_rfl
theorem cells_one (r : Rec) : ∀ u ∈ r.cells, u.oneCell' = true := by
  intro u hu
  simp only [Rec.cells, List.mem_cons, List.not_mem_nil, or_false] at hu
  rcases hu with rfl | rfl | rfl | rfl | rfl <;> rfl
theorem cells_kept {X Y : World} {row : Option Nat} {B : Nat} (hg : X.grownBy Y row) (hrow : ∀ r, row = some r → B ≤ r ∧ ∃ o : Obj, X.heap[r]? = some o ∧ o.isCells = false) {j : Nat} {cs : Array Value} {t : TypeId} {fz : Nat × Nat} (h : X.heap[j]? = some (.cells cs t fz)) : Y.heap[j]? = some (.cells cs t fz) :=
  (hg.block j (lt_at h) (fun e => by obtain ⟨_, o, ho, hc⟩ := hrow j e.symm; rw [h] at ho; cases ho; cases hc)).trans h
theorem orec_kept {X Y : World} {n₀ : Nat} {v : Value} {l : List Rec} (h : ORec n₀ X v l) (hk : ∀ j cs t fz, X.heap[j]? = some (.cells cs t fz) → some j = v.ownBlock → Y.heap[j]? = some (.cells cs t fz)) : ORec n₀ Y v l := by
  refine ⟨h.1, ?_⟩
  rcases h.2 with h' | ⟨g, cap, cur, rfl, h1, h2, h3⟩
  · exact .inl h'
  · exact .inr ⟨g, cap, cur, rfl, h1, hk g _ _ _ h2 rfl, h3⟩
theorem tc_iff {Bl : Nat} {W : World} {t : TypeId} {v : Value} {l : List Rec} {n₀ : Nat} (hv : Boxed W Bl t v) (ho : ORec n₀ W v l) (j : Nat) : Tc Bl W j ↔ (j = Bl ∨ v.ownBlock = some j) := by
  unfold Tc
  rw [hv.cell]
  rcases ho.2 with ⟨rfl, _⟩ | ⟨g, cap, cur, rfl, _⟩
  · simp [Value.ownBlock]
  · simp [Value.ownBlock]
theorem kp_below {Bl : Nat} {W W' : World} (hb : Below W.heap.size W W') (h : Bl < W.heap.size) : Kp Bl W W' :=
  ⟨hb.size, fun j cs t fz hj _ => (hb.block j (lt_at hj)).trans hj, fun j _ ht => (tc_below hb h j).1 ht, fun hi j ht => Nat.lt_of_lt_of_le (hi j ((tc_below hb h j).1 ht)) hb.size⟩
theorem kp_putObj {Bl : Nat} {W : World} {l : Nat} {o : Obj} (o' : Obj) (hl : W.heap[l]? = some o) (ho : o.isCells = false) (hne : Bl ≠ l) : Kp Bl W (W.putObj l o') := by
  have hc : (W.putObj l o').cell? ⟨Bl, 0, none⟩ = W.cell? ⟨Bl, 0, none⟩ := World.cell?_of_block (a := ⟨Bl, 0, none⟩) (World.putObj_heap_other (o := o') hne)
  have ht : ∀ j, Tc Bl (W.putObj l o') j ↔ Tc Bl W j := fun j => by unfold Tc; rw [hc]
  have hs : W.heap.size ≤ (W.putObj l o').heap.size := (grownBy_putObj' W l o').size
  exact ⟨hs, fun j cs t fz hj _ => (World.putObj_heap_other (fun e => by subst e; rw [hj] at hl; cases hl; cases ho)).trans hj, fun j _ h => (ht j).1 h, fun hi j h => Nat.lt_of_lt_of_le (hi j ((ht j).1 h)) hs⟩

theorem allF_len : ∀ (k : Nat) (lo : Option Nat) (xs : List Nat), (allF k lo xs).length ≤ k
  | 0, _, _ => Nat.zero_le _
  | k + 1, lo, xs => by
    rw [allF]
    split
    · simp
    · rename_i r _
      split
      · simp
      · rw [List.length_cons]; have := allF_len k (some r.seq) (xs.drop 37); omega
theorem allR_len (xs : List Nat) : (allR xs).length ≤ xs.length + 1 := allF_len _ _ _
theorem set_self {w : World} {g o : Nat} {v : Value} (h : w.cell? ⟨g, o, none⟩ = some v) : w.setCell ⟨g, o, none⟩ v = w := by
  have hh : (w.setCell ⟨g, o, none⟩ v).heap = w.heap := by
    apply Array.ext_getElem?
    intro i
    by_cases e : i = g
    · subst e
      unfold World.cell? at h
      cases hb : w.heap[i]? with
      | none => simp [World.setCell, Array.getElem?_modify, hb]
      | some b =>
        cases b with
        | cells c t fz =>
          rw [set_at hb]
          rw [hb] at h
          have h' : c[o]? = some v := by simpa using h
          congr 2
          apply Array.ext_getElem?
          intro k
          rw [Array.getElem?_setIfInBounds]
          by_cases e : o = k
          · subst e; rw [if_pos rfl, h', if_pos (Array.getElem?_eq_some_iff.1 h').1]
          · rw [if_neg e]
        | _ => simp [hb] at h
    · exact set_other e
  show { w with heap := (w.setCell ⟨g, o, none⟩ v).heap } = w
  rw [hh]
/-- A chunk of an area, as it is read. -/
def chunkR (xs : List Nat) : Option (Nat × Nat × List Rec) := match openB xs with
  | none => none
  | some x => if x.length < 16 then none else if ((allR (x.drop 16)).take (num ((x.drop 12).take 4))).length = num ((x.drop 12).take 4) then some (num (x.take 8), num ((x.drop 8).take 4), (allR (x.drop 16)).take (num ((x.drop 12).take 4))) else none
set_option maxRecDepth 100000 in
set_option maxHeartbeats 3200000 in
theorem chunk_any (v : Value) (xs : List Nat) (w : World) (hv : Rd .u8 w v xs) (hx : ∀ y ∈ xs, y < 256) (h1 : 128 ≤ xs.length) (hl : xs.length ≤ 1000000) :
    Calls Try.prog 23 #[v] w fun e w' => ((∃ g k l vv, chunkR xs = some (g, k, l) ∧ e = .returned (.tuple #[.int .u64 (g : Nat), .int .i64 (k : Nat), vv, .bool true]) ∧ ORec w.heap.size w' vv l) ∨ (chunkR xs = none ∧ ∃ (g k : Nat) (vv : Value), e = .returned (.tuple #[.int .u64 (g : Nat), .int .i64 (k : Nat), vv, .bool false]))) ∧ Below w.heap.size w w' := by
  obtain ⟨Bl, hBl⟩ : ∃ B, w.heap.size = B := ⟨_, rfl⟩
  obtain ⟨W0, hW0⟩ : ∃ W, w.alloc (.cells #[.slice none 0 0] 63) = W := ⟨_, rfl⟩
  have hb0 : Below w.heap.size w W0 := by rw [← hW0]; exact (Below.refl _ _).alloc (Nat.le_refl _) _
  have hv0 : Boxed W0 Bl 63 (.slice none 0 0) := by rw [← hW0, ← hBl]; exact Boxed.new _ _ _
  have hs0 : W0.heap.size = Bl + 1 := by rw [← hW0, ← hBl]; simp
  have HB0 := hid hb0
  have HV0 := hid hv0
  have HS0 := hid hs0
  have HBL := hid hBl
  have HOP := hid (crcOpen_any v xs W0 (hv.below hb0) hx (by omega) hl)
  have HX := hid hx
  have HL := hid hl
  obtain ⟨N, hN⟩ : ∃ N, xs.length = N := ⟨_, rfl⟩
  have HN := hid hN
  obtain ⟨n, hn⟩ : ∃ n, N - 4 = n := ⟨_, rfl⟩
  rw [hN, hn] at HOP
  have hn16 : (16 : Int) ≤ (n : Int) := by omega
  have hn124 : 124 ≤ n := by omega
  have HNN := hid (show N - 4 = n from hn)
  have HW0 := hid hW0
  clear hv hx hN hb0 hv0 hs0
  refine enter_marks Try.func23 rfl ?_
  simp only [Try.ntmps23, List.size_toArray, List.length_cons, List.length_nil, Nat.reduceAdd, Nat.reduceSub, Array.replicate_succ, Array.replicate_zero, List.push_toArray, List.append_toArray, List.nil_append, List.cons_append]
  go_wp2_with fail
  try rw [HW0.out]
  refine HOP.out.mono ?_
  clear hW0
  rintro e w1 ⟨hres, hb1⟩
  have HB1 := hid hb1
  have hv1 : Boxed w1 Bl 63 (.slice none 0 0) := (hb1.block Bl HV0.out.lt).trans HV0.out
  have c1 := hv1.cell
  have f1 := hv1.frozen
  have HV1 := hid hv1
  have HBW1 := hid (show Below w.heap.size w w1 from HB0.out.trans (hb1.mono HB0.out.size))
  clear hb1 hv1
  rcases hres with ⟨l, g1, cp, ho, hle, rfl, how⟩ | ⟨ho, rfl⟩
  · have hll : l.length = n := by rw [hle, List.length_take, HN.out]; omega
    have hlt : ¬ (n : Int) < 16 := by omega
    have HLX := hid (show ∀ y ∈ l, y < 256 from fun y hy => HX.out y (List.mem_of_mem_take (hle ▸ hy)))
    have hrl := how.rd
    have hcp := hrl.caps
    obtain ⟨cur, hg1⟩ : ∃ cur, w1.heap[g1]? = some (.cells cur 5 (0, 0)) := by
      rcases how.2 with ⟨h, _⟩ | ⟨g, c, cur, e, _, h, _⟩
      · cases h
      · cases e; exact ⟨cur, h⟩
    obtain ⟨O, hO⟩ : ∃ O, O = Obj.cells cur 5 (0, 0) := ⟨_, rfl⟩
    have HO := hid hO
    have HG1 := hid (show w1.heap[g1]? = some O from by rw [hO]; exact hg1)
    have HRD := hid (fun (W : World) (hW : W.heap[g1]? = some O) => rd_same hrl (hW.trans HG1.out.symm))
    have k1 : (n : Int) ≤ (cp : Int) := by omega
    have k2 : (cp : Int) ≤ 9223372036854775807 := by have := hcp.2.2; unfold maxLen at this; omega
    have HU := hid (uint32_any _ (l.drop 12) w1 (rd_drop hrl 12 (by omega)) (fun y hy => HLX.out y (List.mem_of_mem_drop hy)) (by rw [List.length_drop]; omega))
    rw [hll] at HU
    obtain ⟨cnt, hcnt⟩ : ∃ k, num ((l.drop 12).take 4) = k := ⟨_, rfl⟩
    rw [hcnt] at HU
    have HLL := hid hll
    have HCN := hid hcnt
    have HOE := hid ho
    have hcl : cnt < 4294967296 := by
      have hh := num_lt (l := (l.drop 12).take 4) (fun y hy => HLX.out y (List.mem_of_mem_drop (List.mem_of_mem_take hy)))
      rw [hcnt, show ((l.drop 12).take 4).length = 4 from by rw [List.length_take, List.length_drop]; omega] at hh
      exact hh
    have kc : IntKind.i64.wrap (cnt : Int) = (cnt : Int) := IntWalk.i64_in _ ⟨by omega, by omega⟩
    have k16 : (16 : Int) ≤ (cp : Int) := by omega
    have k16n : ¬ cp = 16 := by omega
    have k12 : (12 : Int) ≤ (cp : Int) := by omega
    have k12n : ¬ cp = 12 := by omega
    have k12m : (12 : Int) ≤ (n : Int) := by omega
    clear hle ho how hrl hg1 hO hcp hll hcnt
    go_wp2_with fail
    refine HU.out.mono ?_
    rintro e w2 ⟨rfl, rfl⟩
    go_wp2_with fail
    refine (recAll_any _ _ _ _).mono ?_
    rintro e w2 ⟨rfl, rfl⟩
    go_wp2_with fail
    obtain ⟨WL, hWL⟩ : ∃ W, ((w1.alloc (Obj.cells #[Value.int IntKind.i64 (cnt : Nat)] 3)).alloc (Obj.cells #[Value.slice (some ⟨g1, 16, none⟩) (n - 16) (cp - 16)] 27)) = W := ⟨_, rfl⟩
    rw [hWL]
    have hbL : Below w1.heap.size w1 WL := by rw [← hWL]; exact ((Below.refl _ _).alloc (Nat.le_refl _) _).alloc (by simp) _
    have hsL : WL.heap.size = w1.heap.size + 2 := by rw [← hWL]; simp
    have hbb : WL.cell? ⟨w1.heap.size + 1, 0, none⟩ = some (Value.slice (some ⟨g1, 16, none⟩) (n - 16) (cp - 16)) := by
      rw [← hWL]
      simp
    have hbn : Boxed WL w1.heap.size 3 (.int .i64 (cnt : Nat)) := by rw [← hWL]; exact (Boxed.new w1 _ _).alloc _
    have hvL : Boxed WL Bl 63 (.slice none 0 0) := (hbL.block Bl HV1.out.lt).trans HV1.out
    have hgL : WL.heap[g1]? = some O := (hbL.block g1 (lt_at HG1.out)).trans HG1.out
    have hbwL : Below w.heap.size w WL := HBW1.out.trans (hbL.mono HBW1.out.size)
    have hB1 : Bl < w1.heap.size := HV1.out.lt
    have hg1B : g1 ≠ Bl := fun e => by
      have h1 := HG1.out; have h2 := HV1.out; rw [e, HO.out] at h1
      have h3 := h1.symm.trans h2
      simp at h3
    obtain ⟨RS, hRS⟩ : ∃ R, allR (l.drop 16) = R := ⟨_, rfl⟩
    have hd16 : (l.drop 16).length = n - 16 := by rw [List.length_drop, HLL.out]
    have hst : SeqStopsK Fence.wide 9 Try.prog 51 #[.pointer (some ⟨w1.heap.size + 1, 0, none⟩)] (fun r : Rec => #[r.val]) (Kp Bl) (fun ys => ys = RS) (fun pre => pre <+: RS) RS.length WL := by
      intro l0 J Jx W hbW hJ hJx hY h0
      rw [← hRS] at hY ⊢
      exact recAll1_in 9 (by omega) l0 (w1.heap.size + 1) Bl g1 _ _ _ O _ _ _ HO.out (l.drop 16) (fun y hy => HLX.out y (List.mem_of_mem_drop hy)) (fun W' hW' => by
          have := rd_drop (HRD.out W' hW') 16 (by rw [HLL.out]; omega)
          rw [HLL.out] at this
          simpa using this) J Jx hY W hJ ((hbW.cell (p := ⟨w1.heap.size + 1, 0, none⟩) (by show w1.heap.size + 1 < _; omega)).trans hbb) ((hbW.block g1 (lt_at hgL)).trans hgL)
        (fun ht => by
          rw [tc_below hbW (by omega)] at ht
          rcases (tc_iff hvL (orec_nil w.heap.size WL) g1).1 ht with e | e
          · exact hg1B e
          · cases e)
        (fun j hj => by
          rw [tc_below hbW (by omega)] at hj
          rcases (tc_iff hvL (orec_nil w.heap.size WL) j).1 hj with e | e
          · have := hbW.size; omega
          · cases e) h0
    have hRl : RS.length ≤ 1000000 := by
      rw [← hRS]
      exact Nat.le_trans (allR_len _) (by rw [hd16]; have := HL.out; have := HN.out; omega)
    have HWL := hid hWL
    clear hWL
    refine wpIn_wide.1 (wpIn_rangeFunc_ownH (n := 10) rfl (by omega) (gf := 51) (lb := #[.pointer (some ⟨w1.heap.size + 1, 0, none⟩)]) rfl trivial (enters_of Try.func51 (by kernel_rfl) rfl) hst
      Kp.trans (fun W l o o' hl ho hc _ => kp_putObj o' ho hc (by omega)) (Below.refl _ _) (fun _ => rfl)
      (fun pre W => ∃ vv, Boxed W Bl 63 vv ∧ ORec w.heap.size W vv pre ∧ Boxed W w1.heap.size 3 (.int .i64 (cnt : Nat)) ∧ pre.length ≤ cnt ∧ W.heap[g1]? = some O ∧ Below w.heap.size w W)
      (fun c pre W => c = .exit 0 ∧ ∃ vv l' x', pre = l' ++ [x'] ∧ l'.length = cnt ∧ Boxed W Bl 63 vv ∧ ORec w.heap.size W vv l' ∧ Boxed W w1.heap.size 3 (.int .i64 (cnt : Nat)) ∧ W.heap[g1]? = some O ∧ Below w.heap.size w W)
      ?own ?ownx ⟨_, hvL, orec_nil _ _, hbn, Nat.zero_le _, hgL, hbwL⟩
      (fun x a' W => ∃ Bx, W.heap[Bx]? = some (.cells x.cells.toArray 74 (0, 0)) ∧ a' = { tmps := #[v, undef, Value.int IntKind.u64 0, Value.int IntKind.i64 0, Value.pointer (some ⟨Bl, 0, none⟩), Value.bool false, Value.slice (some ⟨g1, 0, none⟩) n cp, Value.int IntKind.i64 0, Value.pointer (some ⟨w1.heap.size, 0, none⟩), Value.pointer (some ⟨Bx, 0, none⟩), Value.tuple #[Value.slice (some ⟨g1, 0, none⟩) n cp, Value.int IntKind.i64 0], v, Value.tuple #[Value.slice (some ⟨g1, 0, none⟩) n cp, Value.int IntKind.i64 0], Value.slice (some ⟨g1, 0, none⟩) n cp, Value.int IntKind.i64 0, Value.int IntKind.i64 0, Value.bool false, Value.bool false, Value.slice (some ⟨g1, 0, none⟩) n cp, Value.int IntKind.i64 (n : Nat), Value.bool (decide ((n : Int) < 16)), Value.bool (decide ((n : Int) < 16)), Value.slice (some ⟨g1, 0, none⟩) n cp, Value.slice (some ⟨g1, 12, none⟩) (n - 12) (cp - 12), Value.int IntKind.u32 (cnt : Nat), Value.int IntKind.i64 (cnt : Nat), Value.slice (some ⟨g1, 0, none⟩) n cp, Value.slice (some ⟨g1, 16, none⟩) (n - 16) (cp - 16), Value.func (Fn.func 51) #[] #[Value.pointer (some ⟨w1.heap.size + 1, 0, none⟩)], x.val, undef, undef, undef, undef, undef, undef, undef, undef, undef, undef, undef, undef, undef, undef, undef, undef, undef, undef, undef], defers := [] })
      ?ownax ?assign ?body ?done ?stop)
    case own =>
      rintro pre X Y row ⟨vv, h1, h2, h3, h4, h5, h6⟩ hg hrow
      refine ⟨vv, cells_kept hg hrow h1, orec_kept h2 (fun j cs t fz h _ => cells_kept hg hrow h), cells_kept hg hrow h3, h4, ?_, h6.grown hg h6.size (fun k e => Nat.le_trans hbwL.size (hrow k e).1)⟩
      rw [HO.out] at h5 ⊢; exact cells_kept hg hrow h5
    case ownx =>
      rintro c pre X Y row ⟨rfl, vv, l', x', e1, e2, h1, h2, h3, h5, h6⟩ hg hrow
      refine ⟨rfl, vv, l', x', e1, e2, cells_kept hg hrow h1, orec_kept h2 (fun j cs t fz h _ => cells_kept hg hrow h), cells_kept hg hrow h3, ?_, h6.grown hg h6.size (fun k e => Nat.le_trans hbwL.size (hrow k e).1)⟩
      rw [HO.out] at h5 ⊢; exact cells_kept hg hrow h5
    case ownax =>
      rintro x a' _ X Y row ⟨Bx, h1, h2⟩ hg hrow
      exact ⟨Bx, cells_kept hg hrow h1, h2⟩
    case assign =>
      rintro l0 pre ⟨xk, xs', xa, xb, xc⟩ W K ⟨vv, h1, h2, h3, h4, h5, h6⟩ hK
      simp only [Rec.val]
      gi_wp2
      exact hK _ _ ((KeepsOthers.alloc _ _).from _) (kp_below ((Below.refl _ W).alloc (Nat.le_refl _) _) h1.lt) ⟨vv, h1.alloc _, orec_kept h2 (fun j cs t fz h _ => (alloc_old (lt_at h)).trans h), h3.alloc _, h4, (alloc_old (lt_at h5)).trans h5, h6.alloc h6.size _⟩ ⟨W.heap.size, alloc_new _ _, rfl⟩
    case body =>
      rintro l0 pre ⟨xk, xs', xa, xb, xc⟩ a' W hl ⟨r, hr⟩ ⟨vv, h1, h2, h3, h4, h5, h6⟩ ⟨Bx, hBx, rfl⟩ hlt
      have hc1 := h1.cell
      have hf1 := h1.frozen
      have hc3 := h3.cell
      obtain ⟨av, cv, rfl⟩ := orec_form h2
      have x0 := cell_at hBx 0
      have x1 := cell_at hBx 1
      have x2 := cell_at hBx 2
      have x3 := cell_at hBx 3
      have x4 := cell_at hBx 4
      simp [Rec.cells] at x0 x1 x2 x3 x4
      by_cases hpc : pre.length = cnt
      · have e1 : ((pre.length : Int) == (cnt : Int)) = true := beq_iff_eq.2 (by rw [hpc])
        simp only [Rec.val]
        gi_wp2
        exact ⟨KeepsFrom.refl _ _, rfl, _, pre, _, rfl, hpc, h1, h2, h3, h5, h6⟩
      · have e1 : ((pre.length : Int) == (cnt : Int)) = false := beq_eq_false_iff_ne.2 (by omega)
        simp only [Rec.val]
        obtain ⟨i0, hi, hz0, hz1, hz2⟩ := info_parts info_rec
        have HE := hid h2
        have HKF := hid h5
        have HB6 := hid h6
        have HV := hid h1
        have HBN := hid h3
        have HPL := hid (show pre.length + 1 ≤ cnt from by omega)
        have hsz6 := h6.size
        have hml : pre.length ≤ 1000000 := by omega
        have hnr : some g1 ≠ (Value.slice av pre.length cv).ownBlock := fun e => by
          rcases h2.2 with ⟨e', _⟩ | ⟨g, cap, cur', e', _, hgg, _⟩
          · rw [e'] at e; cases e
          · rw [e'] at e; cases e
            rw [h5, HO.out] at hgg
            simp at hgg
        clear h3 h4 h5 h6 hr
        gi_wp2_with (first
          | (gi_at_builtin; refine wpListIn_append_own_at _ rfl _ _ 63 rfl w.heap.size 74 i0 recZ 5 40 Try.underlying63 hi hz0 hz1 hz2 rfl (by decide) _ _ _ rfl (h2.alloc _) ⟨W.heap.size, 0, none⟩ 1 1 (Rec.cells ⟨xk, xs', xa, xb, xc⟩) rfl rfl (World.news_of_block (alloc_new _ _)) (cells_one _) (by unfold maxLen; omega) (by omega) (by simp; omega) ?_
             intro v' w3 hown' hgrow hnil hat
             obtain ⟨g', cap', rfl⟩ := ownsRow_succ hown'
             obtain ⟨hv1, hv2, hr2, hk2, hb2⟩ := HV.out.appended (by decide) HE.out hsz6 (by omega) hown' hgrow
             have hcw := hv1.cell
             have hfw := hv1.frozen
             have HT := hid hat
             have HG3 := hid hgrow
             clear hat hnil)
          | fail)
        have HR2 : ORec w.heap.size (w3.setCell ⟨Bl, 0, none⟩ (.slice (some ⟨g', 0, none⟩) (pre.length + 1) cap')) (.slice (some ⟨g', 0, none⟩) (pre.length + 1) cap') (pre ++ [⟨xk, xs', xa, xb, xc⟩]) := by
          unfold ORec
          rw [List.length_append, List.flatMap_append]
          simpa using hr2
        refine ⟨hk2.from _, ⟨Nat.le_trans (by simp) (Nat.le_trans HG3.out.size (by simp)), fun j cs t fz hj hn => ?_, fun j hj ht => ?_, fun hi' j ht => ?_⟩, _, hv2, HR2, ?_, by rw [List.length_append]; exact HPL.out, ?_, HB6.out.trans hb2⟩
        · have hn' := fun e => hn ((tc_iff HV.out HE.out j).2 e)
          exact (set_other (a := ⟨Bl, 0, none⟩) (fun e => hn' (.inl e))).trans ((HG3.out.block j (by simp; have := lt_at hj; omega) (fun e => hn' (.inr e.symm))).trans ((alloc_old (lt_at hj)).trans hj))
        · rcases (tc_iff hv2 HR2 j).1 ht with e | e
          · exact (tc_iff HV.out HE.out j).2 (.inl e)
          · rcases HT.out with h | h
            · exact (tc_iff HV.out HE.out j).2 (.inr (h ▸ e))
            · exfalso; rw [h] at e; simp at e; omega
        · rcases (tc_iff hv2 HR2 j).1 ht with e | e
          · rw [e]; exact hv2.lt
          · obtain ⟨g2, cap2, e2, _, hlt2⟩ := World.ownsRow.form hr2 (by omega)
            cases e2; cases e; exact hlt2
        · exact (((HBN.out.alloc _).kept HG3.out (HBN.out.not_row (by decide) HE.out)).other (by omega) _)
        · exact (set_other (a := ⟨Bl, 0, none⟩) hg1B).trans ((HG3.out.block g1 (by simp; have := lt_at HKF.out; omega) hnr).trans ((alloc_old (lt_at HKF.out)).trans HKF.out))
    case done =>
      rintro D ys W hD hys ⟨vv, h1, h2, h3, h4, h5, h6⟩ hK
      have HYS := hid hys
      clear hys
      have h64 := hid (fun W' (hW : Below W.heap.size W W') => uint64_any _ l W' ((HRD.out W h5).below hW) HLX.out (by rw [HLL.out]; omega))
      have h32 := hid (fun W' (hW : Below W.heap.size W W') => uint32_any _ (l.drop 8) W' ((rd_drop (HRD.out W h5) 8 (by rw [HLL.out]; omega)).below hW) (fun y hy => HLX.out y (List.mem_of_mem_drop hy)) (by rw [List.length_drop, HLL.out]; omega))
      rw [HLL.out] at h32
      obtain ⟨gen, hgen⟩ : ∃ k, num (l.take 8) = k := ⟨_, rfl⟩
      obtain ⟨bno, hbno⟩ : ∃ k, num ((l.drop 8).take 4) = k := ⟨_, rfl⟩
      rw [hgen] at h64
      rw [hbno] at h32
      have hbl4 : bno < 4294967296 := by
        have hh := num_lt (l := (l.drop 8).take 4) (fun y hy => HLX.out y (List.mem_of_mem_drop (List.mem_of_mem_take hy)))
        rw [hbno, show ((l.drop 8).take 4).length = 4 from by rw [List.length_take, List.length_drop, HLL.out]; omega] at hh
        exact hh
      have kb : IntKind.i64.wrap (bno : Int) = (bno : Int) := IntWalk.i64_in _ ⟨by omega, by omega⟩
      have HGE := hid hgen
      have HBO := hid hbno
      have k8 : (8 : Int) ≤ (cp : Int) := by omega
      have k8n : ¬ cp = 8 := by omega
      have k8m : (8 : Int) ≤ (n : Int) := by omega
      have y1 := h1.cell
      have y2 := h1.frozen
      have y3 := h3.cell
      have HV := hid h1
      have HRW := hid h2
      have HB6 := hid h6
      have HK := hid hK
      have HD := hid hD
      obtain ⟨av, cv, rfl⟩ := orec_form h2
      clear h1 h2 h3 h5 h6 hK hD hgen hbno
      dsimp only
      go_wp2_with fail
      have hset : W.setCell ⟨Bl, 0, none⟩ (.slice av ys.length cv) = W := set_self y1
      have hset2 : W.drew.setCell ⟨Bl, 0, none⟩ (.slice av ys.length cv) = W.drew := set_self y1
      have h64' := hid (h64.out W.drew (Below.refl _ _).drew)
      have h32' := hid (h32.out W.drew (Below.refl _ _).drew)
      go_region_held3 (fun w' => w'.cell? ⟨Bl, 0, none⟩ = some (.slice av ys.length cv) ∧ w'.cell? ⟨w1.heap.size, 0, none⟩ = some (.int .i64 (cnt : Nat)))
        (first | exact ⟨y1, y3⟩)
        (first | (go_at_call 35; refine h32'.out.mono ?_; rintro _ _ ⟨rfl, rfl⟩) | (go_at_call 36; refine h64'.out.mono ?_; rintro _ _ ⟨rfl, rfl⟩))
      go_wp2_with fail
      have hBD : Bl ≠ D := by have := HD.out; omega
      have hc9 : (W.drew.putObj D (.deferred none)).cell? ⟨Bl, 0, none⟩ = some (.slice av ys.length cv) := (World.cell?_of_block (a := ⟨Bl, 0, none⟩) (World.putObj_heap_other hBD)).trans y1
      have hlt9 : D < W.heap.size := lt_at HK.out
      have hb9 : Below w.heap.size w (W.drew.putObj D (.deferred none)) := HB6.out.drew.grown (grownBy_putObj' _ _ _) HB6.out.size (fun k e => by cases e; have := HD.out; have := hbwL.size; omega)
      have ho9 : ORec w.heap.size (W.drew.putObj D (.deferred none)) (.slice av ys.length cv) ys := orec_kept HRW.out (fun j cs t fz h _ => (World.putObj_heap_other (fun e => by subst e; rw [HK.out] at h; cases h)).trans h)
      have HCR := hid (show chunkR xs = if (RS.take cnt).length = cnt then some (gen, bno, RS.take cnt) else none from by
        unfold chunkR; rw [HOE.out]; show (if l.length < 16 then none else _) = _; rw [if_neg (by rw [HLL.out]; omega), hRS, HCN.out, HGE.out, HBO.out])
      rw [← HYS.out, List.take_of_length_le h4] at HCR
      by_cases hq : ys.length = cnt
      · have e1 : ((ys.length : Int) == (cnt : Int)) = true := beq_iff_eq.2 (by rw [hq])
        rw [e1]
        exact postM_ret1 HK.out (v := .tuple #[.int .u64 (gen : Nat), .int .i64 (bno : Nat), .slice av ys.length cv, .bool true]) (by simp [results, Try.results23, go_sem, hc9]) ⟨.inl ⟨gen, bno, ys, _, HCR.out.trans (if_pos hq), rfl, ho9⟩, hb9⟩
      · have e1 : ((ys.length : Int) == (cnt : Int)) = false := beq_eq_false_iff_ne.2 (by omega)
        rw [e1]
        exact postM_ret1 HK.out (v := .tuple #[.int .u64 (gen : Nat), .int .i64 (bno : Nat), .slice av ys.length cv, .bool false]) (by simp [results, Try.results23, go_sem, hc9]) ⟨.inr ⟨HCR.out.trans (if_neg hq), gen, bno, _, rfl⟩, hb9⟩
    case stop =>
      rintro D c pre W hD hsp ⟨rfl, vv, l', x', e1, e2, h1, h2, h3, h5, h6⟩ hK
      have E1 := hid e1
      have E2 := hid e2
      have e9 : ((l'.length : Int) == (cnt : Int)) = true := beq_iff_eq.2 (by rw [e2])
      clear e1 e2
      refine wpIn_wide.2 ?_
      have h64 := hid (fun W' (hW : Below W.heap.size W W') => uint64_any _ l W' ((HRD.out W h5).below hW) HLX.out (by rw [HLL.out]; omega))
      have h32 := hid (fun W' (hW : Below W.heap.size W W') => uint32_any _ (l.drop 8) W' ((rd_drop (HRD.out W h5) 8 (by rw [HLL.out]; omega)).below hW) (fun y hy => HLX.out y (List.mem_of_mem_drop hy)) (by rw [List.length_drop, HLL.out]; omega))
      rw [HLL.out] at h32
      obtain ⟨gen, hgen⟩ : ∃ k, num (l.take 8) = k := ⟨_, rfl⟩
      obtain ⟨bno, hbno⟩ : ∃ k, num ((l.drop 8).take 4) = k := ⟨_, rfl⟩
      rw [hgen] at h64
      rw [hbno] at h32
      have hbl4 : bno < 4294967296 := by
        have hh := num_lt (l := (l.drop 8).take 4) (fun y hy => HLX.out y (List.mem_of_mem_drop (List.mem_of_mem_take hy)))
        rw [hbno, show ((l.drop 8).take 4).length = 4 from by rw [List.length_take, List.length_drop, HLL.out]; omega] at hh
        exact hh
      have kb : IntKind.i64.wrap (bno : Int) = (bno : Int) := IntWalk.i64_in _ ⟨by omega, by omega⟩
      have HGE := hid hgen
      have HBO := hid hbno
      have k8 : (8 : Int) ≤ (cp : Int) := by omega
      have k8n : ¬ cp = 8 := by omega
      have k8m : (8 : Int) ≤ (n : Int) := by omega
      have y1 := h1.cell
      have y2 := h1.frozen
      have y3 := h3.cell
      have HV := hid h1
      have HRW := hid h2
      have HB6 := hid h6
      have HK := hid hK
      have HD := hid hD
      obtain ⟨av, cv, rfl⟩ := orec_form h2
      clear h1 h2 h3 h5 h6 hK hD hgen hbno
      dsimp only
      go_wp2_with fail
      have hset : W.setCell ⟨Bl, 0, none⟩ (.slice av l'.length cv) = W := set_self y1
      have hset2 : W.drew.setCell ⟨Bl, 0, none⟩ (.slice av l'.length cv) = W.drew := set_self y1
      have h64' := hid (h64.out W.drew (Below.refl _ _).drew)
      have h32' := hid (h32.out W.drew (Below.refl _ _).drew)
      go_region_held3 (fun w' => w'.cell? ⟨Bl, 0, none⟩ = some (.slice av l'.length cv) ∧ w'.cell? ⟨w1.heap.size, 0, none⟩ = some (.int .i64 (cnt : Nat)))
        (first | exact ⟨y1, y3⟩)
        (first | (go_at_call 35; refine h32'.out.mono ?_; rintro _ _ ⟨rfl, rfl⟩) | (go_at_call 36; refine h64'.out.mono ?_; rintro _ _ ⟨rfl, rfl⟩))
      go_wp2_with fail
      have hBD : Bl ≠ D := by have := HD.out; omega
      have hc9 : (W.drew.putObj D (.deferred none)).cell? ⟨Bl, 0, none⟩ = some (.slice av l'.length cv) := (World.cell?_of_block (a := ⟨Bl, 0, none⟩) (World.putObj_heap_other hBD)).trans y1
      have hlt9 : D < W.heap.size := lt_at HK.out
      have hb9 : Below w.heap.size w (W.drew.putObj D (.deferred none)) := HB6.out.drew.grown (grownBy_putObj' _ _ _) HB6.out.size (fun k e => by cases e; have := HD.out; have := hbwL.size; omega)
      have ho9 : ORec w.heap.size (W.drew.putObj D (.deferred none)) (.slice av l'.length cv) l' := orec_kept HRW.out (fun j cs t fz h _ => (World.putObj_heap_other (fun e => by subst e; rw [HK.out] at h; cases h)).trans h)
      have HCR := hid (show chunkR xs = if (RS.take cnt).length = cnt then some (gen, bno, RS.take cnt) else none from by
        unfold chunkR; rw [HOE.out]; show (if l.length < 16 then none else _) = _; rw [if_neg (by rw [HLL.out]; omega), hRS, HCN.out, HGE.out, HBO.out])
      have htk : RS.take cnt = l' := by
        obtain ⟨q, hq⟩ := hsp
        rw [← hq, E1.out, List.append_assoc, ← E2.out, List.take_left]
      rw [htk] at HCR
      exact postM_ret1 HK.out (v := .tuple #[.int .u64 (gen : Nat), .int .i64 (bno : Nat), .slice av l'.length cv, .bool true]) (by simp [results, Try.results23, go_sem, hc9]) ⟨.inl ⟨gen, bno, l', _, HCR.out.trans (if_pos E2.out), rfl, ho9⟩, hb9⟩
  · have HP := hid (show chunkR xs = none from by unfold chunkR; rw [ho])
    clear ho
    go_wp2_with fail
    have hc9 : (w1.setCell ⟨Bl, 0, none⟩ (.slice none 0 0)).cell? ⟨Bl, 0, none⟩ = some (.slice none 0 0) := by rw [set_self HV1.out.cell]; exact HV1.out.cell
    exact postM_ret (v := .tuple #[.int .u64 0, .int .i64 0, .slice none 0 0, .bool false]) (by simp [results, Try.results23, go_sem, hc9]) ⟨.inr ⟨HP.out, 0, 0, _, rfl⟩, by rw [set_self HV1.out.cell]; exact HBW1.out⟩
end Go.Proofs.Ytkdjefnnhanhhaa
