/- journal.All, where the caller keeps a slice of its own that grows from round to round. -/
import Derived.Test.YtkdjefnnhanhhaaUw
import Derived.Test.YtkdjefnnhanhhaaUt
import Derived.Test.YtkdjefnnhanhhaaUs
import Derived.Maps.OwnIn
set_option linter.unusedVariables false
namespace Go.Proofs.Ytkdjefnnhanhhaa
open Go Go.RowKit Go.Mem Go.Jn Go.Shelf
set_option linter.unusedVariables false

/-- What a round of the caller may turn: the blocks of X, and those that are its own (R). -/
structure KpR (n0 : Nat) (X : Nat → Prop) (R : World → Nat → Prop) (W W' : World) : Prop where
  size : W.heap.size ≤ W'.heap.size
  old : ∀ j, j < n0 → ¬ X j → W'.heap[j]? = W.heap[j]?
  own : ∀ j, R W' j → R W j ∨ W.heap.size ≤ j
  same : ∀ j cs t fz, W.heap[j]? = some (.cells cs t fz) → ¬ X j → ¬ R W j → W'.heap[j]? = some (.cells cs t fz)
theorem KpR.trans {n0 : Nat} {X : Nat → Prop} {R : World → Nat → Prop} {A B C : World} (h : KpR n0 X R A B) (k : KpR n0 X R B C) : KpR n0 X R A C := by
  refine ⟨Nat.le_trans h.size k.size, fun j hj hx => (k.old j hj hx).trans (h.old j hj hx), fun j hj => ?_, fun j cs t fz hj hx hr => ?_⟩
  · rcases k.own j hj with h1 | h1
    · exact h.own j h1
    · exact .inr (Nat.le_trans h.size h1)
  · refine k.same j cs t fz (h.same j cs t fz hj hx hr) hx (fun h' => ?_)
    rcases h.own j h' with h1 | h1
    · exact hr h1
    · have := lt_at hj; omega
set_option maxRecDepth 100000 in
set_option maxHeartbeats 3200000 in
theorem jall1_inR (n : Nat) (hn : 1 ≤ n) (l Bj J b n0 : Nat) (X : Nat → Prop) (R : World → Nat → Prop) (M : MM) (hM : M.length ≤ 60000) (Jv Jx : List Nat → World → Prop)
    (hY : ∀ pre x W, Jv pre W → pre.length < M.length → YieldAt Fence.wide (n - 1) Try.prog l (kvE M x) W fun e W' =>
      (e = .returned (.bool true) ∧ Jv (pre ++ [x]) W' ∧ KpR n0 X R W W') ∨ (e = .returned (.bool false) ∧ Jx (pre ++ [x]) W'))
    (W : World) (hJ : AbidesFrom W.heap.size Jv) (hB : W.cell? ⟨Bj, 0, none⟩ = some (.pointer (some ⟨J, 0, none⟩))) (hJ1 : W.cell? ⟨J, 1, none⟩ = some (.map (some b))) (hmp : MAt Try.prog 38 38 W b M)
    (hn0 : n0 ≤ W.heap.size) (hl : Bj < n0 ∧ J < n0 ∧ b < n0) (hx : ¬ X Bj ∧ ¬ X J ∧ ¬ X b) (hxn : ∀ j, W.heap.size ≤ j → ¬ X j) (hR0 : ∀ w9, Below W.heap.size W w9 → ∀ j, R w9 j → j < W.heap.size) (h0 : Jv [] W) :
    CallsIn Fence.wide n Try.prog 30 #[.func (.yield l) #[] #[], .pointer (some ⟨Bj, 0, none⟩)] W fun e W' => (∃ v, e = .returned v) ∧ ((∃ ys, ys = List.range M.length ∧ Jv ys W') ∨ (∃ pre, pre <+: List.range M.length ∧ Jx pre W')) := by
  have HY := hid hY
  have HJ := hid hJ
  have HX := hid hx
  have HXN := hid hxn
  have HL := hid hl
  have HN0 := hid hn0
  have HR0 := hid hR0
  have HMP := hid hmp
  have hfit := hmp.2
  clear hY hJ hx hxn hl hR0
  have HK := hid (keysM_any b W)
  have hb8 : Below W.heap.size W (W.alloc (.cells #[.map (some b)] 44)) := (Below.refl _ _).alloc (Nat.le_refl _) _
  have HSD := hid (sortedM_any M hM W.heap.size b (W.alloc (.cells #[.map (some b)] 44)) (by simp) (by rw [cell_at (alloc_new _ _)]; rfl) (hmp.below hb8))
  have HB8 := hid hb8
  clear hmp hb8 hn0
  refine callsIn_of_wp Try.func30 rfl trivial ?_ rfl
  simp only [Try.ntmps30, List.size_toArray, List.length_cons, List.length_nil, Nat.reduceAdd, Nat.reduceSub, Array.replicate_succ, Array.replicate_zero, List.push_toArray, List.append_toArray, List.nil_append, List.cons_append]
  gi_wp2_with fail
  refine ⟨trivial, ?_⟩
  refine (callsIn_wide.2 HK.out).mono ?_
  rintro e w1 ⟨rfl, rfl⟩
  gi_wp2_with fail
  refine ⟨trivial, ?_⟩
  refine (callsIn_wide.2 HSD.out).mono ?_
  rintro e w9 ⟨⟨kv, rfl, hkv⟩, hb9⟩
  have hB9 : Below W.heap.size W w9 := HB8.out.comp hb9
  have hlen : (keysM M).length = M.length := by simp [keysM]
  obtain ⟨ka, kc, hkf⟩ : ∃ a c, kv = .slice a M.length c := by obtain ⟨a, c, e, _⟩ := hkv.rd; exact ⟨a, c, by rw [e, hlen]⟩
  have HB9 := hid hB9
  have HJ9 := hid (HJ.out [] W w9 none h0 (hB9.toGrown none) (fun r e => by cases e))
  subst hkf
  have HKV := hid hkv
  obtain ⟨N, hN⟩ : ∃ N, M.length = N := ⟨_, rfl⟩
  have HN := hid hN
  rw [hN] at hM
  rw [hN] at hkv HKV ⊢
  have hcap := hkv.rd.caps
  clear hB9 hlen hkv hb9 h0 hN HK HSD HB8
  gi_wp2_with fail
  gi_loopw [14] (fun vi wr => ∃ I : Nat, vi = .int .i64 (I : Nat) ∧ I ≤ N ∧ Jv (List.range I) wr ∧ W.heap.size ≤ wr.heap.size ∧ wr.cell? ⟨Bj, 0, none⟩ = some (.pointer (some ⟨J, 0, none⟩)) ∧ wr.cell? ⟨J, 1, none⟩ = some (.map (some b)) ∧ MAt Try.prog 38 38 wr b M ∧ Mem.Own .u64 38 W.heap.size wr (.slice ka N kc) (keysM M) ∧ ∀ g, (Value.slice ka N kc).ownBlock = some g → ¬ R wr g)
    (fun vi wr => N - idxOf vi)
  case atStart =>
    have hb := HB9.out
    exact ⟨0, rfl, Nat.zero_le _, HJ9.out, hb.size, (hb.cell (p := ⟨Bj, 0, none⟩) (by have := HL.out.1; have := HN0.out; show Bj < _; omega)).trans hB, (hb.cell (p := ⟨J, 0 + 1, none⟩) (by have := HL.out.2.1; have := HN0.out; show J < _; omega)).trans hJ1, HMP.out.below hb, Mem.Own.mono HKV.out (by simp), fun g e h' => by have h1 := HR0.out _ HB9.out g h'; have h2 := (HKV.out.blk g e).1; simp at h2; omega⟩
  case round =>
    obtain ⟨I, rfl, hIN, hJI, hsz, q1, q2, hmp, hkv, hrg⟩ := hrel
    clear hB hJ1
    by_cases hlt : I < N
    · have i1 : (I : Int) < (N : Int) := by omega
      have hIm : I < M.length := by rw [HN.out]; exact hlt
      obtain ⟨p, hp⟩ : ∃ p, M[I]? = some p := ⟨_, List.getElem?_eq_getElem hIm⟩
      have hgd : M.getD I (0, 0) = p := by simp [List.getD, hp]
      have hpf := hfit.2 p (List.mem_of_getElem? hp)
      have hlk := hmp.look tm_u64 hpf.1
      rw [getM_at hfit.1 hp, Option.getD_some] at hlk
      obtain ⟨g, hka⟩ : ∃ g, ka = some ⟨g, 0, none⟩ := by
        rcases hkv.2 with ⟨_, h0⟩ | ⟨g, _, _, e, _⟩
        · simp [keysM] at h0; rw [h0] at hIm; simp at hIm
        · cases e; exact ⟨g, rfl⟩
      subst hka
      have hk := hkv.rd.atc (j := I) (by simp [keysM]; exact hIm)
      rw [show (keysM M).getD I 0 = p.1 from by simp [keysM, List.getD, hp]] at hk
      rw [Nat.zero_add] at hk
      have hYI := HY.out (List.range I) I wr hJI (by rw [List.length_range]; exact hIm)
      unfold kvE at hYI
      rw [hgd] at hYI
      obtain ⟨fn, tmps, assign, body, hy, hR⟩ := hYI
      have HR := hid hR
      have HMPr := hid hmp
      have HKr := hid hkv
      have HQ1 := hid q1
      have HQ2 := hid q2
      have HSZ := hid hsz
      have HRG := hid hrg
      have hcap2 := hkv.rd.caps
      clear hR hmp hkv hrg hp hgd hpf hIm hcap hfit hJI
      gi_wp2_with fail
      refine HR.out.mono ?_
      rintro e W3 (⟨rfl, hJ3, hk3⟩ | ⟨rfl, hJx3⟩)
      · have hs3 := hk3.size
        have HSZ2 := hid (show W.heap.size ≤ W3.heap.size by omega)
        have HB3 := hid (hk3.old Bj HL.out.1 HX.out.1)
        have HJJ3 := hid (hk3.old J HL.out.2.1 HX.out.2.1)
        have HBB3 := hid (hk3.old b HL.out.2.2 HX.out.2.2)
        have HKV3 := hid (own_kept' HKr.out (fun g' cu hg e => hk3.same g' _ _ _ hg (HXN.out g' (by rcases HKr.out.2 with ⟨e', _⟩ | ⟨g'', _, _, e', h2, _⟩; rw [e'] at e; cases e; rw [e'] at e; cases e; exact h2)) (HRG.out g' e)))
        have HRG3 := hid (fun g' (e : (Value.slice (some ⟨g, 0, none⟩) N kc).ownBlock = some g') (h' : R W3 g') => by
          rcases hk3.own g' h' with h9 | h9
          · exact HRG.out g' e h9
          · have := (HKr.out.blk g' e).2; omega)
        have HJ3 := hid hJ3
        clear hk3 hJ3
        gi_wp2_with fail
        go_roundw
        case measure => simp only [idxOf]; omega
        case rel =>
          refine ⟨I + 1, by go_num, by omega, ?_, HSZ2.out, (World.cell?_of_block (a := ⟨Bj, 0, none⟩) HB3.out).trans HQ1.out, (World.cell?_of_block (a := ⟨J, 1, none⟩) HJJ3.out).trans HQ2.out, HMPr.out.same HBB3.out, HKV3.out, HRG3.out⟩
          rw [List.range_succ]; exact HJ3.out
      · have HJX := hid hJx3
        clear hJx3
        gi_wp2_with fail
        refine bodyPost_ret (results_none rfl _ _ _) rfl ?_
        refine ⟨⟨_, rfl⟩, .inr ⟨_, ?_, HJX.out⟩⟩
        rw [← List.range_succ]
        exact ⟨(List.range (N - (I + 1))).map (fun i => (I + 1) + i), by rw [← List.range_add]; congr 1; have := HN.out; omega⟩
    · obtain rfl : I = N := by omega
      have HJI := hid hJI
      clear hJI hmp hkv
      gi_wp2_with fail
      first | go_end0 | (refine bodyPost_ret (results_none rfl _ _ _) rfl ?_)
      exact ⟨⟨_, rfl⟩, .inl ⟨_, by rw [HN.out], HJI.out⟩⟩
end Go.Proofs.Ytkdjefnnhanhhaa
/- Walks over the journal's laws: JournalStops: what holds between two keys that are seen. -/
namespace Go.Proofs.Ytkdjefnnhanhhaa
open Go Go.RowKit Go.Mem Go.Jn Go.Shelf
set_option linter.unusedVariables false

def keyI (M : MM) (i : Nat) : Nat := (M.getD i (0, 0)).1
/-- Behind so many rounds. -/
structure Sn (W6 : World) (G n : Nat) (M : MM) (pre : List Nat) (W : World) : Prop where
  off : Off (fun i => i = G) W6 W
  le : pre.length ≤ n
  own : ∃ gv, W.heap[G]? = some (.cells #[gv] 45 (0, 0)) ∧ Mem.Own .u64 38 W6.heap.size W gv (pre.map (keyI M))
/-- The block that the slice of what was seen lies in. -/
def gotR (G : Nat) (W : World) (j : Nat) : Prop := ∃ l c, W.cell? ⟨G, 0, none⟩ = some (.slice (some ⟨j, 0, none⟩) l c)
section
variable {W6 A C : World} {G n : Nat} {M : MM} {pre : List Nat}
theorem Sn.kept {row : Option Nat} (h : Sn W6 G n M pre A) (hg : A.grownBy C row) (hrow : ∀ r, row = some r → W6.heap.size ≤ r ∧ ∃ o : Obj, A.heap[r]? = some o ∧ o.isCells = false) : Sn W6 G n M pre C := by
  obtain ⟨gv, h1, h2⟩ := h.own
  refine ⟨h.off.step (off_of_grown hg (fun j e => e) : Off (fun i => row = some i) A C) (fun i hi h' => ?_), h.le, gv, cells_kept hg hrow h1, own_kept' h2 (fun g cu hg' e => cells_kept hg hrow hg')⟩
  have := (hrow i h').1; omega
theorem KpR.putObj {n0 : Nat} {X : Nat → Prop} {W : World} {l : Nat} {o : Obj} (o' : Obj) (hl : W.heap[l]? = some o) (ho : o.isCells = false) (hn : n0 ≤ l) (hG : G < n0) : KpR n0 X (gotR G) W (W.putObj l o') := by
  refine ⟨(grownBy_putObj' W l o').size, fun j hj _ => World.putObj_heap_other (by omega), fun j hj => .inl ?_, fun j cs t fz hj _ _ => (World.putObj_heap_other (fun e => by subst e; rw [hj] at hl; cases hl; cases ho)).trans hj⟩
  obtain ⟨a, c, h⟩ := hj
  exact ⟨a, c, by rw [← World.cell?_of_block (a := ⟨G, 0, none⟩) (World.putObj_heap_other (show G ≠ l by omega))]; exact h⟩
/-- A key more has been seen. -/
theorem Sn.snoc {w3 : World} {gv v' : Value} {x g' cap' : Nat} (h : Sn W6 G n M pre A) (hG : G < W6.heap.size) (hlt : pre.length < n) (h1 : A.heap[G]? = some (.cells #[gv] 45 (0, 0))) (h2 : Mem.Own .u64 38 W6.heap.size A gv (pre.map (keyI M)))
    (hgr : (A.alloc (.cells #[.int .u64 (keyI M x : Nat)] 38)).grownBy w3 gv.ownBlock) (hv : v' = .slice (some ⟨g', 0, none⟩) (pre.length + 1) cap')
    (hown : w3.ownsRow W6.heap.size 38 1 v' (pre.length + 1) ((pre.map (keyI M)).map (fun y => Value.int .u64 (y : Nat)) ++ [.int .u64 (keyI M x : Nat)])) (hat : v'.ownBlock = gv.ownBlock ∨ v'.ownBlock = some (A.heap.size + 1)) :
    KeepsFrom W6.heap.size A (w3.setCell ⟨G, 0, none⟩ v') ∧ KpR W6.heap.size (fun i => i = G) (gotR G) A (w3.setCell ⟨G, 0, none⟩ v') ∧ Sn W6 G n M (pre ++ [x]) (w3.setCell ⟨G, 0, none⟩ v') := by
  have hs6 := h.off.size
  have hGA := lt_at h1
  have hblk := h2.blk
  have hrow : ∀ (j : Nat) (o : Obj), gv.ownBlock = some j → (A.alloc (.cells #[.int .u64 (keyI M x : Nat)] 38)).heap[j]? = some o → o.isCells = true := fun j o hj ho => by
    rcases h2.2 with ⟨rfl, _⟩ | ⟨g, cap, cur, rfl, _, h3, _⟩
    · cases hj
    · have e : some g = some j := hj
      injection e with e
      subst e
      rw [alloc_old (lt_at h3), h3] at ho
      cases ho; rfl
  have hG3 : w3.heap[G]? = some (.cells #[gv] 45 (0, 0)) := (hgr.block G (by simp; omega) (fun e => by have := (hblk G e.symm).1; omega)).trans ((alloc_old hGA).trans h1)
  have hsz := hgr.size
  rw [World.size_alloc] at hsz
  refine ⟨((((KeepsOthers.alloc A _).trans (KeepsOthers.of_grownBy hgr hrow)).trans (KeepsOthers.setCell w3 ⟨G, 0, none⟩ v')).from _), ⟨by simp; omega, fun j hj hx => ?_, fun j hj => ?_, fun j cs t fz hj hx hr => ?_⟩, ⟨?_, by rw [List.length_append, List.length_singleton]; omega, v', by have := set_at hG3 0 v'; exact this, ?_⟩⟩
  · rw [set_other (a := ⟨G, 0, none⟩) hx, hgr.block j (by simp; omega) (fun e => by have := (hblk j e.symm).1; omega), alloc_old (by omega)]
  · obtain ⟨l, c, hc⟩ := hj
    rw [cell_at (set_at hG3 0 v')] at hc
    have e : v' = .slice (some ⟨j, 0, none⟩) l c := by simpa using hc
    have e2 : v'.ownBlock = some j := by rw [e]; rfl
    rcases hat with h9 | h9
    · left
      rw [e2] at h9
      rcases h2.2 with ⟨rfl, _⟩ | ⟨g, cap, cur, rfl, _, h3, _⟩
      · cases h9
      · have e3 : some j = some g := h9
        injection e3 with e3
        subst e3
        exact ⟨_, _, by rw [cell_at h1]; rfl⟩
    · right
      rw [e2] at h9
      injection h9 with h9
      omega
  · rw [set_other (a := ⟨G, 0, none⟩) hx, hgr.block j (by have := lt_at hj; simp; omega) (fun e => hr ?_), alloc_old (lt_at hj)]
    · exact hj
    · rcases h2.2 with ⟨rfl, _⟩ | ⟨g, cap, cur, rfl, _, h3, _⟩
      · cases e
      · have e3 : some j = some g := e
        injection e3 with e3
        subst e3
        exact ⟨_, _, by rw [cell_at h1]; rfl⟩
  · refine (h.off.step (X := fun i => i = G) (Off.of_below (Q := fun _ => False) ((Below.refl _ A).alloc (Nat.le_refl _) _)) (fun i _ h' => h'.elim)).step (Q' := fun i => gv.ownBlock = some i ∨ i = G) ((off_of_grown hgr (fun j e => .inl e)).setCell (p := ⟨G, 0, none⟩) (.inr rfl) v') (fun i hi h' => ?_)
    rcases h' with h' | h'
    · have := (hblk i h').1; omega
    · exact h'
  · have ho : Mem.Own .u64 38 W6.heap.size w3 v' ((pre ++ [x]).map (keyI M)) := by
      unfold Mem.Own
      rw [List.length_map, List.length_append, List.length_singleton, List.map_append, List.map_append]
      exact hown
    exact ho.kept (grown_set w3 G 0 v') (.inr (fun e => by have := (ho.blk G e).1; omega))
theorem V3.at {M : MM} (h : V3 M) (x : Nat) : (M.getD x (0, 0)).2 = keyI M x * 3 % 18446744073709551616 := by
  unfold keyI
  by_cases hx : x < M.length
  · have : M.getD x (0, 0) ∈ M := by simp [List.getD, hx]
    exact h _ this
  · rw [List.getD, List.getElem?_eq_none (by omega)]; rfl
/-- What was seen, as a row of the first keys. -/
theorem Sn.row {W : World} {L : Nat} (h : Sn W6 G n M pre W) (hp : pre = List.range L) (hL : L ≤ M.length) : L ≤ n ∧ ∃ gv, W.heap[G]? = some (.cells #[gv] 45 (0, 0)) ∧ Rd .u64 W gv ((keysM M).take L) := by
  obtain ⟨gv, h1, h2⟩ := h.own
  refine ⟨by have := h.le; rw [hp, List.length_range] at this; exact this, gv, h1, ?_⟩
  have e : pre.map (keyI M) = (keysM M).take L := by
    rw [hp]
    apply List.ext_getElem (by simp [keysM]; omega)
    intro i i1 i2
    simp at i1
    simp [keysM, keyI, List.getD, show i < M.length by omega]
  rw [← e]
  exact h2.rd
/-- The first of a row's beginning. -/
theorem pre_range {l' : List Nat} {x m : Nat} (hp : l' ++ [x] <+: List.range m) : l' = List.range l'.length ∧ l'.length + 1 ≤ m := by
  obtain ⟨q, hq⟩ := hp
  have hlen : l'.length + 1 ≤ m := by
    have := congrArg List.length hq
    simp at this; omega
  have h1 : (l' ++ [x]) = (List.range m).take (l'.length + 1) := by
    rw [← hq, List.take_left' (by simp)]
  rw [List.take_range, Nat.min_eq_left hlen, List.range_succ] at h1
  exact ⟨(List.append_inj h1 (by simp)).1, hlen⟩
end
end Go.Proofs.Ytkdjefnnhanhhaa
