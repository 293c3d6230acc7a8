/- Walks over record: known, Bytes. -/
import Derived.Test.YtkdjefnnhanhhaaUd
import Derived.Deep.LoopGhost
set_option linter.unusedVariables false
namespace Go.Proofs.Ytkdjefnnhanhhaa
open Go Go.RowKit Go.Mem Go.Pg
set_option linter.unusedVariables false

/-- A record. -/
structure Rec where
  kind : Nat
  seq : Nat
  a : Nat
  b : Nat
  c : Nat
def Rec.ns (r : Rec) : Nat → Nat | 0 => r.seq | 1 => r.a | 2 => r.b | _ => r.c
def Rec.Fit (r : Rec) : Prop := (1 ≤ r.kind ∧ r.kind ≤ 4) ∧ ∀ i, r.ns i < 18446744073709551616
def Rec.val (r : Rec) : Value := .agg #[.int .i64 (r.kind : Nat), .int .u64 (r.seq : Nat), .int .u64 (r.a : Nat), .int .u64 (r.b : Nat), .int .u64 (r.c : Nat)]
/-- Its kind, and the first I of its numbers, as bytes. -/
def rawI (r : Rec) (I : Nat) : List Nat := r.kind :: (List.range I).flatMap (fun i => Pg.low (r.ns i) 8)
theorem rawI_succ (r : Rec) (I : Nat) : rawI r (I + 1) = rawI r I ++ Pg.low (r.ns I) 8 := by
  unfold rawI
  rw [List.range_succ, List.flatMap_append]
  simp
theorem rawI_len (r : Rec) : ∀ I, (rawI r I).length = 1 + 8 * I
  | 0 => rfl
  | I + 1 => by rw [rawI_succ, List.length_append, rawI_len r I, low_len]; omega
theorem rawI_lt (r : Rec) (h : r.Fit) : ∀ I, ∀ y ∈ rawI r I, y < 256
  | 0, y, hy => by
    have : y = r.kind := by simpa [rawI] using hy
    have := h.1.2
    omega
  | I + 1, y, hy => by
    rw [rawI_succ] at hy
    rcases List.mem_append.1 hy with hy | hy
    · exact rawI_lt r h I y hy
    · exact low_lt _ _ y hy
def recB (r : Rec) : List Nat := sealB (rawI r 4)
theorem recB_len (r : Rec) : (recB r).length = 37 := by unfold recB sealB; rw [List.length_append, rawI_len, low_len]
set_option maxRecDepth 100000 in
set_option maxHeartbeats 800000 in
theorem known_any (k : Int) (w : World) : Calls Try.prog 60 #[.int .i64 k] w fun e w' => e = .returned (.bool (decide (1 ≤ k ∧ k ≤ 4))) ∧ w = w' := by
  by_cases h1 : 1 ≤ k
  · by_cases h2 : k ≤ 4
    · rw [decide_eq_true ⟨h1, h2⟩]
      go_enter Try.func60, Try.ntmps60
      go_wp2_with fail
      go_ret
      exact ⟨by simp, rfl⟩
    · rw [decide_eq_false (fun h => h2 h.2)]
      go_enter Try.func60, Try.ntmps60
      go_wp2_with fail
      go_ret
      exact ⟨by simp, rfl⟩
  · rw [decide_eq_false (fun h => h1 h.1)]
    go_enter Try.func60, Try.ntmps60
    go_wp2_with fail
    go_ret
    exact ⟨by simp, rfl⟩
set_option maxRecDepth 100000 in
set_option maxHeartbeats 3200000 in
theorem recBytes_any (r : Rec) (w : World) (hf : r.Fit) :
    Calls Try.prog 55 #[r.val] w fun e w' => (∃ v, e = .returned (.tuple #[v, .int .i64 0]) ∧ Own .u8 5 w.heap.size w' v (recB r)) ∧ Below w.heap.size w w' := by
  have HF := hid hf
  have hk1 : 1 ≤ r.kind ∧ r.kind ≤ 4 := hf.1
  obtain ⟨k, hk⟩ : ∃ k, r.kind = k := ⟨_, rfl⟩
  have KN := hid (known_any (k : Int))
  rw [decide_eq_true (by omega)] at KN
  have hwk : IntKind.u8.wrap (k : Int) = (k : Int) := by rw [byte_of]; omega
  obtain ⟨B, hB⟩ : ∃ B, w.heap.size = B := ⟨_, rfl⟩
  have HBE := hid hB
  unfold Rec.val
  rw [hk, hB]
  have HK := hid hk
  clear hf hk hB
  go_enter Try.func55, Try.ntmps55
  go_wp2_with fail
  refine (KN.out _).mono ?_
  rintro e w1 ⟨rfl, rfl⟩
  go_wp2_with fail
  obtain ⟨W, hW⟩ : ∃ W, ((w.alloc (.cells #[.int .i64 (k : Nat), .int .u64 (r.seq : Nat), .int .u64 (r.a : Nat), .int .u64 (r.b : Nat), .int .u64 (r.c : Nat)] 74)).alloc (.cells #[.int .u8 (k : Nat)] 5)).alloc (.cells #[.int .u64 (r.seq : Nat), .int .u64 (r.a : Nat), .int .u64 (r.b : Nat), .int .u64 (r.c : Nat)] 38) = W := ⟨_, rfl⟩
  obtain ⟨qb, hqb⟩ : ∃ qb, w.heap.size + 1 + 1 = qb := ⟨_, rfl⟩
  have hq0 : W.heap[qb]? = some (.cells (fa .u64 4 r.ns) 38 (0, 0)) := by rw [← hW, ← hqb]; exact alloc_at (by simp)
  have hk0 : W.heap[w.heap.size + 1]? = some (.cells (fa .u8 1 (fun _ => k)) 5 (0, 0)) := by rw [← hW]; exact (alloc_old (by simp)).trans (alloc_at (by simp))
  have hb0 : Below B w W := by rw [← hW, ← HBE.out]; exact (((Below.refl _ _).alloc (Nat.le_refl _) _).alloc (by simp) _).alloc (by simp; omega) _
  have ho0 : Own .u8 5 B W (.slice (some ⟨w.heap.size + 1, 0, none⟩) 1 1) (rawI r 0) := by
    have h1 := Own.of_ow (B := B) (Ow.of_fa hk0 (by unfold maxLen; omega)) (by rw [← HBE.out]; omega)
    have e1 : rawI r 0 = (List.range 1).map (fun _ => k) := by unfold rawI; rw [HK.out]; rfl
    rw [e1]; exact h1
  rw [hW, hqb]
  have HQ0 := hid hq0
  have HB0 := hid hb0
  have HO0 := hid ho0
  have HQB := hid hqb
  clear hW hqb hq0 hk0 hb0 ho0
  go_loopg [4, 25] 4 (fun gk vb vi wr => ∃ (I : Nat) (bv : Value), I + gk = 4 ∧ bv = vb ∧ vi = .int .i64 (I : Nat) ∧ Own .u8 5 B wr bv (rawI r I) ∧ bv.ownBlock ≠ some qb ∧ wr.heap[qb]? = some (.cells (fa .u64 4 r.ns) 38 (0, 0)) ∧ Below B w wr)
  case atStart => exact ⟨0, _, rfl, rfl, rfl, HO0.out, by rw [← HQB.out]; simp [Value.ownBlock], HQ0.out, HB0.out⟩
  case round =>
    obtain ⟨I, bv, hI, rfl, rfl, ho, hne, hq, hb⟩ := hrel
    have HO := hid ho
    have HNE := hid hne
    have HQ := hid hq
    have HB := hid hb
    have HS := hid (show B ≤ wr.heap.size from by rw [← HBE.out]; exact hb.size)
    clear ho hne hq hb
    by_cases hlt : I < 4
    · have i1 : (I : Int) < 4 := by omega
      have i0 : (0 : Int) ≤ (I : Int) := by omega
      have x1 := fa_cell HQ.out hlt
      obtain ⟨y, hy⟩ : ∃ y, r.ns I = y := ⟨_, rfl⟩
      have HA := hid (append64_any B bv (rawI r I) y wr HO.out HS.out (by rw [rawI_len]; omega) (hy ▸ HF.out.2 I))
      rw [hy] at x1
      have HY := hid (show rawI r (I + 1) = rawI r I ++ Pg.low y 8 from by rw [rawI_succ, hy])
      clear hy
      go_wp2_with fail
      refine HA.out.mono ?_
      rintro e w2 ⟨v2, rfl, h1, h2, h3⟩
      have H1 := hid h1
      have H2 := hid h2
      have H3 := hid h3
      clear h1 h2 h3
      go_wp2_with fail
      go_roundg (gk - 1)
      case measure => omega
      case rel => exact ⟨I + 1, _, by omega, rfl, by go_num, by rw [HY.out]; exact H1.out, fun e => by
        rcases H3.out qb e with h | h
        · exact HNE.out h
        · have := lt_at HQ.out; omega, (H2.out.block qb (lt_at HQ.out) (fun e => HNE.out e.symm)).trans HQ.out, grow_below HB.out HS.out H2.out (fun g hg => (HO.out.blk g hg).1)⟩
    · obtain rfl : I = 4 := by omega
      have HSE := hid (seal_any bv (rawI r 4) wr HO.out.rd (rawI_lt r HF.out 4) (by rw [rawI_len]; omega) (by rw [rawI_len]; omega))
      rw [show (((4 : Nat) : Int)) = 4 from rfl]
      go_wp2_with fail
      refine HSE.out.mono ?_
      rintro e w2 ⟨⟨v2, rfl, h1⟩, h2⟩
      have H1 := hid h1
      have H2 := hid h2
      clear h1 h2
      go_wp2_with fail
      go_ret2
      exact ⟨⟨_, rfl, Own.mono H1.out HS.out⟩, HB.out.trans (H2.out.mono HS.out)⟩
end Go.Proofs.Ytkdjefnnhanhhaa
/- Walks over record: Parse. -/
namespace Go.Proofs.Ytkdjefnnhanhhaa
open Go Go.RowKit Go.Mem Go.Pg
set_option linter.unusedVariables false

theorem _root_.Go.Mem.Rd.caps {k : IntKind} {w : World} {a : Option Addr} {n cap : Nat} {xs : List Nat} (h : Rd k w (.slice a n cap) xs) : n = xs.length ∧ xs.length ≤ cap ∧ cap ≤ maxLen := by
  obtain ⟨a', c', he, h1, h2, _⟩ := h
  simp only [Value.slice.injEq] at he
  obtain ⟨_, rfl, rfl⟩ := he
  exact ⟨rfl, h1, h2⟩
theorem _root_.Go.Mem.Rd.atc {k : IntKind} {w : World} {g o n cap : Nat} {xs : List Nat} (h : Rd k w (.slice (some ⟨g, o, none⟩) n cap) xs) {j : Nat} (hj : j < xs.length) : w.cell? ⟨g, o + j, none⟩ = some (.int k ((xs.getD j 0 : Nat) : Int)) := by
  obtain ⟨a', c', he, h1, h2, h3⟩ := h
  cases he
  obtain ⟨g', o', e', x⟩ := h3 j hj
  cases e'
  exact x
set_option maxRecDepth 100000 in
set_option maxHeartbeats 400000 in
theorem uint64_any (v : Value) (xs : List Nat) (w : World) (hv : Rd .u8 w v xs) (hx : ∀ y ∈ xs, y < 256) (hm : 8 ≤ xs.length) :
    Calls Try.prog 36 #[v] w fun e w' => e = .returned (.int .u64 (num (xs.take 8) : Nat)) ∧ w = w' := by
  have HA := hid (lowUint_any v xs 8 w hv hx hm (by decide))
  generalize num (xs.take 8) = n at *
  go_enter Try.func36, Try.ntmps36
  go_wp2_with fail
  refine HA.out.mono ?_
  rintro e w' ⟨rfl, rfl⟩
  go_wp2_with fail
  go_ret
  exact ⟨rfl, rfl⟩
/-- The number of eight bytes, the I-th behind the first byte. -/
def nsOf (l : List Nat) (I : Nat) : Nat := num ((l.drop (1 + 8 * I)).take 8)
/-- The record of 33 bytes. -/
def recOf (l : List Nat) : Rec := ⟨l.getD 0 0, nsOf l 0, nsOf l 1, nsOf l 2, nsOf l 3⟩
/-- The record at the beginning of bytes. -/
def parseR (xs : List Nat) : Option Rec := if xs.length < 37 then none else match openB (xs.take 37) with
  | none => none
  | some l => if 1 ≤ l.getD 0 0 ∧ l.getD 0 0 ≤ 4 then some (recOf l) else none
/-- A record's cells, the first I numbers told. -/
def recC (k : Nat) (f : Nat → Nat) (I : Nat) : Array Value := #[.int .i64 (k : Nat), .int .u64 ((if 0 < I then f 0 else 0 : Nat) : Int), .int .u64 ((if 1 < I then f 1 else 0 : Nat) : Int), .int .u64 ((if 2 < I then f 2 else 0 : Nat) : Int), .int .u64 ((if 3 < I then f 3 else 0 : Nat) : Int)]
def recZ : Value := .agg #[.int .i64 0, .int .u64 0, .int .u64 0, .int .u64 0, .int .u64 0]
theorem rd_same {k : IntKind} {w w' : World} {g o n c : Nat} {xs : List Nat} (h : Rd k w (.slice (some ⟨g, o, none⟩) n c) xs) (hb : w'.heap[g]? = w.heap[g]?) : Rd k w' (.slice (some ⟨g, o, none⟩) n c) xs := by
  obtain ⟨a', c', he, h1, h2, h3⟩ := h
  cases he
  refine ⟨_, _, rfl, h1, h2, fun j hj => ?_⟩
  obtain ⟨g', o', e', x⟩ := h3 j hj
  cases e'
  exact ⟨g, o, rfl, (World.cell?_of_block (a := ⟨g, o + j, none⟩) hb).trans x⟩
theorem rd_lt {k : IntKind} {w : World} {g o n c : Nat} {xs : List Nat} (h : Rd k w (.slice (some ⟨g, o, none⟩) n c) xs) (h1 : 1 ≤ xs.length) : g < w.heap.size := World.block_lt_of_cell? _ _ (h.atc (j := 0) h1)
def ptrC (B : Nat) : Array Value := #[.pointer (some ⟨B, 1, none⟩), .pointer (some ⟨B, 2, none⟩), .pointer (some ⟨B, 3, none⟩), .pointer (some ⟨B, 4, none⟩)]
set_option maxRecDepth 100000 in
set_option maxHeartbeats 6400000 in
theorem parse_any (v : Value) (xs : List Nat) (w : World) (hv : Rd .u8 w v xs) (hx : ∀ y ∈ xs, y < 256) :
    Calls Try.prog 52 #[v] w fun e w' => ((∃ r, parseR xs = some r ∧ e = .returned (.tuple #[r.val, .int .i64 0])) ∨ (parseR xs = none ∧ ∃ c : Int, c ≠ 0 ∧ e = .returned (.tuple #[recZ, .int .i64 c]))) ∧ Below w.heap.size w w' := by
  obtain ⟨B, hB⟩ : ∃ B, w.heap.size = B := ⟨_, rfl⟩
  have HBE := hid hB
  obtain ⟨W0, hW0⟩ : ∃ W, w.alloc (.cells #[.int .i64 0, .int .u64 0, .int .u64 0, .int .u64 0, .int .u64 0] 74) = W := ⟨_, rfl⟩
  have hr0 : W0.heap[B]? = some (.cells #[.int .i64 0, .int .u64 0, .int .u64 0, .int .u64 0, .int .u64 0] 74 (0, 0)) := by rw [← hW0, ← hB]; exact alloc_new w _
  have hb0 : Below B w W0 := by rw [← hW0, ← hB]; exact (Below.refl _ _).alloc (Nat.le_refl _) _
  have HV0 := hid (hv.below (hB ▸ hb0))
  have HR0 := hid hr0
  have HB0 := hid hb0
  have HX := hid hx
  have HW0 := hid hW0
  obtain ⟨a, cap, rfl, x1, x2, x3⟩ := hv
  obtain ⟨N, hN⟩ : ∃ N, xs.length = N := ⟨_, rfl⟩
  have HN := hid hN
  rw [hN] at x1 HV0 ⊢
  rw [hB]
  have l1 : (N : Int) ≤ (cap : Int) := by omega
  have l2 : (cap : Int) ≤ 9223372036854775807 := by unfold maxLen at x2; omega
  clear hr0 hb0 hx hW0 x3 hN hB x2
  by_cases hlt : N < 37
  · have hlti : (N : Int) < 37 := by omega
    have HP := hid (show parseR xs = none from by unfold parseR; rw [if_pos (by rw [HN.out]; exact hlt)])
    go_enter Try.func52, Try.ntmps52
    go_wp2_with fail
    refine bodyPost_ret (v := .tuple #[recZ, .int .i64 80]) ?_ rfl ?_
    · simp [results, Try.results52, go_sem]
      rfl
    · exact ⟨.inr ⟨HP.out, 80, by decide, rfl⟩, HW0.out ▸ HB0.out⟩
  · have hlti : ¬ (N : Int) < 37 := by omega
    have k3 : (37 : Int) ≤ (cap : Int) := by omega
    obtain ⟨g, o, rfl, _⟩ : ∃ g o, a = some ⟨g, o, none⟩ ∧ True := by
      obtain ⟨a', c', e, _, _, h3⟩ := HV0.out
      cases e
      obtain ⟨g, o, e, _⟩ := h3 0 (by rw [HN.out]; omega)
      exact ⟨g, o, e, trivial⟩
    have ht := rd_take HV0.out 37 (by rw [HN.out]; omega)
    have htl : (xs.take 37).length = 37 := by rw [List.length_take, HN.out]; omega
    have HOP := hid (crcOpen_any _ (xs.take 37) W0 ht (fun y hy => HX.out y (List.mem_of_mem_take hy)) (by omega) (by omega))
    rw [htl] at HOP
    have HPE := hid (show parseR xs = match openB (xs.take 37) with
      | none => none
      | some l => if 1 ≤ l.getD 0 0 ∧ l.getD 0 0 ≤ 4 then some (recOf l) else none from by unfold parseR; rw [if_neg (by rw [HN.out]; exact hlt)])
    have HT := hid (fun y (hy : y ∈ xs.take 37) => HX.out y (List.mem_of_mem_take hy))
    have HTL := hid htl
    clear ht htl hlt
    go_enter Try.func52, Try.ntmps52
    go_wp2_with fail
    rw [HW0.out, HBE.out]
    refine HOP.out.mono ?_
    rintro e w1 ⟨hres, hb1⟩
    have HB1 := hid (HB0.out.trans (hb1.mono (show B ≤ W0.heap.size from HBE.out ▸ HB0.out.size)))
    have hr1 := (hb1.block B (lt_at HR0.out)).trans HR0.out
    have HR1 := hid hr1
    rcases hres with ⟨l, g1, c1, ho, hle, rfl, how⟩ | ⟨ho, rfl⟩
    · have HP := hid (show parseR xs = if 1 ≤ l.getD 0 0 ∧ l.getD 0 0 ≤ 4 then some (recOf l) else none from by rw [HPE.out, ho])
      have hll : l.length = 33 := by rw [hle, List.length_take, HTL.out]; rfl
      have HLX := hid (show ∀ y ∈ l, y < 256 from fun y hy => HT.out y (List.mem_of_mem_take (hle ▸ hy)))
      have HRL := hid how.rd
      have HG1 := hid (show B < g1 from Nat.lt_of_lt_of_le (lt_at HR0.out) (how.blk g1 rfl).1)
      obtain ⟨k0, hk0⟩ : ∃ k, l.getD 0 0 = k := ⟨_, rfl⟩
      have KN := hid (known_any (k0 : Int))
      have z0 := (HRL.out.atc (j := 0) (by rw [hll]; omega))
      rw [hk0] at z0
      have z0' : w1.cell? ⟨g1, 0, none⟩ = some (.int .u8 (k0 : Nat)) := z0
      have hc1 := HRL.out.caps
      have k4 : (33 : Int) ≤ (c1 : Int) := by have := hc1.2.1; omega
      have k5 : (c1 : Int) ≤ 9223372036854775807 := by have := hc1.2.2; unfold maxLen at this; omega
      have hk256 : k0 < 256 := hk0 ▸ HLX.out _ (getD_mem (by rw [hll]; omega))
      have HK0 := hid hk0
      have HLL := hid hll
      have r0 := cell_at hr1 0
      have r1 := cell_at hr1 1
      have r2 := cell_at hr1 2
      have r3 := cell_at hr1 3
      have r4 := cell_at hr1 4
      have f0 := free_at hr1 0
      have f1 := free_at hr1 1
      have f2 := free_at hr1 2
      have f3 := free_at hr1 3
      have f4 := free_at hr1 4
      clear hle ho hb1 z0 hc1 hll hk0 how hr1
      go_wp2_with fail
      refine (KN.out _).mono ?_
      rintro e w2 ⟨rfl, rfl⟩
      by_cases hkn : 1 ≤ k0 ∧ k0 ≤ 4
      · rw [decide_eq_true (show 1 ≤ (k0 : Int) ∧ (k0 : Int) ≤ 4 by omega)]
        go_wp2_with fail
        obtain ⟨W2, hW2⟩ : ∃ W, (w1.setCell ⟨B, 0, none⟩ (.int .i64 (k0 : Nat))).alloc (.cells (ptrC B) 109) = W := ⟨_, rfl⟩
        have hW2' : (w1.setCell ⟨B, 0, none⟩ (.int .i64 (k0 : Nat))).alloc (.cells #[.pointer (some ⟨B, 1, none⟩), .pointer (some ⟨B, 2, none⟩), .pointer (some ⟨B, 3, none⟩), .pointer (some ⟨B, 4, none⟩)] 109) = W2 := hW2
        obtain ⟨pb, hpb⟩ : ∃ pb, w1.heap.size = pb := ⟨_, rfl⟩
        have hB1 : B < w1.heap.size := lt_at HR1.out
        have hr2 : W2.heap[B]? = some (.cells (recC k0 (nsOf l) 0) 74 (0, 0)) := by
          have h9 := set_at HR1.out 0 (.int .i64 (k0 : Nat))
          rw [← hW2]
          exact (alloc_old (by simpa using hB1)).trans h9
        have hp2 : W2.heap[pb]? = some (.cells (ptrC B) 109 (0, 0)) := by rw [← hW2, ← hpb]; exact alloc_at (by simp)
        have hg1l : g1 < w1.heap.size := rd_lt HRL.out (by rw [HLL.out]; omega)
        have hrd2 : Rd .u8 W2 (.slice (some ⟨g1, 0, none⟩) 33 c1) l := by
          have h9 := HRL.out
          refine rd_same h9 ?_
          rw [← hW2]
          exact (alloc_old (by simpa using hg1l)).trans (set_other (fun e => by have := HG1.out; have e' : g1 = B := e; omega))
        have hb2 : Below B w W2 := by rw [← hW2]; exact (HB1.out.setCell (p := ⟨B, 0, none⟩) (Nat.le_refl B) _).alloc (by have := HB1.out.size; have := HBE.out; simp; omega) _
        have HPN := hid (show pb ≠ B from by omega)
        rw [hW2', hpb]
        have HR2 := hid hr2
        have HP2 := hid hp2
        have HD2 := hid hrd2
        have HB3 := hid hb2
        have HPF := hid (HP.out.trans (if_pos (by rw [HK0.out]; exact hkn)))
        clear hW2 hW2' hr2 hp2 hrd2 hb2 hpb hg1l hB1 r0 r1 r2 r3 r4 f0 f1 f2 f3 f4 z0'
        go_loopg [40] 4 (fun gk vi wr => ∃ I : Nat, I + gk = 4 ∧ vi = .int .i64 (I : Nat) ∧ wr.heap[B]? = some (.cells (recC k0 (nsOf l) I) 74 (0, 0)) ∧ wr.heap[pb]? = some (.cells (ptrC B) 109 (0, 0)) ∧ Rd .u8 wr (.slice (some ⟨g1, 0, none⟩) 33 c1) l ∧ Below B w wr)
        case atStart => exact ⟨0, rfl, rfl, HR2.out, HP2.out, HD2.out, HB3.out⟩
        case round =>
          obtain ⟨I, hI, rfl, hrb, hpb, hrd, hb⟩ := hrel
          have HRB := hid hrb
          have HPB := hid hpb
          have HRD := hid hrd
          have HB2 := hid hb
          clear hrb hpb hrd hb
          obtain rfl | rfl | rfl | rfl | rfl : I = 0 ∨ I = 1 ∨ I = 2 ∨ I = 3 ∨ I = 4 := by omega
          · have p1 : wr.cell? ⟨pb, 0, none⟩ = some (.pointer (some ⟨B, 1, none⟩)) := cell_at HPB.out 0
            have q1 : wr.cell? ⟨B, 1, none⟩ = some (.int .u64 0) := cell_at HRB.out 1
            have q2 := free_at HRB.out 1
            have HU := hid (uint64_any _ (l.drop 1) wr (rd_drop HRD.out 1 (by rw [HLL.out]; omega)) (fun y hy => HLX.out y (List.mem_of_mem_drop hy)) (by rw [List.length_drop, HLL.out]; omega))
            rw [HLL.out] at HU
            have k6 : (1 : Int) ≤ (c1 : Int) := by omega
            have k7 : ¬ c1 = 1 := by omega
            rw [show ((0 : Nat) : Int) = 0 from rfl]
            obtain ⟨y, hy⟩ : ∃ y, num ((l.drop 1).take 8) = y := ⟨_, rfl⟩
            have HY := hid (show nsOf l 0 = y from hy)
            rw [hy] at HU
            clear hy
            go_wp2_with fail
            refine HU.out.mono ?_
            rintro e w3 ⟨rfl, rfl⟩
            go_wp2_with fail
            go_roundg (gk - 1)
            case measure => omega
            case rel =>
              have hs := set_at HRB.out 1 (.int .u64 (y : Nat))
              have e9 : (recC k0 (nsOf l) 0).setIfInBounds 1 (.int .u64 (y : Nat)) = recC k0 (nsOf l) 1 := by rw [← HY.out]; rfl
              rw [e9] at hs
              exact ⟨1, by omega, by go_num, hs, (set_other (a := ⟨B, 1, none⟩) (fun e => HPN.out e)).trans HPB.out, rd_same HRD.out (set_other (a := ⟨B, 1, none⟩) (fun e => by have := HG1.out; have e' : g1 = B := e; omega)), HB2.out.setCell (p := ⟨B, 1, none⟩) (Nat.le_refl B) _⟩
          · have p1 : wr.cell? ⟨pb, 1, none⟩ = some (.pointer (some ⟨B, 2, none⟩)) := cell_at HPB.out 1
            have q1 : wr.cell? ⟨B, 2, none⟩ = some (.int .u64 0) := cell_at HRB.out 2
            have q2 := free_at HRB.out 2
            have HU := hid (uint64_any _ (l.drop 9) wr (rd_drop HRD.out 9 (by rw [HLL.out]; omega)) (fun y hy => HLX.out y (List.mem_of_mem_drop hy)) (by rw [List.length_drop, HLL.out]; omega))
            rw [HLL.out] at HU
            have k6 : (9 : Int) ≤ (c1 : Int) := by omega
            have k7 : ¬ c1 = 9 := by omega
            rw [show ((1 : Nat) : Int) = 1 from rfl]
            obtain ⟨y, hy⟩ : ∃ y, num ((l.drop 9).take 8) = y := ⟨_, rfl⟩
            have HY := hid (show nsOf l 1 = y from hy)
            rw [hy] at HU
            clear hy
            go_wp2_with fail
            refine HU.out.mono ?_
            rintro e w3 ⟨rfl, rfl⟩
            go_wp2_with fail
            go_roundg (gk - 1)
            case measure => omega
            case rel =>
              have hs := set_at HRB.out 2 (.int .u64 (y : Nat))
              have e9 : (recC k0 (nsOf l) 1).setIfInBounds 2 (.int .u64 (y : Nat)) = recC k0 (nsOf l) 2 := by rw [← HY.out]; rfl
              rw [e9] at hs
              exact ⟨2, by omega, by go_num, hs, (set_other (a := ⟨B, 2, none⟩) (fun e => HPN.out e)).trans HPB.out, rd_same HRD.out (set_other (a := ⟨B, 2, none⟩) (fun e => by have := HG1.out; have e' : g1 = B := e; omega)), HB2.out.setCell (p := ⟨B, 2, none⟩) (Nat.le_refl B) _⟩
          · have p1 : wr.cell? ⟨pb, 2, none⟩ = some (.pointer (some ⟨B, 3, none⟩)) := cell_at HPB.out 2
            have q1 : wr.cell? ⟨B, 3, none⟩ = some (.int .u64 0) := cell_at HRB.out 3
            have q2 := free_at HRB.out 3
            have HU := hid (uint64_any _ (l.drop 17) wr (rd_drop HRD.out 17 (by rw [HLL.out]; omega)) (fun y hy => HLX.out y (List.mem_of_mem_drop hy)) (by rw [List.length_drop, HLL.out]; omega))
            rw [HLL.out] at HU
            have k6 : (17 : Int) ≤ (c1 : Int) := by omega
            have k7 : ¬ c1 = 17 := by omega
            rw [show ((2 : Nat) : Int) = 2 from rfl]
            obtain ⟨y, hy⟩ : ∃ y, num ((l.drop 17).take 8) = y := ⟨_, rfl⟩
            have HY := hid (show nsOf l 2 = y from hy)
            rw [hy] at HU
            clear hy
            go_wp2_with fail
            refine HU.out.mono ?_
            rintro e w3 ⟨rfl, rfl⟩
            go_wp2_with fail
            go_roundg (gk - 1)
            case measure => omega
            case rel =>
              have hs := set_at HRB.out 3 (.int .u64 (y : Nat))
              have e9 : (recC k0 (nsOf l) 2).setIfInBounds 3 (.int .u64 (y : Nat)) = recC k0 (nsOf l) 3 := by rw [← HY.out]; rfl
              rw [e9] at hs
              exact ⟨3, by omega, by go_num, hs, (set_other (a := ⟨B, 3, none⟩) (fun e => HPN.out e)).trans HPB.out, rd_same HRD.out (set_other (a := ⟨B, 3, none⟩) (fun e => by have := HG1.out; have e' : g1 = B := e; omega)), HB2.out.setCell (p := ⟨B, 3, none⟩) (Nat.le_refl B) _⟩
          · have p1 : wr.cell? ⟨pb, 3, none⟩ = some (.pointer (some ⟨B, 4, none⟩)) := cell_at HPB.out 3
            have q1 : wr.cell? ⟨B, 4, none⟩ = some (.int .u64 0) := cell_at HRB.out 4
            have q2 := free_at HRB.out 4
            have HU := hid (uint64_any _ (l.drop 25) wr (rd_drop HRD.out 25 (by rw [HLL.out]; omega)) (fun y hy => HLX.out y (List.mem_of_mem_drop hy)) (by rw [List.length_drop, HLL.out]; omega))
            rw [HLL.out] at HU
            have k6 : (25 : Int) ≤ (c1 : Int) := by omega
            have k7 : ¬ c1 = 25 := by omega
            rw [show ((3 : Nat) : Int) = 3 from rfl]
            obtain ⟨y, hy⟩ : ∃ y, num ((l.drop 25).take 8) = y := ⟨_, rfl⟩
            have HY := hid (show nsOf l 3 = y from hy)
            rw [hy] at HU
            clear hy
            go_wp2_with fail
            refine HU.out.mono ?_
            rintro e w3 ⟨rfl, rfl⟩
            go_wp2_with fail
            go_roundg (gk - 1)
            case measure => omega
            case rel =>
              have hs := set_at HRB.out 4 (.int .u64 (y : Nat))
              have e9 : (recC k0 (nsOf l) 3).setIfInBounds 4 (.int .u64 (y : Nat)) = recC k0 (nsOf l) 4 := by rw [← HY.out]; rfl
              rw [e9] at hs
              exact ⟨4, by omega, by go_num, hs, (set_other (a := ⟨B, 4, none⟩) (fun e => HPN.out e)).trans HPB.out, rd_same HRD.out (set_other (a := ⟨B, 4, none⟩) (fun e => by have := HG1.out; have e' : g1 = B := e; omega)), HB2.out.setCell (p := ⟨B, 4, none⟩) (Nat.le_refl B) _⟩
          · have r0 := cell_at HRB.out 0
            have r1 := cell_at HRB.out 1
            have r2 := cell_at HRB.out 2
            have r3 := cell_at HRB.out 3
            have r4 := cell_at HRB.out 4
            have f0 := free_at HRB.out 0
            have f1 := free_at HRB.out 1
            have f2 := free_at HRB.out 2
            have f3 := free_at HRB.out 3
            have f4 := free_at HRB.out 4
            rw [show ((4 : Nat) : Int) = 4 from rfl]
            obtain ⟨n0, hn0⟩ : ∃ n, nsOf l 0 = n := ⟨_, rfl⟩
            obtain ⟨n1, hn1⟩ : ∃ n, nsOf l 1 = n := ⟨_, rfl⟩
            obtain ⟨n2, hn2⟩ : ∃ n, nsOf l 2 = n := ⟨_, rfl⟩
            obtain ⟨n3, hn3⟩ : ∃ n, nsOf l 3 = n := ⟨_, rfl⟩
            have s0 : wr.cell? ⟨B, 0, none⟩ = some (.int .i64 (k0 : Nat)) := r0
            have s1 : wr.cell? ⟨B, 1, none⟩ = some (.int .u64 (n0 : Nat)) := r1.trans (by rw [← hn0]; rfl)
            have s2 : wr.cell? ⟨B, 2, none⟩ = some (.int .u64 (n1 : Nat)) := r2.trans (by rw [← hn1]; rfl)
            have s3 : wr.cell? ⟨B, 3, none⟩ = some (.int .u64 (n2 : Nat)) := r3.trans (by rw [← hn2]; rfl)
            have s4 : wr.cell? ⟨B, 4, none⟩ = some (.int .u64 (n3 : Nat)) := r4.trans (by rw [← hn3]; rfl)
            have HV := hid (show (recOf l).val = .agg #[.int .i64 (k0 : Nat), .int .u64 (n0 : Nat), .int .u64 (n1 : Nat), .int .u64 (n2 : Nat), .int .u64 (n3 : Nat)] from by unfold recOf Rec.val; rw [HK0.out, hn0, hn1, hn2, hn3])
            clear r0 r1 r2 r3 r4 hn0 hn1 hn2 hn3
            go_wp2_with fail
            refine bodyPost_ret (v := .tuple #[(recOf l).val, .int .i64 0]) ?_ rfl ?_
            · rw [HV.out]
              simp [results, Try.results52, go_sem, s0, s1, s2, s3, s4]
            · exact ⟨.inl ⟨_, HPF.out, rfl⟩, ((((HB2.out.setCell (p := ⟨B, 0, none⟩) (Nat.le_refl B) _).setCell (p := ⟨B, 1, none⟩) (Nat.le_refl B) _).setCell (p := ⟨B, 2, none⟩) (Nat.le_refl B) _).setCell (p := ⟨B, 3, none⟩) (Nat.le_refl B) _).setCell (p := ⟨B, 4, none⟩) (Nat.le_refl B) _⟩
      · rw [decide_eq_false (show ¬ (1 ≤ (k0 : Int) ∧ (k0 : Int) ≤ 4) by omega)]
        have HP2 := hid (HP.out.trans (if_neg (by rw [HK0.out]; exact hkn)))
        clear hkn
        go_wp2_with fail
        refine bodyPost_ret (v := .tuple #[recZ, .int .i64 81]) ?_ rfl ?_
        · simp [results, Try.results52, go_sem, r0, r1, r2, r3, r4]
          rfl
        · exact ⟨.inr ⟨HP2.out, 81, by decide, rfl⟩, ((((HB1.out.setCell (p := ⟨B, 0, none⟩) (Nat.le_refl B) _).setCell (p := ⟨B, 1, none⟩) (Nat.le_refl B) _).setCell (p := ⟨B, 2, none⟩) (Nat.le_refl B) _).setCell (p := ⟨B, 3, none⟩) (Nat.le_refl B) _).setCell (p := ⟨B, 4, none⟩) (Nat.le_refl B) _⟩
    · have HP := hid (show parseR xs = none from by rw [HPE.out, ho])
      have r0 := cell_at hr1 0
      have r1 := cell_at hr1 1
      have r2 := cell_at hr1 2
      have r3 := cell_at hr1 3
      have r4 := cell_at hr1 4
      have f0 := free_at hr1 0
      have f1 := free_at hr1 1
      have f2 := free_at hr1 2
      have f3 := free_at hr1 3
      have f4 := free_at hr1 4
      clear hr1 ho
      go_wp2_with fail
      refine bodyPost_ret (v := .tuple #[recZ, .int .i64 30]) ?_ rfl ?_
      · simp [results, Try.results52, go_sem, r0, r1, r2, r3, r4]
        rfl
      · exact ⟨.inr ⟨HP.out, 30, by decide, rfl⟩, ((((HB1.out.setCell (p := ⟨B, 0, none⟩) (Nat.le_refl B) _).setCell (p := ⟨B, 1, none⟩) (Nat.le_refl B) _).setCell (p := ⟨B, 2, none⟩) (Nat.le_refl B) _).setCell (p := ⟨B, 3, none⟩) (Nat.le_refl B) _).setCell (p := ⟨B, 4, none⟩) (Nat.le_refl B) _⟩
end Go.Proofs.Ytkdjefnnhanhhaa
