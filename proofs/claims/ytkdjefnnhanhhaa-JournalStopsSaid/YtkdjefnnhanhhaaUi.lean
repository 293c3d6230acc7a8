/- Walks over journal: root. -/
import Derived.Test.YtkdjefnnhanhhaaUh
import Derived.RangeFuncNested
import Derived.RangeFuncBound
import Derived.RangeFuncCalls
import Derived.RangeFuncLeaves
import Derived.Shelf.Abstract
import Derived.Shelf.RegionOpen
import Derived.WalkKit
import Derived.OwnWalkIn
import Derived.TacticsInMore
import Derived.LoopNIn
import Derived.LoopIn
import Derived.Maps.AppendAt
set_option linter.unusedVariables false
namespace Go.Proofs.Ytkdjefnnhanhhaa
open Go Go.RowKit Go.Mem Go.Pg
set_option linter.unusedVariables false

def magicN : Nat := 1179798321
/-- A root, as it is read. -/
def rootR (xs : List Nat) : Option (Nat × Nat) := match openB xs with
  | none => none
  | some l => if num (l.take 4) ≠ magicN ∨ 1 < l.getD 4 0 then none else some (num ((l.drop 8).take 8), l.getD 4 0)
set_option maxRecDepth 100000 in
set_option maxHeartbeats 3200000 in
theorem root_any (v : Value) (xs : List Nat) (w : World) (hv : Rd .u8 w v xs) (hx : ∀ y ∈ xs, y < 256) (h1 : 128 ≤ xs.length) (hl : xs.length ≤ 1000000) :
    Calls Try.prog 22 #[v] w fun e w' => ((∃ g a, rootR xs = some (g, a) ∧ e = .returned (.tuple #[.int .u64 (g : Nat), .int .i64 (a : Nat), .bool true])) ∨ (rootR xs = none ∧ e = .returned (.tuple #[.int .u64 0, .int .i64 0, .bool false]))) ∧ Below w.heap.size w w' := by
  have HOP := hid (crcOpen_any v xs w hv hx (by omega) hl)
  have HX := hid hx
  obtain ⟨N, hN⟩ : ∃ N, xs.length = N := ⟨_, rfl⟩
  have HN := hid hN
  obtain ⟨n, hn⟩ : ∃ n, N - 4 = n := ⟨_, rfl⟩
  rw [hN, hn] at HOP
  have hn16 : (16 : Int) ≤ (n : Int) := by omega
  have HNN := hid (show N - 4 = n from hn)
  clear hv hx hN
  go_enter Try.func22, Try.ntmps22
  go_wp2_with fail
  refine HOP.out.mono ?_
  rintro e w1 ⟨hres, hb1⟩
  have HB1 := hid hb1
  clear hb1
  rcases hres with ⟨l, g1, c1, ho, hle, rfl, how⟩ | ⟨ho, rfl⟩
  · have HP := hid (show rootR xs = if num (l.take 4) ≠ magicN ∨ 1 < l.getD 4 0 then none else some (num ((l.drop 8).take 8), l.getD 4 0) from by unfold rootR; rw [ho])
    have hll : l.length = n := by rw [hle, List.length_take, HN.out]; omega
    have HLX := hid (show ∀ y ∈ l, y < 256 from fun y hy => HX.out y (List.mem_of_mem_take (hle ▸ hy)))
    have HRL := hid how.rd
    have hcp := how.rd.caps
    have k1 : (n : Int) ≤ (c1 : Int) := by omega
    have k2 : (c1 : Int) ≤ 9223372036854775807 := by have := hcp.2.2; unfold maxLen at this; omega
    have z4 : w1.cell? ⟨g1, 4, none⟩ = some (.int .u8 ((l.getD 4 0 : Nat) : Int)) := by have := HRL.out.atc (j := 4) (by omega); simpa using this
    obtain ⟨k4, hk4⟩ : ∃ k, l.getD 4 0 = k := ⟨_, rfl⟩
    rw [hk4] at z4 HP
    obtain ⟨mg, hmg⟩ : ∃ k, num (l.take 4) = k := ⟨_, rfl⟩
    have HU := hid (uint32_any _ l w1 HRL.out HLX.out (by omega))
    rw [hmg] at HU HP
    have HU8 := hid (fun W (hW : Below w1.heap.size w1 W) => uint64_any _ (l.drop 8) W ((rd_drop HRL.out 8 (by omega)).below hW) (fun y hy => HLX.out y (List.mem_of_mem_drop hy)) (by rw [List.length_drop]; omega))
    rw [hll] at HU8
    obtain ⟨g8, hg8⟩ : ∃ k, num ((l.drop 8).take 8) = k := ⟨_, rfl⟩
    rw [hg8] at HU8 HP
    have k8 : (8 : Int) ≤ (c1 : Int) := by omega
    have k9 : ¬ c1 = 8 := by omega
    have k10 : (8 : Int) ≤ (n : Int) := by omega
    clear how hcp hle ho hk4 hmg hg8 hll
    go_wp2_with fail
    refine HU.out.mono ?_
    rintro e w2 ⟨rfl, rfl⟩
    by_cases hm : mg = magicN
    · have e1 : ((mg : Int) != 1179798321) = false := bne_eq_false_iff_eq.2 (by unfold magicN at hm; omega)
      by_cases h4 : 1 < k4
      · have h4i : (1 : Int) < (k4 : Int) := by omega
        have HR := hid (HP.out.trans (if_pos (.inr h4)))
        clear hm h4
        go_wp2_with fail
        refine bodyPost_ret (v := .tuple #[.int .u64 0, .int .i64 0, .bool false]) (by simp [results, Try.results22, go_sem]) rfl ⟨.inr ⟨HR.out, rfl⟩, HB1.out⟩
      · have h4i : ¬ (1 : Int) < (k4 : Int) := by omega
        have HR := hid (HP.out.trans (if_neg (fun h => by rcases h with h | h; exact h hm; exact h4 h)))
        clear hm h4
        go_wp2_with fail
        go_quiet ((go_at_call 36; exact quiet_eq (HU8.out _ ((Below.refl _ _).drewN _))))
        go_wp2_with fail
        refine bodyPost_ret (v := .tuple #[.int .u64 (g8 : Nat), .int .i64 (k4 : Nat), .bool true]) (by simp [results, Try.results22, go_sem]) rfl ⟨.inl ⟨_, _, HR.out, rfl⟩, HB1.out.drewN _⟩
    · have e1 : ((mg : Int) != 1179798321) = true := bne_iff_ne.2 (by unfold magicN at hm; omega)
      have HR := hid (HP.out.trans (if_pos (.inl hm)))
      clear hm
      go_wp2_with fail
      refine bodyPost_ret (v := .tuple #[.int .u64 0, .int .i64 0, .bool false]) (by simp [results, Try.results22, go_sem]) rfl ⟨.inr ⟨HR.out, rfl⟩, HB1.out⟩
  · have HP := hid (show rootR xs = none from by unfold rootR; rw [ho])
    clear ho
    go_wp2_with fail
    refine bodyPost_ret (v := .tuple #[.int .u64 0, .int .i64 0, .bool false]) (by simp [results, Try.results22, go_sem]) rfl ⟨.inr ⟨HP.out, rfl⟩, HB1.out⟩
end Go.Proofs.Ytkdjefnnhanhhaa
/- record.All: the records of bytes, one by one. -/
namespace Go.Proofs.Ytkdjefnnhanhhaa
open Go Go.RowKit Go.Mem Go.Pg Go.Shelf
set_option linter.unusedVariables false

/-- The records at the head of bytes, as far as they are right, by rising numbers. -/
def allF : Nat → Option Nat → List Nat → List Rec
  | 0, _, _ => []
  | k + 1, lo, xs => match parseR xs with
    | none => []
    | some r => if lo.isSome = true ∧ r.seq ≤ lo.getD 0 then [] else r :: allF k (some r.seq) (xs.drop 37)
def allR (xs : List Nat) : List Rec := allF (xs.length + 1) none xs

/-- What a round of the caller may turn: its box, and the block of the row in it. -/
def Tc (Bl : Nat) (W : World) (j : Nat) : Prop := j = Bl ∨ ∃ o n c, W.cell? ⟨Bl, 0, none⟩ = some (.slice (some ⟨j, o, none⟩) n c)
structure Kp (Bl : Nat) (W W' : World) : Prop where
  size : W.heap.size ≤ W'.heap.size
  same : ∀ j cs t fz, W.heap[j]? = some (.cells cs t fz) → ¬ Tc Bl W j → W'.heap[j]? = some (.cells cs t fz)
  back : ∀ j, j < W.heap.size → Tc Bl W' j → Tc Bl W j
  inn : (∀ j, Tc Bl W j → j < W.heap.size) → ∀ j, Tc Bl W' j → j < W'.heap.size
theorem Kp.trans {Bl : Nat} {A B C : World} (h : Kp Bl A B) (k : Kp Bl B C) : Kp Bl A C :=
  ⟨Nat.le_trans h.size k.size, fun j cs t fz hj hn => k.same j cs t fz (h.same j cs t fz hj hn) (fun ht => hn (h.back j (lt_at hj) ht)), fun j hj ht => h.back j hj (k.back j (Nat.lt_of_lt_of_le hj h.size) ht), fun hi => k.inn (h.inn hi)⟩
theorem tc_below {Bl : Nat} {W W' : World} (hb : Below W.heap.size W W') (h : Bl < W.heap.size) (j : Nat) : Tc Bl W' j ↔ Tc Bl W j := by unfold Tc; rw [hb.cell (p := ⟨Bl, 0, none⟩) h]

set_option maxHeartbeats 1000000 in
theorem recAll_any (a : Option Addr) (m c : Nat) (w : World) :
    Calls Try.prog 37 #[.slice a m c] w fun e w' => e = .returned (.func (.func 51) #[] #[.pointer (some ⟨w.heap.size, 0, none⟩)]) ∧ w' = w.alloc (.cells #[.slice a m c] 27) := by
  go_enter Try.func37, Try.ntmps37
  go_wp2_with fail
  go_ret
  exact ⟨rfl, rfl⟩

theorem rd_end {w : World} {g o c : Nat} {xs : List Nat} (h : Rd .u8 w (.slice (some ⟨g, o, none⟩) xs.length c) xs) (hl : xs.length = 37) : Rd .u8 w (.slice (some ⟨g, o, none⟩) (xs.length - 37) 0) (xs.drop 37) := by
  rw [show xs.drop 37 = [] from List.drop_eq_nil_of_le (by omega), hl]
  exact ⟨_, 0, rfl, Nat.le_refl _, by decide, fun j hj => absurd hj (by simp)⟩
set_option maxRecDepth 100000 in
set_option maxHeartbeats 3200000 in
theorem recAll1_in (n : Nat) (hn : 1 ≤ n) (l Bb Bl gx : Nat) (a : Option Addr) (m c : Nat) (O : Obj) (cs : Array Value) (t : TypeId) (fz : Nat × Nat) (hO : O = .cells cs t fz) (xs : List Nat) (hx : ∀ y ∈ xs, y < 256)
    (hrd : ∀ W : World, W.heap[gx]? = some O → Rd .u8 W (.slice a m c) xs) (J Jx : List Rec → World → Prop)
    (hY : ∀ pre x W, J pre W → pre.length < (allR xs).length → YieldAt Fence.wide (n - 1) Try.prog l #[x.val] W fun e W' =>
      (e = .returned (.bool true) ∧ J (pre ++ [x]) W' ∧ Kp Bl W W') ∨ (e = .returned (.bool false) ∧ Jx (pre ++ [x]) W'))
    (W : World) (hJ : AbidesFrom W.heap.size J) (hB : W.cell? ⟨Bb, 0, none⟩ = some (.slice a m c)) (hg : W.heap[gx]? = some O) (htc : ¬ Tc Bl W gx) (hin : ∀ j, Tc Bl W j → j < W.heap.size) (h0 : J [] W) :
    CallsIn Fence.wide n Try.prog 51 #[.func (.yield l) #[] #[], .pointer (some ⟨Bb, 0, none⟩)] W fun e W' => (∃ v, e = .returned v) ∧ ((∃ ys, ys = allR xs ∧ J ys W') ∨ (∃ pre, pre <+: allR xs ∧ Jx pre W')) := by
  have HX := hid hx
  have HRD := hid hrd
  have HY := hid hY
  have HJ := hid hJ
  have HO := hid hO
  clear hx hrd hY hJ hO
  refine callsIn_of_wp Try.func51 rfl trivial ?_ rfl
  simp only [Try.ntmps51, List.size_toArray, List.length_cons, List.length_nil, Nat.reduceAdd, Nat.reduceSub, Array.replicate_succ, Array.replicate_zero, List.push_toArray, List.append_toArray, List.nil_append, List.cons_append]
  gi_wp2
  gi_loopw [3, 4, 5] (fun p q s wr => ∃ (pre : List Rec) (lo : Option Nat) (rest : List Nat) (k : Nat), (∀ W : World, W.heap[gx]? = some O → Rd .u8 W p rest) ∧ q = .int .u64 (lo.getD 0 : Nat) ∧ s = .bool lo.isSome ∧ (∀ y ∈ rest, y < 256) ∧
      allR xs = pre ++ allF k lo rest ∧ rest.length < k ∧ wr.heap[gx]? = some O ∧ ¬ Tc Bl wr gx ∧ J pre wr ∧ W.heap.size ≤ wr.heap.size ∧ ∀ j, Tc Bl wr j → j < wr.heap.size)
    (fun p q s wr => lenOf p)
  case atStart =>
    exact ⟨[], none, xs, xs.length + 1, HRD.out, rfl, rfl, HX.out, rfl, by omega, hg, htc, h0, Nat.le_refl _, hin⟩
  case round =>
    obtain ⟨pre, lo, rest, k, hrd, rfl, rfl, hxr, hall, hk, hg, htc, hJs, hsz, hin⟩ := hrel
    have HP := hid (parse_any _ rest wr (hrd wr hg) hxr)
    obtain ⟨ar, cr, rfl, y1, y2, y3⟩ := hrd wr hg
    have HRR := hid hrd
    have HXR := hid hxr
    have HALL := hid hall
    have HTC := hid htc
    have HG := hid hg
    have HJS := hid hJs
    have HSZ := hid hsz
    have HK := hid hk
    have HIN := hid hin
    clear hrd hxr hall htc hg hJs hsz hk hin
    gi_wp2_with fail
    refine ⟨trivial, ?_⟩
    refine (callsIn_wide.2 HP.out).mono ?_
    rintro e w1 ⟨⟨⟨rk, rs, ra, rb, rc⟩, hp, rfl⟩ | ⟨hp, cc, hc, rfl⟩, hb1⟩
    · have HB1 := hid hb1
      have HPP := hid hp
      obtain ⟨k, rfl⟩ : ∃ k', k = k' + 1 := ⟨k - 1, by have := HK.out; omega⟩
      have hm37 : 37 ≤ rest.length := by
        rcases Nat.lt_or_ge rest.length 37 with h | h
        · unfold parseR at hp; rw [if_pos h] at hp; cases hp
        · exact h
      have HAF := hid (show allF (k + 1) lo rest = if lo.isSome = true ∧ rs ≤ lo.getD 0 then [] else ⟨rk, rs, ra, rb, rc⟩ :: allF k (some rs) (rest.drop 37) from by rw [allF, HPP.out])
      obtain ⟨W2, hW2⟩ : ∃ W2, w1.alloc (.cells #[.int .i64 (rk : Nat), .int .u64 (rs : Nat), .int .u64 (ra : Nat), .int .u64 (rb : Nat), .int .u64 (rc : Nat)] 74) = W2 := ⟨_, rfl⟩
      have hb2 : Below wr.heap.size wr W2 := by rw [← hW2]; exact hb1.alloc hb1.size _
      have HJ2 := hid (HJ.out pre wr W2 none HJS.out (hb2.toGrown none) (fun r e => by cases e))
      by_cases hst : lo.isSome = true ∧ rs ≤ lo.getD 0
      · have HAL := hid (show allR xs = pre from by rw [HALL.out, HAF.out, if_pos hst, List.append_nil])
        obtain ⟨h1, h2⟩ := hst
        rw [h1]
        simp only [Rec.val]
        have HW2 := hid hW2
        clear hp hb1 HP HPP y3 hW2 hb2
        gi_wp2_with fail
        refine ⟨fun _ h => (by cases h), ?_⟩
        gi_wp2_with fail
        rw [HW2.out]
        refine bodyPost_ret (results_none rfl _ _ _) rfl ?_
        exact ⟨⟨_, rfl⟩, .inl ⟨pre, HAL.out.symm, HJ2.out⟩⟩
      · have HAL := hid (show allR xs = (pre ++ [⟨rk, rs, ra, rb, rc⟩]) ++ allF k (some rs) (rest.drop 37) from by rw [HALL.out, HAF.out, if_neg hst, List.append_assoc]; rfl)
        have hY := HY.out pre ⟨rk, rs, ra, rb, rc⟩ W2 HJ2.out (by rw [HAL.out]; simp)
        have hBl := HIN.out Bl (.inl rfl)
        have HTC2 := hid (fun j (h : Tc Bl W2 j) => (tc_below hb2 hBl j).1 h)
        have HS2 := hid hb2.size
        have HG2 := hid ((hb2.block gx (lt_at HG.out)).trans HG.out)
        have hr2 : W2.heap[w1.heap.size]? = some (.cells #[.int .i64 (rk : Nat), .int .u64 (rs : Nat), .int .u64 (ra : Nat), .int .u64 (rb : Nat), .int .u64 (rc : Nat)] 74 (0, 0)) := by rw [← hW2]; exact alloc_new _ _
        have HR2 := hid hr2
        have HW2 := hid hW2
        simp only [Rec.val] at hY
        obtain ⟨fn, tmps, assign, body, hy, hR⟩ := hY
        rw [← hW2] at hy
        obtain ⟨g0, o0, hra⟩ : ∃ g0 o0, ar = some ⟨g0, o0, none⟩ := by
          obtain ⟨g0, o0, e0, _⟩ := y3 0 (by omega); exact ⟨_, _, e0⟩
        subst hra
        have HGN := hid hm37
        have q1 : (37 : Int) ≤ (rest.length : Int) := by omega
        have q2 : (rest.length : Int) ≤ (cr : Int) := by omega
        have q3 : (37 : Int) ≤ (cr : Int) := by omega
        have q4 : (cr : Int) ≤ 9223372036854775807 := by unfold maxLen at y2; omega
        have HST := hid (show lo.isSome = false ∨ (lo.isSome = true ∧ ¬ rs ≤ lo.getD 0) from by cases h : lo.isSome with
          | false => exact .inl rfl
          | true => exact .inr ⟨rfl, fun h' => hst ⟨h, h'⟩⟩)
        clear hst hp hb1 HP HPP y3 HAF hW2 hm37 hr2 hb2 hBl
        have hst := HST.out
        rcases hst with h1 | ⟨h1, h2⟩
        all_goals rw [h1]
        all_goals simp only [Rec.val]
        all_goals gi_wp2_with fail
        all_goals rw [HW2.out]
        all_goals refine hR.mono ?_
        all_goals rintro e W3 (⟨rfl, hJ3, hk3⟩ | ⟨rfl, hJx3⟩)
        all_goals (first
          | (have HJX := hid hJx3
             clear hJx3
             gi_wp2_with fail
             refine bodyPost_ret (results_none rfl _ _ _) rfl ?_
             exact ⟨⟨_, rfl⟩, .inr ⟨_, ⟨_, HAL.out.symm⟩, HJX.out⟩⟩)
          | (have HJ3 := hid hJ3
             have HK3 := hid hk3
             have hr3 := hk3.same _ _ _ _ HR2.out (fun ht => by have := HIN.out _ (HTC2.out _ ht); have := HB1.out.size; omega)
             have s3 := cell_at hr3 1
             have HG3 := hid ((by have h := HG2.out; rw [HO.out] at h ⊢; exact hk3.same gx _ _ _ h (fun ht => HTC.out (HTC2.out _ ht))) : W3.heap[gx]? = some O)
             clear hJ3 hk3 hr3
             by_cases hc : cr = 37
             · gi_wp2_with fail
               gi_region
               gi_wp2_with fail
               go_roundw
               case measure => have hh := HGN.out; simp only [lenOf]; omega
               case rel => exact ⟨pre ++ [⟨rk, rs, ra, rb, rc⟩], some rs, rest.drop 37, k, (fun W hW => (by subst hc; exact rd_end (HRR.out W hW) (by have := HGN.out; omega))), rfl, rfl, fun y hy => HXR.out y (List.mem_of_mem_drop hy), HAL.out, by have := HK.out; have := HGN.out; rw [List.length_drop]; omega, HG3.out,
                 fun ht => HTC.out (HTC2.out _ (HK3.out.back _ (lt_at HG2.out) ht)), HJ.out _ W3 _ none HJ3.out (((Below.refl _ W3).drew).toGrown none) (fun r e => by cases e), Nat.le_trans HSZ.out (Nat.le_trans HS2.out HK3.out.size), fun j hj => HK3.out.inn (fun j hj => Nat.lt_of_lt_of_le (HIN.out _ (HTC2.out _ hj)) HS2.out) j hj⟩
             · gi_wp2_with fail
               gi_region
               gi_wp2_with fail
               go_roundw
               case measure => have hh := HGN.out; simp only [lenOf]; omega
               case rel => exact ⟨pre ++ [⟨rk, rs, ra, rb, rc⟩], some rs, rest.drop 37, k, (fun W hW => (by have := rd_drop (HRR.out W hW) 37 HGN.out; exact this)), rfl, rfl, fun y hy => HXR.out y (List.mem_of_mem_drop hy), HAL.out, by have := HK.out; have := HGN.out; rw [List.length_drop]; omega, HG3.out,
                 fun ht => HTC.out (HTC2.out _ (HK3.out.back _ (lt_at HG2.out) ht)), HJ.out _ W3 _ none HJ3.out (((Below.refl _ W3).drew).toGrown none) (fun r e => by cases e), Nat.le_trans HSZ.out (Nat.le_trans HS2.out HK3.out.size), fun j hj => HK3.out.inn (fun j hj => Nat.lt_of_lt_of_le (HIN.out _ (HTC2.out _ hj)) HS2.out) j hj⟩))
    · unfold recZ
      have e1 : ((cc : Int) != 0) = true := bne_iff_ne.2 hc
      obtain ⟨k, rfl⟩ : ∃ k', k = k' + 1 := ⟨k - 1, by have := HK.out; omega⟩
      have HAL := hid (show allR xs = pre from by rw [HALL.out, allF, hp, List.append_nil])
      obtain ⟨W2, hW2⟩ : ∃ W2, w1.alloc (.cells #[.int .i64 0, .int .u64 0, .int .u64 0, .int .u64 0, .int .u64 0] 74) = W2 := ⟨_, rfl⟩
      have hb2 : Below wr.heap.size wr W2 := by rw [← hW2]; exact hb1.alloc hb1.size _
      have HJ2 := hid (HJ.out pre wr W2 none HJS.out (hb2.toGrown none) (fun r e => by cases e))
      have HW2 := hid hW2
      clear hp hb1 HP y3 hc hW2 hb2
      gi_wp2_with fail
      refine ⟨fun _ h => (by cases h), ?_⟩
      gi_wp2_with fail
      rw [HW2.out]
      refine bodyPost_ret (results_none rfl _ _ _) rfl ?_
      exact ⟨⟨_, rfl⟩, .inl ⟨pre, HAL.out.symm, HJ2.out⟩⟩
end Go.Proofs.Ytkdjefnnhanhhaa
