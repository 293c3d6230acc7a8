/- The keys of a map of numbers, one by one, collected. -/
import Derived.Test.YtboonpfdlbedoaaHc
import Derived.Test.YtboonpfdlbedoaaApp
import Derived.RangeFuncSeq
import Derived.RangeFuncGives
import Derived.RangeFuncBound
import Derived.Sort.MapsRangeIn
import Derived.Sort.KeysCollected
import Derived.WalkKit
import Derived.OwnWalkIn
import Derived.TacticsInMore
import Derived.RegionIn
import Derived.LoopNIn
import Derived.LoopIn
import Derived.Shelf.AbstractIn
import Derived.Maps.AppendAt
import Derived.Shelf.SlIter.Collect
namespace Go.Proofs.Ytboonpfdlbedoaa
open Go Go.RowKit Go.Mem Go.Hs Go.Maps Go.Sort Go.Proofs

abbrev encU : Nat → Value := fun x => .int .u64 (x : Nat)
theorem encU_inj {x y : Nat} (h : encU x = encU y) : x = y := by
  simp only [encU, Value.int.injEq, true_and] at h
  omega
theorem keyOf_u64 {P : Program} {k : TypeId} (hk : P.underlying k = some (.int .u64)) {key : Value} {kl : Lit} (h : keyOf P k key = some kl) : ∃ x : Nat, key = encU x ∧ kl = keyL x := by
  cases key <;> simp [keyOf, hk, mapKey] at h
  rename_i q a
  obtain ⟨⟨rfl, hw⟩, rfl⟩ := h
  simp only [Lit.wf, Bool.and_eq_true, decide_eq_true_eq] at hw
  have h0 : (0 : Int) ≤ a := hw.1
  obtain ⟨x, rfl⟩ := Int.eq_ofNat_of_zero_le h0
  exact ⟨x, rfl, rfl⟩
theorem has_setD (S : List Nat) (x : Nat) : has (setD S) (keyL x) = decide (x ∈ S) := by
  show has (.map (setE S)) _ = _
  rw [has_eq]
  by_cases h : x ∈ S
  · rw [decide_eq_true h, List.any_eq_true]
    exact ⟨(keyL x, .lit (.bool true)), List.mem_map.2 ⟨x, h, rfl⟩, by simp [same_keyL]⟩
  · rw [decide_eq_false h, List.any_eq_false]
    rintro ⟨p1, p2⟩ hp
    obtain ⟨y, hy, he⟩ := List.mem_map.1 hp
    simp only [Prod.mk.injEq] at he
    obtain ⟨rfl, _⟩ := he
    rw [same_keyL, decide_eq_true_eq]
    exact fun e => h (e ▸ hy)
/-- No number twice; a number has come just where the set has it and it is no longer to come. -/
def ColU (S : List Nat) (left : Lit → Bool) (ss : List Nat) : Prop := ss.Nodup ∧ ∀ x, x ∈ ss ↔ (x ∈ S ∧ left (keyL x) = false)
theorem ColU.start (S : List Nat) : ColU S (has (setD S)) [] := ⟨List.nodup_nil, fun x => by rw [has_setD]; simp⟩
theorem ColU.step {S : List Nat} {left : Lit → Bool} {ss : List Nat} (h : ColU S left ss) {x : Nat} {y : DataW Unit} (hlk : left (keyL x) = true) (hat : ∀ zd, (setD S).atKey (keyL x) zd = y) : ColU S (fun z => left z && !z.sameKey (keyL x)) (ss ++ [x]) := by
  have hhas : x ∈ S := by
    have := has_true_of_atKey hat
    rw [has_setD] at this
    simpa using this
  have hnew : x ∉ ss := fun hx => by have := ((h.2 x).1 hx).2; rw [hlk] at this; cases this
  refine ⟨List.nodup_append.2 ⟨h.1, by simp, fun a ha b hb => by simp at hb; subst hb; exact fun e => hnew (e ▸ ha)⟩, fun y => ?_⟩
  by_cases hy : y = x
  · subst hy; simp [hhas, same_keyL]
  · simp [h.2 y, hy, same_keyL]
theorem ColU.perm {S : List Nat} {left : Lit → Bool} {ss : List Nat} (h : ColU S left ss) (hS : Rising S) (hl : ∀ kl, left kl = false) : ss.Perm S := by
  refine (List.perm_ext_iff_of_nodup h.1 (hS.imp (fun h => by omega))).2 fun x => ?_
  rw [h.2 x, hl]; simp

set_option maxRecDepth 100000 in
set_option maxHeartbeats 1000000 in
/-- The iterator: each key comes once, in some order. -/
theorem keys1_in (F : Fence) (n : Nat) (hfn : F.fn 35) (hro : F.round = none) (hn : 1 ≤ n) (l Bm b : Nat) (S : List Nat) (J : List Nat → World → Prop)
    (hY : ∀ pre x W, J pre W → pre.length < S.length → YieldAt F (n - 1) Try.prog l #[encU x] W fun e W' => e = .returned (.bool true) ∧ J (pre ++ [x]) W' ∧ KeepsWalks W W')
    (W : World) (hJ : AbidesFrom W.heap.size J) (hm : W.cell? ⟨Bm, 0, none⟩ = some (.map (some b))) (hown : SAt W b S) (h0 : J [] W) :
    CallsIn F n Try.prog 35 #[.func (.yield l) #[] #[], .pointer (some ⟨Bm, 0, none⟩)] W fun e W' => (∃ v, e = .returned v) ∧ ∃ ss : List Nat, ss.Perm S ∧ J ss W' := by
  obtain ⟨hown, hris, _⟩ := hown
  have hsz : Maps.size (setD S) = S.length := size_setD S
  refine callsIn_of_wp Try.func35 rfl hfn ?_ hro
  simp only [Try.ntmps35, List.size_toArray, List.length_cons, List.length_nil, Nat.reduceAdd, Nat.reduceSub, Array.replicate_succ, Array.replicate_zero, List.push_toArray, List.append_toArray, List.nil_append, List.cons_append]
  gi_wp2_with (first
    | (gi_at_range; refine wpListIn_range_own _ rfl _ 53 rfl 31 4 (int_keyed Try.underlying31) Try.underlying53 _ b S.length _ rfl hown ?_; intro w0 hrg0 hg0 hs0)
    | gi_in)
  go_frame
  gi_loopw [3] (fun _ wr => ∃ (left : Lit → Bool) (cnt : Nat) (ss : List Nat), wr.ranges Try.prog 31 (plainElem Try.prog 4) b W.heap.size S.length (setD S) left cnt ∧ ss.length + cnt ≤ S.length ∧ ColU S left ss ∧ J ss wr)
    (fun _ wr => wr.rangeLeft b W.heap.size)
  case atStart =>
    exact ⟨_, _, [], hrg0, by simp [hsz], ColU.start S, hJ [] W w0 none h0 hg0 (fun r e => by cases e)⟩
  case round =>
    obtain ⟨left, cnt, ss, hrg, hcs, hC, hJs⟩ := hrel
    gi_wp2_with (first
      | (gi_at_next; refine wpListIn_next_ranges _ rfl _ rfl 31 (int_keyed Try.underlying31) (plainElem Try.prog 4) encU id (fun key kl hk => by obtain ⟨x, hx, _⟩ := keyOf_u64 Try.underlying31 hk; exact ⟨x, hx⟩) (fun v _ _ => ⟨v, rfl⟩) b W.heap.size S.length _ _ _ rfl hrg ?_ ?_)
      | gi_in)
    · intro hc0 hl0
      gi_wp2
      go_end0
      exact ⟨⟨_, rfl⟩, ss, hC.perm hris hl0, hJs⟩
    · intro x c kl yd yp w2 cnt2 hkey hlk hv hat hrg2 hlt hg2 hs2 hen
      obtain ⟨x', ex, rfl⟩ := keyOf_u64 Try.underlying31 hkey
      obtain rfl : x = x' := encU_inj ex
      have hJ2 : J ss w2 := hJ ss wr w2 (some W.heap.size) hJs hg2 (fun r e => by cases e; exact ⟨Nat.le_refl _, hrg.iter_walk⟩)
      obtain ⟨fn, tmps, assign, body, hy, hR⟩ := hY ss x w2 hJ2 (by omega)
      clear hs2
      gi_wp2
      refine hR.mono ?_
      rintro e W3 ⟨rfl, hJ3, hk3⟩
      gi_wp2
      have hrg3 := hrg2.of_walks hk3
      go_roundw
      case rel => exact ⟨_, cnt2, ss ++ [x], hrg3, by simp; omega, hC.step hlk hat, hJ3⟩
      case measure => rw [hrg3.left_eq, hrg.left_eq]; exact hlt

set_option maxHeartbeats 1000000 in
theorem keys_in (F : Fence) (n : Nat) (hfn : F.fn 32) (hro : F.round = none) (mb : Option Nat) (w : World) :
    CallsIn F n Try.prog 32 #[.map mb] w fun e w' => e = .returned (.func (.func 35) #[] #[.pointer (some ⟨w.heap.size, 0, none⟩)]) ∧ w' = w.alloc (.cells #[.map mb] 53) := by
  refine callsIn_of_wp Try.func32 rfl hfn ?_ hro
  simp only [Try.ntmps32, List.size_toArray, List.length_cons, List.length_nil, Nat.reduceAdd, Nat.reduceSub, Array.replicate_succ, Array.replicate_zero, List.push_toArray, List.append_toArray, List.nil_append, List.cons_append]
  gi_wp2
  go_ret
  exact ⟨rfl, rfl⟩
theorem keys_gives (F : Fence) (n : Nat) (hfn : F.fn 35) (hro : F.round = none) (hn : 1 ≤ n) (Bm b : Nat) (S : List Nat) (w : World) (hBm : Bm < w.heap.size)
    (hm : w.cell? ⟨Bm, 0, none⟩ = some (.map (some b))) (hown : SAt w b S) :
    SeqGives F n Try.prog 35 #[.pointer (some ⟨Bm, 0, none⟩)] encU (fun ss => ss.Perm S) S.length w := fun l J W hW hJ hY h0 =>
  keys1_in F n hfn hro hn l Bm b S J hY W hJ ((hW.cell (p := ⟨Bm, 0, none⟩) hBm).trans hm) (hown.below hW) h0
end Go.Proofs.Ytboonpfdlbedoaa
