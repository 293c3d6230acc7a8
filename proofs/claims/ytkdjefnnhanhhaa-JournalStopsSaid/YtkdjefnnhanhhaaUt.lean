/- Walks over the journal's laws: copied. -/
import Derived.Test.YtkdjefnnhanhhaaZLkh
import Derived.Maps.RangeWalk
import Derived.Test.YtkdjefnnhanhhaaProg
import Derived.Lib.Hide
import Derived.Outline
set_option linter.unusedVariables false
namespace Go.Proofs.Ytkdjefnnhanhhaa
open Go Go.RowKit Go.Mem Go.Hs Go.Jn Go.Maps
set_option linter.unusedVariables false

theorem get_of_mem {M : MM} (h : RisM M) {p : Nat × Nat} (hp : p ∈ M) : getM M p.1 = some p.2 := by
  obtain ⟨i, hi, rfl⟩ := List.mem_iff_getElem.1 hp
  exact getM_at h (List.getElem?_eq_getElem hi)
theorem ris_ext {a b : MM} (ha : RisM a) (hb : RisM b) (h : ∀ k, getM a k = getM b k) : a = b := by
  have h1 : ∀ p ∈ a, p ∈ b := fun p hp => getM_mem (by rw [← h]; exact get_of_mem ha hp)
  have h2 : ∀ p ∈ b, p ∈ a := fun p hp => getM_mem (by rw [h]; exact get_of_mem hb hp)
  have l1 := sub_len ha hb h1
  have l2 := sub_len hb ha h2
  exact ris_eq ha hb h1 (by omega)
set_option maxRecDepth 100000 in
set_option maxHeartbeats 1600000 in
theorem copied_any {w : World} {mb : Nat} {M : MM} (hM : MAt Try.prog 38 38 w mb M) (hl : M.length ≤ 60000) :
    Calls Try.prog 20 #[.map (some mb)] w fun e w' => e = .returned (.map (some w.heap.size)) ∧ MAt Try.prog 38 38 w' w.heap.size M ∧ Below w.heap.size w w' := by
  have hmm := @run_makeMap Try.prog
  obtain ⟨W0, hW0⟩ : ∃ W, w.alloc (.map #[] 0) = W := ⟨_, rfl⟩
  have hb0 : Below w.heap.size w W0 := by rw [← hW0]; exact (Below.refl _ _).alloc (Nat.le_refl _) _
  have hs0 : W0.heap.size = w.heap.size + 1 := by rw [← hW0]; simp
  have hM0 := hM.below hb0
  have hC0 : MAt Try.prog 38 38 W0 w.heap.size [] := by rw [← hW0]; exact MAt.nil _ _ _ _
  have hml := hM.lt
  have HB0 := hid hb0
  have HC0 := hid hC0
  have hown := hM0.1
  obtain ⟨B, hB⟩ : ∃ B, w.heap.size = B := ⟨_, rfl⟩
  have HBE := hid hB
  have hsz : Maps.size (mD M) = M.length := size_mD M
  go_enter Try.func20, Try.ntmps20
  go_wp2_with (first | (at_range; refine wpList_range_own _ rfl _ 44 rfl 38 38 (int_keyed Try.underlying38) Try.underlying44 _ mb M.length (mD M) rfl hown ?_; intro w1 hrg0 hg0 hs1) | go_in)
  go_frame
  have hB0 : B + 1 = W0.heap.size := by rw [hs0, hB]
  obtain ⟨r, hr⟩ : ∃ r, W0.heap.size = r := ⟨_, rfl⟩
  have hC1 : MAt Try.prog 38 38 w1 B [] := by
    have := hC0.kept hg0 (by simp)
    rw [hB] at this; exact this
  have hb1 : Below w.heap.size w w1 := hb0.grown hg0 hb0.size (fun k e => by cases e)
  rw [hr] at hrg0 ⊢
  have HRIS := hid hM.2.1
  have HFIT := hid hM.2
  have HST := hid (show ∀ k : Nat, getM [] k = if has (mD M) (keyL k) = true then none else getM M k from fun k => by
    rw [has_mD]
    cases hk : getM M k with
    | none => rfl
    | some v => rfl)
  have hrl : mb < r ∧ B < r := by omega
  have HR1 := hid hrg0
  have HC1 := hid hC1
  have HB1 := hid hb1
  clear hM hM0 hC0 hown hg0 hs1 hs0 hW0 hb0 hC1 hb1 hr hB0 hsz hrg0
  go_loopw [4] (fun _ wr => ∃ (left : Lit → Bool) (cnt : Nat) (C : MM), wr.ranges Try.prog 38 (plainElem Try.prog 38) mb r M.length (mD M) left cnt ∧ MAt Try.prog 38 38 wr B C ∧ (∀ k : Nat, getM C k = if left (keyL k) = true then none else getM M k) ∧ Below w.heap.size w wr)
    (fun _ wr => wr.rangeLeft mb r)
  case atStart => exact ⟨_, _, [], HR1.out, HC1.out, HST.out, HB1.out⟩
  case round =>
    obtain ⟨left, cnt, C, hrg, hC, hG, hb⟩ := hrel
    have HC := hid hC
    have HG := hid hG
    have HB := hid hb
    clear hC hG hb
    go_wp2_with (first | (at_next; refine wpList_next_ranges_ii _ rfl _ rfl 38 38 .u64 .u64 (int_keyed Try.underlying38) Try.underlying38 Try.underlying38 mb r M.length (mD M) left cnt rfl hrg ?_ ?_) | go_in)
    · intro hc0 hl0
      go_wp2_with fail
      go_ret
      have e : C = M := ris_ext HC.out.2.1 HRIS.out (fun k => by rw [HG.out k, hl0]; simp)
      have hbb := HB.out
      rw [HBE.out] at hbb
      first
      | (refine ⟨rfl, ?_, hbb⟩; rw [← e]; exact HC.out)
      | (rw [HBE.out]; refine ⟨rfl, ?_, hbb⟩; rw [← e]; exact HC.out)
    · intro x c w2 cnt2 hwx hwc hlx hat hrg2 hlt hg2 hs2 hen
      obtain ⟨x0, x1⟩ := wf_u64_bounds hwx
      obtain ⟨c0, c1⟩ := wf_u64_bounds hwc
      obtain ⟨xn, rfl⟩ := Int.eq_ofNat_of_zero_le x0
      obtain ⟨cn, rfl⟩ := Int.eq_ofNat_of_zero_le c0
      have hsome : (getM M xn).isSome = true := by
        have := has_true_of_atKey hat
        rwa [show (Lit.int .u64 (xn : Int)) = keyL xn from rfl, has_mD] at this
      have hget : getM M xn = some cn := by
        have h9 := hat (.lit (.int .u64 0))
        rw [show (Lit.int .u64 (xn : Int)) = keyL xn from rfl, at_mD] at h9
        obtain ⟨v, hv⟩ := Option.isSome_iff_exists.1 hsome
        rw [hv] at h9 ⊢
        simp only [Option.getD_some] at h9
        injection h9 with h9
        injection h9 with _ h9
        congr 1
        omega
      have hC2 := HC.out.kept hg2 (fun e => by cases e; omega)
      have hcl : C.length < maxLen := by
        have := sub_len HC.out.2.1 HRIS.out (fun p hp => getM_mem (by
          have h1 := get_of_mem HC.out.2.1 hp
          have h2 := HG.out p.1
          rw [h1] at h2
          by_cases e : left (keyL p.1) = true
          · rw [if_pos e] at h2; cases h2
          · rw [if_neg e] at h2; exact h2.symm))
        unfold maxLen; omega
      obtain ⟨es, cl, hrun, hC3, hg3⟩ := hC2.upd tm_u64 (x := xn) (v := cn) (by omega) (by omega) hcl
      have hb2 := HB.out.grown hg2 HB.out.size (fun k e => by cases e; have := HBE.out; omega)
      have hb3 := hb2.grown hg3 hb2.size (fun k e => by cases e; have := HBE.out; omega)
      have hrg3 := hrg2.kept hg3 (fun e => by cases e; omega) (fun e => by cases e; omega)
      have HC3 := hid hC3
      have HB3 := hid hb3
      have HNEW := hid (show ∀ k : Nat, getM (putM xn cn C) k = if (left (keyL k) && !(keyL k).sameKey (Lit.int .u64 (xn : Int))) = true then none else getM M k from fun k => by
        rw [get_putM]
        by_cases e : k = xn
        · subst e
          rw [if_pos rfl, show (Lit.int .u64 (k : Int)) = keyL k from rfl]
          simp [same_keyL, hget]
        · rw [if_neg e, HG.out k, show (Lit.int .u64 (xn : Int)) = keyL xn from rfl]
          simp [same_keyL, e])
      clear hC2 hcl hC3 hg3 hb2 hb3 hat
      go_wp2_with fail
      go_roundw
      case rel => exact ⟨_, cnt2, _, hrg3, HC3.out, HNEW.out, HB3.out⟩
      case measure => rw [hrg3.left_eq, hrg.left_eq]; exact hlt
end Go.Proofs.Ytkdjefnnhanhhaa
/- Loops taken out of a function's text. -/
namespace Go.Mem
/-- The number of the region that stands first. -/
def regOne : Code → Option Nat
  | .region i _ _ => some i
  | .seq a b => match regOne a with
    | some c => some c
    | none => regOne b
  | .block _ c => regOne c
  | .scope c => regOne c
  | .loop c => regOne c
  | _ => none
/-- The loop whose body begins with region k. -/
def loopOf (k : Nat) : Code → Option Code
  | .loop c => if regOne c = some k then some c else loopOf k c
  | .seq a b => match loopOf k a with
    | some c => some c
    | none => loopOf k b
  | .block _ c => loopOf k c
  | .scope c => loopOf k c
  | .cond _ a b => match loopOf k a with
    | some c => some c
    | none => loopOf k b
  | _ => none
end Go.Mem
/- Walks over the journal's laws: JournalStops: of each key that was seen the lesser ones are counted. -/
namespace Go.Proofs.Ytkdjefnnhanhhaa
open Go Go.RowKit Go.Mem Go.Hs Go.Jn Go.Maps
set_option linter.unusedVariables false

/-- How many keys less than x have come. -/
def cntL (M : MM) (x : Nat) (left : Lit → Bool) : Nat := M.countP fun p => decide (p.1 < x) && !left (keyL p.1)
theorem countP_step {k : Nat} {f f' : Nat × Nat → Bool} {b : Bool} : ∀ {M : MM}, RisM M → (∃ p ∈ M, p.1 = k) → (∀ p ∈ M, p.1 = k → f p = false ∧ f' p = b) → (∀ p ∈ M, p.1 ≠ k → f' p = f p) → M.countP f' = M.countP f + (if b then 1 else 0)
  | [], _, ⟨p, hp, _⟩, _, _ => by cases hp
  | q :: M, hR, hm, h1, h2 => by
    obtain ⟨a1, a2⟩ := List.pairwise_cons.1 hR
    rw [List.countP_cons, List.countP_cons]
    by_cases e : q.1 = k
    · obtain ⟨e1, e2⟩ := h1 q (by simp) e
      have h9 : M.countP f' = M.countP f := List.countP_congr fun p hp => by
        rw [h2 p (by simp [hp]) (fun e' => by have := a1 p hp; omega)]
      rw [h9, e1, e2]
      cases b <;> simp
    · have h9 := countP_step (M := M) (k := k) (f := f) (f' := f') (b := b) a2 (by
        obtain ⟨p, hp, e'⟩ := hm
        rcases List.mem_cons.1 hp with rfl | hp
        · exact absurd e' e
        · exact ⟨p, hp, e'⟩) (fun p hp => h1 p (by simp [hp])) (fun p hp => h2 p (by simp [hp]))
      rw [h9, h2 q (by simp) e]
      omega
theorem cntL_start (M : MM) (x : Nat) (left : Lit → Bool) (h : ∀ p ∈ M, left (keyL p.1) = true) : cntL M x left = 0 := by
  unfold cntL
  rw [List.countP_eq_zero]
  intro p hp
  rw [h p hp]; simp
theorem cntL_step {M : MM} (hR : RisM M) {x k : Nat} {left : Lit → Bool} (hk : (getM M k).isSome = true) (hl : left (keyL k) = true) : cntL M x (fun z => left z && !z.sameKey (keyL k)) = cntL M x left + (if decide (k < x) then 1 else 0) := by
  unfold cntL
  obtain ⟨v, hv⟩ := Option.isSome_iff_exists.1 hk
  refine countP_step (k := k) hR ⟨_, getM_mem hv, rfl⟩ (fun p _ e => ?_) (fun p _ e => ?_)
  · rw [e, hl]
    refine ⟨by simp, ?_⟩
    show (decide (k < x) && !(left (keyL k) && !(keyL k).sameKey (keyL k))) = _
    rw [hl, same_keyL]
    simp
  · show (decide (p.1 < x) && !(left (keyL p.1) && !(keyL p.1).sameKey (keyL k))) = _
    rw [same_keyL]
    simp [e]
theorem cntL_end {M : MM} (hR : RisM M) {i : Nat} (hi : i < M.length) {left : Lit → Bool} (hl : ∀ kl, left kl = false) : cntL M (M.getD i (0, 0)).1 left = i := by
  have e0 : cntL M (M.getD i (0, 0)).1 left = M.countP fun p => decide (p.1 < (M.getD i (0, 0)).1) := by
    unfold cntL
    refine List.countP_congr fun p _ => ?_
    rw [hl]; simp
  rw [e0]
  have e1 : M.getD i (0, 0) = M[i] := by simp [List.getD, hi]
  rw [e1]
  have hr := List.pairwise_iff_getElem.1 hR
  obtain ⟨x, hx⟩ : ∃ x, M[i].1 = x := ⟨_, rfl⟩
  have hr1 : ∀ j (hj : j < M.length), j < i → M[j].1 < x := fun j hj h => by rw [← hx]; exact hr j i hj hi h
  have hr2 : ∀ j (hj : j < M.length), i ≤ j → x ≤ M[j].1 := fun j hj h => by
    rcases Nat.lt_or_ge i j with h' | h'
    · have := hr i j hi hj h'; omega
    · obtain rfl : i = j := by omega
      omega
  rw [hx]
  conv => lhs; rw [← List.take_append_drop i M]
  rw [List.countP_append]
  have h1 : (M.take i).countP (fun p => decide (p.1 < x)) = (M.take i).length := by
    rw [List.countP_eq_length]
    intro p hp
    obtain ⟨j, hj, rfl⟩ := List.mem_iff_getElem.1 hp
    rw [List.length_take] at hj
    rw [List.getElem_take]
    exact decide_eq_true (hr1 j (by omega) (by omega))
  have h2 : (M.drop i).countP (fun p => decide (p.1 < x)) = 0 := by
    rw [List.countP_eq_zero]
    intro p hp
    obtain ⟨j, hj, rfl⟩ := List.mem_iff_getElem.1 hp
    rw [List.length_drop] at hj
    rw [List.getElem_drop]
    have := hr2 (i + j) (by omega) (by omega)
    simp; omega
  rw [h1, h2, List.length_take]
  omega
theorem cntL_le (M : MM) (x : Nat) (left : Lit → Bool) : cntL M x left ≤ M.length := List.countP_le_length
noncomputable def lpStops : Code := (Try.f5.body.bind (loopOf 29)).getD .skip
set_option maxRecDepth 1000000 in
set_option maxHeartbeats 12800000 in
theorem stops_loop (G mb L : Nat) (M : MM) (gv : Value) (W : World) (df : List Deferred) (Qp : Exit → Act → World → Prop) (c0 c1 c2 c3 c4 c5 c6 c7 c8 c10 c11 c13 c14 c15 c17 c18 c19 c20 c21 c22 c23 c24 c25 c26 c27 c28 c29 c30 c31 c32 c33 c34 c35 c36 c37 c38 c39 c40 c41 c42 c43 c44 c45 c46 c47 c48 c49 c50 c51 c52 c53 c54 c55 c56 c57 c58 c59 c60 c61 c62 c63 c64 c65 c66 c67 c68 c69 c70 c71 c72 c73 c74 c75 c76 c77 c78 c79 c80 c81 c82 c83 c84 c85 c86 c87 c88 c89 c90 c91 c92 c93 c94 c95 c96 c97 c98 c99 c100 c101 c102 c103 c104 c105 c106 c107 c108 c109 c110 c111 c112 c113 c114 c115 c116 c117 c118 c119 c120 : Value)
    (hG : W.heap[G]? = some (.cells #[gv] 45 (0, 0))) (hgv : Rd .u64 W gv ((keysM M).take L)) (hL : L ≤ M.length) (hLb : L ≤ 30) (hM : MAt Try.prog 38 38 W mb M) (hml : M.length ≤ 60000)
    (hexit : ∀ (a : Act) (iv : Value) (wr : World), (∃ u17 u18 u87 u88 u89 u90 u91 u92 u93 u94 u95 u96 u97 u98 u99 u100 u101 u102 u103 u104 u105 u106 u107 u108 u109 : Value, a = ⟨List.toArray (c0 :: c1 :: c2 :: c3 :: c4 :: c5 :: c6 :: c7 :: c8 :: (.map (some mb)) :: c10 :: c11 :: (.pointer (some ⟨G, 0, none⟩)) :: c13 :: c14 :: c15 :: (iv) :: (u17) :: (u18) :: c19 :: c20 :: c21 :: c22 :: c23 :: c24 :: c25 :: c26 :: c27 :: c28 :: c29 :: c30 :: c31 :: c32 :: c33 :: c34 :: c35 :: c36 :: c37 :: c38 :: c39 :: c40 :: c41 :: c42 :: c43 :: c44 :: c45 :: c46 :: c47 :: c48 :: c49 :: c50 :: c51 :: c52 :: c53 :: c54 :: c55 :: c56 :: c57 :: c58 :: c59 :: c60 :: c61 :: c62 :: c63 :: c64 :: c65 :: c66 :: c67 :: c68 :: c69 :: c70 :: c71 :: c72 :: c73 :: c74 :: c75 :: c76 :: c77 :: c78 :: c79 :: c80 :: c81 :: c82 :: c83 :: c84 :: c85 :: c86 :: (u87) :: (u88) :: (u89) :: (u90) :: (u91) :: (u92) :: (u93) :: (u94) :: (u95) :: (u96) :: (u97) :: (u98) :: (u99) :: (u100) :: (u101) :: (u102) :: (u103) :: (u104) :: (u105) :: (u106) :: (u107) :: (u108) :: (u109) :: c110 :: c111 :: c112 :: c113 :: c114 :: c115 :: c116 :: c117 :: c118 :: c119 :: c120 :: []), df⟩) → Below W.heap.size W wr → Qp (.exit 4) a wr) :
    Code.wp Try.prog (Code.loop lpStops) (NoPanic Qp) ⟨List.toArray (c0 :: c1 :: c2 :: c3 :: c4 :: c5 :: c6 :: c7 :: c8 :: (.map (some mb)) :: c10 :: c11 :: (.pointer (some ⟨G, 0, none⟩)) :: c13 :: c14 :: c15 :: (.int .i64 0) :: c17 :: c18 :: c19 :: c20 :: c21 :: c22 :: c23 :: c24 :: c25 :: c26 :: c27 :: c28 :: c29 :: c30 :: c31 :: c32 :: c33 :: c34 :: c35 :: c36 :: c37 :: c38 :: c39 :: c40 :: c41 :: c42 :: c43 :: c44 :: c45 :: c46 :: c47 :: c48 :: c49 :: c50 :: c51 :: c52 :: c53 :: c54 :: c55 :: c56 :: c57 :: c58 :: c59 :: c60 :: c61 :: c62 :: c63 :: c64 :: c65 :: c66 :: c67 :: c68 :: c69 :: c70 :: c71 :: c72 :: c73 :: c74 :: c75 :: c76 :: c77 :: c78 :: c79 :: c80 :: c81 :: c82 :: c83 :: c84 :: c85 :: c86 :: c87 :: c88 :: c89 :: c90 :: c91 :: c92 :: c93 :: c94 :: c95 :: c96 :: c97 :: c98 :: c99 :: c100 :: c101 :: c102 :: c103 :: c104 :: c105 :: c106 :: c107 :: c108 :: c109 :: c110 :: c111 :: c112 :: c113 :: c114 :: c115 :: c116 :: c117 :: c118 :: c119 :: c120 :: []), df⟩ W := by
  conv => arg 2; arg 1; whnf
  have hkl : ((keysM M).take L).length = L := by rw [List.length_take]; simp [keysM]; omega
  obtain ⟨ga, gc, hgf, g1, g2, g3⟩ := hgv
  rw [hkl] at hgf g1 g3
  subst hgf
  have HG := hid hG
  have HGV := hid g3
  have HM := hid hM
  have HEX := hid hexit
  have hsz : Maps.size (mD M) = M.length := size_mD M
  have HSZ := hid hsz
  have hGl := lt_at hG
  have hml2 := hM.lt
  have gc2 : (gc : Int) ≤ 9223372036854775807 := by unfold maxLen at g2; omega
  clear hG g3 hM hexit hkl g2 hsz
  go_loopg [16] L (fun gk iv wr => ∃ i : Nat, i + gk = L ∧ iv = .int .i64 (i : Nat) ∧ Below W.heap.size W wr)
  case atStart => exact ⟨0, by omega, rfl, Below.refl _ _⟩
  case round =>
    obtain ⟨i, hi, rfl, hb⟩ := hrel
    have c12 := cell_at ((hb.block _ hGl).trans HG.out) 0
    simp only [List.getElem?_toArray, List.getElem?_cons_zero] at c12
    have HB := hid hb
    by_cases hlt : i < L
    · have i1 : (i : Int) < (L : Int) := by omega
      have z2 : IntKind.i64.wrap ((i : Int) + 1) = (i : Int) + 1 := IntWalk.i64_in _ ⟨by omega, by omega⟩
      have hMr := HM.out.below hb
      have hown := hMr.1
      obtain ⟨wA, rfl⟩ : ∃ V, V = wr := ⟨_, rfl⟩
      obtain ⟨gA, rfl⟩ : ∃ V, V = gk := ⟨_, rfl⟩
      clear hb
      go_wp2_with (first | (at_range; refine wpList_range_own _ rfl _ 44 rfl 38 38 (int_keyed Try.underlying38) Try.underlying44 _ mb M.length (mD M) rfl hown ?_; intro w1 hrg0 hg0 hs1) | go_in)
      go_frame
      obtain ⟨r, hr⟩ : ∃ r, wA.heap.size = r := ⟨_, rfl⟩
      have hb1 : Below W.heap.size W w1 := HB.out.grown hg0 HB.out.size (fun k e => by cases e)
      have hsz := HB.out.size
      rw [hr] at hrg0 hsz ⊢
      obtain ⟨g9, o9, e9, cx⟩ := HGV.out i hlt
      obtain ⟨x, hx⟩ : ∃ x, ((keysM M).take L).getD i 0 = x := ⟨_, rfl⟩
      have hxe : x = (M.getD i (0, 0)).1 := by
        rw [← hx]
        simp [keysM, List.getD, hlt, show i < M.length by omega]
      rw [hx] at cx
      have hcl := World.block_lt_of_cell? _ _ cx
      subst e9
      have HXE := hid hxe
      have HR0 := hid hrg0
      have HB1 := hid hb1
      have HCX := hid cx
      have HFIT := hid hMr.2
      have HST := hid (cntL_start M x (fun kl => has (mD M) kl) (fun p hp => by
        rw [has_mD, get_of_mem hMr.2.1 hp]; rfl))
      clear hx hxe cx c12 hMr hown hg0 hs1 hb1 hrg0 hsz
      go_loopw [17] (fun v17 wr => ∃ (left : Lit → Bool) (cnt c : Nat), v17 = .int .i64 (c : Nat) ∧ wr.ranges Try.prog 38 (plainElem Try.prog 38) mb r M.length (mD M) left cnt ∧ c = cntL M x left ∧ Below W.heap.size W wr)
        (fun _ wr => wr.rangeLeft mb r)
      case atStart => exact ⟨_, _, 0, rfl, HR0.out, HST.out.symm, HB1.out⟩
      case round =>
        obtain ⟨left, cnt, c, rfl, hrg, hc, hb⟩ := hrel
        have hcb : c ≤ 60000 := by have := cntL_le M x left; omega
        have HC := hid hc
        have HB2 := hid hb
        have HRG := hid hrg
        clear hc hb
        go_wp2_with (first | (at_next; refine wpList_next_ranges_ii _ rfl _ rfl 38 38 .u64 .u64 (int_keyed Try.underlying38) Try.underlying38 Try.underlying38 mb r M.length (mD M) left cnt rfl hrg ?_ ?_) | go_in)
        · intro hc0 hl0
          have hci : c = i := by rw [HC.out, HXE.out]; exact cntL_end HFIT.out.1 (by omega) hl0
          have e1 : ((i : Int) != (i : Int)) = false := by simp
          subst hci
          clear hrg
          go_wp2_with fail
          go_roundg (gA - 1)
          case measure => omega
          case rel => exact ⟨c + 1, by omega, by go_num, HB2.out⟩
        · intro y v w2 cnt2 hwx hwc hlx hat hrg2 hlt2 hg2 hs2 hen
          obtain ⟨x0, x1⟩ := wf_u64_bounds hwx
          obtain ⟨yn, rfl⟩ := Int.eq_ofNat_of_zero_le x0
          have hsome : (getM M yn).isSome = true := by
            have := has_true_of_atKey hat
            rwa [show (Lit.int .u64 (yn : Int)) = keyL yn from rfl, has_mD] at this
          have hb2 := HB2.out.grown hg2 HB2.out.size (fun k e => by cases e; have := HB.out.size; omega)
          have c12 := cell_at ((hb2.block _ hGl).trans HG.out) 0
          simp only [List.getElem?_toArray, List.getElem?_cons_zero] at c12
          have cx := (hb2.cell hcl).trans HCX.out
          have hstep := cntL_step (x := x) HFIT.out.1 hsome (show left (keyL yn) = true from hlx)
          have HSTEP := hid hstep
          have HB3 := hid hb2
          have HR2 := hid hrg2
          have HLT := hid hlt2
          have z3 : IntKind.i64.wrap ((c : Int) + 1) = (c : Int) + 1 := IntWalk.i64_in _ ⟨by omega, by omega⟩
          clear hstep hb2 hrg2 hlt2 hg2 hs2 hat hsome hwx hwc
          by_cases hyx : yn < x
          · have j1 : (yn : Int) < (x : Int) := by omega
            have hd : decide (yn < x) = true := decide_eq_true hyx
            rw [hd] at HSTEP
            go_wp2_with fail
            go_roundw
            case rel => exact ⟨_, cnt2, c + 1, by go_num, HR2.out, by rw [HC.out]; exact HSTEP.out.symm, HB3.out⟩
            case measure => rw [HR2.out.left_eq, HRG.out.left_eq]; exact HLT.out
          · have j1 : ¬ (yn : Int) < (x : Int) := by omega
            have hd : decide (yn < x) = false := decide_eq_false hyx
            rw [hd] at HSTEP
            go_wp2_with fail
            go_roundw
            case rel => exact ⟨_, cnt2, c, rfl, HR2.out, by rw [HC.out]; exact HSTEP.out.symm, HB3.out⟩
            case measure => rw [HR2.out.left_eq, HRG.out.left_eq]; exact HLT.out
    · have i1 : ¬ (i : Int) < (L : Int) := by omega
      clear hb
      go_wp2_with fail
      exact HEX.out _ _ _ ⟨_, _, _, _, _, _, _, _, _, _, _, _, _, _, _, _, _, _, _, _, _, _, _, _, _, rfl⟩ HB.out
end Go.Proofs.Ytkdjefnnhanhhaa
