/- Walks over the journal's laws: abs, holds. -/
import Derived.Test.YtkdjefnnhanhhaaUw
import Derived.Test.YtkdjefnnhanhhaaZOd
import Derived.Test.YtkdjefnnhanhhaaUq
import Derived.RangeFuncWrites
set_option linter.unusedVariables false
namespace Go.Proofs.Ytkdjefnnhanhhaa
open Go Go.RowKit Go.Mem Go.Jn Go.Shelf
set_option linter.unusedVariables false
attribute [local go_sem] Oper.semAt_some

set_option maxRecDepth 100000 in
set_option maxHeartbeats 800000 in
theorem labs_any (z : Int) (w : World) (hz : (Lit.int .i64 z).wf = true) : Calls Try.prog 10 #[.int .i64 z] w fun e w' => e = .returned (.int .i64 (absN' z : Nat)) ∧ w = w' := by
  have hb : -9223372036854775808 ≤ z ∧ z ≤ 9223372036854775807 := by
    simp only [Lit.wf, Bool.and_eq_true, decide_eq_true_eq] at hz
    exact ⟨hz.1, hz.2⟩
  by_cases h : z < 0
  · have e : ((absN' z : Nat) : Int) = -(z + 1) := by unfold absN'; rw [if_pos h]; omega
    rw [e]
    have w1 : IntKind.i64.wrap (z + 1) = z + 1 := IntWalk.i64_in _ ⟨by omega, by omega⟩
    have w2 : IntKind.i64.wrap (-(z + 1)) = -(z + 1) := IntWalk.i64_in _ ⟨by omega, by omega⟩
    go_enter Try.func10, Try.ntmps10
    go_wp2_with fail
    go_ret
    exact ⟨rfl, rfl⟩
  · have e : ((absN' z : Nat) : Int) = z := by unfold absN'; rw [if_neg h]; omega
    rw [e]
    go_enter Try.func10, Try.ntmps10
    go_wp2_with fail
    go_ret
    exact ⟨rfl, rfl⟩
theorem run_eql_func_nil {P : Program} {t : TypeId} {a b : Array TypeId} {c : Bool} (hu : P.underlying t = some (.func a b c)) (f : Fn) (x y : Array Value) (w : World) : (binOp .eql t (.func f x y) .nilFunc).run P w = .ok (.bool false) w := by
  have h : ∀ d : Nat, (Op.equalIn (d + 1) t (.func f x y) .nilFunc).run P w = .ok false w := fun d => by simp [Op.equalIn, run_underlying hu]
  simp only [binOp]
  simp [Op.equal, Op.maxDepth, h 9999]
/-- The last key that came. -/
def lastKey (jm : MM) (pre : List Nat) : Nat := match pre.getLast? with
  | none => 0
  | some i => (jm.getD i (0, 0)).1
def hcond (jm M : MM) (pre : List Nat) (x : Nat) : Prop := getM M (jm.getD x (0, 0)).1 = some (jm.getD x (0, 0)).2 ∧ getM jm (jm.getD x (0, 0)).1 = some (jm.getD x (0, 0)).2 ∧ (pre = [] ∨ lastKey jm pre < (jm.getD x (0, 0)).1)
theorem getM_mem : ∀ {M : MM} {k v : Nat}, getM M k = some v → (k, v) ∈ M
  | [], k, v, h => by cases h
  | p :: M, k, v, h => by
    rw [getM_cons] at h
    by_cases e : p.1 = k
    · rw [if_pos e] at h; cases h; rw [← e]; simp
    · rw [if_neg e] at h; exact List.mem_cons_of_mem _ (getM_mem h)
theorem sub_len : ∀ {a b : MM}, RisM a → RisM b → (∀ p ∈ a, p ∈ b) → a.length ≤ b.length
  | [], b, _, _, _ => Nat.zero_le _
  | p :: a, [], _, _, h => by have := h p (by simp); cases this
  | p :: a, q :: b, ha, hb, h => by
    obtain ⟨a1, a2⟩ := List.pairwise_cons.1 ha
    obtain ⟨b1, b2⟩ := List.pairwise_cons.1 hb
    rw [List.length_cons, List.length_cons]
    have hs : ∀ r ∈ a, r ∈ b := fun r hr => by
      rcases List.mem_cons.1 (h r (by simp [hr])) with e | e
      · exfalso
        have h1 := a1 r hr
        rw [e] at h1
        rcases List.mem_cons.1 (h p (by simp)) with e' | e'
        · rw [e'] at h1; omega
        · have := b1 p e'; omega
      · exact e
    have := sub_len a2 b2 hs
    omega
theorem ris_eq : ∀ {a b : MM}, RisM a → RisM b → (∀ p ∈ a, p ∈ b) → a.length = b.length → a = b
  | [], [], _, _, _, _ => rfl
  | [], q :: b, _, _, _, hl => by simp at hl
  | p :: a, [], _, _, _, hl => by simp at hl
  | p :: a, q :: b, ha, hb, h, hl => by
    obtain ⟨a1, a2⟩ := List.pairwise_cons.1 ha
    obtain ⟨b1, b2⟩ := List.pairwise_cons.1 hb
    have hpq : p = q := by
      rcases List.mem_cons.1 (h p (by simp)) with e | e
      · exact e
      · exfalso
        have hs : ∀ r ∈ p :: a, r ∈ b := fun r hr => by
          rcases List.mem_cons.1 (h r hr) with e' | e'
          · exfalso
            have h1 := b1 p e
            rcases List.mem_cons.1 hr with e2 | e2
            · rw [← e2, e'] at h1; omega
            · have := a1 r e2; rw [e'] at this; omega
          · exact e'
        have := sub_len ha b2 hs
        rw [List.length_cons] at this hl
        rw [List.length_cons] at hl
        omega
    subst hpq
    have hs : ∀ r ∈ a, r ∈ b := fun r hr => by
      rcases List.mem_cons.1 (h r (by simp [hr])) with e | e
      · have := a1 r hr; rw [e] at this; omega
      · exact e
    rw [ris_eq a2 b2 hs (by simpa using hl)]
theorem holds_eq {a b : MM} (ha : RisM a) (hb : RisM b) (h : ∀ i, i < a.length → getM b (a.getD i (0, 0)).1 = some (a.getD i (0, 0)).2) : a = b ↔ a.length = b.length := by
  refine ⟨fun e => by rw [e], fun e => ris_eq ha hb (fun p hp => ?_) e⟩
  obtain ⟨i, hi, rfl⟩ := List.mem_iff_getElem.1 hp
  have := getM_mem (h i hi)
  have e2 : a.getD i (0, 0) = a[i] := by simp [List.getD, hi]
  rw [e2] at this
  exact this
theorem hcond_at {a : MM} (ha : RisM a) {l' : List Nat} {x : Nat} (hp : l' ++ [x] <+: List.range a.length) : hcond a a l' x := by
  have hl : l' = List.range l'.length ∧ x = l'.length ∧ x < a.length := by
    obtain ⟨q, hq⟩ := hp
    have hlen : l'.length + 1 ≤ a.length := by
      have := congrArg List.length hq
      simp at this; omega
    have h1 : (l' ++ [x]) = (List.range a.length).take (l'.length + 1) := by
      rw [← hq, List.take_left' (by simp)]
    rw [List.take_range, Nat.min_eq_left hlen, List.range_succ] at h1
    have h2 := List.append_inj h1 (by simp)
    exact ⟨h2.1, by simpa using h2.2, by have := h2.2; simp at this; omega⟩
  obtain ⟨h1, h2, h3⟩ := hl
  have hg : a[x]? = some (a.getD x (0, 0)) := by simp [List.getD, h3]
  have hat := getM_at ha hg
  refine ⟨hat, hat, ?_⟩
  by_cases he : l' = []
  · exact .inl he
  · right
    have hpos : 0 < l'.length := List.length_pos_iff.2 he
    have hlast : l'.getLast? = some (l'.length - 1) := by
      rw [List.getLast?_eq_getElem?]
      conv => lhs; rw [h1]
      simp only [List.length_range]
      rw [List.getElem?_range (by omega)]
    have hlk : lastKey a l' = (a.getD (l'.length - 1) (0, 0)).1 := by unfold lastKey; rw [hlast]
    rw [hlk]
    have hy : a[l'.length - 1]? = some (a.getD (l'.length - 1) (0, 0)) := by simp [List.getD, show l'.length - 1 < a.length by omega]
    have hr := List.pairwise_iff_getElem.1 ha (l'.length - 1) x (by omega) h3 (by omega)
    have e1 : a.getD (l'.length - 1) (0, 0) = a[l'.length - 1]'(by omega) := by simp [List.getD, show l'.length - 1 < a.length by omega]
    have e2 : a.getD x (0, 0) = a[x] := by simp [List.getD, h3]
    rw [e1, e2]; exact hr
theorem getD_fit {M : MM} (h : FitM M) (x : Nat) : (M.getD x (0, 0)).1 < 18446744073709551616 ∧ (M.getD x (0, 0)).2 < 18446744073709551616 := by
  by_cases hx : x < M.length
  · have : M.getD x (0, 0) ∈ M := by simp [List.getD, hx]
    exact h.2 _ this
  · rw [List.getD, List.getElem?_eq_none (by omega)]; exact ⟨by decide, by decide⟩
set_option maxRecDepth 100000 in
set_option maxHeartbeats 6400000 in
theorem holds_any {Q : Nat → Prop} {w : World} {J T b mb : Nat} {j : Jo} {rv : Value} {M : MM} (hJ : JAtC Q w J T j b rv) (hM : MAt Try.prog 38 38 w mb M) (hl : j.m.length ≤ 60000) (hl2 : M.length ≤ 60000) :
    Calls Try.prog 19 #[.pointer (some ⟨J, 0, none⟩), .map (some mb)] w fun e w' => e = .returned (.bool (decide (j.m = M))) ∧ Below w.heap.size w w' := by
  obtain ⟨B, hB⟩ : ∃ B, w.heap.size = B := ⟨_, rfl⟩
  obtain ⟨W0, hW0⟩ : ∃ W, (((((w.alloc (.cells #[.pointer (some ⟨J, 0, none⟩)] 31)).alloc (.cells #[.map (some mb)] 44)).alloc (.cells #[.bool false] 4)).alloc (.cells #[.int .i64 0] 3)).alloc (.cells #[.int .u64 0] 38)).alloc (.cells #[.pointer (some ⟨J, 0, none⟩)] 31) = W := ⟨_, rfl⟩
  refine enter_marks Try.func19 rfl ?_
  simp only [Try.ntmps19, List.size_toArray, List.length_cons, List.length_nil, Nat.reduceAdd, Nat.reduceSub, Array.replicate_succ, Array.replicate_zero, List.push_toArray, List.append_toArray, List.nil_append, List.cons_append]
  have hq := fun (f : Fn) (x y : Array Value) (w : World) => run_eql_func_nil (P := Try.prog) Try.underlying47 f x y w
  go_wp2_with fail
  refine (jall_any J _).mono ?_
  rintro e w1 ⟨rfl, rfl⟩
  go_wp2_with fail
  have hs0 : W0.heap.size = B + 6 := by rw [← hW0, ← hB]; simp
  have hb0 : Below w.heap.size w W0 := by
    rw [← hW0]
    exact (((((((Below.refl _ _).alloc (Nat.le_refl _) _).alloc (by simp) _).alloc (by simp; omega) _).alloc (by simp; omega) _).alloc (by simp; omega) _).alloc (by simp; omega) _)
  have hx0 : W0.heap[B]? = some (.cells #[.pointer (some ⟨J, 0, none⟩)] 31 (0, 0)) := by
    rw [← hW0, ← hB]
    exact (alloc_old (by simp; try omega)).trans ((alloc_old (by simp; try omega)).trans ((alloc_old (by simp; try omega)).trans ((alloc_old (by simp; try omega)).trans ((alloc_old (by simp; try omega)).trans (alloc_at (by simp))))))
  have hx1 : W0.heap[B + 1]? = some (.cells #[.map (some mb)] 44 (0, 0)) := by
    rw [← hW0, ← hB]
    exact (alloc_old (by simp; try omega)).trans ((alloc_old (by simp; try omega)).trans ((alloc_old (by simp; try omega)).trans ((alloc_old (by simp; try omega)).trans (alloc_at (by simp)))))
  have hx2 : W0.heap[B + 1 + 1]? = some (.cells #[.bool false] 4 (0, 0)) := by
    rw [← hW0, ← hB]
    exact (alloc_old (by simp; try omega)).trans ((alloc_old (by simp; try omega)).trans ((alloc_old (by simp; try omega)).trans (alloc_at (by simp [Nat.add_assoc]))))
  have hx3 : W0.heap[B + 1 + 1 + 1]? = some (.cells #[.int .i64 0] 3 (0, 0)) := by
    rw [← hW0, ← hB]
    exact (alloc_old (by simp; try omega)).trans ((alloc_old (by simp; try omega)).trans (alloc_at (by simp [Nat.add_assoc])))
  have hx4 : W0.heap[B + 1 + 1 + 1 + 1]? = some (.cells #[.int .u64 0] 38 (0, 0)) := by
    rw [← hW0, ← hB]
    exact (alloc_old (by simp; try omega)).trans (alloc_at (by simp [Nat.add_assoc]))
  have hx5 : W0.heap[B + 1 + 1 + 1 + 1 + 1]? = some (.cells #[.pointer (some ⟨J, 0, none⟩)] 31 (0, 0)) := by rw [← hW0, ← hB]; exact alloc_at (by simp [Nat.add_assoc])
  have hJl := lt_at hJ.hp
  have hbl := hJ.mp.lt
  have hml := hM.lt
  obtain ⟨X, hX⟩ : ∃ X : Nat → Prop, X = fun i => i = B + 1 + 1 ∨ i = B + 1 + 1 + 1 ∨ i = B + 1 + 1 + 1 + 1 := ⟨_, rfl⟩
  have hst : SeqStopsK Fence.wide 9 Try.prog 30 #[.pointer (some ⟨B + 1 + 1 + 1 + 1 + 1, 0, none⟩)] (kvE j.m) (KpX W0.heap.size X) (fun ys => ys = List.range j.m.length) (fun pre => pre <+: List.range j.m.length) j.m.length W0 := by
    intro l0 Jv Jx W hbW hJv hJx hY h0
    have hbw : Below w.heap.size w W := hb0.trans (hbW.mono hb0.size)
    refine jall1_in 9 (by omega) l0 (B + 1 + 1 + 1 + 1 + 1) J b W0.heap.size X j.m hl Jv Jx hY W hJv ?_ ?_ (hJ.mp.below hbw) hbW.size ⟨by omega, by omega, by omega⟩ ⟨?_, ?_, ?_⟩ ?_ h0
    · rw [cell_at ((hbW.block _ (by omega)).trans hx5)]; rfl
    · rw [cell_at ((hbw.block _ hJl).trans hJ.hp)]; rfl
    · rw [hX]; omega
    · rw [hX]; omega
    · rw [hX]; omega
    · intro i hi; rw [hX]; have := hbW.size; omega
  refine wpIn_wide.1 (wpIn_rangeFunc_ownG (n := 10) rfl (by omega) (gf := 30) (lb := #[.pointer (some ⟨B + 1 + 1 + 1 + 1 + 1, 0, none⟩)]) rfl trivial (enters_of Try.func30 (by kernel_rfl) rfl) hst
    KpX.trans (fun W l o o' hl ho hc _ => KpX.putObj o' ho hc hl) (Below.refl _ _) (fun _ => rfl)
    (fun pre W => Below w.heap.size w W ∧ W.heap[B]? = some (.cells #[.pointer (some ⟨J, 0, none⟩)] 31 (0, 0)) ∧ W.heap[B + 1]? = some (.cells #[.map (some mb)] 44 (0, 0)) ∧ W.heap[B + 1 + 1]? = some (.cells #[.bool false] 4 (0, 0)) ∧
      W.heap[B + 1 + 1 + 1]? = some (.cells #[.int .i64 (pre.length : Nat)] 3 (0, 0)) ∧ W.heap[B + 1 + 1 + 1 + 1]? = some (.cells #[.int .u64 (lastKey j.m pre : Nat)] 38 (0, 0)) ∧ ∀ i ∈ pre, getM M (j.m.getD i (0, 0)).1 = some (j.m.getD i (0, 0)).2)
    (fun c pre W => c = .ret ∧ Below w.heap.size w W ∧ W.heap[B + 1 + 1]? = some (.cells #[.bool false] 4 (0, 0)) ∧ ∃ l' x, pre = l' ++ [x] ∧ ¬ hcond j.m M l' x)
    ?own ?ownx ⟨hb0, hx0, hx1, hx2, hx3, hx4, fun i hi => (by cases hi)⟩
    (fun x => { tmps := #[Value.pointer (some ⟨J, 0, none⟩), Value.map (some mb), Value.pointer (some ⟨B, 0, none⟩), Value.pointer (some ⟨B + 1, 0, none⟩), Value.pointer (some ⟨B + 1 + 1, 0, none⟩), Value.pointer (some ⟨B + 1 + 1 + 1, 0, none⟩), Value.pointer (some ⟨B + 1 + 1 + 1 + 1, 0, none⟩), Value.func (Fn.func 30) #[] #[Value.pointer (some ⟨B + 1 + 1 + 1 + 1 + 1, 0, none⟩)], Value.int .u64 ((j.m.getD x (0, 0)).1 : Nat), Value.int .u64 ((j.m.getD x (0, 0)).2 : Nat), undef, undef, undef, undef, Value.pointer (some ⟨J, 0, none⟩), Value.func (Fn.func 30) #[] #[Value.pointer (some ⟨B + 1 + 1 + 1 + 1 + 1, 0, none⟩)], Value.func (Fn.func 30) #[] #[Value.pointer (some ⟨B + 1 + 1 + 1 + 1 + 1, 0, none⟩)], Value.bool false, Value.func (Fn.func 30) #[] #[Value.pointer (some ⟨B + 1 + 1 + 1 + 1 + 1, 0, none⟩)], Value.int .u64 ((j.m.getD x (0, 0)).1 : Nat), Value.int .u64 ((j.m.getD x (0, 0)).2 : Nat), undef, undef, undef, undef, undef, undef, undef, undef, undef, undef, undef, undef, undef, undef, undef, undef, undef, undef, undef, undef, undef, undef, undef, undef, undef, undef, undef, undef, undef, undef, undef, undef, undef, undef, undef, undef, undef, undef, undef, undef, undef, undef, undef, undef], defers := [] })
    ?assign ?body ?done ?stop)
  case own =>
    rintro pre A C row ⟨h1, h2, h3, h4, h5, h6, h7⟩ hg hrow
    have hk := fun {j : Nat} {cs : Array Value} {t : TypeId} {fz : Nat × Nat} (h : A.heap[j]? = some (.cells cs t fz)) => cells_kept hg hrow h
    exact ⟨h1.grown hg h1.size (fun k e => Nat.le_trans hb0.size (hrow k e).1), hk h2, hk h3, hk h4, hk h5, hk h6, h7⟩
  case ownx =>
    rintro c pre A C row ⟨rfl, h1, h2, h3⟩ hg hrow
    exact ⟨rfl, h1.grown hg h1.size (fun k e => Nat.le_trans hb0.size (hrow k e).1), cells_kept hg hrow h2, h3⟩
  case assign =>
    intro l0 x W K hK
    unfold kvE
    gi_wp2
    exact hK
  case body =>
    rintro l0 pre x W ⟨h1, h2, h3, h4, h5, h6, h7⟩ hlt
    have hJW := hJ.below h1
    have hMW := hM.below h1
    obtain ⟨k, hk⟩ : ∃ k, (j.m.getD x (0, 0)).1 = k := ⟨_, rfl⟩
    obtain ⟨v, hv⟩ : ∃ k, (j.m.getD x (0, 0)).2 = k := ⟨_, rfl⟩
    have hfit := getD_fit hJ.mp.2 x
    rw [hk, hv] at hfit
    have c0 := cell_at h2 0
    have c1 := cell_at h3 0
    have c2 := cell_at h4 0
    have c3 := cell_at h5 0
    have c4 := cell_at h6 0
    have f2 := free_at h4 0
    have f3 := free_at h5 0
    have f4 := free_at h6 0
    have hlk := hMW.look2 tm_u64 hfit.1
    have HGET := hid (get_any hJW k hfit.1)
    have HNC' := hid (show hcond j.m M pre x ↔ (getM M k = some v ∧ getM j.m k = some v ∧ (pre = [] ∨ lastKey j.m pre < k)) from by unfold hcond; rw [hk, hv])
    obtain ⟨gM, hgM⟩ : ∃ g, getM M k = g := ⟨_, rfl⟩
    obtain ⟨gJ, hgJ⟩ : ∃ g, getM j.m k = g := ⟨_, rfl⟩
    obtain ⟨lk, hlk2⟩ : ∃ g, lastKey j.m pre = g := ⟨_, rfl⟩
    rw [hgM] at hlk
    rw [hgM, hgJ, hlk2] at HNC'
    rw [hgJ] at HGET
    rw [hlk2] at c4
    obtain ⟨pn, hpn⟩ : ∃ g, pre.length = g := ⟨_, rfl⟩
    have HPN := hid hpn
    rw [hpn] at c3 hlt
    have HBW := hid h1
    have HBE := hid hB
    have H0 := hid h2
    have H1 := hid h3
    have H2 := hid h4
    have H3 := hid h5
    have H4 := hid h6
    have HK := hid hk
    have HGM := hid hgM
    have H7 := hid h7
    have HV := hid hv
    rw [hk, hv]
    simp only [List.getElem?_toArray, List.getElem?_cons_zero] at c0 c1 c2 c3 c4
    clear h1 h2 h3 h4 h5 h6 hJW hMW hgM hgJ hlk2 hpn hk hv h7
    have hpn1 : pn ≤ 60000 := by omega
    cases gM with
    | none =>
      simp only [Option.getD_none, Option.isSome_none] at hlk
      rw [show ((0 : Nat) : Int) = 0 from rfl] at hlk
      have HNC := hid (show ¬ hcond j.m M pre x from fun h => by have := (HNC'.out.1 h).1; cases this)
      gi_wp2_with fail
      refine ⟨trivial, ?_⟩
      refine (callsIn_wide.2 HGET.out).mono ?_
      rintro e w5 ⟨rfl, rfl⟩
      gi_wp2_with fail
      exact ⟨((KeepsOthers.setCell W _ _).from _), rfl, HBW.out.setCell (p := ⟨B + 1 + 1, 0, none⟩) (show w.heap.size ≤ B + 1 + 1 by omega) _, by have := set_at H2.out 0 (.bool false); exact this, pre, x, rfl, HNC.out⟩
    | some u =>
      simp only [Option.getD_some, Option.isSome_some] at hlk
      by_cases huv : u = v
      · subst huv
        have e1 : ((u : Int) != (u : Int)) = false := by simp
        cases gJ with
        | none =>
          simp only [Option.getD_none, Option.isSome_none] at HGET
          rw [show ((0 : Nat) : Int) = 0 from rfl] at HGET
          have HNC := hid (show ¬ hcond j.m M pre x from fun h => by have := (HNC'.out.1 h).2.1; cases this)
          gi_wp2_with fail
          refine ⟨trivial, ?_⟩
          refine (callsIn_wide.2 HGET.out).mono ?_
          rintro e w5 ⟨rfl, rfl⟩
          gi_wp2_with fail
          exact ⟨((KeepsOthers.setCell W _ _).from _), rfl, HBW.out.setCell (p := ⟨B + 1 + 1, 0, none⟩) (show w.heap.size ≤ B + 1 + 1 by omega) _, by have := set_at H2.out 0 (.bool false); exact this, pre, x, rfl, HNC.out⟩
        | some y =>
          simp only [Option.getD_some, Option.isSome_some] at HGET
          by_cases hyv : y = u
          · subst hyv
            by_cases hp0 : pn = 0
            · have hpre : pre = [] := List.length_eq_zero_iff.1 (HPN.out.trans hp0)
              have j1 : ¬ (0 : Int) < (pn : Int) := by omega
              have HC := hid (HNC'.out.2 ⟨rfl, rfl, .inl hpre⟩)
              clear hpre hp0
              gi_wp2_with fail
              refine ⟨trivial, ?_⟩
              refine (callsIn_wide.2 HGET.out).mono ?_
              rintro e w5 ⟨rfl, rfl⟩
              gi_wp2_with fail
              have z3 := set_other (w := W) (a := ⟨B + 1 + 1 + 1 + 1, 0, none⟩) (v := .int .u64 (k : Nat)) (b := B + 1 + 1 + 1) (show B + 1 + 1 + 1 ≠ B + 1 + 1 + 1 + 1 by omega)
              refine ⟨(((KeepsOthers.setCell W ⟨B + 1 + 1 + 1 + 1, 0, none⟩ (.int .u64 (k : Nat))).trans (KeepsOthers.setCell _ ⟨B + 1 + 1 + 1, 0, none⟩ _)).from _), (KpX.set (p := ⟨B + 1 + 1 + 1 + 1, 0, none⟩) (by rw [hX]; exact .inr (.inr rfl)) _).trans (KpX.set (p := ⟨B + 1 + 1 + 1, 0, none⟩) (by rw [hX]; exact .inr (.inl rfl)) _), (HBW.out.setCell (p := ⟨B + 1 + 1 + 1 + 1, 0, none⟩) (show w.heap.size ≤ B + 1 + 1 + 1 + 1 by omega) _).setCell (p := ⟨B + 1 + 1 + 1, 0, none⟩) (show w.heap.size ≤ B + 1 + 1 + 1 by omega) _, ?_, ?_, ?_, ?_, ?_, ?_⟩
              · exact (set_other (a := ⟨B + 1 + 1 + 1, 0, none⟩) (show B ≠ B + 1 + 1 + 1 by omega)).trans ((set_other (a := ⟨B + 1 + 1 + 1 + 1, 0, none⟩) (show B ≠ B + 1 + 1 + 1 + 1 by omega)).trans H0.out)
              · exact (set_other (a := ⟨B + 1 + 1 + 1, 0, none⟩) (show B + 1 ≠ B + 1 + 1 + 1 by omega)).trans ((set_other (a := ⟨B + 1 + 1 + 1 + 1, 0, none⟩) (show B + 1 ≠ B + 1 + 1 + 1 + 1 by omega)).trans H1.out)
              · exact (set_other (a := ⟨B + 1 + 1 + 1, 0, none⟩) (show B + 1 + 1 ≠ B + 1 + 1 + 1 by omega)).trans ((set_other (a := ⟨B + 1 + 1 + 1 + 1, 0, none⟩) (show B + 1 + 1 ≠ B + 1 + 1 + 1 + 1 by omega)).trans H2.out)
              · have := set_at (z3.trans H3.out) 0 (.int .i64 ((pn : Int) + 1))
                rw [List.length_append, List.length_singleton, HPN.out]
                exact this
              · have h9 := (set_other (w := W.setCell ⟨B + 1 + 1 + 1 + 1, 0, none⟩ (.int .u64 (k : Nat))) (a := ⟨B + 1 + 1 + 1, 0, none⟩) (v := .int .i64 ((pn : Int) + 1)) (b := B + 1 + 1 + 1 + 1) (show B + 1 + 1 + 1 + 1 ≠ B + 1 + 1 + 1 by omega)).trans (set_at H4.out 0 (.int .u64 (k : Nat)))
                rw [show lastKey j.m (pre ++ [x]) = k from by unfold lastKey; rw [List.getLast?_append]; exact HK.out]
                exact h9
              · intro i hi
                rcases List.mem_append.1 hi with hi | hi
                · exact H7.out i hi
                · rw [List.mem_singleton.1 hi]; exact HC.out.1
            · have j1 : (0 : Int) < (pn : Int) := by omega
              by_cases hkl : k ≤ lk
              · have j2 : (k : Int) ≤ (lk : Int) := by omega
                have HNC := hid (show ¬ hcond j.m M pre x from fun h => by
                  rcases (HNC'.out.1 h).2.2 with h | h
                  · have := HPN.out; rw [h] at this; exact hp0 this.symm
                  · omega)
                clear hp0 hkl
                gi_wp2_with fail
                refine ⟨trivial, ?_⟩
                refine (callsIn_wide.2 HGET.out).mono ?_
                rintro e w5 ⟨rfl, rfl⟩
                gi_wp2_with fail
                exact ⟨((KeepsOthers.setCell W _ _).from _), rfl, HBW.out.setCell (p := ⟨B + 1 + 1, 0, none⟩) (show w.heap.size ≤ B + 1 + 1 by omega) _, by have := set_at H2.out 0 (.bool false); exact this, pre, x, rfl, HNC.out⟩
              · have j2 : ¬ (k : Int) ≤ (lk : Int) := by omega
                have HC := hid (HNC'.out.2 ⟨rfl, rfl, .inr (by omega)⟩)
                clear hp0 hkl
                gi_wp2_with fail
                refine ⟨trivial, ?_⟩
                refine (callsIn_wide.2 HGET.out).mono ?_
                rintro e w5 ⟨rfl, rfl⟩
                gi_wp2_with fail
                have z3 := set_other (w := W) (a := ⟨B + 1 + 1 + 1 + 1, 0, none⟩) (v := .int .u64 (k : Nat)) (b := B + 1 + 1 + 1) (show B + 1 + 1 + 1 ≠ B + 1 + 1 + 1 + 1 by omega)
                refine ⟨(((KeepsOthers.setCell W ⟨B + 1 + 1 + 1 + 1, 0, none⟩ (.int .u64 (k : Nat))).trans (KeepsOthers.setCell _ ⟨B + 1 + 1 + 1, 0, none⟩ _)).from _), (KpX.set (p := ⟨B + 1 + 1 + 1 + 1, 0, none⟩) (by rw [hX]; exact .inr (.inr rfl)) _).trans (KpX.set (p := ⟨B + 1 + 1 + 1, 0, none⟩) (by rw [hX]; exact .inr (.inl rfl)) _), (HBW.out.setCell (p := ⟨B + 1 + 1 + 1 + 1, 0, none⟩) (show w.heap.size ≤ B + 1 + 1 + 1 + 1 by omega) _).setCell (p := ⟨B + 1 + 1 + 1, 0, none⟩) (show w.heap.size ≤ B + 1 + 1 + 1 by omega) _, ?_, ?_, ?_, ?_, ?_, ?_⟩
                · exact (set_other (a := ⟨B + 1 + 1 + 1, 0, none⟩) (show B ≠ B + 1 + 1 + 1 by omega)).trans ((set_other (a := ⟨B + 1 + 1 + 1 + 1, 0, none⟩) (show B ≠ B + 1 + 1 + 1 + 1 by omega)).trans H0.out)
                · exact (set_other (a := ⟨B + 1 + 1 + 1, 0, none⟩) (show B + 1 ≠ B + 1 + 1 + 1 by omega)).trans ((set_other (a := ⟨B + 1 + 1 + 1 + 1, 0, none⟩) (show B + 1 ≠ B + 1 + 1 + 1 + 1 by omega)).trans H1.out)
                · exact (set_other (a := ⟨B + 1 + 1 + 1, 0, none⟩) (show B + 1 + 1 ≠ B + 1 + 1 + 1 by omega)).trans ((set_other (a := ⟨B + 1 + 1 + 1 + 1, 0, none⟩) (show B + 1 + 1 ≠ B + 1 + 1 + 1 + 1 by omega)).trans H2.out)
                · have := set_at (z3.trans H3.out) 0 (.int .i64 ((pn : Int) + 1))
                  rw [List.length_append, List.length_singleton, HPN.out]
                  exact this
                · have h9 := (set_other (w := W.setCell ⟨B + 1 + 1 + 1 + 1, 0, none⟩ (.int .u64 (k : Nat))) (a := ⟨B + 1 + 1 + 1, 0, none⟩) (v := .int .i64 ((pn : Int) + 1)) (b := B + 1 + 1 + 1 + 1) (show B + 1 + 1 + 1 + 1 ≠ B + 1 + 1 + 1 by omega)).trans (set_at H4.out 0 (.int .u64 (k : Nat)))
                  rw [show lastKey j.m (pre ++ [x]) = k from by unfold lastKey; rw [List.getLast?_append]; exact HK.out]
                  exact h9
                · intro i hi
                  rcases List.mem_append.1 hi with hi | hi
                  · exact H7.out i hi
                  · rw [List.mem_singleton.1 hi]; exact HC.out.1
          · have e2 : ((y : Int) != (u : Int)) = true := bne_iff_ne.2 (by omega)
            have HNC := hid (show ¬ hcond j.m M pre x from fun h => by have := (HNC'.out.1 h).2.1; cases this; exact hyv rfl)
            clear hyv
            gi_wp2_with fail
            refine ⟨trivial, ?_⟩
            refine (callsIn_wide.2 HGET.out).mono ?_
            rintro e w5 ⟨rfl, rfl⟩
            gi_wp2_with fail
            exact ⟨((KeepsOthers.setCell W _ _).from _), rfl, HBW.out.setCell (p := ⟨B + 1 + 1, 0, none⟩) (show w.heap.size ≤ B + 1 + 1 by omega) _, by have := set_at H2.out 0 (.bool false); exact this, pre, x, rfl, HNC.out⟩
      · have e1 : ((v : Int) != (u : Int)) = true := bne_iff_ne.2 (by omega)
        have HNC := hid (show ¬ hcond j.m M pre x from fun h => by have := (HNC'.out.1 h).1; cases this; exact huv rfl)
        clear huv
        gi_wp2_with fail
        refine ⟨trivial, ?_⟩
        refine (callsIn_wide.2 HGET.out).mono ?_
        rintro e w5 ⟨rfl, rfl⟩
        gi_wp2_with fail
        exact ⟨((KeepsOthers.setCell W _ _).from _), rfl, HBW.out.setCell (p := ⟨B + 1 + 1, 0, none⟩) (show w.heap.size ≤ B + 1 + 1 by omega) _, by have := set_at H2.out 0 (.bool false); exact this, pre, x, rfl, HNC.out⟩
  case done =>
    rintro D ys W hD hys ⟨h1, h2, h3, h4, h5, h6, h7⟩ hK
    have hMW := hM.below h1
    have hlen := fun ty => hMW.len tm_u64 ty
    have hpl : ys.length = j.m.length := by rw [hys, List.length_range]
    have hEQ := holds_eq hJ.mp.2.1 hM.2.1 (fun i hi => h7 i (by rw [hys]; exact List.mem_range.2 hi))
    have c1 := cell_at h3 0
    have c2 := cell_at h4 0
    have c3 := cell_at h5 0
    have f2 := free_at h4 0
    rw [hpl] at c3
    obtain ⟨ln, hln⟩ : ∃ n, M.length = n := ⟨_, rfl⟩
    obtain ⟨jn, hjn⟩ : ∃ n, j.m.length = n := ⟨_, rfl⟩
    rw [hln] at hlen
    rw [hjn] at c3
    have HEQ := hid (show decide (j.m = M) = decide ((jn : Int) = (ln : Int)) from by
      rw [decide_eq_decide, hEQ, hln, hjn]; omega)
    have HBW := hid h1
    have H4 := hid h4
    have HK := hid hK
    have HD := hid hD
    simp only [List.getElem?_toArray, List.getElem?_cons_zero] at c1 c2 c3
    clear h1 h2 h3 h4 h5 h6 h7 hK hys hpl hEQ
    dsimp only
    go_wp2_with fail
    have hBD : B + 1 + 1 ≠ D := by have := HD.out; omega
    have hK' : (W.setCell ⟨B + 1 + 1, 0, none⟩ (.bool ((jn : Int) == (ln : Int)))).heap[D]? = some (.deferred (some [])) := (set_other (a := ⟨B + 1 + 1, 0, none⟩) (fun e => hBD e.symm)).trans HK.out
    have hc9 : ((W.setCell ⟨B + 1 + 1, 0, none⟩ (.bool ((jn : Int) == (ln : Int)))).putObj D (.deferred none)).cell? ⟨B + 1 + 1, 0, none⟩ = some (.bool ((jn : Int) == (ln : Int))) := by
      rw [World.cell?_of_block (a := ⟨B + 1 + 1, 0, none⟩) (World.putObj_heap_other hBD), cell_at (set_at H4.out 0 (.bool ((jn : Int) == (ln : Int))))]
      rfl
    have hb9 : Below w.heap.size w ((W.setCell ⟨B + 1 + 1, 0, none⟩ (.bool ((jn : Int) == (ln : Int)))).putObj D (.deferred none)) := (HBW.out.setCell (p := ⟨B + 1 + 1, 0, none⟩) (show w.heap.size ≤ B + 1 + 1 by omega) _).grown (grownBy_putObj' _ _ _) (by have := HBW.out.size; simp; omega) (fun k e => by cases e; have := HD.out; omega)
    refine postM_ret1 hK' (v := .bool ((jn : Int) == (ln : Int))) (by simp [results, Try.results19, go_sem, hc9]) ⟨?_, hb9⟩
    rw [HEQ.out]
    congr 2
  case stop =>
    rintro D c pre W hD hsp ⟨rfl, h1, h2, l', x, rfl, hn⟩ hK
    refine wpIn_wide.2 ?_
    have hne : ¬ j.m = M := fun e => hn (by rw [← e]; exact hcond_at hJ.mp.2.1 hsp)
    have c2 := cell_at h2 0
    have HBW := hid h1
    have HK := hid hK
    have HD := hid hD
    have HNE := hid (decide_eq_false hne)
    simp only [List.getElem?_toArray, List.getElem?_cons_zero] at c2
    dsimp only
    go_wp2_with fail
    have hBD : B + 1 + 1 ≠ D := by have := HD.out; omega
    have hc9 : (W.putObj D (.deferred none)).cell? ⟨B + 1 + 1, 0, none⟩ = some (.bool false) := by
      rw [World.cell?_of_block (a := ⟨B + 1 + 1, 0, none⟩) (World.putObj_heap_other hBD), c2]
    have hb9 : Below w.heap.size w (W.putObj D (.deferred none)) := HBW.out.grown (grownBy_putObj' _ _ _) (by have := HBW.out.size; omega) (fun k e => by cases e; have := HD.out; omega)
    refine postM_ret1 HK.out (v := .bool false) (by simp [results, Try.results19, go_sem, hc9]) ⟨?_, hb9⟩
    rw [HNE.out]
end Go.Proofs.Ytkdjefnnhanhhaa
