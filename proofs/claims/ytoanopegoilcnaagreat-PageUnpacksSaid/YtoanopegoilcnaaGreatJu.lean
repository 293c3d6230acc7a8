/- Walks over firkinref02: places. -/
import Derived.Test.YtoanopegoilcnaaGreatZDeb
set_option linter.unusedVariables false
namespace Go.Proofs.YtoanopegoilcnaaGreat
open Go.RowKit Go.Mem

theorem info_row : (Tryz.prog.info? 31).map (fun i => (i.zero, i.size, i.bytes)) = some (some (.slice none 0 0), 1, 24) := by kernel_rfl

/-- Rows in the making. -/
structure Rows (B I N : Nat) (w : World) (va : Value) (g c : Nat → Nat) (A : Nat → Nat → Nat) : Prop where
  own : w.ownsRow B 31 1 va I ((List.range I).map fun r => Value.slice (some ⟨g r, 0, none⟩) N (c r))
  row : ∀ r, r < I → Ow .i64 3 w (g r) N (c r) (A r)
  le : ∀ r, r < I → B ≤ g r
  inj : ∀ r s, r < I → s < I → g r = g s → r = s
  ne : ∀ r, r < I → va.ownBlock ≠ some (g r)

section
variable {B I N : Nat} {w w' : World} {va : Value} {g c : Nat → Nat} {A : Nat → Nat → Nat}
theorem Rows.nil (B N : Nat) (w : World) (g c : Nat → Nat) (A : Nat → Nat → Nat) : Rows B 0 N w (.slice none 0 0) g c A :=
  ⟨World.ownsRow_nil w B _ 1, fun r hr => absurd hr (Nat.not_lt_zero r), fun r hr => absurd hr (Nat.not_lt_zero r), fun r _ hr => absurd hr (Nat.not_lt_zero r), fun r hr => absurd hr (Nat.not_lt_zero r)⟩
theorem Rows.below (h : Rows B I N w va g c A) (hb : Below w.heap.size w w') : Rows B I N w' va g c A :=
  ⟨World.ownsRow.kept h.own (hb.toGrown none) (by cases va.ownBlock <;> simp), fun r hr => (h.row r hr).same (hb.block _ (h.row r hr).lt), h.le, h.inj, h.ne⟩
theorem Rows.push (h : Rows B I N w va g c A) {gR cR g3 cap3 : Nat} (hr : Ow .i64 3 w gR N cR (A I)) (hB : B ≤ gR) (hne : ∀ r, r < I → g r ≠ gR) (hnv : va.ownBlock ≠ some gR)
    (hown : w'.ownsRow B 31 1 (.slice (some ⟨g3, 0, none⟩) (I + 1) cap3) (I + 1) (((List.range I).map fun r => Value.slice (some ⟨g r, 0, none⟩) N (c r)) ++ [.slice (some ⟨gR, 0, none⟩) N cR]))
    (hgrow : w.grownBy w' va.ownBlock) (hat : va.ownBlock = some g3 ∨ g3 = w.heap.size) : Rows B (I + 1) N w' (.slice (some ⟨g3, 0, none⟩) (I + 1) cap3) (upd g I gR) (upd c I cR) A := by
  have hu : ∀ (f : Nat → Nat) x r, r < I → upd f I x r = f r := fun f x r hr => if_neg (by omega)
  have hu2 : ∀ (f : Nat → Nat) x, upd f I x I = x := fun f x => if_pos rfl
  have h3 : ∀ q, q < w.heap.size → va.ownBlock ≠ some q → g3 ≠ q := fun q hq hv he => by
    subst he
    rcases hat with h | h
    · exact hv h
    · omega
  refine ⟨?_, fun r hrI => ?_, fun r hrI => ?_, fun r s hrI hsI he => ?_, fun r hrI he => ?_⟩
  · rw [List.range_succ, List.map_append]
    simp only [List.map_cons, List.map_nil, hu2]
    rw [List.map_congr_left (g := fun r => Value.slice (some ⟨g r, 0, none⟩) N (c r)) (fun r hr => by rw [hu _ _ _ (List.mem_range.1 hr), hu _ _ _ (List.mem_range.1 hr)])]
    exact hown
  · by_cases e : r = I
    · subst e
      rw [hu2, hu2]
      exact hr.same (hgrow.block _ hr.lt (fun he => hnv he.symm))
    · rw [hu _ _ _ (by omega), hu _ _ _ (by omega)]
      have := h.row r (by omega)
      exact this.same (hgrow.block _ this.lt (fun he => h.ne r (by omega) he.symm))
  · by_cases e : r = I
    · subst e; rw [hu2]; exact hB
    · rw [hu _ _ _ (by omega)]; exact h.le r (by omega)
  · by_cases e : r = I
    · subst e
      by_cases e2 : s = r
      · exact e2.symm
      · rw [hu2, hu _ _ _ (by omega)] at he
        exact absurd he.symm (hne s (by omega))
    · by_cases e2 : s = I
      · subst e2
        rw [hu2, hu _ _ _ (by omega)] at he
        exact absurd he (hne r (by omega))
      · rw [hu _ _ _ (by omega), hu _ _ _ (by omega)] at he
        exact h.inj r s (by omega) (by omega) he
  · simp [Value.ownBlock] at he
    by_cases e : r = I
    · subst e
      rw [hu2] at he
      exact h3 gR hr.lt hnv he
    · rw [hu _ _ _ (by omega)] at he
      exact h3 (g r) (h.row r (by omega)).lt (h.ne r (by omega)) he
theorem Rows.mat (h : Rows B I N w va g c A) (h0 : 0 < I) : ∃ ga cap, va = .slice (some ⟨ga, 0, none⟩) I cap ∧ I ≤ cap ∧ cap ≤ maxLen ∧ B ≤ ga ∧ Mat w ga I N g c A := by
  obtain ⟨_, h1 | ⟨ga, cap, cur, hv, hb, hg, h2, h3, h4, h5⟩⟩ := h.own
  · have := h1.2; omega
  · subst hv
    refine ⟨ga, cap, rfl, h2, h3, hb, ⟨cur, hg, fun r hr => ?_⟩, h.row, h.inj, fun r hr he => h.ne r hr (by simp [Value.ownBlock, he])⟩
    have : (cur.toList.take (I * 1))[r]? = some (.slice (some ⟨g r, 0, none⟩) N (c r)) := by rw [h5]; simp [hr]
    rw [List.getElem?_take] at this
    split at this
    · simpa using this
    · cases this
end

/-- The powers below K at which a polynomial is 0. -/
def rts (m : Nat) (C : List Nat) (K : Nat) : List Nat := (List.range K).filter fun p => decide (Gf.ev m C (Gf.yv m p) = 0)
theorem rts_succ (m : Nat) (C : List Nat) (K : Nat) : rts m C (K+1) = if Gf.ev m C (Gf.yv m K) = 0 then rts m C K ++ [K] else rts m C K := by
  unfold rts
  rw [List.range_succ, List.filter_append]
  by_cases h : Gf.ev m C (Gf.yv m K) = 0
  · rw [if_pos h]; simp [h]
  · rw [if_neg h]; simp [h]
theorem rts_len (m : Nat) (C : List Nat) (K : Nat) : (rts m C K).length ≤ K := by
  unfold rts
  exact Nat.le_trans (List.length_filter_le _ _) (by simp)
/-- The first K + 1 coefficients of an answer's polynomial. -/
def pk (x : Nat → Nat) (v K : Nat) : List Nat := (List.range (K+1)).map fun i => if i = 0 then 1 else x (v - i)
theorem pk_succ (x : Nat → Nat) (v K : Nat) : pk x v (K+1) = pk x v K ++ [x (v - (K+1))] := by
  unfold pk
  rw [List.range_succ, List.map_append]
  simp
theorem turn_neg {m : Nat} (h : Gf.Ok m) (p : Nat) (hp : p ≤ Gf.sz m) : Gf.pw m (turn (-(p : Int)) (Gf.sz m)) = Gf.yv m p := by
  unfold Gf.yv
  have hs := Gf.sz_pos h
  have := turn_cast (-(p : Int)) hs
  rw [← Gf.pw_mod h (Gf.sz m - p)]
  congr 1
  have e : ((Gf.sz m - p : Nat) : Int) = -(p : Int) + Gf.sz m := by omega
  have : ((turn (-(p : Int)) (Gf.sz m) : Nat) : Int) = (((Gf.sz m - p) % Gf.sz m : Nat) : Int) := by
    rw [this, Int.natCast_emod, e, Int.add_emod_right]
  omega

theorem pol_lt2 {m v : Nat} (h : Gf.Ok m) {x : Nat → Nat} (hx : ∀ j, j < v → x j < 2^m) : ∀ y ∈ Gf.pol x v, y < 2^m := fun y hy => by
  obtain ⟨i, hi, rfl⟩ := List.mem_map.1 hy
  have hi' := List.mem_range.1 hi
  split
  · have := h.1; exact Nat.lt_of_lt_of_le (by decide) (Nat.pow_le_pow_right (n := 2) (i := 1) (by decide) (by omega))
  · exact hx _ (by omega)
theorem own_one (w : World) : Own .i64 3 w.heap.size (w.alloc (.cells #[.int .i64 1] 3)) (.slice (some ⟨w.heap.size, 0, none⟩) 1 1) [1] := by
  have h : Ow .i64 3 (w.alloc (.cells #[.int .i64 1] 3)) w.heap.size 1 1 (fun _ => 1) := ⟨_, alloc_new w _, rfl, Nat.le_refl _, by unfold maxLen; omega, fun j hj => by cases j with
    | zero => rfl
    | succ j => omega⟩
  exact Own.of_ow h (Nat.le_refl _)
set_option maxRecDepth 100000 in
set_option maxHeartbeats 3200000 in
theorem rplaces_any (v1 v2 : Value) (s : List Nat) (v L bytes t m : Nat) (w : World) (hp : Par bytes t m) (h : RC w v1 bytes t m) (hv : Rd .i64 w v2 s) (hs : ∀ y ∈ s, y < 2^m) (hsl : s.length = 2 * t) (h1 : 1 ≤ v) (hvt : v ≤ t) (hL : L ≤ Gf.sz m) :
    Calls Tryz.prog 88 #[v1, v2, .int .i64 v, .int .i64 L] w fun e w' => ((Gf.gs m v (Gf.hk s) v = none ∧ e = .returned (.tuple #[.slice none 0 0, .bool false])) ∨
      ∃ B' vo, Gf.gs m v (Gf.hk s) v = some B' ∧ e = .returned (.tuple #[vo, .bool ((((rts m (Gf.pol (fun j => B' j v) v) L).length : Nat) : Int) == (v : Int))]) ∧ Own .i64 3 w.heap.size w' vo ((rts m (Gf.pol (fun j => B' j v) v) L).map (fun p => L - 1 - p))) ∧ Below w.heap.size w w' := by
  obtain ⟨ga0, L0, gcap0, rfl⟩ := nil_RC h
  obtain ⟨ir, hir, hz0, hz1, hz2⟩ := info_parts info_row
  have hm := hp.ok
  have t8 := hp.t8
  have hsz : Gf.sz m ≤ 8191 := by have : 2^m ≤ 2^13 := Nat.pow_le_pow_right (by decide) hm.2; unfold Gf.sz; omega
  have hL13 : L ≤ 8191 := by omega
  obtain ⟨a2, k2, rfl, _, _, hcc⟩ := hv
  have HCC := hid hcc
  have HS := hid hs
  have HSL := hid hsl
  have HL := hid hL
  rw [hsl]
  clear h hcc hs hsl hL
  obtain ⟨W0, hW0⟩ : ∃ W, w.alloc (.cells #[.int .i64 m, .int .i64 bytes, .int .i64 t, .slice ga0 L0 gcap0] 33) = W := ⟨_, rfl⟩
  have hC0 : W0.heap[w.heap.size]? = some (.cells #[.int .i64 m, .int .i64 bytes, .int .i64 t, .slice ga0 L0 gcap0] 33 (0, 0)) := by rw [← hW0]; exact alloc_new w _
  have hb0 : Below w.heap.size w W0 := by rw [← hW0]; exact (Below.refl _ _).alloc (Nat.le_refl _) _
  have hs0 : W0.heap.size = w.heap.size + 1 := by rw [← hW0]; simp
  have HC0 := hid hC0
  have HB0 := hid hb0
  have HS0 := hid hs0
  have HW0 := hid hW0
  clear hW0 hC0 hb0 hs0
  go_enter Tryz.func88, Tryz.ntmps88
  go_wp2_with fail
  rw [HW0.out]
  obtain ⟨N, hN⟩ : ∃ N, v + 1 = N := ⟨_, rfl⟩
  have HN := hid hN
  clear hN
  go_loopg [10, 11] v (fun gk a i wr => ∃ (I : Nat) (va : Value) (g c : Nat → Nat), I + gk = v ∧ i = .int .i64 I ∧ va = a ∧ Rows W0.heap.size I N wr va g c (Gf.hk s) ∧ Below W0.heap.size W0 wr)
  case atStart => exact ⟨0, _, id, id, by omega, rfl, rfl, Rows.nil _ _ _ _ _ _, Below.refl _ _⟩
  case round =>
    obtain ⟨I, va, g, c, hI, rfl, rfl, hrows, hb⟩ := hrel
    have HR := hid hrows
    have HB := hid hb
    clear hrows hb
    by_cases hlt : I < v
    · go_wp2_with fail
      obtain ⟨wi, rfl⟩ : ∃ wi : World, wi = wr := ⟨_, rfl⟩
      go_loopg [13, 12] N (fun gk k o wr2 => ∃ (K : Nat) (ov : Value), K + gk = N ∧ k = .int .i64 K ∧ ov = o ∧ Own .i64 3 wi.heap.size wr2 ov ((List.range K).map (Gf.hk s I)) ∧ Below wi.heap.size wi wr2)
      case atStart => exact ⟨0, _, by omega, rfl, rfl, Own.nil _ _ _ _, Below.refl _ _⟩
      case round =>
        obtain ⟨K, ov, hK, rfl, rfl, ho, hb2⟩ := hrel
        have HO := hid ho
        have HB2 := hid hb2
        clear ho hb2
        by_cases hltK : K < N
        · have hIK : I + K < 2 * t := by have := HN.out; omega
          obtain ⟨g2, o2, rfl, hx2⟩ := HCC.out (I + K) (by have := HSL.out; omega)
          have cx : wr.cell? ⟨g2, o2 + (I + K), none⟩ = some (.int .i64 ((s.getD (I + K) 0 : Nat) : Int)) := by
            have hb3 := HB0.out.comp (HB.out.comp HB2.out)
            exact (hb3.cell (World.block_lt_of_cell? _ _ hx2)).trans hx2
          have hidx : (I : Int) + K = ((I + K : Nat) : Int) := by omega
          have hiz : ((I + K : Nat) : Int) < 2 * (t : Int) := by omega
          have hkv : (K : Int) ≤ (v : Int) := by have := HN.out; omega
          have hlen : ((List.range K).map (Gf.hk s I)).length = K := by simp
          have hsn : ((List.range (K+1)).map (Gf.hk s I)) = ((List.range K).map (Gf.hk s I)) ++ [s.getD (I + K) 0] := by rw [List.range_succ, List.map_append]; rfl
          generalize s.getD (I + K) 0 = y at *
          generalize ((List.range K).map (Gf.hk s I)) = X at *
          generalize hq : I + K = q at *
          have HLEN := hid hlen
          have HSN := hid hsn
          clear hlen hsn hx2 hq
          go_wp2_with (at_builtin; refine app_one el_int rfl _ _ rfl wi.heap.size _ X rfl (HO.out.alloc _) ⟨wr.heap.size, 0, none⟩ 1 y rfl (new_cell _ _ _) (by rw [HLEN.out]; omega) (by have := HB2.out.size; simp; omega) ?_; rw [HLEN.out]; intro g3 cap3 w3 hown hgrow hat)
          go_roundg (gk - 1)
          case measure => omega
          case rel =>
            refine ⟨K + 1, _, by omega, by go_num, rfl, by rw [HSN.out]; exact hown, ?_⟩
            exact grow_below (HB2.out.alloc HB2.out.size _) (by have := HB2.out.size; simp; omega) hgrow (fun g hg => (HO.out.blk g hg).1)
        · obtain rfl : N = K := by omega
          have hkv : ¬ (N : Int) ≤ (v : Int) := by have := HN.out; omega
          obtain ⟨gR, cR, he, hgR, hoR⟩ := HO.out.ow (by simp; have := HN.out; omega)
          have hlen : ((List.range N).map (Gf.hk s I)).length = N := by simp
          rw [hlen] at he hoR
          subst he
          have hoR' : Ow .i64 3 wr gR N cR (Gf.hk s I) := hoR.congr (fun j hj => rg_getD _ _ _ hj)
          have hr2 := HR.out.below HB2.out
          have hbi := HB.out.comp HB2.out
          have hgl : ∀ r, r < I → g r < wi.heap.size := fun r hr => (HR.out.row r hr).lt
          have hva : ∀ q, va.ownBlock = some q → q < wi.heap.size := fun q hq => (World.ownsRow.lt HR.out.own q hq).2
          have HR2 := hid hr2
          have HOR := hid hoR'
          have HBI := hid hbi
          have HGL := hid hgl
          have HVA := hid hva
          have hgs : wi.heap.size ≤ gR := hgR
          have HGS := hid hgs
          have hsz0 : W0.heap.size ≤ wi.heap.size := HB.out.size
          have HSZ0 := hid hsz0
          clear hoR hoR' hr2 hbi hgl hva hgs hgR hlen HO HB2 HR HB hsz0
          go_wp2_with (at_builtin; refine wpList_append_lies _ rfl _ _ 157 rfl W0.heap.size 31 ir (.slice none 0 0) 1 24 Tryz.underlying157 hir hz0 hz1 hz2 rfl (by decide) _ I _ rfl (World.ownsRow.alloc HR2.out.own _) ⟨wr.heap.size, 0, none⟩ 1 1 [.slice (some ⟨gR, 0, none⟩) N cR] rfl rfl (cell_one_new _ _ _) (fun u hu => by simp at hu; subst hu; rfl) (by decide) (by unfold maxLen; omega) (by omega) (by have := HBI.out.size; simp; omega) _ rfl ?_; intro g4 cap4 w4 hown hgrow hat hlt4)
          go_roundg (v - (I + 1))
          case measure => omega
          case rel =>
            have hra := HR2.out.below ((Below.refl _ wr).alloc (Nat.le_refl _) (.cells #[.slice (some ⟨gR, 0, none⟩) N cR] 31))
            have hpush := hra.push (HOR.out.same (alloc_old HOR.out.lt)) (by have := HGS.out; have := HSZ0.out; omega) (fun r hr he => by have := HGL.out r hr; have := HGS.out; omega) (fun he => by have := HVA.out _ he; have := HGS.out; omega) hown hgrow hat
            refine ⟨I + 1, _, _, _, by omega, by go_num, rfl, hpush, ?_⟩
            exact grow_below (HBI.out.alloc HBI.out.size _) (by have := HBI.out.size; simp; omega) hgrow (fun q hq => (World.ownsRow.lt HR2.out.own q hq).1)
    · obtain rfl : v = I := by omega
      obtain ⟨ga, cap, rfl, hc1, hc2, hgaB, hmat⟩ := HR.out.mat (by omega)
      have hle := HR.out.le
      have HMAT := hid hmat
      have HLE := hid hle
      have hc3 : cap ≤ 9223372036854775807 := by unfold maxLen at hc2; omega
      have hCb := (HB.out.block _ (lt_at HC0.out)).trans HC0.out
      have q0 := cell_at hCb 0
      have HCB := hid hCb
      clear hmat hle hc2 hCb HR
      go_wp2_with fail
      refine (rsolve_any m v N cap ga W0.heap.size g c _ _ hm (Gf.hk_fits HS.out v) h1 (by omega) HN.out hc1 hc3 hgaB HLE.out HMAT.out).mono ?_
      rintro e w3 ⟨hres, hb3⟩
      have HB3 := hid (HB.out.trans hb3)
      clear q0 HMAT HLE HB
      rcases hres with ⟨hgn, rfl⟩ | ⟨B', xv, hgs, rfl, hox⟩
      · have HGN := hid hgn
        clear hgn hb3
        go_wp2_with fail
        go_ret2
        exact ⟨.inl ⟨HGN.out, rfl⟩, HB0.out.comp HB3.out⟩
      · have hfb := ((Gf.gs_spec hm (Gf.hk_fits HS.out v) v (Nat.le_refl _)).1 B' hgs).1
        have hpol : ∀ y ∈ Gf.pol (fun j => B' j v) v, y < 2^m := pol_lt2 hm (fun j hj => hfb j hj v)
        obtain ⟨gx, cx, he, _, hox2⟩ := hox.ow (by simp; omega)
        have hlenx : ((List.range v).map fun j => B' j v).length = v := by simp
        rw [hlenx] at he hox2
        subst he
        have hox3 : Ow .i64 3 w3 gx v cx (fun j => B' j v) := hox2.congr (fun j hj => rg_getD _ _ _ hj)
        have HGS := hid hgs
        have HPOL := hid hpol
        have HOX := hid hox3
        have hs3 : W0.heap.size ≤ w3.heap.size := HB3.out.size
        have HS3 := hid hs3
        have hC3 := (HB3.out.block _ (lt_at HC0.out)).trans HC0.out
        have HC3 := hid hC3
        obtain ⟨x, hx⟩ : ∃ x, (fun j => B' j v) = x := ⟨_, rfl⟩
        rw [hx] at HOX HPOL
        have HXE := hid hx
        clear hgs hox hox2 hox3 hb3 hfb hpol hlenx hs3 hC3 hx HCB
        go_wp2_with fail
        go_loopg [17, 16] v (fun gk i o wr2 => ∃ (K : Nat) (ov : Value), K + gk = v ∧ i = .int .i64 ((v : Int) - 1 - K) ∧ ov = o ∧ Own .i64 3 w3.heap.size wr2 ov (pk x v K) ∧ Below w3.heap.size w3 wr2)
        case atStart =>
          refine ⟨0, _, by omega, congrArg (Value.int .i64) (by omega), rfl, ?_, (Below.refl _ _).alloc (Nat.le_refl _) _⟩
          exact own_one w3
        case round =>
          obtain ⟨K, ov, hK, rfl, rfl, ho, hb4⟩ := hrel
          have HO := hid ho
          have HB4 := hid hb4
          clear ho hb4
          by_cases hltK : K < v
          · obtain ⟨q, hq⟩ : ∃ q : Nat, v - (K + 1) = q := ⟨_, rfl⟩
            have hqz : (v : Int) - 1 - K = (q : Int) := by omega
            have hqv : (q : Int) < (v : Int) := by omega
            have hsn := pk_succ x v K
            rw [hq] at hsn
            have cq : wr.cell? ⟨gx, q, none⟩ = some (.int .i64 (x q : Nat)) := (HOX.out.same (HB4.out.block _ HOX.out.lt)).cell (by omega)
            have hlen : (pk x v K).length = K + 1 := by simp [pk]
            rw [hqz]
            have HQZ := hid hqz
            have HSN := hid hsn
            have HLEN := hid hlen
            generalize pk x v K = X at *
            clear hq hqz hsn hlen
            go_wp2_with (at_builtin; refine app_one el_int rfl _ _ rfl w3.heap.size _ X rfl (HO.out.alloc _) ⟨wr.heap.size, 0, none⟩ 1 (x q) rfl (new_cell _ _ _) (by rw [HLEN.out]; omega) (by have := HB4.out.size; simp; omega) ?_; rw [HLEN.out]; intro g3 cap3 w4 hown hgrow hat)
            go_roundg (gk - 1)
            case measure => omega
            case rel =>
              refine ⟨K + 1, _, by omega, congrArg (Value.int .i64) (by have := HQZ.out; omega), rfl, by rw [HSN.out]; exact hown, ?_⟩
              exact grow_below (HB4.out.alloc HB4.out.size _) (by have := HB4.out.size; simp; omega) hgrow (fun g hg => (HO.out.blk g hg).1)
          · obtain rfl : v = K := by omega
            have hi0 : (v : Int) - 1 - v = -1 := by omega
            rw [hi0]
            obtain ⟨wp, rfl⟩ : ∃ wp : World, wp = wr := ⟨_, rfl⟩
            have hpr : Rd .i64 wp ov (Gf.pol x v) := HO.out.rd
            obtain ⟨C, hC⟩ : ∃ C, Gf.pol x v = C := ⟨_, rfl⟩
            rw [hC] at hpr HPOL
            have HPR := hid hpr
            have HCE := hid hC
            have hCp := (HB4.out.block _ (lt_at HC3.out)).trans HC3.out
            have HCP := hid hCp
            have hbp := HB3.out.trans (HB4.out.mono HS3.out)
            have HBP := hid hbp
            clear hpr hC hCp hbp HO HB4 HB3 HC3 HOX hi0
            go_wp2_with fail
            go_loopg [18, 19] L (fun gk out p wr2 => ∃ (K : Nat) (uv : Value), K + gk = L ∧ p = .int .i64 K ∧ uv = out ∧ Own .i64 3 wp.heap.size wr2 uv ((rts m C K).map (fun p => L - 1 - p)) ∧ Below wp.heap.size wp wr2)
            case atStart => exact ⟨0, _, by omega, rfl, rfl, Own.nil _ _ _ _, Below.refl _ _⟩
            case round =>
              obtain ⟨K, uv, hK, rfl, rfl, ho, hb5⟩ := hrel
              have HO := hid ho
              have HB5 := hid hb5
              clear ho hb5
              have hln : ((rts m C K).map (fun p => L - 1 - p)).length ≤ K := by rw [List.length_map]; exact rts_len _ _ _
              have HLN := hid hln
              clear hln
              by_cases hltK : K < L
              · have hKL := HL.out
                have hexp := fun w => rexp_any m (-(K : Int)) w hm (by omega) (by omega)
                rw [turn_neg hm K (by omega)] at hexp
                have hyl := Gf.yv_lt hm K
                have hsn := rts_succ m C K
                have hdz : (L : Int) - 1 - K = ((L - 1 - K : Nat) : Int) := by omega
                obtain ⟨d, hd⟩ : ∃ d, L - 1 - K = d := ⟨_, rfl⟩
                rw [hd] at hdz
                have hrd := HPR.out.below HB5.out
                have q0 : wr.cell? ⟨w.heap.size, 0, none⟩ = some (.int .i64 m) := cell_at ((HB5.out.block _ (lt_at HCP.out)).trans HCP.out) 0
                generalize Gf.yv m K = y at *
                have HEXP := hid hexp
                have HYL := hid hyl
                have HRD := hid hrd
                have HD := hid hd
                have HDZ := hid hdz
                have hKz : (K : Int) < (L : Int) := by omega
                have hK13 : (K : Int) ≤ 8191 := by omega
                obtain ⟨E, hE⟩ : ∃ E, Gf.ev m C y = E := ⟨_, rfl⟩
                have heval : ∀ k, Calls Tryz.prog 91 #[.int .i64 m, ov, .int .i64 y] (wr.drewN k) fun e w' => e = .returned (.int .i64 (E : Nat)) ∧ wr.drewN k = w' := fun k => by
                  rw [← hE]; exact reval_any m y ov C (wr.drewN k) hm hyl (hrd.drewN k) HPOL.out
                rw [hE] at hsn
                have HEV := hid heval
                clear hexp hyl hrd hE heval hd hKL
                have hng : IntKind.i64.wrap (-(K : Int)) = -(K : Int) := IntWalk.i64_in _ (by omega)
                have hng2 : wrap64 (-(K : Int)) = -(K : Int) := IntWalk.wrap64_in _ (by omega)
                by_cases h0 : E = 0
                · subst h0
                  rw [if_pos rfl] at hsn
                  have HSN := hid hsn
                  clear hsn
                  go_wp2_with fail
                  go_quiet (first | (go_at_call 92; exact quiet_eq (HEXP.out _)) | (go_at_call 91; exact quiet_eq (HEV.out _)))
                  obtain ⟨wq, hwq⟩ : ∃ wq, wr.drewN nq = wq := ⟨_, rfl⟩
                  have hoq : Own .i64 3 wp.heap.size wq uv ((rts m C K).map (fun p => L - 1 - p)) := by rw [← hwq]; exact HO.out
                  have hbq : Below wp.heap.size wp wq := by rw [← hwq]; exact HB5.out.drewN nq
                  rw [hwq]
                  have hln2 : ((rts m C (K+1)).map (fun p => L - 1 - p)) = ((rts m C K).map (fun p => L - 1 - p)) ++ [d] := by
                    rw [HSN.out, List.map_append, ← HD.out]; rfl
                  generalize ((rts m C K).map (fun p => L - 1 - p)) = X at *
                  have HLN2 := hid hln2
                  have HOQ := hid hoq
                  have HBQ := hid hbq
                  clear hln2 hoq hbq hwq hng hng2 q0
                  go_wp2_with (at_builtin; refine app_one el_int rfl _ _ rfl wp.heap.size _ X rfl (HOQ.out.alloc _) ⟨wq.heap.size, 0, none⟩ 1 d rfl (by first | exact new_cell _ _ _ | exact (new_cell _ _ _).trans (by rw [HDZ.out])) (by have := HLN.out; omega) (by have := HBQ.out.size; simp; omega) ?_; intro g3 cap3 w4 hown hgrow hat)
                  go_roundg (gk - 1)
                  case measure => omega
                  case rel =>
                    refine ⟨K + 1, _, by omega, by go_num, rfl, by rw [HLN2.out]; simpa using hown, ?_⟩
                    exact grow_below (HBQ.out.alloc HBQ.out.size _) (by have := HBQ.out.size; simp; omega) hgrow (fun g hg => (HOQ.out.blk g hg).1)
                · rw [if_neg h0] at hsn
                  have HSN := hid hsn
                  have hez : ((E : Int) == 0) = false := beq_eq_false_iff_ne.2 (by omega)
                  clear hsn
                  go_wp2_with fail
                  go_quiet (first | (go_at_call 92; exact quiet_eq (HEXP.out _)) | (go_at_call 91; exact quiet_eq (HEV.out _)))
                  go_wp2_with fail
                  go_roundg (gk - 1)
                  case measure => omega
                  case rel => exact ⟨K + 1, _, by omega, by go_num, rfl, by rw [HSN.out]; exact HO.out, HB5.out.drewN nq⟩
              · obtain rfl : L = K := by omega
                have hfin := HO.out
                have hlr : (((rts m C L).map (fun p => L - 1 - p)).length) = (rts m C L).length := List.length_map _
                obtain ⟨ua, uk, he, hu1, hu2, _⟩ := hfin.rd
                rw [hlr] at he hu1
                subst he
                have hfin2 : Own .i64 3 w.heap.size wr (.slice ua (rts m C L).length uk) ((rts m (Gf.pol (fun j => B' j v) v) L).map (fun p => L - 1 - p)) := by
                  rw [HXE.out, HCE.out]
                  exact hfin.mono (by have := HBP.out.size; have := HB0.out.size; omega)
                have HFIN := hid hfin2
                have hln := HLN.out
                rw [hlr] at hln
                clear hfin hfin2 hlr
                have hu3 : uk ≤ 9223372036854775807 := by unfold maxLen at hu2; omega
                go_wp2_with fail
                go_ret2
                refine ⟨.inr ⟨B', .slice ua (rts m C L).length uk, HGS.out, ?_, HFIN.out⟩, HB0.out.comp (HBP.out.trans (HB5.out.mono HBP.out.size))⟩
                rw [HXE.out, HCE.out]
                rfl
end Go.Proofs.YtoanopegoilcnaaGreat
/- Plain facts: words as lists of bits; bits turned; what Peterson's way finds. -/
namespace Go.Proofs.YtoanopegoilcnaaGreat
open Go.RowKit Go.Mem

/-- The bits of data and parity are a word. -/
theorem fw_wd (n r : Nat) (d p : Nat → Nat) (k : Nat) (hk : k < n + r) : fw ((bl d n ++ bl p r).getD · 0) (n + r) k = wd n r d p k := by
  unfold fw
  show decide ((bl d n ++ bl p r).getD (n + r - 1 - k) 0 = 1) = _
  by_cases h : k < r
  · have e : (bl d n ++ bl p r).getD (n + r - 1 - k) 0 = (bl p r).getD (r - 1 - k) 0 := by
      simp only [List.getD]
      rw [List.getElem?_append_right (by rw [bl_len]; omega), bl_len, show n + r - 1 - k - n = r - 1 - k by omega]
    rw [wd_lo h, e, show (bl p r).getD (r - 1 - k) 0 = (bitAt p (r - 1 - k)).toNat from rg_getD _ _ _ (by omega)]
    cases bitAt p (r - 1 - k) <;> rfl
  · have e : (bl d n ++ bl p r).getD (n + r - 1 - k) 0 = (bl d n).getD (n + r - 1 - k) 0 := by
      simp only [List.getD]
      rw [List.getElem?_append_left (by rw [bl_len]; omega)]
    rw [wd_hi (by omega), e, show (bl d n).getD (n + r - 1 - k) 0 = (bitAt d (n + r - 1 - k)).toNat from rg_getD _ _ _ (by omega)]
    cases bitAt d (n + r - 1 - k) <;> rfl
theorem take_getD (l : List Nat) (n i : Nat) (h : i < n) : (l.take n).getD i 0 = l.getD i 0 := by
  simp only [List.getD]; rw [List.getElem?_take_of_lt h]
theorem drop_getD (l : List Nat) (n i : Nat) : (l.drop n).getD i 0 = l.getD (n + i) 0 := by
  simp only [List.getD]; rw [List.getElem?_drop]
/-- Bytes of a word's bits. -/
theorem wd_fw (n r : Nat) (l : List Nat) (k : Nat) (hk : k < n + r) : wd n r (byI (l.take n) n) (byI (l.drop n) r) k = fw (l.getD · 0) (n + r) k := by
  unfold fw
  by_cases h : k < r
  · rw [wd_lo h, bitAt_byI, decide_eq_true (by omega), Bool.true_and, drop_getD, show n + (r - 1 - k) = n + r - 1 - k by omega]
  · rw [wd_hi (by omega), bitAt_byI, decide_eq_true (by omega), Bool.true_and, take_getD _ _ _ (by omega)]
theorem good_of {m t n r P : Nat} {d p : Nat → Nat} (l : List Nat) (hc : Gf.Cw m t (fw (l.getD · 0) (n + r)) (n + r)) {k : Nat} (hd : Gf.dst (fw ((bl d n ++ bl p r).getD · 0) (n + r)) (fw (l.getD · 0) (n + r)) (n + r) = k) (hk : k ≤ t) :
    DecGood m t n r P d p (byI (l.take n) n) (byI (l.drop n) r) k := by
  refine ⟨hc.congr (fun q hq => (wd_fw n r l q hq).symm), ?_, hk, fun i h1 _ => by rw [bitAt_byI, decide_eq_false (by omega), Bool.false_and]⟩
  rw [← hd]
  exact Gf.dst_congr (fun q hq => (fw_wd n r d p q hq).symm) (fun q hq => wd_fw n r l q hq)

/-- The bits with the first i of some places turned. -/
def fl (l ps : List Nat) : Nat → Nat → Nat
  | 0 => (l.getD · 0)
  | i+1 => upd (fl l ps i) (ps.getD i 0) (1 - fl l ps i (ps.getD i 0))
theorem fl_le {l ps : List Nat} (hl : ∀ j, l.getD j 0 ≤ 1) (i : Nat) : ∀ j, fl l ps i j ≤ 1 := by
  induction i with
  | zero => exact hl
  | succ i ih => intro j; unfold fl upd; split; omega; exact ih j
theorem fl_at {l ps : List Nat} (hn : ps.Nodup) (i : Nat) (hi : i ≤ ps.length) (j : Nat) : fl l ps i j = if j ∈ ps.take i then 1 - l.getD j 0 else l.getD j 0 := by
  induction i generalizing j with
  | zero => simp [fl]
  | succ i ih =>
    have hget : ps.getD i 0 = ps[i]'(by omega) := by simp [List.getD, show i < ps.length by omega]
    have htk : ps.take (i+1) = ps.take i ++ [ps[i]'(by omega)] := by rw [List.take_succ_eq_append_getElem (by omega)]
    unfold fl upd
    rw [htk]
    by_cases e : j = ps.getD i 0
    · rw [if_pos e, ih (by omega), ← e]
      have hj : j ∉ ps.take i := by
        rw [e, hget]
        intro hm
        have hnd : (ps.take (i+1)).Nodup := hn.sublist (List.take_sublist _ _)
        rw [htk, List.nodup_append] at hnd
        exact hnd.2.2 _ hm _ (by simp) rfl
      rw [if_neg hj, if_pos (List.mem_append.2 (.inr (List.mem_singleton.2 (e.trans hget))))]
    · rw [if_neg e, ih (by omega)]
      have : (j ∈ ps.take i ++ [ps[i]'(by omega)]) ↔ j ∈ ps.take i := by
        rw [List.mem_append, List.mem_singleton, ← hget]
        exact ⟨fun h => h.resolve_right e, .inl⟩
      simp only [this]
/-- The places of powers. -/
def pls (R : List Nat) (L : Nat) : List Nat := R.map (fun p => L - 1 - p)
theorem pls_nodup {R : List Nat} {L : Nat} (hn : R.Nodup) (hR : ∀ p ∈ R, p < L) : (pls R L).Nodup := by
  unfold pls
  induction R with
  | nil => simp
  | cons a R ih =>
    rw [List.map_cons, List.nodup_cons]
    rw [List.nodup_cons] at hn
    refine ⟨fun h => ?_, ih hn.2 (fun p hp => hR p (by simp [hp]))⟩
    obtain ⟨b, hb, e⟩ := List.mem_map.1 h
    have := hR a (by simp)
    have := hR b (by simp [hb])
    have : a = b := by omega
    exact hn.1 (this ▸ hb)
theorem fl_fw {l R : List Nat} {L : Nat} (hl : ∀ j, l.getD j 0 ≤ 1) (hn : R.Nodup) (hR : ∀ p ∈ R, p < L) (k : Nat) (hk : k < L) : fw (fl l (pls R L) R.length) L k = (fw (l.getD · 0) L k ^^ decide (k ∈ R)) := by
  have hlen : (pls R L).length = R.length := by simp [pls]
  unfold fw
  rw [fl_at (pls_nodup hn hR) R.length (by omega), ← hlen, List.take_length]
  have hm : (L - 1 - k ∈ pls R L) ↔ k ∈ R := by
    unfold pls
    constructor
    · intro h
      obtain ⟨b, hb, e⟩ := List.mem_map.1 h
      have := hR b hb
      have : b = k := by omega
      exact this ▸ hb
    · intro h; exact List.mem_map.2 ⟨k, h, rfl⟩
  have h1 := hl (L - 1 - k)
  by_cases h : k ∈ R
  · rw [if_pos (hm.2 h), decide_eq_true h]
    show decide (1 - l.getD (L - 1 - k) 0 = 1) = (decide (l.getD (L - 1 - k) 0 = 1) ^^ true)
    rcases (show l.getD (L - 1 - k) 0 = 0 ∨ l.getD (L - 1 - k) 0 = 1 by omega) with e | e <;> rw [e] <;> rfl
  · rw [if_neg (fun h' => h (hm.1 h')), decide_eq_false h, Bool.xor_false]
theorem rts_nodup (m : Nat) (C : List Nat) (K : Nat) : (rts m C K).Nodup := List.nodup_range.filter _
theorem rts_mem (m : Nat) (C : List Nat) (K p : Nat) : p ∈ rts m C K ↔ p < K ∧ Gf.ev m C (Gf.yv m p) = 0 := by unfold rts; simp [List.mem_filter]
/-- In how many places two words part that part just at R. -/
theorem dst_flip {w w' : Nat → Bool} {R : List Nat} {L : Nat} (h : ∀ k, k < L → w' k = (w k ^^ decide (k ∈ R))) : Gf.dst w w' L = ((List.range L).filter (fun k => decide (k ∈ R))).length := by
  unfold Gf.dst
  rw [Gf.supp_congr (c := fun k => decide (k ∈ R)) (fun k hk => by rw [h k hk]; cases w k <;> simp)]
  rfl
theorem rts_filter (m : Nat) (C : List Nat) (L : Nat) : (List.range L).filter (fun k => decide (k ∈ rts m C L)) = rts m C L := by
  show _ = (List.range L).filter _
  refine List.filter_congr (fun k hk => ?_)
  have := List.mem_range.1 hk
  simp [rts_mem, this]

/-- u bits are found turned. -/
def Found (m t : Nat) (s l : List Nat) (L u : Nat) : Prop :=
  ∃ B', Gf.gs m u (Gf.hk s) u = some B' ∧ (rts m (Gf.pol (fun j => B' j u) u) L).length = u ∧ Gf.Cw m t (fw (fl l (pls (rts m (Gf.pol (fun j => B' j u) u) L) L) (rts m (Gf.pol (fun j => B' j u) u) L).length) L) L
theorem bad_of {m t n r : Nat} (h : Gf.Ok m) (hL : n + r ≤ Gf.sz m) {d p : Nat → Nat} {l s : List Nat} (he : bl d n ++ bl p r = l) (hl : ∀ j, l.getD j 0 ≤ 1) (hs : ∀ y ∈ s, y < 2^m) (hsy : ∀ k, k < 2 * t → s.getD k 0 = Gf.syn m (fw (l.getD · 0) (n + r)) (n + r) (k+1))
    (hnw : ¬ Gf.Cw m t (fw (l.getD · 0) (n + r)) (n + r)) (hno : ∀ u, 1 ≤ u → u ≤ t → ¬ Found m t s l (n + r) u) : DecBad m t n r d p := fun c hc => by
  have hw : ∀ k, k < n + r → wd n r d p k = fw (l.getD · 0) (n + r) k := fun k hk => by rw [← he]; exact (fw_wd n r d p k hk).symm
  rw [Gf.dst_congr (w' := fw (l.getD · 0) (n + r)) (c' := c) hw (fun _ _ => rfl)]
  rcases Nat.lt_or_ge t (Gf.dst (fw (l.getD · 0) (n + r)) c (n + r)) with hlt | hge
  · exact hlt
  · exfalso
    generalize hL' : n + r = L at *
    obtain ⟨w, hwe⟩ : ∃ w, fw (l.getD · 0) L = w := ⟨_, rfl⟩
    rw [hwe] at hsy hnw hge hw
    obtain ⟨u, hu⟩ : ∃ u, Gf.dst w c L = u := ⟨_, rfl⟩
    have hu' : (Gf.supp (fun k => w k ^^ c k) L).length = u := hu
    rcases Nat.eq_zero_or_pos u with h0 | h0
    · refine hnw (hc.congr (fun k hk => ?_))
      have : Gf.supp (fun k => w k ^^ c k) L = [] := List.length_eq_zero_iff.1 (hu'.trans h0)
      have hk' : k ∉ Gf.supp (fun k => w k ^^ c k) L := by rw [this]; simp
      have : (w k ^^ c k) = false := by
        cases e : (w k ^^ c k)
        · rfl
        · exact absurd (List.mem_filter.2 ⟨List.mem_range.2 hk, e⟩) hk'
      revert this
      cases w k <;> cases c k <;> simp
    · have hsy' : ∀ k, k < 2 * t → s.getD k 0 = Gf.syn m (fun k => w k ^^ c k) L (k+1) := fun k hk => by
        rw [hsy k hk, Gf.syn_xor, hc (k+1) (by omega) (by omega), Nat.xor_zero]
      have hut : u ≤ t := by omega
      cases hg : Gf.gs m u (Gf.hk s) u with
      | none => exact Gf.pet_some h (fun k => w k ^^ c k) L t u hL s hs hsy' hu' h0 hut hg
      | some B' =>
        have hr := Gf.pet_roots h (fun k => w k ^^ c k) L t u hL s hs hsy' hu' hut B' hg
        have hrt : ∀ k, k < L → (decide (k ∈ rts m (Gf.pol (fun j => B' j u) u) L) = (w k ^^ c k)) := fun k hk => by
          have := hr k hk
          cases e : (w k ^^ c k)
          · exact decide_eq_false (fun hm => by have := this.1 ((rts_mem _ _ _ _).1 hm).2; rw [e] at this; cases this)
          · exact decide_eq_true ((rts_mem _ _ _ _).2 ⟨hk, this.2 e⟩)
        have hlen : (rts m (Gf.pol (fun j => B' j u) u) L).length = u := by
          have e1 := congrArg List.length (rts_filter m (Gf.pol (fun j => B' j u) u) L)
          rw [List.filter_congr (fun k hk => hrt k (List.mem_range.1 hk))] at e1
          exact e1.symm.trans hu'
        refine hno u h0 hut ⟨B', hg, hlen, hc.congr (fun k hk => ?_)⟩
        rw [fl_fw hl (rts_nodup _ _ _) (fun p hp => ((rts_mem _ _ _ _).1 hp).1) k hk, hrt k hk, hwe]
        cases w k <;> cases c k <;> rfl
end Go.Proofs.YtoanopegoilcnaaGreat
