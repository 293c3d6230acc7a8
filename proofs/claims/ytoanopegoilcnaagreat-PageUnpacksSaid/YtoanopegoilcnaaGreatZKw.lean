/- Walks over page, firkinref05: layouts that may not be; a framer's layout; the document's framer; a page's bytes. -/
import Derived.Test.YtoanopegoilcnaaGreatJq
import Derived.Test.YtoanopegoilcnaaGreatJl
import Derived.Test.YtoanopegoilcnaaGreatJi
import Derived.Test.YtoanopegoilcnaaGreatJv
import Derived.Test.YtoanopegoilcnaaGreatJs
import Derived.Deep.RegionHeld3
set_option linter.unusedVariables false
namespace Go.Proofs.YtoanopegoilcnaaGreat
open Go.RowKit Go.Mem Go.Pg Go.Sort

/-- A layout out of bounds. -/
def LayBad (a b c : Int) : Prop := a < 1 ∨ 256 < a ∨ b < 1 ∨ 8 < b ∨ c < 1 ∨ 8 < c
set_option maxRecDepth 100000 in
set_option maxHeartbeats 1600000 in
theorem pnew_bad (a b c : Int) (w : World) (h : LayBad a b c) :
    Calls Tryz.prog 15 #[.agg #[.int .i64 a, .int .i64 b, .int .i64 c]] w fun e w' => e = .returned (.tuple #[.pointer none, .int .i64 1]) ∧ Below w.heap.size w w' := by
  unfold LayBad at h
  by_cases h1 : a < 1
  · clear h
    go_enter Tryz.func15, Tryz.ntmps15
    go_wp2_with fail
    go_ret2
    exact ⟨rfl, (Below.refl _ _).alloc (Nat.le_refl _) _⟩
  · by_cases h2 : 256 < a
    · clear h
      go_enter Tryz.func15, Tryz.ntmps15
      go_wp2_with fail
      go_ret2
      exact ⟨rfl, (Below.refl _ _).alloc (Nat.le_refl _) _⟩
    · by_cases h3 : b < 1
      · clear h
        go_enter Tryz.func15, Tryz.ntmps15
        go_wp2_with fail
        go_ret2
        exact ⟨rfl, (Below.refl _ _).alloc (Nat.le_refl _) _⟩
      · by_cases h4 : 8 < b
        · clear h
          go_enter Tryz.func15, Tryz.ntmps15
          go_wp2_with fail
          go_ret2
          exact ⟨rfl, (Below.refl _ _).alloc (Nat.le_refl _) _⟩
        · by_cases h5 : c < 1
          · clear h
            go_enter Tryz.func15, Tryz.ntmps15
            go_wp2_with fail
            go_ret2
            exact ⟨rfl, (Below.refl _ _).alloc (Nat.le_refl _) _⟩
          · have h6 : 8 < c := by omega
            clear h
            go_enter Tryz.func15, Tryz.ntmps15
            go_wp2_with fail
            go_ret2
            exact ⟨rfl, (Below.refl _ _).alloc (Nat.le_refl _) _⟩

/-- The document's framer. -/
def F5 (w : World) (v : Value) (S N T mw mh : Nat) : Prop :=
  ∃ gw gh, v = .agg #[.int .i64 S, .int .i64 N, .int .i64 T, .int .i64 mw, .int .i64 ((S : Int) + 4), .int .i64 T, gw, .int .i64 mh, .int .i64 (13 + 11 * (N : Int)), .int .i64 T, gh] ∧ Rd .i64 w gw (Gf.gen mw T).reverse ∧ Rd .i64 w gh (Gf.gen mh T).reverse
theorem F5.below {w w' : World} {v : Value} {S N T mw mh : Nat} (h : F5 w v S N T mw mh) (hb : Below w.heap.size w w') : F5 w' v S N T mw mh := by
  obtain ⟨gw, gh, hv, h1, h2⟩ := h
  exact ⟨gw, gh, hv, h1.below hb, h2.below hb⟩
theorem F5.parts {w : World} {v : Value} {S N T mw mh : Nat} (h : F5 w v S N T mw mh) :
    ∃ ga gl gc ha hl hc, v = .agg #[.int .i64 S, .int .i64 N, .int .i64 T, .int .i64 mw, .int .i64 ((S : Int) + 4), .int .i64 T, .slice ga gl gc, .int .i64 mh, .int .i64 (13 + 11 * (N : Int)), .int .i64 T, .slice ha hl hc] ∧
      RC w (.agg #[.int .i64 mw, .int .i64 ((S : Int) + 4), .int .i64 T, .slice ga gl gc]) (S + 4) T mw ∧ RC w (.agg #[.int .i64 mh, .int .i64 (13 + 11 * (N : Int)), .int .i64 T, .slice ha hl hc]) (13 + 11 * N) T mh := by
  obtain ⟨gw, gh, rfl, h1, h2⟩ := h
  obtain ⟨ga, gc, rfl, hr1⟩ := id h1
  obtain ⟨ha, hc, rfl, hr2⟩ := id h2
  exact ⟨ga, _, gc, ha, _, hc, rfl, ⟨_, rfl, h1⟩, ⟨_, rfl, h2⟩⟩
/-- Eleven cells, one after another. -/
theorem eleven_set {W : World} {b : Nat} {a0 a1 a2 a3 a4 a5 a6 a7 a8 a9 a10 : Value} {t : TypeId} (h : W.heap[b]? = some (.cells #[a0, a1, a2, a3, a4, a5, a6, a7, a8, a9, a10] t (0, 0))) (v0 v1 v2 v3 v4 v5 v6 v7 v8 v9 v10 : Value) :
    (((((((((((W.setCell ⟨b, 0, none⟩ v0).setCell ⟨b, 1, none⟩ v1).setCell ⟨b, 2, none⟩ v2).setCell ⟨b, 3, none⟩ v3).setCell ⟨b, 4, none⟩ v4).setCell ⟨b, 5, none⟩ v5).setCell ⟨b, 6, none⟩ v6).setCell ⟨b, 7, none⟩ v7).setCell ⟨b, 8, none⟩ v8).setCell ⟨b, 9, none⟩ v9).setCell ⟨b, 10, none⟩ v10).heap[b]? = some (.cells #[v0, v1, v2, v3, v4, v5, v6, v7, v8, v9, v10] t (0, 0)) := by
  have s0 : (W.setCell ⟨b, 0, none⟩ v0).heap[b]? = some (.cells #[v0, a1, a2, a3, a4, a5, a6, a7, a8, a9, a10] t (0, 0)) := set_at h 0 v0
  have s1 : ((W.setCell ⟨b, 0, none⟩ v0).setCell ⟨b, 1, none⟩ v1).heap[b]? = some (.cells #[v0, v1, a2, a3, a4, a5, a6, a7, a8, a9, a10] t (0, 0)) := set_at s0 1 v1
  have s2 : (((W.setCell ⟨b, 0, none⟩ v0).setCell ⟨b, 1, none⟩ v1).setCell ⟨b, 2, none⟩ v2).heap[b]? = some (.cells #[v0, v1, v2, a3, a4, a5, a6, a7, a8, a9, a10] t (0, 0)) := set_at s1 2 v2
  have s3 : ((((W.setCell ⟨b, 0, none⟩ v0).setCell ⟨b, 1, none⟩ v1).setCell ⟨b, 2, none⟩ v2).setCell ⟨b, 3, none⟩ v3).heap[b]? = some (.cells #[v0, v1, v2, v3, a4, a5, a6, a7, a8, a9, a10] t (0, 0)) := set_at s2 3 v3
  have s4 : (((((W.setCell ⟨b, 0, none⟩ v0).setCell ⟨b, 1, none⟩ v1).setCell ⟨b, 2, none⟩ v2).setCell ⟨b, 3, none⟩ v3).setCell ⟨b, 4, none⟩ v4).heap[b]? = some (.cells #[v0, v1, v2, v3, v4, a5, a6, a7, a8, a9, a10] t (0, 0)) := set_at s3 4 v4
  have s5 : ((((((W.setCell ⟨b, 0, none⟩ v0).setCell ⟨b, 1, none⟩ v1).setCell ⟨b, 2, none⟩ v2).setCell ⟨b, 3, none⟩ v3).setCell ⟨b, 4, none⟩ v4).setCell ⟨b, 5, none⟩ v5).heap[b]? = some (.cells #[v0, v1, v2, v3, v4, v5, a6, a7, a8, a9, a10] t (0, 0)) := set_at s4 5 v5
  have s6 : (((((((W.setCell ⟨b, 0, none⟩ v0).setCell ⟨b, 1, none⟩ v1).setCell ⟨b, 2, none⟩ v2).setCell ⟨b, 3, none⟩ v3).setCell ⟨b, 4, none⟩ v4).setCell ⟨b, 5, none⟩ v5).setCell ⟨b, 6, none⟩ v6).heap[b]? = some (.cells #[v0, v1, v2, v3, v4, v5, v6, a7, a8, a9, a10] t (0, 0)) := set_at s5 6 v6
  have s7 : ((((((((W.setCell ⟨b, 0, none⟩ v0).setCell ⟨b, 1, none⟩ v1).setCell ⟨b, 2, none⟩ v2).setCell ⟨b, 3, none⟩ v3).setCell ⟨b, 4, none⟩ v4).setCell ⟨b, 5, none⟩ v5).setCell ⟨b, 6, none⟩ v6).setCell ⟨b, 7, none⟩ v7).heap[b]? = some (.cells #[v0, v1, v2, v3, v4, v5, v6, v7, a8, a9, a10] t (0, 0)) := set_at s6 7 v7
  have s8 : (((((((((W.setCell ⟨b, 0, none⟩ v0).setCell ⟨b, 1, none⟩ v1).setCell ⟨b, 2, none⟩ v2).setCell ⟨b, 3, none⟩ v3).setCell ⟨b, 4, none⟩ v4).setCell ⟨b, 5, none⟩ v5).setCell ⟨b, 6, none⟩ v6).setCell ⟨b, 7, none⟩ v7).setCell ⟨b, 8, none⟩ v8).heap[b]? = some (.cells #[v0, v1, v2, v3, v4, v5, v6, v7, v8, a9, a10] t (0, 0)) := set_at s7 8 v8
  have s9 : ((((((((((W.setCell ⟨b, 0, none⟩ v0).setCell ⟨b, 1, none⟩ v1).setCell ⟨b, 2, none⟩ v2).setCell ⟨b, 3, none⟩ v3).setCell ⟨b, 4, none⟩ v4).setCell ⟨b, 5, none⟩ v5).setCell ⟨b, 6, none⟩ v6).setCell ⟨b, 7, none⟩ v7).setCell ⟨b, 8, none⟩ v8).setCell ⟨b, 9, none⟩ v9).heap[b]? = some (.cells #[v0, v1, v2, v3, v4, v5, v6, v7, v8, v9, a10] t (0, 0)) := set_at s8 9 v9
  have s10 : (((((((((((W.setCell ⟨b, 0, none⟩ v0).setCell ⟨b, 1, none⟩ v1).setCell ⟨b, 2, none⟩ v2).setCell ⟨b, 3, none⟩ v3).setCell ⟨b, 4, none⟩ v4).setCell ⟨b, 5, none⟩ v5).setCell ⟨b, 6, none⟩ v6).setCell ⟨b, 7, none⟩ v7).setCell ⟨b, 8, none⟩ v8).setCell ⟨b, 9, none⟩ v9).setCell ⟨b, 10, none⟩ v10).heap[b]? = some (.cells #[v0, v1, v2, v3, v4, v5, v6, v7, v8, v9, v10] t (0, 0)) := set_at s9 10 v10
  exact s10
theorem gen_head {bytes t m : Nat} (hp : Par bytes t m) : (Gf.gen m t).reverse.getD 0 0 = 1 := by
  have hl := hp.r.1
  simp only [List.getD]
  rw [List.getElem?_reverse (by omega), hl]
  have := (Gf.gen_mon hp.ok t).1.2
  rwa [hl] at this
/-- A row that begins with 1 does not lie in a block that has no 1. -/
theorem rd_off {k : IntKind} {w : World} {ga : Option Addr} {gl gc : Nat} {G : List Nat} {b : Nat} {cs : Array Value} {t : TypeId} (h : Rd k w (.slice ga gl gc) G) (hG : G.getD 0 0 = 1) (hl : 0 < G.length) (hb : w.heap[b]? = some (.cells cs t (0, 0))) (hz : ∀ i : Nat, cs[i]? ≠ some (Value.int k 1)) :
    ∃ g o, ga = some ⟨g, o, none⟩ ∧ g ≠ b := by
  obtain ⟨a, c, he, _, _, hc⟩ := h
  cases he
  obtain ⟨g, o, rfl, hx⟩ := hc 0 hl
  refine ⟨g, o, rfl, fun e => ?_⟩
  subst e
  rw [hG] at hx
  exact hz (o + 0) (by rw [← cell_at hb (o + 0)]; exact hx)
theorem rd_keep {k : IntKind} {w w' : World} {g o n cap : Nat} {xs : List Nat} (h : Rd k w (.slice (some ⟨g, o, none⟩) n cap) xs) (he : w'.heap[g]? = w.heap[g]?) : Rd k w' (.slice (some ⟨g, o, none⟩) n cap) xs := by
  obtain ⟨a, c, h0, h1, h2, hc⟩ := h
  cases h0
  refine ⟨_, _, rfl, h1, h2, fun j hj => ?_⟩
  obtain ⟨g', o', e, hx⟩ := hc j hj
  cases e
  exact ⟨g, o, rfl, (World.cell?_of_block (a := ⟨g, o + j, none⟩) he).trans hx⟩
theorem z11 (i : Nat) : (#[Value.int .i64 0, .int .i64 0, .int .i64 0, .int .i64 0, .int .i64 0, .int .i64 0, .slice none 0 0, .int .i64 0, .int .i64 0, .int .i64 0, .slice none 0 0] : Array Value)[i]? ≠ some (Value.int .i64 1) := by
  rcases Nat.lt_or_ge i 11 with h | h
  · match i, h with
    | 0, _ | 1, _ | 2, _ | 3, _ | 4, _ | 5, _ | 6, _ | 7, _ | 8, _ | 9, _ | 10, _ => simp
    | n + 11, h => omega
  · rw [Array.getElem?_eq_none (by simpa using h)]; simp
/-- The framer, where a block of zeros is written over. -/
theorem F5.store {w V : World} {v : Value} {S N T mw mh b : Nat} {t : TypeId} (h : F5 w v S N T mw mh) (hp : Par (S + 4) T mw) (hq : Par (13 + 11 * N) T mh) (hb : w.heap[b]? = some (.cells #[.int .i64 0, .int .i64 0, .int .i64 0, .int .i64 0, .int .i64 0, .int .i64 0, .slice none 0 0, .int .i64 0, .int .i64 0, .int .i64 0, .slice none 0 0] t (0, 0)))
    (ho : ∀ k, k ≠ b → V.heap[k]? = w.heap[k]?) : F5 V v S N T mw mh := by
  obtain ⟨gw, gh, hv, h1, h2⟩ := h
  obtain ⟨a1, c1, rfl, _⟩ := id h1
  obtain ⟨a2, c2, rfl, _⟩ := id h2
  have l1 : 0 < (Gf.gen mw T).reverse.length := by rw [List.length_reverse, hp.r.1]; omega
  have l2 : 0 < (Gf.gen mh T).reverse.length := by rw [List.length_reverse, hq.r.1]; omega
  obtain ⟨g1, o1, rfl, n1⟩ := rd_off h1 (gen_head hp) l1 hb z11
  obtain ⟨g2, o2, rfl, n2⟩ := rd_off h2 (gen_head hq) l2 hb z11
  exact ⟨_, _, hv, rd_keep h1 (ho g1 n1), rd_keep h2 (ho g2 n2)⟩
theorem f5_cells {w : World} {b S N T mw mh : Nat} {ga ha : Option Addr} {gl gc hl hc : Nat} {t : TypeId} (h : w.heap[b]? = some (.cells #[.int .i64 S, .int .i64 N, .int .i64 T, .int .i64 mw, .int .i64 ((S : Int) + 4), .int .i64 T, .slice ga gl gc, .int .i64 mh, .int .i64 (13 + 11 * (N : Int)), .int .i64 T, .slice ha hl hc] t (0, 0))) (d : Nat) (os : Array Obj) :
    (grow (redrawn w d) os).cell? ⟨b, 0, none⟩ = some (.int .i64 S) ∧ (grow (redrawn w d) os).cell? ⟨b, 1, none⟩ = some (.int .i64 N) ∧ (grow (redrawn w d) os).cell? ⟨b, 2, none⟩ = some (.int .i64 T) ∧
    (grow (redrawn w d) os).cell? ⟨b, 3, none⟩ = some (.int .i64 mw) ∧ (grow (redrawn w d) os).cell? ⟨b, 4, none⟩ = some (.int .i64 ((S : Int) + 4)) ∧ (grow (redrawn w d) os).cell? ⟨b, 5, none⟩ = some (.int .i64 T) ∧ (grow (redrawn w d) os).cell? ⟨b, 6, none⟩ = some (.slice ga gl gc) ∧
    (grow (redrawn w d) os).cell? ⟨b, 7, none⟩ = some (.int .i64 mh) ∧ (grow (redrawn w d) os).cell? ⟨b, 8, none⟩ = some (.int .i64 (13 + 11 * (N : Int))) ∧ (grow (redrawn w d) os).cell? ⟨b, 9, none⟩ = some (.int .i64 T) ∧ (grow (redrawn w d) os).cell? ⟨b, 10, none⟩ = some (.slice ha hl hc) :=
  ⟨cell_regrown (cell_at h 0) d os, cell_regrown (cell_at h 1) d os, cell_regrown (cell_at h 2) d os, cell_regrown (cell_at h 3) d os, cell_regrown (cell_at h 4) d os, cell_regrown (cell_at h 5) d os, cell_regrown (cell_at h 6) d os, cell_regrown (cell_at h 7) d os, cell_regrown (cell_at h 8) d os, cell_regrown (cell_at h 9) d os, cell_regrown (cell_at h 10) d os⟩

set_option maxRecDepth 100000 in
set_option maxHeartbeats 800000 in
theorem r5end_any (S N T mw mh : Nat) (v : Value) (w : World) (hT : T ≤ 8) (h : F5 w v S N T mw mh) :
    Calls Tryz.prog 31 #[v] w fun e w' => e = .returned (.int .i64 ((T / 4 + 1 : Nat) : Int)) ∧ Below w.heap.size w w' := by
  obtain ⟨ga, gl, gc, ha, hl, hc, rfl, _, _⟩ := h.parts
  clear h
  go_enter Tryz.func31, Tryz.ntmps31
  go_wp2_with fail
  go_ret
  exact ⟨by simp, (Below.refl _ _).alloc (Nat.le_refl _) _⟩

set_option maxRecDepth 100000 in
set_option maxHeartbeats 1600000 in
theorem r5word_any (S N T mw mh : Nat) (v : Value) (w : World) (hp : Par (S + 4) T mw) (hS : S ≤ 256) (h : F5 w v S N T mw mh) :
    Calls Tryz.prog 40 #[v] w fun e w' => e = .returned (.int .i64 (wdB S T mw : Nat)) ∧ Below w.heap.size w w' := by
  obtain ⟨ga, gl, gc, ha, hl, hc, rfl, h1, _⟩ := h.parts
  obtain ⟨pw, hpw⟩ : ∃ p, (rr mw T + 7) / 8 = p := ⟨_, rfl⟩
  have hpw14 : pw ≤ 14 := by have := hp.r.2.2.2.1; omega
  have hwd : wdB S T mw = S + 4 + pw := by unfold wdB pcn; rw [hpw]
  have H1 := hid h1
  have HP := hid hp
  have HPW := hid hpw
  rw [hwd]
  clear h h1 hp hpw hwd
  go_enter Tryz.func40, Tryz.ntmps40
  go_upto_region 1 with (fail)
  obtain ⟨W, hW⟩ : ∃ W, w.alloc (.cells #[.int .i64 S, .int .i64 N, .int .i64 T, .int .i64 mw, .int .i64 ((S : Int) + 4), .int .i64 T, .slice ga gl gc, .int .i64 mh, .int .i64 (13 + 11 * (N : Int)), .int .i64 T, .slice ha hl hc] 35) = W := ⟨_, rfl⟩
  have hb : W.heap[w.heap.size]? = some (.cells #[.int .i64 S, .int .i64 N, .int .i64 T, .int .i64 mw, .int .i64 ((S : Int) + 4), .int .i64 T, .slice ga gl gc, .int .i64 mh, .int .i64 (13 + 11 * (N : Int)), .int .i64 T, .slice ha hl hc] 35 (0, 0)) := by rw [← hW]; exact alloc_new w _
  have hbW : Below w.heap.size w W := by rw [← hW]; exact (Below.refl _ _).alloc (Nat.le_refl _) _
  rw [hW]
  have c := fun d os => f5_cells hb d os
  have HBW := hid hbW
  have HPAR : Hid (∀ V, Below W.heap.size W V → Calls Tryz.prog 65 #[.agg #[.int .i64 mw, .int .i64 ((S : Int) + 4), .int .i64 T, .slice ga gl gc]] V fun e w' => e = .returned (.int .i64 (pw : Nat)) ∧ Below V.heap.size V w') := hid fun V hV => by
    rw [← HPW.out]; exact rParity_any _ (S + 4) T mw V HP.out ((H1.out.below HBW.out).below hV)
  clear hW hb hbW
  refine wp_region_quiet_below (by kernel_rfl) (by kernel_rfl) ?_
  repeat (go_big_quiet_step ((go_at_call 65; exact Calls.regrown_of (HPAR.out _ (below_regrown _ _ _)))))
  refine wpQuiet_nil ?_
  intro _ hw'
  obtain ⟨⟨dq, osq⟩, hw''⟩ := hw'
  subst hw''
  have HB1 := hid (below_regrown W dq osq)
  generalize grow (redrawn W dq) osq = WA at *
  go_wp2_with fail
  go_ret
  exact ⟨by simp, HBW.out.comp HB1.out⟩

set_option maxRecDepth 100000 in
set_option maxHeartbeats 3200000 in
theorem r5bytes_any (S N T mw mh : Nat) (v : Value) (w : World) (hp : Par (S + 4) T mw) (hq : Par (13 + 11 * N) T mh) (hS : S ≤ 256) (hN : N ≤ 8) (h : F5 w v S N T mw mh) :
    Calls Tryz.prog 39 #[v] w fun e w' => e = .returned (.int .i64 (byB S N T mw mh : Nat)) ∧ Below w.heap.size w w' := by
  have HF := hid h
  obtain ⟨ga, gl, gc, ha, hl, hc, rfl, _, h2⟩ := h.parts
  have ht8 := hp.t8
  obtain ⟨ph, hph⟩ : ∃ p, (rr mh T + 7) / 8 = p := ⟨_, rfl⟩
  have hph14 : ph ≤ 14 := by have := hq.r.2.2.2.1; omega
  obtain ⟨wd, hwd⟩ : ∃ p, wdB S T mw = p := ⟨_, rfl⟩
  have hwd2 : wd ≤ 1000 := by rw [← hwd]; have := hp.r.2.2.2.1; unfold wdB pcn; omega
  obtain ⟨K, hK⟩ : ∃ K, N * wd = K := ⟨_, rfl⟩
  have hK2 : K ≤ 8000 := by rw [← hK]; exact Nat.mul_le_mul hN hwd2
  have hKi : (N : Int) * (wd : Int) = (K : Int) := by rw [← hK]; simp
  have hby : byB S N T mw mh = K + 13 + 11 * N + ph + (T / 4 + 1) := by
    rw [← hK, ← hwd, ← hph]; unfold byB wdB pcn; omega
  have H2 := hid h2
  have HQ := hid hq
  have HP := hid hp
  have HPH := hid hph
  have HWD := hid hwd
  rw [hby]
  clear h h2 hp hq hph hwd hby hK
  go_enter Tryz.func39, Tryz.ntmps39
  go_upto_region 1 with (fail)
  obtain ⟨W, hW⟩ : ∃ W, w.alloc (.cells #[.int .i64 S, .int .i64 N, .int .i64 T, .int .i64 mw, .int .i64 ((S : Int) + 4), .int .i64 T, .slice ga gl gc, .int .i64 mh, .int .i64 (13 + 11 * (N : Int)), .int .i64 T, .slice ha hl hc] 35) = W := ⟨_, rfl⟩
  have hb : W.heap[w.heap.size]? = some (.cells #[.int .i64 S, .int .i64 N, .int .i64 T, .int .i64 mw, .int .i64 ((S : Int) + 4), .int .i64 T, .slice ga gl gc, .int .i64 mh, .int .i64 (13 + 11 * (N : Int)), .int .i64 T, .slice ha hl hc] 35 (0, 0)) := by rw [← hW]; exact alloc_new w _
  have hbW : Below w.heap.size w W := by rw [← hW]; exact (Below.refl _ _).alloc (Nat.le_refl _) _
  rw [hW]
  have c := fun d os => f5_cells hb d os
  have HBW := hid hbW
  have HPAR : Hid (∀ V, Below W.heap.size W V → Calls Tryz.prog 65 #[.agg #[.int .i64 mh, .int .i64 (13 + 11 * (N : Int)), .int .i64 T, .slice ha hl hc]] V fun e w' => e = .returned (.int .i64 (ph : Nat)) ∧ Below V.heap.size V w') := hid fun V hV => by
    rw [← HPH.out]; exact rParity_any _ (13 + 11 * N) T mh V HQ.out ((H2.out.below HBW.out).below hV)
  have HWRD : Hid (∀ V, Below W.heap.size W V → Calls Tryz.prog 40 #[.agg #[.int .i64 S, .int .i64 N, .int .i64 T, .int .i64 mw, .int .i64 ((S : Int) + 4), .int .i64 T, .slice ga gl gc, .int .i64 mh, .int .i64 (13 + 11 * (N : Int)), .int .i64 T, .slice ha hl hc]] V fun e w' => e = .returned (.int .i64 (wd : Nat)) ∧ Below V.heap.size V w') := hid fun V hV => by
    rw [← HWD.out]; exact r5word_any S N T mw mh _ V HP.out hS ((HF.out.below HBW.out).below hV)
  have HEND : Hid (∀ V, Below W.heap.size W V → Calls Tryz.prog 31 #[.agg #[.int .i64 S, .int .i64 N, .int .i64 T, .int .i64 mw, .int .i64 ((S : Int) + 4), .int .i64 T, .slice ga gl gc, .int .i64 mh, .int .i64 (13 + 11 * (N : Int)), .int .i64 T, .slice ha hl hc]] V fun e w' => e = .returned (.int .i64 ((T / 4 + 1 : Nat) : Int)) ∧ Below V.heap.size V w') := hid fun V hV =>
    r5end_any S N T mw mh _ V ht8 ((HF.out.below HBW.out).below hV)
  obtain ⟨en, hen⟩ : ∃ e, T / 4 + 1 = e := ⟨_, rfl⟩
  rw [hen] at HEND
  have hen3 : en ≤ 3 := by omega
  have HEN := hid hen
  clear hW hb hbW hen
  refine wp_region_quiet_below (by kernel_rfl) (by kernel_rfl) ?_
  repeat (go_big_quiet_step (first
    | (go_at_call 40; exact Calls.regrown_of (HWRD.out _ (below_regrown _ _ _)))
    | (go_at_call 65; exact Calls.regrown_of (HPAR.out _ (below_regrown _ _ _)))
    | (go_at_call 31; exact Calls.regrown_of (HEND.out _ (below_regrown _ _ _)))))
  refine wpQuiet_nil ?_
  intro _ hw'
  obtain ⟨⟨dq, osq⟩, hw''⟩ := hw'
  subst hw''
  have HB1 := hid (below_regrown W dq osq)
  generalize grow (redrawn W dq) osq = WA at *
  go_wp2_with fail
  go_ret
  refine ⟨?_, HBW.out.comp HB1.out⟩
  rw [HEN.out]
  exact congrArg (fun z : Int => Ending.returned (.int .i64 z)) (by omega)

set_option maxRecDepth 100000 in
set_option maxHeartbeats 3200000 in
/-- The document's framer of a layout in bounds. -/
theorem r5new_any (S N T mw mh : Nat) (w : World) (hp : Par (S + 4) T mw) (hq : Par (13 + 11 * N) T mh) (hS1 : 1 ≤ S) (hS : S ≤ 256) (hN1 : 1 ≤ N) (hN : N ≤ 8) :
    Calls Tryz.prog 17 #[.agg #[.int .i64 S, .int .i64 N, .int .i64 T]] w fun e w' =>
      (∃ v, e = .returned (.tuple #[v, .bool (decide (byB S N T mw mh ≤ 4096))]) ∧ F5 w' v S N T mw mh) ∧ Below w.heap.size w w' := by
  have t1 := hp.t1
  have t8 := hp.t8
  have HP := hid hp
  have HQ := hid hq
  have HBY := hid (fun v w h => r5bytes_any S N T mw mh v w hp hq hS hN h)
  clear hp hq
  have hi1 : ((S : Int) + 4) = ((S + 4 : Nat) : Int) := by omega
  have hi2 : ((13 : Int) + 11 * (N : Int)) = ((13 + 11 * N : Nat) : Int) := by omega
  have HI1 := hid hi1
  have HI2 := hid hi2
  clear hi1 hi2
  go_enter Tryz.func17, Tryz.ntmps17
  go_upto_region 3 with (fail)
  obtain ⟨W, hW⟩ : ∃ W, (w.alloc (.cells #[.int .i64 S, .int .i64 N, .int .i64 T] 23)).alloc (.cells #[.int .i64 0, .int .i64 0, .int .i64 0, .int .i64 0, .int .i64 0, .int .i64 0, .slice none 0 0, .int .i64 0, .int .i64 0, .int .i64 0, .slice none 0 0] 35) = W := ⟨_, rfl⟩
  have hlb : W.heap[w.heap.size]? = some (.cells #[.int .i64 S, .int .i64 N, .int .i64 T] 23 (0, 0)) := by rw [← hW]; exact (alloc_old (by simp)).trans (alloc_new w _)
  have hfb : W.heap[w.heap.size + 1]? = some (.cells #[.int .i64 0, .int .i64 0, .int .i64 0, .int .i64 0, .int .i64 0, .int .i64 0, .slice none 0 0, .int .i64 0, .int .i64 0, .int .i64 0, .slice none 0 0] 35 (0, 0)) := by rw [← hW]; exact alloc_at (by simp)
  have hbW : Below w.heap.size w W := by rw [← hW]; exact bl_alloc (bl_alloc (Below.refl _ _) _) _
  rw [hW]
  obtain ⟨fb, hfE⟩ : ∃ b, w.heap.size + 1 = b := ⟨_, rfl⟩
  rw [hfE] at hfb ⊢
  obtain ⟨lb, hlE⟩ : ∃ b, w.heap.size = b := ⟨_, rfl⟩
  rw [hlE] at hlb ⊢
  have HLB := hid hlb
  have HFB := hid hfb
  have HBW := hid hbW
  have HFE := hid (show w.heap.size ≤ fb by omega)
  have q0 := cell_at hlb 0
  have q1 := cell_at hlb 1
  have q2 := cell_at hlb 2
  clear hW hlb hfb hbW hfE hlE
  go_wp2_with fail
  rw [HI1.out]
  refine (rnew_any (S + 4) T mw _ HP.out).mono ?_
  rintro e w1 ⟨⟨rv, rfl, hrc⟩, hb1⟩
  obtain ⟨gv, rfl, hgr⟩ := hrc
  have HGR := hid hgr
  obtain ⟨ga, gc, rfl, _⟩ := hgr
  generalize (Gf.gen mw T).reverse.length = gl at *
  have HB1 := hid hb1
  clear hb1 q0 q1 q2
  go_upto_region 4 with (fail)
  obtain ⟨k1, hk1⟩ : ∃ b, w1.heap.size = b := ⟨_, rfl⟩
  obtain ⟨W1, hW1⟩ : ∃ V, w1.alloc (.cells #[.int .i64 mw, .int .i64 ((S : Int) + 4), .int .i64 T, .slice ga gl gc] 33) = V := ⟨_, rfl⟩
  rw [hW1, hk1]
  have hb2 : Below w1.heap.size w1 W1 := by rw [← hW1]; exact (Below.refl _ _).alloc (Nat.le_refl _) _
  have hkc : W1.heap[k1]? = some (.cells #[.int .i64 mw, .int .i64 ((S : Int) + 4), .int .i64 T, .slice ga gl gc] 33 (0, 0)) := by rw [← hW1]; exact alloc_at hk1.symm
  have hb3 := HB1.out.comp hb2
  have HLB1 := hid ((hb3.block lb (lt_at HLB.out)).trans HLB.out)
  have HFB1 := hid ((hb3.block fb (lt_at HFB.out)).trans HFB.out)
  have HBW1 := hid (HBW.out.comp hb3)
  have HGR1 := hid (HGR.out.below hb2)
  have HKC1 := hid hkc
  have hl1 := HLB1.out
  have q1 := cell_at hl1 1
  have q2 := cell_at hl1 2
  clear hW1 hb2 hkc hb3 hk1 hl1
  go_wp2_with fail
  rw [HI2.out]
  refine (rnew_any (13 + 11 * N) T mh _ HQ.out).mono ?_
  rintro e w2 ⟨⟨rv, rfl, hrc⟩, hb1⟩
  obtain ⟨hv, rfl, hgr⟩ := hrc
  have HHR := hid hgr
  obtain ⟨ha, hc, rfl, _⟩ := hgr
  generalize (Gf.gen mh T).reverse.length = hl at *
  have HB2 := hid hb1
  clear hb1 q1 q2
  go_upto_region 5 with (fail)
  obtain ⟨k2, hk2⟩ : ∃ b, w2.heap.size = b := ⟨_, rfl⟩
  obtain ⟨W2, hW2⟩ : ∃ V, w2.alloc (.cells #[.int .i64 mh, .int .i64 (13 + 11 * (N : Int)), .int .i64 T, .slice ha hl hc] 33) = V := ⟨_, rfl⟩
  rw [hW2, hk2]
  have hb2 : Below w2.heap.size w2 W2 := by rw [← hW2]; exact (Below.refl _ _).alloc (Nat.le_refl _) _
  have hkc : W2.heap[k2]? = some (.cells #[.int .i64 mh, .int .i64 (13 + 11 * (N : Int)), .int .i64 T, .slice ha hl hc] 33 (0, 0)) := by rw [← hW2]; exact alloc_at hk2.symm
  have hb3 := HB2.out.comp hb2
  have HLB2 := hid ((hb3.block lb (lt_at HLB1.out)).trans HLB1.out)
  have HFB2 := hid ((hb3.block fb (lt_at HFB1.out)).trans HFB1.out)
  have HBW2 := hid (HBW1.out.comp hb3)
  have HGR2 := hid (HGR1.out.below hb3)
  have HHR2 := hid (HHR.out.below hb2)
  have hkc1 := (hb3.block k1 (lt_at HKC1.out)).trans HKC1.out
  have HKC2 := hid hkc
  have hl2 := HLB2.out
  have q0 := cell_at hl2 0
  have q1 := cell_at hl2 1
  have q2 := cell_at hl2 2
  have r0 := cell_at hkc1 0
  have r1 := cell_at hkc1 1
  have r2 := cell_at hkc1 2
  have r3 := cell_at hkc1 3
  have s0 := cell_at hkc 0
  have s1 := cell_at hkc 1
  have s2 := cell_at hkc 2
  have s3 := cell_at hkc 3
  clear hW2 hb2 hkc hb3 hk2 hl2 hkc1
  go_upto_region 6 with (fail)
  obtain ⟨k3, hk3⟩ : ∃ b, W2.heap.size = b := ⟨_, rfl⟩
  obtain ⟨W3, hW3⟩ : ∃ V, W2.alloc (.cells #[.int .i64 S, .int .i64 N, .int .i64 T, .int .i64 mw, .int .i64 ((S : Int) + 4), .int .i64 T, .slice ga gl gc, .int .i64 mh, .int .i64 (13 + 11 * (N : Int)), .int .i64 T, .slice ha hl hc] 35) = V := ⟨_, rfl⟩
  rw [hW3, hk3]
  have hb4 : Below W2.heap.size W2 W3 := by rw [← hW3]; exact (Below.refl _ _).alloc (Nat.le_refl _) _
  have hkf : W3.heap[k3]? = some (.cells #[.int .i64 S, .int .i64 N, .int .i64 T, .int .i64 mw, .int .i64 ((S : Int) + 4), .int .i64 T, .slice ga gl gc, .int .i64 mh, .int .i64 (13 + 11 * (N : Int)), .int .i64 T, .slice ha hl hc] 35 (0, 0)) := by rw [← hW3]; exact alloc_at hk3.symm
  have HF5 : Hid (F5 W3 (.agg #[.int .i64 S, .int .i64 N, .int .i64 T, .int .i64 mw, .int .i64 ((S : Int) + 4), .int .i64 T, .slice ga gl gc, .int .i64 mh, .int .i64 (13 + 11 * (N : Int)), .int .i64 T, .slice ha hl hc]) S N T mw mh) := hid ⟨_, _, rfl, HGR2.out.below hb4, HHR2.out.below hb4⟩
  have HFB3 := hid ((hb4.block fb (lt_at HFB2.out)).trans HFB2.out)
  have HBW3 := hid (HBW2.out.comp hb4)
  have HKF := hid hkf
  have c0 := cell_at hkf 0
  have c1 := cell_at hkf 1
  have c2 := cell_at hkf 2
  have c3 := cell_at hkf 3
  have c4 := cell_at hkf 4
  have c5 := cell_at hkf 5
  have c6 := cell_at hkf 6
  have c7 := cell_at hkf 7
  have c8 := cell_at hkf 8
  have c9 := cell_at hkf 9
  have c10 := cell_at hkf 10
  have HBYV : Hid (∀ V, Below W3.heap.size W3 V → Calls Tryz.prog 39 #[.agg #[.int .i64 S, .int .i64 N, .int .i64 T, .int .i64 mw, .int .i64 ((S : Int) + 4), .int .i64 T, .slice ga gl gc, .int .i64 mh, .int .i64 (13 + 11 * (N : Int)), .int .i64 T, .slice ha hl hc]] V fun e w' => e = .returned (.int .i64 (byB S N T mw mh : Nat)) ∧ Below V.heap.size V w') := hid fun V hV => HBY.out _ V (HF5.out.below hV)
  obtain ⟨by5, hb5⟩ : ∃ z, byB S N T mw mh = z := ⟨_, rfl⟩
  rw [hb5] at HBYV
  have HB5 := hid hb5
  clear hb5
  clear hW3 hb4 hk3 q0 q1 q2 r0 r1 r2 r3 s0 s1 s2 s3
  have HNE : Hid (k3 ≠ fb) := hid (fun e => by subst e; have h := HFB3.out.symm.trans hkf; simp at h; obtain ⟨h1, _⟩ := h; omega)
  go_region_law (first
    | (refine step_call1 (by rfl) 39 (enters_of Tryz.func39 (by kernel_rfl) rfl) (.tmp 67) _ (by rfl) _ (by rfl) _ (fun w' => Below W3.drew.heap.size W3.drew w') (HBYV.out W3.drew (bl_drew (Below.refl W3.heap.size W3))) ?_; intro WA hbA; have hbB : Below W3.heap.size W3 WA := (bl_drew (Below.refl W3.heap.size W3)).comp hbA; have HFBA := hid ((hbB.block fb (lt_at HFB3.out)).trans HFB3.out); have HBA := hid (HBW3.out.comp hbB); have HF5A := hid (HF5.out.below hbB); have hfa := HFBA.out; have hka := (hbB.block k3 (lt_at HKF.out)).trans HKF.out; have d0 := cell_at hka 0; have d1 := cell_at hka 1; have d2 := cell_at hka 2; have d3 := cell_at hka 3; have d4 := cell_at hka 4; have d5 := cell_at hka 5; have d6 := cell_at hka 6; have d7 := cell_at hka 7; have d8 := cell_at hka 8; have d9 := cell_at hka 9; have d10 := cell_at hka 10; have z0 := cell_at hfa 0; have y0 := free_at hfa 0; have z1 := cell_at hfa 1; have y1 := free_at hfa 1; have z2 := cell_at hfa 2; have y2 := free_at hfa 2; have z3 := cell_at hfa 3; have y3 := free_at hfa 3; have z4 := cell_at hfa 4; have y4 := free_at hfa 4; have z5 := cell_at hfa 5; have y5 := free_at hfa 5; have z6 := cell_at hfa 6; have y6 := free_at hfa 6; have z7 := cell_at hfa 7; have y7 := free_at hfa 7; have z8 := cell_at hfa 8; have y8 := free_at hfa 8; have z9 := cell_at hfa 9; have y9 := free_at hfa 9; have z10 := cell_at hfa 10; have y10 := free_at hfa 10; clear hfa hbB hbA hka)
    | fail)
  all_goals
    go_wp2_with fail
    clear z0 y0 d0 z1 y1 d1 z2 y2 d2 z3 y3 d3 z4 y4 d4 z5 y5 d5 z6 y6 d6 z7 y7 d7 z8 y8 d8 z9 y9 d9 z10 y10 d10
    have sA := eleven_set HFBA.out (.int .i64 S) (.int .i64 N) (.int .i64 T) (.int .i64 mw) (.int .i64 ((S : Int) + 4)) (.int .i64 T) (.slice ga gl gc) (.int .i64 mh) (.int .i64 (13 + 11 * (N : Int))) (.int .i64 T) (.slice ha hl hc)
    have bA := bl_set (bl_set (bl_set (bl_set (bl_set (bl_set (bl_set (bl_set (bl_set (bl_set (bl_set (HBA.out) (p := ⟨fb, 0, none⟩) HFE.out (.int .i64 S)) (p := ⟨fb, 1, none⟩) HFE.out (.int .i64 N)) (p := ⟨fb, 2, none⟩) HFE.out (.int .i64 T)) (p := ⟨fb, 3, none⟩) HFE.out (.int .i64 mw)) (p := ⟨fb, 4, none⟩) HFE.out (.int .i64 ((S : Int) + 4))) (p := ⟨fb, 5, none⟩) HFE.out (.int .i64 T)) (p := ⟨fb, 6, none⟩) HFE.out (.slice ga gl gc)) (p := ⟨fb, 7, none⟩) HFE.out (.int .i64 mh)) (p := ⟨fb, 8, none⟩) HFE.out (.int .i64 (13 + 11 * (N : Int)))) (p := ⟨fb, 9, none⟩) HFE.out (.int .i64 T)) (p := ⟨fb, 10, none⟩) HFE.out (.slice ha hl hc)
    obtain ⟨V, hV⟩ : ∃ V, ((((((((((WA.setCell ⟨fb, 0, none⟩ (.int .i64 S)).setCell ⟨fb, 1, none⟩ (.int .i64 N)).setCell ⟨fb, 2, none⟩ (.int .i64 T)).setCell ⟨fb, 3, none⟩ (.int .i64 mw)).setCell ⟨fb, 4, none⟩ (.int .i64 ((S : Int) + 4))).setCell ⟨fb, 5, none⟩ (.int .i64 T)).setCell ⟨fb, 6, none⟩ (.slice ga gl gc)).setCell ⟨fb, 7, none⟩ (.int .i64 mh)).setCell ⟨fb, 8, none⟩ (.int .i64 (13 + 11 * (N : Int)))).setCell ⟨fb, 9, none⟩ (.int .i64 T)).setCell ⟨fb, 10, none⟩ (.slice ha hl hc) = V := ⟨_, rfl⟩
    have oA : ∀ k, k ≠ fb → V.heap[k]? = WA.heap[k]? := fun k hk => by rw [← hV]; exact (set_other hk).trans ((set_other hk).trans ((set_other hk).trans ((set_other hk).trans ((set_other hk).trans ((set_other hk).trans ((set_other hk).trans ((set_other hk).trans ((set_other hk).trans ((set_other hk).trans (set_other hk))))))))))
    rw [hV] at sA bA ⊢
    clear hV
    have e0 := cell_at sA 0
    have e1 := cell_at sA 1
    have e2 := cell_at sA 2
    have e3 := cell_at sA 3
    have e4 := cell_at sA 4
    have e5 := cell_at sA 5
    have e6 := cell_at sA 6
    have e7 := cell_at sA 7
    have e8 := cell_at sA 8
    have e9 := cell_at sA 9
    have e10 := cell_at sA 10
    have hf5 : F5 V (.agg #[.int .i64 S, .int .i64 N, .int .i64 T, .int .i64 mw, .int .i64 ((S : Int) + 4), .int .i64 T, .slice ga gl gc, .int .i64 mh, .int .i64 (13 + 11 * (N : Int)), .int .i64 T, .slice ha hl hc]) S N T mw mh := F5.store HF5A.out HP.out HQ.out HFBA.out oA
    exact bodyPost_ret (v := .tuple #[.agg #[.int .i64 S, .int .i64 N, .int .i64 T, .int .i64 mw, .int .i64 ((S : Int) + 4), .int .i64 T, .slice ga gl gc, .int .i64 mh, .int .i64 (13 + 11 * (N : Int)), .int .i64 T, .slice ha hl hc], .bool (decide ((by5 : Int) ≤ 4096))]) (by simp [results, Tryz.results17, go_sem, e0, e1, e2, e3, e4, e5, e6, e7, e8, e9, e10]) rfl ⟨⟨_, by rw [HB5.out, show decide ((by5 : Int) ≤ 4096) = decide (by5 ≤ 4096) from decide_eq_decide.2 (by omega)], hf5⟩, bA⟩

set_option maxRecDepth 100000 in
set_option maxHeartbeats 3200000 in
theorem r5new_bad (a b c : Int) (w : World) (h : LayBad a b c) :
    Calls Tryz.prog 17 #[.agg #[.int .i64 a, .int .i64 b, .int .i64 c]] w fun e w' => e = .returned (.tuple #[.agg #[.int .i64 0, .int .i64 0, .int .i64 0, .int .i64 0, .int .i64 0, .int .i64 0, .slice none 0 0, .int .i64 0, .int .i64 0, .int .i64 0, .slice none 0 0], .bool false]) ∧ Below w.heap.size w w' := by
  unfold LayBad at h
  by_cases h1 : a < 1
  · clear h
    go_enter Tryz.func17, Tryz.ntmps17
    go_wp2_with fail
    refine bodyPost_ret (v := .tuple #[.agg #[.int .i64 0, .int .i64 0, .int .i64 0, .int .i64 0, .int .i64 0, .int .i64 0, .slice none 0 0, .int .i64 0, .int .i64 0, .int .i64 0, .slice none 0 0], .bool false]) (by simp [results, Tryz.results17, go_sem]) rfl ⟨rfl, ?_⟩
    exact bl_alloc (bl_alloc (Below.refl _ _) _) _
  · skip
    by_cases h2 : 256 < a
    · clear h
      go_enter Tryz.func17, Tryz.ntmps17
      go_wp2_with fail
      refine bodyPost_ret (v := .tuple #[.agg #[.int .i64 0, .int .i64 0, .int .i64 0, .int .i64 0, .int .i64 0, .int .i64 0, .slice none 0 0, .int .i64 0, .int .i64 0, .int .i64 0, .slice none 0 0], .bool false]) (by simp [results, Tryz.results17, go_sem]) rfl ⟨rfl, ?_⟩
      exact bl_alloc (bl_alloc (Below.refl _ _) _) _
    · skip
      by_cases h3 : b < 1
      · clear h
        go_enter Tryz.func17, Tryz.ntmps17
        go_wp2_with fail
        refine bodyPost_ret (v := .tuple #[.agg #[.int .i64 0, .int .i64 0, .int .i64 0, .int .i64 0, .int .i64 0, .int .i64 0, .slice none 0 0, .int .i64 0, .int .i64 0, .int .i64 0, .slice none 0 0], .bool false]) (by simp [results, Tryz.results17, go_sem]) rfl ⟨rfl, ?_⟩
        exact bl_alloc (bl_alloc (Below.refl _ _) _) _
      · skip
        by_cases h4 : 8 < b
        · clear h
          go_enter Tryz.func17, Tryz.ntmps17
          go_wp2_with fail
          refine bodyPost_ret (v := .tuple #[.agg #[.int .i64 0, .int .i64 0, .int .i64 0, .int .i64 0, .int .i64 0, .int .i64 0, .slice none 0 0, .int .i64 0, .int .i64 0, .int .i64 0, .slice none 0 0], .bool false]) (by simp [results, Tryz.results17, go_sem]) rfl ⟨rfl, ?_⟩
          exact bl_alloc (bl_alloc (Below.refl _ _) _) _
        · skip
          by_cases h5 : c < 1
          · clear h
            go_enter Tryz.func17, Tryz.ntmps17
            go_wp2_with fail
            refine bodyPost_ret (v := .tuple #[.agg #[.int .i64 0, .int .i64 0, .int .i64 0, .int .i64 0, .int .i64 0, .int .i64 0, .slice none 0 0, .int .i64 0, .int .i64 0, .int .i64 0, .slice none 0 0], .bool false]) (by simp [results, Tryz.results17, go_sem]) rfl ⟨rfl, ?_⟩
            exact bl_alloc (bl_alloc (Below.refl _ _) _) _
          · skip
            have h6 : 8 < c := by omega
            clear h
            go_enter Tryz.func17, Tryz.ntmps17
            go_wp2_with fail
            refine bodyPost_ret (v := .tuple #[.agg #[.int .i64 0, .int .i64 0, .int .i64 0, .int .i64 0, .int .i64 0, .int .i64 0, .slice none 0 0, .int .i64 0, .int .i64 0, .int .i64 0, .slice none 0 0], .bool false]) (by simp [results, Tryz.results17, go_sem]) rfl ⟨rfl, ?_⟩
            exact bl_alloc (bl_alloc (Below.refl _ _) _) _
end Go.Proofs.YtoanopegoilcnaaGreat
