/- Walks over firkinlaw05: the framer of a layout, and the document's. -/
import Derived.Test.YtoanopegoilcnaaGreatZZp
set_option linter.unusedVariables false
namespace Go.Proofs.YtoanopegoilcnaaGreat
open Go.RowKit Go.Mem Go.Pg

/-- A row that holds a 1 does not lie in a block that has no 1. -/
theorem rd_off1 {k : IntKind} {w : World} {v : Value} {G : List Nat} {b J : Nat} {cs : Array Value} {t : TypeId} (h : Rd k w v G) (hG : G.getD J 0 = 1) (hl : J < G.length) (hb : w.heap[b]? = some (.cells cs t (0, 0))) (hz : ∀ i : Nat, cs[i]? ≠ some (Value.int k 1)) :
    ∃ g o n c, v = .slice (some ⟨g, o, none⟩) n c ∧ g ≠ b := by
  obtain ⟨a, c, rfl, _, _, hc⟩ := h
  obtain ⟨g, o, rfl, hx⟩ := hc J hl
  refine ⟨g, o, _, c, rfl, fun e => ?_⟩
  subst e
  rw [hG] at hx
  exact hz (o + J) (by rw [← cell_at hb (o + J)]; exact hx)
theorem Made.other {w V : World} {b m z : Nat} {cs : Array Value} (h : Made w b m) (hz : w.heap[z]? = some (.cells cs 35 (0, 0))) (ho : ∀ k, k ≠ z → V.heap[k]? = w.heap[k]?) : Made V b m := by
  obtain ⟨p, l, h1, h2, h3⟩ := h
  refine ⟨p, l, ?_, ?_, ?_⟩
  · rw [ho b (fun e => by subst e; have := h1.symm.trans hz; simp at this)]; exact h1
  · rw [ho p (fun e => by subst e; have := h2.symm.trans hz; simp at this)]; exact h2
  · rw [ho l (fun e => by subst e; have := h3.symm.trans hz; simp at this)]; exact h3
theorem CodeAt.other {w V : World} {c bytes t m z : Nat} (hp : Par bytes t m) (h : CodeAt w c bytes t m) (hz : w.heap[z]? = some (.cells #[.int .i64 0, .int .i64 0, .int .i64 0, .int .i64 0, .int .i64 0, .int .i64 0, .slice none 0 0, .int .i64 0, .int .i64 0, .int .i64 0, .slice none 0 0] 35 (0, 0))) (ho : ∀ k, k ≠ z → V.heap[k]? = w.heap[k]?) : CodeAt V c bytes t m := by
  obtain ⟨fb, gv, h1, h2, h3⟩ := h
  have hl := hp.r.1
  have hG : (Gf.gen m t).getD (rr m t) 0 = 1 := by have := (Gf.gen_mon hp.ok t).1.2; rw [hl] at this; exact this
  obtain ⟨g, o, n, c', rfl, hne⟩ := rd_off1 h3 hG (by omega) hz z11
  exact ⟨fb, _, by rw [ho c (fun e => by subst e; have := h1.symm.trans hz; simp at this)]; exact h1, h2.other hz ho, rd_keep h3 (ho g hne)⟩
theorem FrAt.other {w V : World} {f S N T mw mh z : Nat} (hp : Par (S + 4) T mw) (hq : Par (9 + 11 * N + 4) T mh) (h : FrAt w f S N T mw mh) (hz : w.heap[z]? = some (.cells #[.int .i64 0, .int .i64 0, .int .i64 0, .int .i64 0, .int .i64 0, .int .i64 0, .slice none 0 0, .int .i64 0, .int .i64 0, .int .i64 0, .slice none 0 0] 35 (0, 0))) (ho : ∀ k, k ≠ z → V.heap[k]? = w.heap[k]?) : FrAt V f S N T mw mh := by
  obtain ⟨cw, ch, h1, h2, h3⟩ := h
  exact ⟨cw, ch, by rw [ho f (fun e => by subst e; have := h1.symm.trans hz; simp at this)]; exact h1, h2.other hp hz ho, h3.other hq hz ho⟩

set_option maxRecDepth 100000 in
set_option maxHeartbeats 6400000 in
theorem both_any (S N T mw mh : Nat) (w : World) (hL : Lay S N T mw mh) (hq : Par (13 + 11 * N) T mh) (hby : byB S N T mw mh ≤ 4096) :
    Calls Tryz.prog 6 #[.agg #[.int .i64 S, .int .i64 N, .int .i64 T]] w fun e w' =>
      (∃ f v5, e = .returned (.tuple #[.pointer (some ⟨f, 0, none⟩), v5, .bool true]) ∧ FrAt w' f S N T mw mh ∧ F5 w' v5 S N T mw mh) ∧ Below w.heap.size w w' := by
  have HL := hid hL
  have HQ := hid hq
  have HBY := hid hby
  clear hL hq hby
  go_enter Tryz.func6, Tryz.ntmps6
  go_upto_region 1 with (fail)
  obtain ⟨W, hW⟩ : ∃ W, (w.alloc (.cells #[.int .i64 S, .int .i64 N, .int .i64 T] 23)).alloc (.cells #[.int .i64 0, .int .i64 0, .int .i64 0, .int .i64 0, .int .i64 0, .int .i64 0, .slice none 0 0, .int .i64 0, .int .i64 0, .int .i64 0, .slice none 0 0] 35) = W := ⟨_, rfl⟩
  have hlb : W.heap[w.heap.size]? = some (.cells #[.int .i64 S, .int .i64 N, .int .i64 T] 23 (0, 0)) := by rw [← hW]; exact (alloc_old (by simp)).trans (alloc_new w _)
  have hfb : W.heap[w.heap.size + 1]? = some (.cells #[.int .i64 0, .int .i64 0, .int .i64 0, .int .i64 0, .int .i64 0, .int .i64 0, .slice none 0 0, .int .i64 0, .int .i64 0, .int .i64 0, .slice none 0 0] 35 (0, 0)) := by rw [← hW]; exact alloc_at (by simp)
  have hbW : Below w.heap.size w W := by rw [← hW]; exact bl_alloc (bl_alloc (Below.refl _ _) _) _
  rw [hW]
  obtain ⟨fb, hfE⟩ : ∃ b, w.heap.size + 1 = b := ⟨_, rfl⟩
  rw [hfE] at hfb ⊢
  obtain ⟨lb, hlE⟩ : ∃ b, w.heap.size = b := ⟨_, rfl⟩
  rw [hlE] at hlb ⊢
  have HFE := hid (show w.heap.size ≤ fb by omega)
  have q0 := cell_at hlb 0
  have q1 := cell_at hlb 1
  have q2 := cell_at hlb 2
  have HLB := hid hlb
  have HFB := hid hfb
  have HBW := hid hbW
  clear hW hlb hfb hbW hfE hlE
  go_wp2_with fail
  refine (new_any S N T mw mh _ HL.out.pw HL.out.ph HL.out.s1 HL.out.s2 HL.out.n1 HL.out.n2).mono ?_
  rintro e w2 ⟨hr, hb2⟩
  rw [if_pos HBY.out] at hr
  obtain ⟨f, hf0, rfl, hf⟩ := hr
  have HF := hid hf
  have HLB2 := hid ((hb2.block lb (lt_at HLB.out)).trans HLB.out)
  have HFB2 := hid ((hb2.block fb (lt_at HFB.out)).trans HFB.out)
  have HB2 := hid (HBW.out.comp hb2)
  have hl2 := HLB2.out
  have q0 := cell_at hl2 0
  have q1 := cell_at hl2 1
  have q2 := cell_at hl2 2
  clear hf hb2 hf0 hl2
  go_wp2_with fail
  refine (r5new_any S N T mw mh _ HL.out.pw HQ.out HL.out.s1 HL.out.s2 HL.out.n1 HL.out.n2).mono ?_
  rintro e w3 ⟨⟨rv, rfl, h5⟩, hb3⟩
  rw [decide_eq_true HBY.out]
  obtain ⟨ga, gl, gc, ha, hl, hc, rfl, _, _⟩ := h5.parts
  have H5 := hid h5
  have HF3 := hid (HF.out.below hb3)
  have HFB3 := hid ((hb3.block fb (lt_at HFB2.out)).trans HFB2.out)
  have HB3 := hid (HB2.out.comp hb3)
  clear h5 hb3 q0 q1 q2
  go_upto_region 3 with (fail)
  obtain ⟨k3, hk3⟩ : ∃ b, w3.heap.size = b := ⟨_, rfl⟩
  obtain ⟨W4, hW4⟩ : ∃ V, w3.alloc (.cells #[.int .i64 S, .int .i64 N, .int .i64 T, .int .i64 mw, .int .i64 ((S : Int) + 4), .int .i64 T, .slice ga gl gc, .int .i64 mh, .int .i64 (13 + 11 * (N : Int)), .int .i64 T, .slice ha hl hc] 35) = V := ⟨_, rfl⟩
  rw [hW4, hk3]
  have hb4 : Below w3.heap.size w3 W4 := by rw [← hW4]; exact (Below.refl _ _).alloc (Nat.le_refl _) _
  have hkf : W4.heap[k3]? = some (.cells #[.int .i64 S, .int .i64 N, .int .i64 T, .int .i64 mw, .int .i64 ((S : Int) + 4), .int .i64 T, .slice ga gl gc, .int .i64 mh, .int .i64 (13 + 11 * (N : Int)), .int .i64 T, .slice ha hl hc] 35 (0, 0)) := by rw [← hW4]; exact alloc_at hk3.symm
  have H54 := hid (H5.out.below hb4)
  have HF4 := hid (HF3.out.below hb4)
  have HFB4 := hid ((hb4.block fb (lt_at HFB3.out)).trans HFB3.out)
  have HB4 := hid (HB3.out.comp hb4)
  have hfa := HFB4.out
  have c0 := cell_at hkf 0
  have z0 := cell_at hfa 0
  have y0 := free_at hfa 0
  have c1 := cell_at hkf 1
  have z1 := cell_at hfa 1
  have y1 := free_at hfa 1
  have c2 := cell_at hkf 2
  have z2 := cell_at hfa 2
  have y2 := free_at hfa 2
  have c3 := cell_at hkf 3
  have z3 := cell_at hfa 3
  have y3 := free_at hfa 3
  have c4 := cell_at hkf 4
  have z4 := cell_at hfa 4
  have y4 := free_at hfa 4
  have c5 := cell_at hkf 5
  have z5 := cell_at hfa 5
  have y5 := free_at hfa 5
  have c6 := cell_at hkf 6
  have z6 := cell_at hfa 6
  have y6 := free_at hfa 6
  have c7 := cell_at hkf 7
  have z7 := cell_at hfa 7
  have y7 := free_at hfa 7
  have c8 := cell_at hkf 8
  have z8 := cell_at hfa 8
  have y8 := free_at hfa 8
  have c9 := cell_at hkf 9
  have z9 := cell_at hfa 9
  have y9 := free_at hfa 9
  have c10 := cell_at hkf 10
  have z10 := cell_at hfa 10
  have y10 := free_at hfa 10
  clear hW4 hb4 hk3 hkf hfa
  go_region
  go_wp2_with fail
  clear c0 z0 y0 c1 z1 y1 c2 z2 y2 c3 z3 y3 c4 z4 y4 c5 z5 y5 c6 z6 y6 c7 z7 y7 c8 z8 y8 c9 z9 y9 c10 z10 y10
  have sA := eleven_set HFB4.out (.int .i64 S) (.int .i64 N) (.int .i64 T) (.int .i64 mw) (.int .i64 ((S : Int) + 4)) (.int .i64 T) (.slice ga gl gc) (.int .i64 mh) (.int .i64 (13 + 11 * (N : Int))) (.int .i64 T) (.slice ha hl hc)
  have bA := bl_set (bl_set (bl_set (bl_set (bl_set (bl_set (bl_set (bl_set (bl_set (bl_set (bl_set (HB4.out) (p := ⟨fb, 0, none⟩) HFE.out (.int .i64 S)) (p := ⟨fb, 1, none⟩) HFE.out (.int .i64 N)) (p := ⟨fb, 2, none⟩) HFE.out (.int .i64 T)) (p := ⟨fb, 3, none⟩) HFE.out (.int .i64 mw)) (p := ⟨fb, 4, none⟩) HFE.out (.int .i64 ((S : Int) + 4))) (p := ⟨fb, 5, none⟩) HFE.out (.int .i64 T)) (p := ⟨fb, 6, none⟩) HFE.out (.slice ga gl gc)) (p := ⟨fb, 7, none⟩) HFE.out (.int .i64 mh)) (p := ⟨fb, 8, none⟩) HFE.out (.int .i64 (13 + 11 * (N : Int)))) (p := ⟨fb, 9, none⟩) HFE.out (.int .i64 T)) (p := ⟨fb, 10, none⟩) HFE.out (.slice ha hl hc)
  obtain ⟨V, hV⟩ : ∃ V, ((((((((((W4.setCell ⟨fb, 0, none⟩ (.int .i64 S)).setCell ⟨fb, 1, none⟩ (.int .i64 N)).setCell ⟨fb, 2, none⟩ (.int .i64 T)).setCell ⟨fb, 3, none⟩ (.int .i64 mw)).setCell ⟨fb, 4, none⟩ (.int .i64 ((S : Int) + 4))).setCell ⟨fb, 5, none⟩ (.int .i64 T)).setCell ⟨fb, 6, none⟩ (.slice ga gl gc)).setCell ⟨fb, 7, none⟩ (.int .i64 mh)).setCell ⟨fb, 8, none⟩ (.int .i64 (13 + 11 * (N : Int)))).setCell ⟨fb, 9, none⟩ (.int .i64 T)).setCell ⟨fb, 10, none⟩ (.slice ha hl hc) = V := ⟨_, rfl⟩
  have oA : ∀ k, k ≠ fb → V.heap[k]? = W4.heap[k]? := fun k hk => by rw [← hV]; exact (set_other hk).trans ((set_other hk).trans ((set_other hk).trans ((set_other hk).trans ((set_other hk).trans ((set_other hk).trans ((set_other hk).trans ((set_other hk).trans ((set_other hk).trans ((set_other hk).trans (set_other hk))))))))))
  rw [hV] at sA bA ⊢
  have e0 := cell_at sA 0
  have e1 := cell_at sA 1
  have e2 := cell_at sA 2
  have e3 := cell_at sA 3
  have e4 := cell_at sA 4
  have e5 := cell_at sA 5
  have e6 := cell_at sA 6
  have e7 := cell_at sA 7
  have e8 := cell_at sA 8
  have e9 := cell_at sA 9
  have e10 := cell_at sA 10
  have hfr : FrAt V f S N T mw mh := HF4.out.other HL.out.pw HL.out.ph HFB4.out oA
  have hf5 : F5 V (.agg #[.int .i64 S, .int .i64 N, .int .i64 T, .int .i64 mw, .int .i64 ((S : Int) + 4), .int .i64 T, .slice ga gl gc, .int .i64 mh, .int .i64 (13 + 11 * (N : Int)), .int .i64 T, .slice ha hl hc]) S N T mw mh := F5.store H54.out HL.out.pw HQ.out HFB4.out oA
  clear hV oA
  exact bodyPost_ret (v := .tuple #[.pointer (some ⟨f, 0, none⟩), .agg #[.int .i64 S, .int .i64 N, .int .i64 T, .int .i64 mw, .int .i64 ((S : Int) + 4), .int .i64 T, .slice ga gl gc, .int .i64 mh, .int .i64 (13 + 11 * (N : Int)), .int .i64 T, .slice ha hl hc], .bool true]) (by simp [results, Tryz.results6, go_sem, e0, e1, e2, e3, e4, e5, e6, e7, e8, e9, e10]) rfl ⟨⟨f, _, rfl, hfr, hf5⟩, bA.drew⟩
end Go.Proofs.YtoanopegoilcnaaGreat
