/- Walks over firkinlaw05: awake. -/
import Derived.Test.YtoanopegoilcnaaGreatZKn
import Derived.Test.YtoanopegoilcnaaGreatZKnb
import Derived.Test.YtoanopegoilcnaaGreatZKi
import Derived.Test.YtoanopegoilcnaaGreatJq
import Derived.Test.YtoanopegoilcnaaGreatJm
import Derived.Test.YtoanopegoilcnaaGreatJj
import Derived.Deep.RegionHeld3
import Derived.Lib.SlBytesConst
set_option linter.unusedVariables false
namespace Go.Proofs.YtoanopegoilcnaaGreat
open Go.RowKit Go.Mem Go.Pg Go.Sort

/-- Unpack of as many bytes as a page has. -/
theorem unpack_any (f S N T mw mh : Nat) (v : Value) (l : List Nat) (w : World) (hL : Lay S N T mw mh) (hf : FrAt w f S N T mw mh) (hv : Rd .u8 w v l) (hl : l.length = pageB S N T mw mh) (hx : ∀ y ∈ l, y < 256) :
    Calls Tryz.prog 12 #[.pointer (some ⟨f, 0, none⟩), v] w fun e w' => (∃ ov, e = .returned (.tuple #[ov, .int .i64 0]) ∧ OpV w' ov (opn S N T mw mh l)) ∧ Below w.heap.size w w' := by
  have hL1 : 1 ≤ l.length := by rw [hl]; unfold pageB; omega
  obtain ⟨L, hLen⟩ : ∃ L, l.length = L := ⟨_, rfl⟩
  obtain ⟨g, o, cap, rfl⟩ : ∃ g o cap, v = .slice (some ⟨g, o, none⟩) L cap := by
    obtain ⟨a, cap, he, _, _, hc⟩ := hv
    obtain ⟨g, o, ha, _⟩ := hc 0 (by omega)
    exact ⟨g, o, cap, by rw [he, ha, hLen]⟩
  by_cases he : 8 * L - ones l ≤ T
  · exact unpack_erased f S N T mw mh g o cap L l w hL hf hv hLen (hLen.symm.trans hl) hx he
  · by_cases hG : hdO S N T mw mh l = none
    · exact unpack_bad f S N T mw mh g o cap L l w hL hf hv hLen (hLen.symm.trans hl) hx he hG
    · exact unpack_good f S N T mw mh g o cap L l w hL hf hv hLen (hLen.symm.trans hl) hx he hG
theorem OpV.out {w : World} {v : Value} {o : Opn} (h : OpV w v o) : ∃ sa sc wa wc ra rc, v = .agg #[.bool o.erased, .int .i64 (o.whole : Nat), .int .i64 o.hd.kind, .int .u32 (o.hd.id : Nat), .int .i64 o.hd.row, .int .i64 o.hd.place, .int .i64 o.hd.width, .slice sa o.hd.slots.length sc, .slice wa o.words.length wc, .slice ra o.sectors.length rc, .int .i64 (o.flips : Nat)] ∧
    SlR w (.slice sa o.hd.slots.length sc) o.hd.slots ∧ Rd .i64 w (.slice wa o.words.length wc) o.words ∧ RB w (.slice ra o.sectors.length rc) (o.sectors.map (·.getD [])) := by
  obtain ⟨sv, ws, ss, e, h1, h2, h3⟩ := h
  have g1 := h1
  have g2 := h2
  have g3 := h3
  obtain ⟨sa, sc, rfl, _⟩ := h1
  obtain ⟨wa, wc, rfl, _⟩ := h2
  obtain ⟨ra, rc, e3, _⟩ := h3
  rw [List.length_map] at e3
  subst e3
  exact ⟨sa, sc, wa, wc, ra, rc, e, g1, g2, g3⟩
set_option maxRecDepth 100000 in
set_option maxHeartbeats 6400000 in
theorem awake_any (w : World) : Calls Tryz.prog 5 #[] w fun e w' => e = .returned (.bool true) ∧ Below w.heap.size w w' := by
  have hNEW := hid (new_any 4 1 1 7 8 · par8 par24 (by decide) (by decide) (by decide) (by decide))
  have hby : byB 4 1 1 7 8 ≤ 4096 := by rw [byB_page, page0]; decide
  have kc : ∀ (w : World) (C : Array Value) (n c m : Nat), m = w.heap.size → (convert 39 39 (.slice (some ⟨m, 0, none⟩) n c)).run Tryz.prog (w.alloc (.cells C 5)) = .ok (.slice (some ⟨m, 0, none⟩) n c) (w.alloc (.cells C 5 (C.size, C.size + 1))) := fun w C n c m hm => by
    subst hm; exact Lib.run_convert_bytes_const (P := Tryz.prog) w 39 5 C n c Tryz.underlying39 Tryz.underlying5
  go_enter Tryz.func5, Tryz.ntmps5
  go_wp2_with fail
  refine (hNEW.out _).mono ?_
  rintro e w1 ⟨hr, hb1⟩
  rw [if_pos hby] at hr
  obtain ⟨f, hf0, rfl, hf⟩ := hr
  have HF := hid hf
  have HB1 := hid hb1
  clear hf hb1
  go_wp2_with fail
  refine (bytes_any f 4 1 1 7 8 w1 HF.out par8 par24 (by decide) (by decide)).mono ?_
  rintro e w2 ⟨rfl, n2, rfl⟩
  rw [show byB 4 1 1 7 8 = 35 by rw [byB_page, page0]]
  go_wp2_with fail
  clear kc
  have hnew : ∃ V, ((((w1.drewN n2).alloc (.cells #[.int .u32 1, .int .i64 1, .int .u64 9] 61)).alloc (.cells #[.int .u8 97, .int .u8 98, .int .u8 99, .int .u8 100] 5 (4, 5))).alloc (.cells #[.slice (some ⟨w1.heap.size + 1, 0, none⟩) 4 4] 39)) = V ∧ Below w1.heap.size w1 V ∧
      SlR V (.slice (some ⟨w1.heap.size, 0, none⟩) 1 1) [⟨1, 1, 9⟩] ∧ RB V (.slice (some ⟨w1.heap.size + 1 + 1, 0, none⟩) 1 1) [[97, 98, 99, 100]] := by
    refine ⟨_, rfl, ((((Below.refl w1.heap.size w1).drewN n2).alloc (Nat.le_refl _) _).alloc (by simp) _).alloc (by simp; omega) _, ?_, ?_⟩
    · exact (slr_new (w := w1.drewN n2) (s := ⟨1, 1, 9⟩) (t := 61) rfl rfl rfl).below (((Below.refl _ _).alloc (Nat.le_refl _) _).alloc (by simp) _)
    · refine ⟨_, 1, rfl, Nat.le_refl _, by unfold maxLen; decide, fun j hj => ⟨w1.heap.size + 1 + 1, 0, .slice (some ⟨w1.heap.size + 1, 0, none⟩) 4 4, rfl, ?_, ?_⟩⟩
      · obtain rfl : j = 0 := by simpa using hj
        exact cell_at (alloc_at (by simp)) 0
      · obtain rfl : j = 0 := by simpa using hj
        refine ⟨_, 4, rfl, Nat.le_refl _, by unfold maxLen; decide, fun i hi => ⟨w1.heap.size + 1, 0, rfl, ?_⟩⟩
        rw [Nat.zero_add, cell_at ((alloc_old (by simp)).trans (alloc_at (by simp)))]
        have hi4 : i < 4 := hi
        rcases (show i = 0 ∨ i = 1 ∨ i = 2 ∨ i = 3 by omega) with rfl | rfl | rfl | rfl <;> rfl
  obtain ⟨V, hV, hbV, hsl, hrb⟩ := hnew
  rw [hV]
  have HBV := hid hbV
  have hsl' : HdV V (.agg #[.int .i64 1, .int .u32 7, .int .i64 0, .int .i64 0, .int .i64 3, .slice (some ⟨w1.heap.size, 0, none⟩) 1 1]) H0 := ⟨_, rfl, hsl⟩
  refine (pack_any f 4 1 1 7 8 _ _ H0 X0 V lay0 (HF.out.below hbV) hsl' wf0 hrb lt0 can0).mono ?_
  rintro e w3 ⟨⟨pv, rfl, hown⟩, hb3⟩
  obtain ⟨pg, pc, rfl, hpg, hpo⟩ := hown.ow (by rw [packB_len can0, page0]; decide)
  rw [packB_len can0, page0] at hpo ⊢
  have HB3 := hid (hbV.comp hb3)
  have HPO := hid hpo
  have hpc : 35 ≤ pc := by obtain ⟨_, _, _, h, _⟩ := hpo; exact h
  have hpc2 : (pc : Int) ≤ 9223372036854775807 := by obtain ⟨_, _, _, _, h, _⟩ := hpo; unfold maxLen at h; omega
  clear hV hbV hsl hrb hsl' hown hb3 hpo
  have c0 : w3.cell? ⟨pg, 0, none⟩ = some (.int .u8 97) := by
    have := HPO.out.cell (j := 0) (by decide)
    rw [aw_b0] at this; exact this
  have z0 := HPO.out.free 0
  have hx0 : bits .xor .u8 97 1 = 96 := by decide
  go_wp2_with fail
  have hrd := (HPO.out.set 0 96).rd
  rw [l0_eq] at hrd
  have hpgw : w1.heap.size ≤ pg := by have := HBV.out.size; omega
  have hb4 := bl_set HB3.out (p := ⟨pg, 0, none⟩) hpgw (.int .u8 ((96 : Nat) : Int))
  refine (unpack_any f 4 1 1 7 8 _ l0 _ lay0 (HF.out.below hb4) hrd (l0_len.trans page0.symm) l0_lt).mono ?_
  rintro e w5 ⟨⟨ov, rfl, hop⟩, hb5⟩
  rw [aw_opn] at hop
  have hop' : ∃ sa sc wa wc ra rc, ov = .agg #[.bool false, .int .i64 1, .int .i64 1, .int .u32 7, .int .i64 0, .int .i64 0, .int .i64 3, .slice sa 1 sc, .slice wa 1 wc, .slice ra 1 rc, .int .i64 1] ∧ SlR w5 (.slice sa 1 sc) [⟨1, 1, 9⟩] ∧ Rd .i64 w5 (.slice wa 1 wc) [2] ∧ RB w5 (.slice ra 1 rc) [[97, 98, 99, 100]] := hop.out
  obtain ⟨sa, sc, wa, wc, ra, rc, rfl, o1, o2, o3⟩ := hop'
  have HB5 := hid (hb4.comp hb5)
  have O2 := hid o2
  have O3 := hid o3
  clear hrd hb4 hb5 c0 z0 hx0 o1 o2 o3 hop
  go_upto_region 9 with (fail)
  obtain ⟨W, hW⟩ : ∃ W, w5.alloc (.cells #[.bool false, .int .i64 1, .int .i64 1, .int .u32 7, .int .i64 0, .int .i64 0, .int .i64 3, .slice sa 1 sc, .slice wa 1 wc, .slice ra 1 rc, .int .i64 1] 50) = W := ⟨_, rfl⟩
  rw [hW]
  have hbW : Below w5.heap.size w5 W := by rw [← hW]; exact (Below.refl _ _).alloc (Nat.le_refl _) _
  have hob : W.heap[w5.heap.size]? = some (.cells #[.bool false, .int .i64 1, .int .i64 1, .int .u32 7, .int .i64 0, .int .i64 0, .int .i64 3, .slice sa 1 sc, .slice wa 1 wc, .slice ra 1 rc, .int .i64 1] 50 (0, 0)) := by rw [← hW]; exact alloc_new w5 _
  obtain ⟨p0, p1, p2, p3, p4, p5, p6, p7, p8, p9, p10⟩ := op_cells hob
  have o2 := O2.out.below hbW
  have o3 := O3.out.below hbW
  have HB6 := hid (HB5.out.comp hbW)
  obtain ⟨wa', wc', he2, t1, t2, t3⟩ := o2
  cases he2
  obtain ⟨wg, wo, rfl, u1⟩ := t3 0 (by decide)
  have u2 : W.cell? ⟨wg, wo, none⟩ = some (.int .i64 2) := u1
  obtain ⟨ra', rc', he3, t4, t5, t6⟩ := o3
  cases he3
  obtain ⟨rg, ro, u, rfl, v1, v2⟩ := t6 0 (by decide)
  have v3 : W.cell? ⟨rg, ro, none⟩ = some u := v1
  have k1 := conv_rd (show Rd .u8 W u [97, 98, 99, 100] from v2)
  obtain ⟨ua, uc, rfl, _⟩ := v2
  have k2 : (convert 39 9 (.slice ua 4 uc)).run Tryz.prog W = .ok (.string ⟨#[97, 98, 99, 100]⟩) W := k1
  have t7 : (1 : Int) ≤ (wc : Int) := by simp at t1; omega
  have t8 : (1 : Int) ≤ (rc : Int) := by simp at t4; omega
  clear hW hob u1 v1 k1 t1 t3 t4 t6 hbW
  go_wp2_with fail
  go_ret
  exact ⟨rfl, HB1.out.comp HB6.out⟩
end Go.Proofs.YtoanopegoilcnaaGreat
