/- Walks over firkinlaw05: PageMakes. -/
import Derived.Test.YtoanopegoilcnaaZKw
import Derived.Test.YtoanopegoilcnaaZKq
import Derived.Test.YtoanopegoilcnaaJn
import Derived.Laws.StructEq
set_option linter.unusedVariables false
namespace Go.Proofs.Ytoanopegoilcnaa
open Go.RowKit Go.Mem Go.Pg Go.Sort

theorem und_lay : Try.prog.underlying 23 = some (.struct (Try.prog.fieldsOf 23)) := by kernel_rfl
theorem held_lay : Try.prog.stoodInHeld 23 = false := by kernel_rfl
theorem run_eql_lay (w : World) (x y z : Int) : (binOp .eql 23 (.agg #[.int .i64 x, .int .i64 y, .int .i64 z]) (.agg #[.int .i64 x, .int .i64 y, .int .i64 z])).run Try.prog w = .ok (.bool true) w := by
  rw [run_eql_struct, run_equalIn_agg w 9999 23 _ _ und_lay held_lay]
  simp only [Program.fieldsOf, Try.underlying23]
  simp [go_sem, Op.eqFields]
/-- The codes of a layout in bounds. -/
theorem lay_of {a b c : Int} (h : ¬ LayBad a b c) : ∃ S N T mw mh : Nat, a = S ∧ b = N ∧ c = T ∧ 1 ≤ S ∧ S ≤ 256 ∧ 1 ≤ N ∧ N ≤ 8 ∧ 1 ≤ T ∧ T ≤ 8 ∧ Par (S + 4) T mw ∧ Par (9 + 11 * N + 4) T mh ∧ Par (13 + 11 * N) T mh := by
  unfold LayBad at h
  obtain ⟨S, rfl⟩ := Int.eq_ofNat_of_zero_le (show 0 ≤ a by omega)
  obtain ⟨N, rfl⟩ := Int.eq_ofNat_of_zero_le (show 0 ≤ b by omega)
  obtain ⟨T, rfl⟩ := Int.eq_ofNat_of_zero_le (show 0 ≤ c by omega)
  obtain ⟨mw, hw⟩ := Par.ex (S + 4) T (by omega) (by omega) (by omega) (by omega)
  obtain ⟨mh, hh⟩ := Par.ex (9 + 11 * N + 4) T (by omega) (by omega) (by omega) (by omega)
  refine ⟨S, N, T, mw, mh, rfl, rfl, rfl, by omega, by omega, by omega, by omega, by omega, by omega, hw, hh, ?_⟩
  rwa [show 9 + 11 * N + 4 = 13 + 11 * N by omega] at hh

set_option maxRecDepth 100000 in
set_option maxHeartbeats 6400000 in
theorem pageMakes_walk (a b c : Int) (w : World) (ha : (Lit.int .i64 a).wf = true) (hb : (Lit.int .i64 b).wf = true) (hc : (Lit.int .i64 c).wf = true) :
    Calls Try.prog 8 #[.agg #[.int .i64 a, .int .i64 b, .int .i64 c]] w fun e w' => e = .returned (.bool true) ∧ Below w.heap.size w w' := by
  clear ha hb hc
  go_enter Try.func8, Try.ntmps8
  go_wp2_with fail
  obtain ⟨W, hW⟩ : ∃ W, w.alloc (.cells #[.int .i64 a, .int .i64 b, .int .i64 c] 23) = W := ⟨_, rfl⟩
  have hlb : W.heap[w.heap.size]? = some (.cells #[.int .i64 a, .int .i64 b, .int .i64 c] 23 (0, 0)) := by rw [← hW]; exact alloc_new w _
  have hbW : Below w.heap.size w W := by rw [← hW]; exact bl_alloc (Below.refl _ _) _
  rw [hW]
  refine (awake_any _).mono ?_
  rintro e w1 ⟨rfl, hb1⟩
  obtain ⟨lb, hlE⟩ : ∃ b, w.heap.size = b := ⟨_, rfl⟩
  rw [hlE] at hlb ⊢
  have hlb1 := (hb1.block lb (lt_at hlb)).trans hlb
  have HLB1 := hid hlb1
  have HB1 := hid (hbW.comp hb1)
  have q0 := cell_at hlb1 0
  have q1 := cell_at hlb1 1
  have q2 := cell_at hlb1 2
  clear hW hlb hbW hb1 hlE hlb1
  by_cases hbad : LayBad a b c
  · have BAD := hid hbad
    clear hbad
    go_wp2_with fail
    refine (pnew_bad a b c _ BAD.out).mono ?_
    rintro e w2 ⟨rfl, hb2⟩
    have hlb2 := (hb2.block lb (lt_at HLB1.out)).trans HLB1.out
    have HLB2 := hid hlb2
    have HB2 := hid (HB1.out.comp hb2)
    have q0 := cell_at hlb2 0
    have q1 := cell_at hlb2 1
    have q2 := cell_at hlb2 2
    clear hb2 hlb2
    go_wp2_with fail
    refine (r5new_bad a b c _ BAD.out).mono ?_
    rintro e w3 ⟨rfl, hb3⟩
    have HB3 := hid (HB2.out.comp hb3)
    clear hb3 q0 q1 q2
    go_wp2_with fail
    go_ret
    exact ⟨rfl, bl_alloc HB3.out _⟩
  · obtain ⟨S, N, T, mw, mh, rfl, rfl, rfl, s1, s2, n1, n2, t1, t2, hp, hh, hq⟩ := lay_of hbad
    have HP := hid hp
    have HH := hid hh
    have HQ := hid hq
    clear hbad hp hh hq
    go_wp2_with fail
    refine (new_any S N T mw mh _ HP.out HH.out s1 s2 n1 n2).mono ?_
    rintro e w2 ⟨hr, hb2⟩
    have hlb2 := (hb2.block lb (lt_at HLB1.out)).trans HLB1.out
    have HLB2 := hid hlb2
    have HB2 := hid (HB1.out.comp hb2)
    have q0 := cell_at hlb2 0
    have q1 := cell_at hlb2 1
    have q2 := cell_at hlb2 2
    clear hb2 hlb2
    by_cases hby : byB S N T mw mh ≤ 4096
    · rw [if_pos hby] at hr
      obtain ⟨f, hf0, rfl, hf⟩ := hr
      have HF := hid hf
      have HBY := hid hby
      clear hf hby hf0
      go_wp2_with fail
      refine (r5new_any S N T mw mh _ HP.out HQ.out s1 s2 n1 n2).mono ?_
      rintro e w3 ⟨⟨rv, rfl, h5⟩, hb3⟩
      rw [decide_eq_true HBY.out]
      obtain ⟨ga, gl, gc, ha, hl, hc, rfl, _, _⟩ := h5.parts
      have H5 := hid h5
      have HLB3 := hid ((hb3.block lb (lt_at HLB2.out)).trans HLB2.out)
      have HF3 := hid (HF.out.below hb3)
      have HB3 := hid (HB2.out.comp hb3)
      clear h5 hb3 q0 q1 q2
      go_upto_region 8 with (fail)
      obtain ⟨W4, hW4⟩ : ∃ V, w3.alloc (.cells #[.int .i64 S, .int .i64 N, .int .i64 T, .int .i64 mw, .int .i64 ((S : Int) + 4), .int .i64 T, .slice ga gl gc, .int .i64 mh, .int .i64 (13 + 11 * (N : Int)), .int .i64 T, .slice ha hl hc] 64) = V := ⟨_, rfl⟩
      have hkf : W4.heap[w3.heap.size]? = some (.cells #[.int .i64 S, .int .i64 N, .int .i64 T, .int .i64 mw, .int .i64 ((S : Int) + 4), .int .i64 T, .slice ga gl gc, .int .i64 mh, .int .i64 (13 + 11 * (N : Int)), .int .i64 T, .slice ha hl hc] 64 (0, 0)) := by rw [← hW4]; exact alloc_new w3 _
      have hb4 : Below w3.heap.size w3 W4 := by rw [← hW4]; exact (Below.refl _ _).alloc (Nat.le_refl _) _
      rw [hW4]
      have HB4 := hid (HB3.out.comp hb4)
      have HF4 := hid (HF3.out.below hb4)
      have H54 := hid (H5.out.below hb4)
      have HLB4 := hid ((hb4.block lb (lt_at HLB3.out)).trans HLB3.out)
      have c := fun d os => f5_cells hkf d os
      have q0 := fun d os => cell_regrown (cell_at HLB4.out 0) d os
      have q1 := fun d os => cell_regrown (cell_at HLB4.out 1) d os
      have q2 := fun d os => cell_regrown (cell_at HLB4.out 2) d os
      obtain ⟨by5, hb5⟩ : ∃ z, byB S N T mw mh = z := ⟨_, rfl⟩
      have HE := hid hb5
      have C1 : Hid (∀ V, Below W4.heap.size W4 V → Calls Try.prog 12 #[.pointer (some ⟨f, 0, none⟩)] V fun e w' => e = .returned (.int .i64 (by5 : Nat)) ∧ Below V.heap.size V w') := hid fun V hV => by
        rw [← HE.out]
        refine (bytes_any f S N T mw mh V (HF4.out.below hV) HP.out HH.out s2 n2).mono ?_
        rintro e w' ⟨rfl, k, rfl⟩
        exact ⟨rfl, (Below.refl _ _).drewN k⟩
      have C2 : Hid (∀ V, Below W4.heap.size W4 V → Calls Try.prog 21 #[.agg #[.int .i64 S, .int .i64 N, .int .i64 T, .int .i64 mw, .int .i64 ((S : Int) + 4), .int .i64 T, .slice ga gl gc, .int .i64 mh, .int .i64 (13 + 11 * (N : Int)), .int .i64 T, .slice ha hl hc]] V fun e w' => e = .returned (.int .i64 (by5 : Nat)) ∧ Below V.heap.size V w') := hid fun V hV => by
        rw [← HE.out]; exact r5bytes_any S N T mw mh _ V HP.out HQ.out s2 n2 (H54.out.below hV)
      have C3 : Hid (∀ V, Below W4.heap.size W4 V → Calls Try.prog 22 #[.pointer (some ⟨f, 0, none⟩)] V fun e w' => e = .returned (.agg #[.int .i64 S, .int .i64 N, .int .i64 T]) ∧ Below V.heap.size V w') := hid fun V hV =>
        layout_any f S N T mw mh V (HF4.out.below hV)
      have re := fun w => run_eql_lay w (S : Nat) (N : Nat) (T : Nat)
      clear hW4 hkf hb4 hb5
      refine wp_region_quiet_below (by kernel_rfl) (by kernel_rfl) ?_
      repeat (go_big_quiet_step (first
        | (go_at_call 12; exact Calls.regrown_of (C1.out _ (below_regrown _ _ _)))
        | (go_at_call 21; exact Calls.regrown_of (C2.out _ (below_regrown _ _ _)))
        | (go_at_call 22; exact Calls.regrown_of (C3.out _ (below_regrown _ _ _)))))
      refine wpQuiet_nil ?_
      intro _ hw'
      obtain ⟨⟨dq, osq⟩, hw''⟩ := hw'
      subst hw''
      have HB5 := hid (HB4.out.comp (below_regrown W4 dq osq))
      generalize grow (redrawn W4 dq) osq = WA at *
      go_wp2_with fail
      go_ret
      exact ⟨by simp, HB5.out⟩
    · rw [if_neg hby] at hr
      subst hr
      have HBY := hid hby
      clear hby
      go_wp2_with fail
      refine (r5new_any S N T mw mh _ HP.out HQ.out s1 s2 n1 n2).mono ?_
      rintro e w3 ⟨⟨rv, rfl, h5⟩, hb3⟩
      rw [decide_eq_false HBY.out]
      obtain ⟨ga, gl, gc, ha, hl, hc, rfl, _, _⟩ := h5.parts
      have HB3 := hid (HB2.out.comp hb3)
      clear h5 hb3 q0 q1 q2
      go_wp2_with fail
      go_ret
      exact ⟨rfl, bl_alloc HB3.out _⟩
end Go.Proofs.Ytoanopegoilcnaa
