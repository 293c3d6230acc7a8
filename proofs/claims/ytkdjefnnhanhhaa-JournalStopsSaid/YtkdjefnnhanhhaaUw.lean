/- Walks over journal: note, Set, Drop, Sync. -/
import Derived.Test.YtkdjefnnhanhhaaZJv
import Derived.Test.YtkdjefnnhanhhaaUi
set_option linter.unusedVariables false
namespace Go.Proofs.Ytkdjefnnhanhhaa
open Go Go.RowKit Go.Mem Go.Jn
set_option linter.unusedVariables false

theorem len_putM (k v : Nat) (M : MM) : (putM k v M).length ≤ M.length + 1 := by
  unfold putM; rw [len_insM]; have := len_delM (k := k) (M := M); omega
theorem apply_ok {j : Jo} {t : Tp} {r : Rec} (h : j.Ok t) (hr : r.a < 18446744073709551616 ∧ r.b < 18446744073709551616) (hs : r.seq = 0) (hf : j.m.length < 60000) : (j.apply r).Ok t ∧ (j.apply r).m.length ≤ j.m.length + 1 ∧ (j.apply r).seq = j.seq := by
  have hl : (if r.kind = 1 then putM r.a r.b j.m else if r.kind = 2 then delM r.a j.m else j.m).length ≤ j.m.length + 1 := by
    split
    · exact len_putM _ _ _
    · split
      · have := len_delM (k := r.a) (M := j.m); omega
      · omega
  have hsq : max j.seq r.seq = j.seq := by rw [hs]; omega
  refine ⟨⟨?_, Nat.le_trans hl hf, h.gen, h.top, h.area, h.block, h.rows, h.rfit, ?_, h.bad⟩, hl, hsq⟩
  · show FitM (if r.kind = 1 then putM r.a r.b j.m else if r.kind = 2 then delM r.a j.m else j.m)
    split
    · exact h.fit.put hr.1 hr.2
    · split
      · exact h.fit.del
      · exact h.fit
  · show max j.seq r.seq < _; rw [hsq]; exact h.seq
theorem not_full {s : JS} (h : s.full = false) (hb : s.j.block < s.t.sz) : s.j.rows.length = s.t.per → s.j.block + 1 < s.t.sz := fun hr => by
  unfold JS.full at h
  simp only [Bool.or_eq_false_iff, Bool.and_eq_false_iff, decide_eq_false_iff_not] at h
  rcases h.2 with h | h
  · omega
  · exact absurd hr h
/-- What a journal may be asked. -/
structure JS.Can (s : JS) : Prop where
  tok : s.t.Ok
  ok : s.j.Ok s.t
  ops : s.t.ops + s.j.m.length + 20 < 5000000000000
  seq : s.j.seq + s.j.m.length + 5 < 1000000000000000000
  top : s.j.top + 1 < 1000000000000000000
  room : s.j.m.length + 1 ≤ s.t.sz * s.t.per
theorem JS.Can.few {s : JS} (h : s.Can) : s.j.m.length < 60000 := by
  have h1 := h.tok.sz.2.1
  have h2 := h.tok.per.2
  have h3 := h.room
  have h4 : s.t.sz * s.t.per ≤ 499 * 27 := Nat.mul_le_mul h1 h2
  omega
section
variable {Q : Nat → Prop} {w w' : World} {J T : Nat}
set_option maxRecDepth 100000 in
set_option maxHeartbeats 6400000 in
theorem jnote_any {s : JS} (h : JSt Q w J T s) (hc : s.Can) (r : Rec) (hr : (1 ≤ r.kind ∧ r.kind ≤ 4) ∧ r.a < 18446744073709551616 ∧ r.b < 18446744073709551616 ∧ r.c < 18446744073709551616) (hr0 : r.seq = 0) :
    Calls Try.prog 27 #[.pointer (some ⟨J, 0, none⟩), r.val] w fun e w' => e = .returned (.int .i64 (s.note r).1) ∧ JSt Q w' J T (s.note r).2 ∧ Off Q w w' := by
  have hfew := hc.few
  have HC := hid hc
  obtain ⟨j, t⟩ := s
  obtain ⟨hap1, hap2, hap3⟩ := apply_ok hc.ok ⟨hr.2.1, hr.2.2.1⟩ hr0 hfew
  dsimp only at hap1 hap2 hap3 hfew
  have h0 := h
  obtain ⟨hT, b, rv, hJ⟩ := h0
  dsimp only at hT hJ
  have HR := hid hr
  obtain ⟨rk, rs, ra, rb, rc⟩ := r
  obtain ⟨W0, hW0⟩ : ∃ W, w.alloc (.cells #[.int .i64 (rk : Nat), .int .u64 (rs : Nat), .int .u64 (ra : Nat), .int .u64 (rb : Nat), .int .u64 (rc : Nat)] 74) = W := ⟨_, rfl⟩
  obtain ⟨R, hRz⟩ : ∃ R, w.heap.size = R := ⟨_, rfl⟩
  have hb0 : Below w.heap.size w W0 := by rw [← hW0]; exact (Below.refl _ _).alloc (Nat.le_refl _) _
  have hr0' : W0.heap[R]? = some (.cells #[.int .i64 (rk : Nat), .int .u64 (rs : Nat), .int .u64 (ra : Nat), .int .u64 (rb : Nat), .int .u64 (rc : Nat)] 74 (0, 0)) := by rw [← hW0, ← hRz]; exact alloc_new _ _
  have hT0 := hT.below hb0
  have hJ0 := hJ.below hb0
  have c10 := hJ0.c10
  have x0 : W0.cell? ⟨R, 0, none⟩ = some (.int .i64 (rk : Nat)) := cell_at hr0' 0
  have x1 : W0.cell? ⟨R, 1, none⟩ = some (.int .u64 (rs : Nat)) := cell_at hr0' 1
  have x2 : W0.cell? ⟨R, 2, none⟩ = some (.int .u64 (ra : Nat)) := cell_at hr0' 2
  have x3 : W0.cell? ⟨R, 3, none⟩ = some (.int .u64 (rb : Nat)) := cell_at hr0' 3
  have x4 : W0.cell? ⟨R, 4, none⟩ = some (.int .u64 (rc : Nat)) := cell_at hr0' 4
  obtain ⟨bd, hbd⟩ : ∃ e, j.bad = e := ⟨_, rfl⟩
  have HBD := hid hbd
  rw [hbd] at c10
  have HT0 := hid hT0
  have HJ0 := hid hJ0
  have HF0 := hid (show Off Q w W0 from Off.of_below hb0)
  -- the record's box is nobody's
  have HA := hid (apply_any (Q := fun i => Q i ∧ i ≠ R) (hT0.shiftT (fun i cs tt fz ht hq hh => ⟨hh, hq, fun e => ty_ne hh hr0' (fun e => by subst e; revert ht; unfold TT; decide) e⟩) (fun i hi => ⟨hT0.upq i hi, by have := lt_at hr0'; omega⟩)) (hJ0.shift (fun i hi h' => ⟨rfl, by
    rcases h' with h' | h' | h'
    · rw [h']; exact hJ0.qj
    · rw [h']; exact hJ0.qb
    · exact hJ0.qr _ h', by
    have hl : i < w.heap.size := by
      rcases h' with h' | h' | h'
      · rw [h']; exact lt_at hJ.hp
      · rw [h']; exact hJ.mp.lt
      · rcases orec_own hJ.ro with e' | ⟨g', cu, e', hg⟩
        · rw [e'] at h'; cases h'
        · rw [e'] at h'; cases h'; exact lt_at hg
    omega⟩)) ⟨rk, rs, ra, rb, rc⟩ (fun i => by
      match i with
      | 0 => show rs < _; have : rs = 0 := hr0; omega
      | 1 => exact hr.2.1
      | 2 => exact hr.2.2.1
      | _ + 3 => exact hr.2.2.2) (by have := hc.ok.seq; dsimp only at this; omega) (by omega))
  have HRB := hid hr0'
  have hRl := lt_at hr0'
  have HRS := hid (show rs = 0 from hr0)
  unfold Rec.val at HA ⊢
  dsimp only at HA
  clear hT hJ hT0 hJ0 hb0 hr hr0 hc h hbd hr0'
  by_cases hb : bd = 0
  · subst hb
    go_enter Try.func27, Try.ntmps27
    go_wp2_with fail
    refine HA.out.mono ?_
    rintro e w1 ⟨⟨v1, rfl⟩, T1, J1, F1⟩
    have hR1 := (F1.block R hRl (fun h => h.2 rfl)).trans HRB.out
    have y0 : w1.cell? ⟨R, 0, none⟩ = some (.int .i64 (rk : Nat)) := cell_at hR1 0
    have y1 : w1.cell? ⟨R, 1, none⟩ = some (.int .u64 (rs : Nat)) := cell_at hR1 1
    have y2 : w1.cell? ⟨R, 2, none⟩ = some (.int .u64 (ra : Nat)) := cell_at hR1 2
    have y3 : w1.cell? ⟨R, 3, none⟩ = some (.int .u64 (rb : Nat)) := cell_at hR1 3
    have y4 : w1.cell? ⟨R, 4, none⟩ = some (.int .u64 (rc : Nat)) := cell_at hR1 4
    have S1 : JSt (fun i => Q i ∧ i ≠ R) w1 J T ⟨j.apply ⟨rk, rs, ra, rb, rc⟩, t⟩ := ⟨T1, b, _, J1⟩
    have HFU := hid (full_any T1 J1 HC.out.tok hap1)
    have HF1 := hid (HF0.out.trans (F1.imp (fun i _ h => h.1)))
    have HR1 := hid hR1
    have HUP := hid HT0.out.upq
    have hFS := F1.size
    obtain ⟨fu, hfu⟩ : ∃ f, (JS.mk (j.apply ⟨rk, rs, ra, rb, rc⟩) t).full = f := ⟨_, rfl⟩
    have HFUE := hid hfu
    rw [hfu] at HFU
    clear HA T1 J1 S1 F1 hR1 hfu x0 x1 x2 x3 x4 c10
    go_wp2_with fail
    refine HFU.out.mono ?_
    rintro e w2 ⟨rfl, T2, J2, F2⟩
    have hR2 := (F2.block R (by omega) (fun h => h.2 rfl)).trans HR1.out
    have z0 : w2.cell? ⟨R, 0, none⟩ = some (.int .i64 (rk : Nat)) := cell_at hR2 0
    have z1 : w2.cell? ⟨R, 1, none⟩ = some (.int .u64 (rs : Nat)) := cell_at hR2 1
    have z2 : w2.cell? ⟨R, 2, none⟩ = some (.int .u64 (ra : Nat)) := cell_at hR2 2
    have z3 : w2.cell? ⟨R, 3, none⟩ = some (.int .u64 (rb : Nat)) := cell_at hR2 3
    have z4 : w2.cell? ⟨R, 4, none⟩ = some (.int .u64 (rc : Nat)) := cell_at hR2 4
    have hF2 := HF1.out.trans (F2.imp (fun i _ h => h.1))
    have S2 : JSt Q w2 J T ⟨j.apply ⟨rk, rs, ra, rb, rc⟩, t⟩ := JSt.more (Q' := fun i => Q i ∧ i ≠ R) ⟨T2, b, _, J2⟩ (fun i h => h.1) (fun i hi => HUP.out i (by have := F2.size; omega))
    have HF2 := hid hF2
    cases fu with
    | true =>
      have HCK := hid (jcheck_any S2 HC.out.tok hap1 (by have := HC.out.ops; dsimp only at *; omega) (by have := HC.out.seq; dsimp only at *; omega) (by have := HC.out.top; exact this) (by have := HC.out.room; dsimp only at *; omega))
      have HE := hid (show JS.note ⟨j, t⟩ ⟨rk, rs, ra, rb, rc⟩ = (JS.mk (j.apply ⟨rk, rs, ra, rb, rc⟩) t).checkpoint from by
        unfold JS.note; dsimp only; rw [if_neg (by rw [HBD.out]; decide), if_pos HFUE.out])
      clear T2 J2 F2 hR2 hF2 S2 hap1 hap2 hap3
      go_wp2_with fail
      refine HCK.out.mono ?_
      rintro e w3 ⟨rfl, S3, F3⟩
      go_wp2_with fail
      go_ret
      rw [HE.out]
      exact ⟨rfl, S3, HF2.out.trans F3⟩
    | false =>
      have HCK := hid (jput_any S2 HC.out.tok hap1 (by have := HC.out.ops; dsimp only at *; omega) ⟨rk, rs, ra, rb, rc⟩ HR.out (by show rs < _; rw [HRS.out]; omega) (not_full HFUE.out hap1.block) (by have := HC.out.seq; dsimp only at *; omega))
      have HE := hid (show JS.note ⟨j, t⟩ ⟨rk, rs, ra, rb, rc⟩ = (JS.mk (j.apply ⟨rk, rs, ra, rb, rc⟩) t).put ⟨rk, rs, ra, rb, rc⟩ from by
        unfold JS.note; dsimp only; rw [if_neg (by rw [HBD.out]; decide), if_neg (by rw [HFUE.out]; decide)])
      unfold Rec.val at HCK
      dsimp only at HCK
      clear T2 J2 F2 hR2 hF2 S2 hap1 hap2 hap3
      go_wp2_with fail
      refine HCK.out.mono ?_
      rintro e w3 ⟨rfl, S3, F3⟩
      go_wp2_with fail
      go_ret
      rw [HE.out]
      exact ⟨rfl, S3, HF2.out.trans F3⟩
  · have e1 : (bd != 0) = true := bne_iff_ne.2 hb
    have HE := hid (show JS.note ⟨j, t⟩ ⟨rk, rs, ra, rb, rc⟩ = (bd, ⟨j, t⟩) from by unfold JS.note; dsimp only; rw [HBD.out, if_pos hb])
    go_enter Try.func27, Try.ntmps27
    go_wp2_with fail
    go_ret
    rw [HE.out]
    exact ⟨rfl, ⟨HT0.out, b, _, HJ0.out⟩, HF0.out⟩
end
end Go.Proofs.Ytkdjefnnhanhhaa
/- Walks over journal: Set, Drop, Sync. -/
namespace Go.Proofs.Ytkdjefnnhanhhaa
open Go Go.RowKit Go.Mem Go.Jn
set_option linter.unusedVariables false

section
variable {Q : Nat → Prop} {w w' : World} {J T : Nat}
set_option maxRecDepth 100000 in
set_option maxHeartbeats 6400000 in
theorem jset_any {s : JS} (h : JSt Q w J T s) (hc : s.Can) (k v : Nat) (hk : k < 18446744073709551616) (hv : v < 18446744073709551616) :
    Calls Try.prog 14 #[.pointer (some ⟨J, 0, none⟩), .int .u64 (k : Nat), .int .u64 (v : Nat)] w fun e w' => e = .returned (.int .i64 (s.set k v).1) ∧ JSt Q w' J T (s.set k v).2 ∧ Off Q w w' := by
  have HN := hid (fun (W : World) (hb : Below w.heap.size w W) => jnote_any (h.below hb) hc ⟨1, 0, k, v, 0⟩ ⟨⟨by show 1 ≤ 1; omega, by show 1 ≤ 4; omega⟩, hk, hv, by show 0 < _; omega⟩ rfl)
  have HS := hid h
  obtain ⟨j, t⟩ := s
  have hfew := hc.few
  have hto := hc.tok
  obtain ⟨hT, b, rv, hJ⟩ := h
  dsimp only at hT hJ hfew hto
  have c1 := hJ.c1
  have c10 := hJ.c10
  have hl := hJ.mp.look2 tm_u64 hk
  have hlen := fun ty => hJ.mp.len tm_u64 ty
  have HRM := hid (room_any hT hJ hto)
  rw [show (Rec.val ⟨1, 0, k, v, 0⟩) = .agg #[.int .i64 1, .int .u64 0, .int .u64 (k : Nat), .int .u64 (v : Nat), .int .u64 0] from rfl] at HN
  obtain ⟨g, hg⟩ : ∃ g, getM j.m k = g := ⟨_, rfl⟩
  have HG := hid hg
  rw [hg] at hl
  obtain ⟨ml, hml⟩ : ∃ n, j.m.length = n := ⟨_, rfl⟩
  have HML := hid hml
  rw [hml] at hlen hfew
  obtain ⟨rm, hrm⟩ : ∃ n, t.room = n := ⟨_, rfl⟩
  have HR := hid hrm
  rw [hrm] at HRM
  obtain ⟨bd, hbd⟩ : ∃ n, j.bad = n := ⟨_, rfl⟩
  have HBD := hid hbd
  rw [hbd] at c10
  have HSE := hid (show JS.set ⟨j, t⟩ k v = if g.isSome = false ∧ rm ≤ ml ∧ bd = 0 then (90, ⟨j, t⟩) else JS.note ⟨j, t⟩ ⟨1, 0, k, v, 0⟩ from by unfold JS.set; dsimp only; rw [hg, hml, hrm, hbd])
  clear hT hg hml hrm hbd hc hto
  cases g with
  | some x =>
    have HE := hid (HSE.out.trans (if_neg (fun h => by cases h.1)))
    simp only [Option.getD_some, Option.isSome_some] at hl
    have HN0 := hid (HN.out w (Below.refl _ _))
    clear HSE
    go_enter Try.func14, Try.ntmps14
    go_wp2_with fail
    refine HN0.out.mono ?_
    rintro e w3 ⟨rfl, S3, F3⟩
    go_wp2_with fail
    go_ret
    rw [HE.out]
    exact ⟨rfl, S3, F3⟩
  | none =>
    simp only [Option.getD_none, Option.isSome_none] at hl
    rw [show ((0 : Nat) : Int) = 0 from rfl] at hl
    by_cases hfull : rm ≤ ml
    · have d1 : (rm : Int) ≤ (ml : Int) := by omega
      by_cases hb0 : bd = 0
      · have HE := hid (HSE.out.trans (if_pos ⟨rfl, hfull, hb0⟩))
        subst hb0
        clear HSE hfull HN
        go_enter Try.func14, Try.ntmps14
        go_wp2_with fail
        refine HRM.out.mono ?_
        rintro e w1 ⟨rfl, n, rfl⟩
        go_wp2_with fail
        go_ret
        rw [HE.out]
        exact ⟨rfl, HS.out.below ((Below.refl _ _).drewN n), (Off.refl _ _).drewN n⟩
      · have HE := hid (HSE.out.trans (if_neg (fun h => hb0 h.2.2)))
        have e1 : (bd == 0) = false := beq_eq_false_iff_ne.2 hb0
        clear HSE hfull hb0
        go_enter Try.func14, Try.ntmps14
        go_wp2_with fail
        refine HRM.out.mono ?_
        rintro e w1 ⟨rfl, n, rfl⟩
        have HN0 := hid (HN.out (w.drewN n) ((Below.refl _ _).drewN n))
        go_wp2_with fail
        refine HN0.out.mono ?_
        rintro e w3 ⟨rfl, S3, F3⟩
        go_wp2_with fail
        go_ret
        rw [HE.out]
        exact ⟨rfl, S3, ((Off.refl _ _).drewN n).trans F3⟩
    · have d1 : ¬ (rm : Int) ≤ (ml : Int) := by omega
      have HE := hid (HSE.out.trans (if_neg (fun h => hfull h.2.1)))
      clear HSE hfull
      go_enter Try.func14, Try.ntmps14
      go_wp2_with fail
      refine HRM.out.mono ?_
      rintro e w1 ⟨rfl, n, rfl⟩
      have HN0 := hid (HN.out (w.drewN n) ((Below.refl _ _).drewN n))
      go_wp2_with fail
      refine HN0.out.mono ?_
      rintro e w3 ⟨rfl, S3, F3⟩
      go_wp2_with fail
      go_ret
      rw [HE.out]
      exact ⟨rfl, S3, ((Off.refl _ _).drewN n).trans F3⟩
set_option maxRecDepth 100000 in
set_option maxHeartbeats 6400000 in
theorem jdrop_any {s : JS} (h : JSt Q w J T s) (hc : s.Can) (k : Nat) (hk : k < 18446744073709551616) :
    Calls Try.prog 33 #[.pointer (some ⟨J, 0, none⟩), .int .u64 (k : Nat)] w fun e w' => e = .returned (.int .i64 (s.drop k).1) ∧ JSt Q w' J T (s.drop k).2 ∧ Off Q w w' := by
  have HN := hid (jnote_any h hc ⟨2, 0, k, 0, 0⟩ ⟨⟨by show 1 ≤ 2; omega, by show 2 ≤ 4; omega⟩, hk, by show 0 < _; omega, by show 0 < _; omega⟩ rfl)
  have HS := hid h
  obtain ⟨j, t⟩ := s
  obtain ⟨hT, b, rv, hJ⟩ := h
  dsimp only at hT hJ
  have c1 := hJ.c1
  have c10 := hJ.c10
  have hl := hJ.mp.look2 tm_u64 hk
  rw [show (Rec.val ⟨2, 0, k, 0, 0⟩) = .agg #[.int .i64 2, .int .u64 0, .int .u64 (k : Nat), .int .u64 0, .int .u64 0] from rfl] at HN
  obtain ⟨g, hg⟩ : ∃ g, getM j.m k = g := ⟨_, rfl⟩
  rw [hg] at hl
  obtain ⟨bd, hbd⟩ : ∃ n, j.bad = n := ⟨_, rfl⟩
  have HBD := hid hbd
  rw [hbd] at c10
  have HSE := hid (show JS.drop ⟨j, t⟩ k = if g.isSome = false ∧ bd = 0 then (70, ⟨j, t⟩) else JS.note ⟨j, t⟩ ⟨2, 0, k, 0, 0⟩ from by unfold JS.drop; dsimp only; rw [hg, hbd])
  clear hT hg hbd hc
  cases g with
  | some x =>
    have HE := hid (HSE.out.trans (if_neg (fun h => by cases h.1)))
    simp only [Option.getD_some, Option.isSome_some] at hl
    clear HSE
    go_enter Try.func33, Try.ntmps33
    go_wp2_with fail
    refine HN.out.mono ?_
    rintro e w3 ⟨rfl, S3, F3⟩
    go_wp2_with fail
    go_ret
    rw [HE.out]
    exact ⟨rfl, S3, F3⟩
  | none =>
    simp only [Option.getD_none, Option.isSome_none] at hl
    rw [show ((0 : Nat) : Int) = 0 from rfl] at hl
    by_cases hb0 : bd = 0
    · have HE := hid (HSE.out.trans (if_pos ⟨rfl, hb0⟩))
      subst hb0
      clear HSE HN
      go_enter Try.func33, Try.ntmps33
      go_wp2_with fail
      go_ret
      rw [HE.out]
      exact ⟨rfl, HS.out, Off.refl _ _⟩
    · have HE := hid (HSE.out.trans (if_neg (fun h => hb0 h.2)))
      have e1 : (bd == 0) = false := beq_eq_false_iff_ne.2 hb0
      clear HSE hb0
      go_enter Try.func33, Try.ntmps33
      go_wp2_with fail
      refine HN.out.mono ?_
      rintro e w3 ⟨rfl, S3, F3⟩
      go_wp2_with fail
      go_ret
      rw [HE.out]
      exact ⟨rfl, S3, F3⟩
set_option maxRecDepth 100000 in
set_option maxHeartbeats 6400000 in
theorem jsync_any {s : JS} (h : JSt Q w J T s) (hc : s.Can) :
    Calls Try.prog 15 #[.pointer (some ⟨J, 0, none⟩)] w fun e w' => e = .returned (.int .i64 s.sync.1) ∧ JSt Q w' J T s.sync.2 ∧ Off Q w w' := by
  have hrm := hc.room
  have HCK := hid (jcheck_any h hc.tok hc.ok (by have := hc.ops; omega) (by have := hc.seq; omega) hc.top (by omega))
  have HFL := hid (jflush_any h hc.tok hc.ok (by have := hc.ops; omega))
  have HS := hid h
  have hgb := hc.ok.gen
  obtain ⟨j, t⟩ := s
  obtain ⟨hT, b, rv, hJ⟩ := h
  dsimp only at hT hJ hgb
  have c2 := hJ.c2
  have c9 := hJ.c9
  have c10 := hJ.c10
  obtain ⟨gn, hgn⟩ : ∃ n, j.gen = n := ⟨_, rfl⟩
  rw [hgn] at c2 hgb
  obtain ⟨lt, hlt⟩ : ∃ n, j.late = n := ⟨_, rfl⟩
  rw [hlt] at c9
  obtain ⟨bd, hbd⟩ : ∃ n, j.bad = n := ⟨_, rfl⟩
  rw [hbd] at c10
  have HSE := hid (show JS.sync ⟨j, t⟩ = if bd ≠ 0 then (bd, ⟨j, t⟩) else if gn = 0 ∨ lt = true then JS.checkpoint ⟨j, t⟩ else JS.flush ⟨j, t⟩ from by unfold JS.sync; dsimp only; rw [hbd, hgn, hlt])
  clear hT hgn hlt hbd hc hrm
  by_cases hb0 : bd = 0
  · subst hb0
    have HSE2 := hid (HSE.out.trans (if_neg (fun h => h rfl)))
    clear HSE
    by_cases hg0 : gn = 0
    · have HE := hid (HSE2.out.trans (if_pos (.inl hg0)))
      subst hg0
      rw [show ((0 : Nat) : Int) = 0 from rfl] at c2
      clear HSE2 HFL
      go_enter Try.func15, Try.ntmps15
      go_wp2_with fail
      refine HCK.out.mono ?_
      rintro e w3 ⟨rfl, S3, F3⟩
      go_wp2_with fail
      go_ret
      rw [HE.out]
      exact ⟨rfl, S3, F3⟩
    · have e1 : ((gn : Int) == 0) = false := beq_eq_false_iff_ne.2 (by omega)
      cases lt with
      | true =>
        have HE := hid (HSE2.out.trans (if_pos (.inr rfl)))
        clear HSE2 HFL hg0
        go_enter Try.func15, Try.ntmps15
        go_wp2_with fail
        refine HCK.out.mono ?_
        rintro e w3 ⟨rfl, S3, F3⟩
        go_wp2_with fail
        go_ret
        rw [HE.out]
        exact ⟨rfl, S3, F3⟩
      | false =>
        have HE := hid (HSE2.out.trans (if_neg (fun h => by rcases h with h | h; exact hg0 h; cases h)))
        clear HSE2 HCK hg0
        go_enter Try.func15, Try.ntmps15
        go_wp2_with fail
        refine HFL.out.mono ?_
        rintro e w3 ⟨rfl, S3, F3⟩
        go_wp2_with fail
        go_ret
        rw [HE.out]
        exact ⟨rfl, S3, F3⟩
  · have e1 : (bd != 0) = true := bne_iff_ne.2 hb0
    have HE := hid (HSE.out.trans (if_pos hb0))
    clear HSE HCK HFL hb0
    go_enter Try.func15, Try.ntmps15
    go_wp2_with fail
    go_ret
    rw [HE.out]
    exact ⟨rfl, HS.out, Off.refl _ _⟩
end
end Go.Proofs.Ytkdjefnnhanhhaa
/- journal.All: keys and values, one by one. -/
namespace Go.Proofs.Ytkdjefnnhanhhaa
open Go Go.RowKit Go.Mem Go.Jn Go.Shelf
set_option linter.unusedVariables false

/-- What a round of the caller may turn: the blocks of X. -/
structure KpX (n0 : Nat) (X : Nat → Prop) (W W' : World) : Prop where
  size : W.heap.size ≤ W'.heap.size
  old : ∀ j, j < n0 → ¬ X j → W'.heap[j]? = W.heap[j]?
  same : ∀ j cs t fz, W.heap[j]? = some (.cells cs t fz) → ¬ X j → W'.heap[j]? = some (.cells cs t fz)
theorem KpX.trans {n0 : Nat} {X : Nat → Prop} {A B C : World} (h : KpX n0 X A B) (k : KpX n0 X B C) : KpX n0 X A C :=
  ⟨Nat.le_trans h.size k.size, fun j hj hx => (k.old j hj hx).trans (h.old j hj hx), fun j cs t fz hj hx => k.same j cs t fz (h.same j cs t fz hj hx) hx⟩
theorem KpX.putObj {n0 : Nat} {X : Nat → Prop} {W : World} {l : Nat} {o : Obj} (o' : Obj) (hl : W.heap[l]? = some o) (ho : o.isCells = false) (hn : n0 ≤ l) : KpX n0 X W (W.putObj l o') :=
  ⟨(grownBy_putObj' W l o').size, fun j hj _ => World.putObj_heap_other (by omega), fun j cs t fz hj _ => (World.putObj_heap_other (fun e => by subst e; rw [hj] at hl; cases hl; cases ho)).trans hj⟩
theorem KpX.below {n0 : Nat} {X : Nat → Prop} {W W' : World} (hb : Below W.heap.size W W') (hn : n0 ≤ W.heap.size) : KpX n0 X W W' :=
  ⟨hb.size, fun j hj _ => hb.block j (by omega), fun j cs t fz hj _ => (hb.block j (lt_at hj)).trans hj⟩
theorem KpX.set {n0 : Nat} {X : Nat → Prop} {W : World} {p : Addr} (hp : X p.block) (v : Value) : KpX n0 X W (W.setCell p v) :=
  ⟨by simp, fun j _ hx => set_other (fun e => hx (by rw [e]; exact hp)), fun j cs t fz hj hx => (set_other (fun e => hx (by rw [e]; exact hp))).trans hj⟩

set_option maxHeartbeats 1000000 in
theorem jall_any (J : Nat) (w : World) :
    Calls Try.prog 17 #[.pointer (some ⟨J, 0, none⟩)] w fun e w' => e = .returned (.func (.func 30) #[] #[.pointer (some ⟨w.heap.size, 0, none⟩)]) ∧ w' = w.alloc (.cells #[.pointer (some ⟨J, 0, none⟩)] 31) := by
  go_enter Try.func17, Try.ntmps17
  go_wp2_with fail
  go_ret
  exact ⟨rfl, rfl⟩
theorem own_kept' {B : Nat} {w w' : World} {v : Value} {xs : List Nat} (h : Mem.Own .u64 38 B w v xs) (hw : ∀ g cu, w.heap[g]? = some (.cells cu 38 (0, 0)) → v.ownBlock = some g → w'.heap[g]? = some (.cells cu 38 (0, 0))) : Mem.Own .u64 38 B w' v xs := by
  refine ⟨h.1, ?_⟩
  rcases h.2 with h' | ⟨g, cap, cur, rfl, h1, h2, h3⟩
  · exact .inl h'
  · exact .inr ⟨g, cap, cur, rfl, h1, hw g _ h2 rfl, h3⟩
def kvE (M : MM) (i : Nat) : Array Value := #[.int .u64 ((M.getD i (0, 0)).1 : Nat), .int .u64 ((M.getD i (0, 0)).2 : Nat)]
def idxOf : Value → Nat | .int _ n => n.toNat | _ => 0
set_option maxRecDepth 100000 in
set_option maxHeartbeats 3200000 in
theorem jall1_in (n : Nat) (hn : 1 ≤ n) (l Bj J b n0 : Nat) (X : Nat → Prop) (M : MM) (hM : M.length ≤ 60000) (Jv Jx : List Nat → World → Prop)
    (hY : ∀ pre x W, Jv pre W → pre.length < M.length → YieldAt Fence.wide (n - 1) Try.prog l (kvE M x) W fun e W' =>
      (e = .returned (.bool true) ∧ Jv (pre ++ [x]) W' ∧ KpX n0 X W W') ∨ (e = .returned (.bool false) ∧ Jx (pre ++ [x]) W'))
    (W : World) (hJ : AbidesFrom W.heap.size Jv) (hB : W.cell? ⟨Bj, 0, none⟩ = some (.pointer (some ⟨J, 0, none⟩))) (hJ1 : W.cell? ⟨J, 1, none⟩ = some (.map (some b))) (hmp : MAt Try.prog 38 38 W b M)
    (hn0 : n0 ≤ W.heap.size) (hl : Bj < n0 ∧ J < n0 ∧ b < n0) (hx : ¬ X Bj ∧ ¬ X J ∧ ¬ X b) (hxn : ∀ j, W.heap.size ≤ j → ¬ X j) (h0 : Jv [] W) :
    CallsIn Fence.wide n Try.prog 30 #[.func (.yield l) #[] #[], .pointer (some ⟨Bj, 0, none⟩)] W fun e W' => (∃ v, e = .returned v) ∧ ((∃ ys, ys = List.range M.length ∧ Jv ys W') ∨ (∃ pre, pre <+: List.range M.length ∧ Jx pre W')) := by
  have HY := hid hY
  have HJ := hid hJ
  have HX := hid hx
  have HXN := hid hxn
  have HL := hid hl
  have HN0 := hid hn0
  have HMP := hid hmp
  have hfit := hmp.2
  clear hY hJ hx hxn hl
  have HK := hid (keysM_any b W)
  have hb8 : Below W.heap.size W (W.alloc (.cells #[.map (some b)] 44)) := (Below.refl _ _).alloc (Nat.le_refl _) _
  have HSD := hid (sortedM_any M hM W.heap.size b (W.alloc (.cells #[.map (some b)] 44)) (by simp) (by rw [cell_at (alloc_new _ _)]; rfl) (hmp.below hb8))
  have HB8 := hid hb8
  clear hmp hb8 hn0
  refine callsIn_of_wp Try.func30 rfl trivial ?_ rfl
  simp only [Try.ntmps30, List.size_toArray, List.length_cons, List.length_nil, Nat.reduceAdd, Nat.reduceSub, Array.replicate_succ, Array.replicate_zero, List.push_toArray, List.append_toArray, List.nil_append, List.cons_append]
  gi_wp2_with fail
  refine ⟨trivial, ?_⟩
  refine (callsIn_wide.2 HK.out).mono ?_
  rintro e w1 ⟨rfl, rfl⟩
  gi_wp2_with fail
  refine ⟨trivial, ?_⟩
  refine (callsIn_wide.2 HSD.out).mono ?_
  rintro e w9 ⟨⟨kv, rfl, hkv⟩, hb9⟩
  have hB9 : Below W.heap.size W w9 := HB8.out.comp hb9
  have hlen : (keysM M).length = M.length := by simp [keysM]
  obtain ⟨ka, kc, hkf⟩ : ∃ a c, kv = .slice a M.length c := by obtain ⟨a, c, e, _⟩ := hkv.rd; exact ⟨a, c, by rw [e, hlen]⟩
  have HB9 := hid hB9
  have HJ9 := hid (HJ.out [] W w9 none h0 (hB9.toGrown none) (fun r e => by cases e))
  subst hkf
  have HKV := hid hkv
  obtain ⟨N, hN⟩ : ∃ N, M.length = N := ⟨_, rfl⟩
  have HN := hid hN
  rw [hN] at hM
  rw [hN] at hkv HKV ⊢
  have hcap := hkv.rd.caps
  clear hB9 hlen hkv hb9 h0 hN HK HSD HB8
  gi_wp2_with fail
  gi_loopw [14] (fun vi wr => ∃ I : Nat, vi = .int .i64 (I : Nat) ∧ I ≤ N ∧ Jv (List.range I) wr ∧ W.heap.size ≤ wr.heap.size ∧ wr.cell? ⟨Bj, 0, none⟩ = some (.pointer (some ⟨J, 0, none⟩)) ∧ wr.cell? ⟨J, 1, none⟩ = some (.map (some b)) ∧ MAt Try.prog 38 38 wr b M ∧ Mem.Own .u64 38 W.heap.size wr (.slice ka N kc) (keysM M))
    (fun vi wr => N - idxOf vi)
  case atStart =>
    have hb := HB9.out
    exact ⟨0, rfl, Nat.zero_le _, HJ9.out, hb.size, (hb.cell (p := ⟨Bj, 0, none⟩) (by have := HL.out.1; have := HN0.out; show Bj < _; omega)).trans hB, (hb.cell (p := ⟨J, 0 + 1, none⟩) (by have := HL.out.2.1; have := HN0.out; show J < _; omega)).trans hJ1, HMP.out.below hb, Mem.Own.mono HKV.out (by simp)⟩
  case round =>
    obtain ⟨I, rfl, hIN, hJI, hsz, q1, q2, hmp, hkv⟩ := hrel
    clear hB hJ1
    by_cases hlt : I < N
    · have i1 : (I : Int) < (N : Int) := by omega
      have hIm : I < M.length := by rw [HN.out]; exact hlt
      obtain ⟨p, hp⟩ : ∃ p, M[I]? = some p := ⟨_, List.getElem?_eq_getElem hIm⟩
      have hgd : M.getD I (0, 0) = p := by simp [List.getD, hp]
      have hpf := hfit.2 p (List.mem_of_getElem? hp)
      have hlk := hmp.look tm_u64 hpf.1
      rw [getM_at hfit.1 hp, Option.getD_some] at hlk
      obtain ⟨g, hka⟩ : ∃ g, ka = some ⟨g, 0, none⟩ := by
        rcases hkv.2 with ⟨_, h0⟩ | ⟨g, _, _, e, _⟩
        · simp [keysM] at h0; rw [h0] at hIm; simp at hIm
        · cases e; exact ⟨g, rfl⟩
      subst hka
      have hk := hkv.rd.atc (j := I) (by simp [keysM]; exact hIm)
      rw [show (keysM M).getD I 0 = p.1 from by simp [keysM, List.getD, hp]] at hk
      rw [Nat.zero_add] at hk
      have hYI := HY.out (List.range I) I wr hJI (by rw [List.length_range]; exact hIm)
      unfold kvE at hYI
      rw [hgd] at hYI
      obtain ⟨fn, tmps, assign, body, hy, hR⟩ := hYI
      have HR := hid hR
      have HMPr := hid hmp
      have HKr := hid hkv
      have HQ1 := hid q1
      have HQ2 := hid q2
      have HSZ := hid hsz
      have hcap2 := hkv.rd.caps
      clear hR hmp hkv hp hgd hpf hIm hcap hfit hJI
      gi_wp2_with fail
      refine HR.out.mono ?_
      rintro e W3 (⟨rfl, hJ3, hk3⟩ | ⟨rfl, hJx3⟩)
      · have hs3 := hk3.size
        have HSZ2 := hid (show W.heap.size ≤ W3.heap.size by omega)
        have HB3 := hid (hk3.old Bj HL.out.1 HX.out.1)
        have HJJ3 := hid (hk3.old J HL.out.2.1 HX.out.2.1)
        have HBB3 := hid (hk3.old b HL.out.2.2 HX.out.2.2)
        have HKV3 := hid (own_kept' HKr.out (fun g' cu hg e => hk3.same g' _ _ _ hg (HXN.out g' (by rcases HKr.out.2 with ⟨e', _⟩ | ⟨g'', _, _, e', h2, _⟩; rw [e'] at e; cases e; rw [e'] at e; cases e; exact h2))))
        have HJ3 := hid hJ3
        clear hk3 hJ3
        gi_wp2_with fail
        go_roundw
        case measure => simp only [idxOf]; omega
        case rel =>
          refine ⟨I + 1, by go_num, by omega, ?_, HSZ2.out, (World.cell?_of_block (a := ⟨Bj, 0, none⟩) HB3.out).trans HQ1.out, (World.cell?_of_block (a := ⟨J, 1, none⟩) HJJ3.out).trans HQ2.out, HMPr.out.same HBB3.out, HKV3.out⟩
          rw [List.range_succ]; exact HJ3.out
      · have HJX := hid hJx3
        clear hJx3
        gi_wp2_with fail
        refine bodyPost_ret (results_none rfl _ _ _) rfl ?_
        refine ⟨⟨_, rfl⟩, .inr ⟨_, ?_, HJX.out⟩⟩
        rw [← List.range_succ]
        exact ⟨(List.range (N - (I + 1))).map (fun i => (I + 1) + i), by rw [← List.range_add]; congr 1; have := HN.out; omega⟩
    · obtain rfl : I = N := by omega
      have HJI := hid hJI
      clear hJI hmp hkv
      gi_wp2_with fail
      first | go_end0 | (refine bodyPost_ret (results_none rfl _ _ _) rfl ?_)
      exact ⟨⟨_, rfl⟩, .inl ⟨_, by rw [HN.out], HJI.out⟩⟩
end Go.Proofs.Ytkdjefnnhanhhaa
