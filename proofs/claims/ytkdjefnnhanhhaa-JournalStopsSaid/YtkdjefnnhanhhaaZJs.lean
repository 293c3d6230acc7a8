/- Walks over journal: put, flush. -/
import Derived.Test.YtkdjefnnhanhhaaZJr
import Derived.Deep.CutBlock
import Derived.Deep.AppendLies
set_option linter.unusedVariables false
namespace Go.Proofs.Ytkdjefnnhanhhaa
open Go Go.RowKit Go.Mem Go.Jn
set_option linter.unusedVariables false

theorem next_rows (j : Jo) (p : Nat) (h : j.rows.length ≤ p) (h1 : 0 < p) : (j.next p).rows.length < p := by
  unfold Jo.next
  split
  · exact h1
  · omega
theorem push_ok {j : Jo} {t : Tp} {r : Rec} (hj : j.Ok t) (ht : t.Ok) (hroom : j.rows.length = t.per → j.block + 1 < t.sz) (hr : (1 ≤ r.kind ∧ r.kind ≤ 4) ∧ r.a < 18446744073709551616 ∧ r.b < 18446744073709551616 ∧ r.c < 18446744073709551616) (hs : j.seq + 1 < 1000000000000000000) : (j.push r t.per).Ok t := by
  have hp := ht.per
  have hn := next_rows j t.per hj.rows (by omega)
  have hb : (j.next t.per).block < t.sz := by
    unfold Jo.next
    split
    · exact hroom (by assumption)
    · exact hj.block
  have hf : ∀ r ∈ (j.next t.per).rows, r.Fit := by
    unfold Jo.next
    split
    · intro r hr; cases hr
    · exact hj.rfit
  have e : ∀ {α : Type} (f : Jo → α), f (j.next t.per) = f (j.next t.per) := fun f => rfl
  have k1 : (j.next t.per).m = j.m := by unfold Jo.next; split <;> rfl
  have k2 : (j.next t.per).gen = j.gen := by unfold Jo.next; split <;> rfl
  have k3 : (j.next t.per).top = j.top := by unfold Jo.next; split <;> rfl
  have k4 : (j.next t.per).area = j.area := by unfold Jo.next; split <;> rfl
  have k5 : (j.next t.per).bad = j.bad := by unfold Jo.next; split <;> rfl
  exact {
    fit := by show FitM (j.next t.per).m; rw [k1]; exact hj.fit
    few := by show (j.next t.per).m.length ≤ _; rw [k1]; exact hj.few
    gen := by show (j.next t.per).gen < _; rw [k2]; exact hj.gen
    top := by show (j.next t.per).top < _; rw [k3]; exact hj.top
    area := by show (j.next t.per).area ≤ _; rw [k4]; exact hj.area
    block := hb
    rows := by show ((j.next t.per).rows ++ [_]).length ≤ _; rw [List.length_append, List.length_singleton]; exact hn
    rfit := fun q hq => by
      rcases List.mem_append.1 hq with hq | hq
      · exact hf q hq
      · rw [List.mem_singleton.1 hq]
        refine ⟨hr.1, fun i => ?_⟩
        match i with
        | 0 => show j.seq + 1 < _; omega
        | 1 => exact hr.2.1
        | 2 => exact hr.2.2.1
        | _ + 3 => exact hr.2.2.2
    seq := hs
    bad := by show (j.next t.per).bad = 0 ∨ (j.next t.per).bad = 40; rw [k5]; exact hj.bad }
section
variable {Q : Nat → Prop} {w w5 : World} {J T b : Nat} {j : Jo} {t : Tp} {rv : Value}
/-- A row more. -/
theorem JAtC.pushd (h : JAtC Q w J T j b rv) {r : Rec} {g5 cap5 : Nat} (hown : w5.ownsRow 0 74 5 (.slice (some ⟨g5, 0, none⟩) (j.rows.length + 1) cap5) (j.rows.length + 1) (j.rows.flatMap Rec.cells ++ r.cells))
    (hg : w.grownBy w5 rv.ownBlock) (hat : rv.ownBlock = some g5 ∨ Q g5) : JAtC Q (w5.setCell ⟨J, 6, none⟩ (.slice (some ⟨g5, 0, none⟩) (j.rows.length + 1) cap5)) J T { j with rows := j.rows ++ [r] } b (.slice (some ⟨g5, 0, none⟩) (j.rows.length + 1) cap5) := by
  have hJ5 : w5.heap[J]? = some (.cells (j.cells T b rv) 65 (0, 0)) := (hg.block J (lt_at h.hp) (fun e => h.rJ e.symm)).trans h.hp
  have hb5 : w5.heap[b]? = w.heap[b]? := hg.block b h.mp.lt (fun e => h.rb e.symm)
  have hro : ORec 0 w5 (.slice (some ⟨g5, 0, none⟩) (j.rows.length + 1) cap5) (j.rows ++ [r]) := by
    unfold ORec
    rw [List.length_append, List.length_singleton, List.flatMap_append, List.flatMap_singleton]
    exact hown
  exact {
    hp := by have := set_at hJ5 6 (.slice (some ⟨g5, 0, none⟩) (j.rows.length + 1) cap5); exact this
    mp := (h.mp.same hb5).setCell (a := ⟨J, 6, none⟩) h.bJ _
    ro := orec_kept hro (fun i cs t fz hh e => (set_other (a := ⟨J, 6, none⟩) (fun e' => by
      rcases orec_own hro with e2 | ⟨g', cu, e2, hg⟩
      · rw [e2] at e; cases e
      · rw [e2] at e; cases e; exact ty_ne hg hJ5 (by decide) e')).trans hh)
    qj := h.qj
    qb := h.qb
    qr := fun g e => by
      obtain rfl : g5 = g := Option.some.inj e
      rcases hat with e | e
      · exact h.qr _ e
      · exact e }
theorem TapeAt.grownR (hT : TapeAt Q w T t) (h : JAtC Q w J T j b rv) (hg : w.grownBy w5 rv.ownBlock) : TapeAt Q w5 T t :=
  hT.shiftT (fun i cs tt fz ht hq hh => ⟨(hg.block i (lt_at hh) (fun e => by
    rcases orec_own h.ro with e' | ⟨g', cu, e', hg'⟩
    · rw [e'] at e; cases e
    · rw [e'] at e; cases e; exact ty_ne hh hg' (fun e => by subst e; revert ht; unfold TT; decide) rfl)).trans hh, hq⟩) (fun i hi => hT.upq i (Nat.le_trans hg.size hi))
theorem TapeAt.setK (hT : TapeAt Q w T t) {c : Array Value} {ty : TypeId} {fz : Nat × Nat} (hJ : w.heap[J]? = some (.cells c ty fz)) (hty : ¬ TT ty) (k : Nat) (v : Value) : TapeAt Q (w.setCell ⟨J, k, none⟩ v) T t :=
  hT.shiftT (fun i cs tt fz ht hq hh => ⟨(set_other (a := ⟨J, k, none⟩) (ty_ne hh hJ (fun e => by subst e; exact hty ht))).trans hh, hq⟩) (fun i hi => hT.upq i (by simpa using hi))
theorem JAtC.setK (h : JAtC Q w J T j b rv) {R : Nat} (hJ : R ≠ J) (hb : R ≠ b) (hr : rv.ownBlock ≠ some R) (k : Nat) (v : Value) : JAtC Q (w.setCell ⟨R, k, none⟩ v) J T j b rv :=
  h.shift (fun i hi h' => ⟨set_other (a := ⟨R, k, none⟩) (fun e => by
    rcases h' with rfl | rfl | h'
    · exact hJ e.symm
    · exact hb e.symm
    · rw [e] at h'; exact hr h'), by
    rcases h' with rfl | rfl | h'
    · exact h.qj
    · exact h.qb
    · exact h.qr _ h'⟩)
set_option maxRecDepth 100000 in
set_option maxHeartbeats 6400000 in
theorem jput_any {s : JS} (h : JSt Q w J T s) (ho : s.t.Ok) (hj : s.j.Ok s.t) (hops : s.t.ops < 5000000000000) (r : Rec) (hr : (1 ≤ r.kind ∧ r.kind ≤ 4) ∧ r.a < 18446744073709551616 ∧ r.b < 18446744073709551616 ∧ r.c < 18446744073709551616) (hr0 : r.seq < 18446744073709551616)
    (hroom : s.j.rows.length = s.t.per → s.j.block + 1 < s.t.sz) (hsq : s.j.seq + 1 < 1000000000000000000) :
    Calls Try.prog 39 #[.pointer (some ⟨J, 0, none⟩), r.val] w fun e w' => e = .returned (.int .i64 (s.put r).1) ∧ JSt Q w' J T (s.put r).2 ∧ Off Q w w' := by
  obtain ⟨hT, b, rv, hJ⟩ := h
  obtain ⟨j, t⟩ := s
  dsimp only at hT hJ ho hj hops hroom hsq
  have HPO := hid (push_ok hj ho hroom hr hsq)
  have HNR := hid (next_rows j t.per hj.rows (by have := ho.per; omega))
  obtain ⟨rk, rs, ra, rb, rc⟩ := r
  obtain ⟨W0, hW0⟩ : ∃ W, w.alloc (.cells #[.int .i64 (rk : Nat), .int .u64 (rs : Nat), .int .u64 (ra : Nat), .int .u64 (rb : Nat), .int .u64 (rc : Nat)] 74) = W := ⟨_, rfl⟩
  obtain ⟨R, hR⟩ : ∃ R, w.heap.size = R := ⟨_, rfl⟩
  have hb0 : Below w.heap.size w W0 := by rw [← hW0]; exact (Below.refl _ _).alloc (Nat.le_refl _) _
  have hr0' : W0.heap[R]? = some (.cells #[.int .i64 (rk : Nat), .int .u64 (rs : Nat), .int .u64 (ra : Nat), .int .u64 (rb : Nat), .int .u64 (rc : Nat)] 74 (0, 0)) := by rw [← hW0, ← hR]; exact alloc_new _ _
  have hRJ : R ≠ J := by have := lt_at hJ.hp; omega
  have hRb : R ≠ b := by have := hJ.mp.lt; omega
  have hRr : rv.ownBlock ≠ some R := fun e => by
    rcases orec_own hJ.ro with e' | ⟨g', cu, e', hg⟩
    · rw [e'] at e; cases e
    · rw [e'] at e; cases e; have := lt_at hg; omega
  have hT0 := hT.below hb0
  have hJ0 := hJ.below hb0
  have c7 := hJ0.c7
  have f7 := hJ0.ff 7
  obtain ⟨js, hjs⟩ : ∃ n, j.seq = n := ⟨_, rfl⟩
  have HJS := hid hjs
  -- the number, told in the journal and in the record
  have hJ1 := hJ0.headS (j' := { j with seq := js + 1 }) 7 (.int .u64 ((js + 1 : Nat) : Int)) rfl rfl rfl
  have hT1 := hT0.setJ hJ0 7 (.int .u64 ((js + 1 : Nat) : Int))
  have hr1 := (set_other (a := ⟨J, 7, none⟩) (v := .int .u64 ((js + 1 : Nat) : Int)) (w := W0) hRJ).trans hr0'
  have hJ2 := hJ1.setK hRJ hRb hRr 1 (.int .u64 ((js + 1 : Nat) : Int))
  have hT2 := hT1.setK hr1 (by unfold TT; decide) 1 (.int .u64 ((js + 1 : Nat) : Int))
  have hr2 := set_at hr1 1 (.int .u64 ((js + 1 : Nat) : Int))
  have hF2 : Off Q w ((W0.setCell ⟨J, 7, none⟩ (.int .u64 ((js + 1 : Nat) : Int))).setCell ⟨R, 1, none⟩ (.int .u64 ((js + 1 : Nat) : Int))) := ((Off.of_below hb0).setCell (p := ⟨J, 7, none⟩) hJ.qj _).setCell (p := ⟨R, 1, none⟩) (hT.upq R (by omega)) _
  have d7 := hJ1.c7
  have f1 := free_at hr1 1
  have g1 := cell_at hr1 1
  simp only [List.setIfInBounds_toArray, List.set_cons_succ, List.set_cons_zero] at hr2
  obtain ⟨W2, hW2⟩ : ∃ W, (W0.setCell ⟨J, 7, none⟩ (.int .u64 ((js + 1 : Nat) : Int))).setCell ⟨R, 1, none⟩ (.int .u64 ((js + 1 : Nat) : Int)) = W := ⟨_, rfl⟩
  rw [hW2] at hJ2 hT2 hr2 hF2
  have hW2' : (W0.setCell ⟨J, 7, none⟩ (.int .u64 ((js : Int) + 1))).setCell ⟨R, 1, none⟩ (.int .u64 ((js : Int) + 1)) = W2 := by rw [← hW2]; rfl
  rw [hjs] at c7 hsq
  rw [show ((js + 1 : Nat) : Int) = (js : Int) + 1 from rfl] at d7 f1 g1
  have c6 := hJ2.c6
  have c0 := hJ2.st
  obtain ⟨av, cv, hrv⟩ := orec_form hJ.ro
  rw [hrv] at c6
  obtain ⟨rn, hrn⟩ : ∃ n, j.rows.length = n := ⟨_, rfl⟩
  obtain ⟨pr, hpr⟩ : ∃ n, t.per = n := ⟨_, rfl⟩
  have HRN := hid hrn
  have HPR := hid hpr
  have HRV := hid hrv
  rw [hrn] at c6 hroom
  rw [hpr] at hroom
  have HP := hid (fun n => jper_any (hT2.below ((Below.refl _ _).drewN n)) ho)
  unfold ifT at HP
  rw [hpr] at HP
  have hpb := ho.per
  rw [hpr] at hpb
  have hrb := hj.rows
  rw [hrn, hpr] at hrb
  have HJ2 := hid hJ2
  have HT2 := hid hT2
  have HR2 := hid hr2
  have HF2 := hid hF2
  have HO := hid ho
  have HJO := hid hj
  have HOPS := hid hops
  have HRM := hid hroom
  have hblk := hj.block
  have hsz := ho.sz
  have HUP := hid hT.upq
  have HQJ := hid hJ.qj
  have hWR : w.heap.size ≤ W2.heap.size := hF2.size
  unfold Rec.val
  clear hT hJ hT0 hJ0 hb0 hr0' hJ1 hT1 hr1 hJ2 hT2 hr2 hF2 hW2 hrn hpr hj ho hops hroom hrv hjs
  go_enter Try.func39, Try.ntmps39
  go_wp2_with fail
  go_quiet ((first | (go_at_call 26; exact quiet_eq (HP.out _)) | fail))
  go_upto_if 27 with (fail)
  obtain ⟨j2, hj2⟩ : ∃ j2, ({ (j.next pr) with seq := js + 1 } : Jo) = j2 := ⟨_, rfl⟩
  have HJ2E := hid hj2
  go_cut [] from 17 to 37 (fun wx => ∃ rv', JAtC Q wx J T j2 b rv' ∧ TapeAt Q wx T t ∧ wx.heap[R]? = some (.cells #[.int .i64 (rk : Nat), .int .u64 ((js + 1 : Nat) : Int), .int .u64 (ra : Nat), .int .u64 (rb : Nat), .int .u64 (rc : Nat)] 74 (0, 0)) ∧ Off Q w wx)
  case first =>
    have J3 := HJ2.out.below ((Below.refl _ _).drewN nq)
    have T3 := HT2.out.below ((Below.refl _ _).drewN nq)
    have F3 := HF2.out.drewN nq
    have R3 : (W2.drewN nq).heap[R]? = _ := HR2.out
    by_cases hfull : rn = pr
    · have e1 : ((rn : Int) == (pr : Int)) = true := beq_iff_eq.2 (by rw [hfull])
      have hn : j.next pr = { j with block := j.block + 1, rows := [] } := by unfold Jo.next; rw [if_pos (by rw [HRN.out]; exact hfull)]
      have c5 := J3.c5
      have f5 := J3.ff 5
      obtain ⟨bk, hbk⟩ : ∃ n, j.block = n := ⟨_, rfl⟩
      have J4 := J3.headS (j' := { j with seq := js + 1, block := bk + 1 }) 5 (.int .i64 ((bk + 1 : Nat) : Int)) rfl rfl rfl
      have T4 := T3.setJ J3 5 (.int .i64 ((bk + 1 : Nat) : Int))
      have c6' := J4.c6
      have f6 := J4.ff 6
      have J5 := J4.head (j' := { j with seq := js + 1, block := bk + 1, rows := [] }) (rv' := .slice none 0 0) 6 (.slice none 0 0) rfl rfl (orec_nil _ _) (fun g e => by cases e)
      have T5 := T4.setJ J4 6 (.slice none 0 0)
      have R5 := (set_other (a := ⟨J, 6, none⟩) (v := .slice none 0 0) (w := (W2.drewN nq).setCell ⟨J, 5, none⟩ (.int .i64 ((bk + 1 : Nat) : Int))) hRJ).trans ((set_other (a := ⟨J, 5, none⟩) hRJ).trans R3)
      have F5 := (F3.setCell (p := ⟨J, 5, none⟩) HQJ.out (.int .i64 ((bk + 1 : Nat) : Int))).setCell (p := ⟨J, 6, none⟩) HQJ.out (.slice none 0 0)
      rw [HRV.out, HRN.out] at c6'
      dsimp only at c5
      rw [hbk] at c5 hblk
      have hj2' : ({ j with seq := js + 1, block := bk + 1, rows := [] } : Jo) = j2 := by rw [← HJ2E.out, hn, hbk]
      rw [hj2'] at J5
      have HJ5 := hid J5
      have HT5 := hid T5
      have HR5 := hid R5
      have HF5 := hid F5
      rw [show ((bk + 1 : Nat) : Int) = (bk : Int) + 1 from rfl] at c6' f6
      clear J3 T3 F3 R3 J4 T4 J5 T5 R5 F5 hfull hn hj2 hj2' hbk
      go_wp2_with fail
      go_meet
      exact ⟨_, HJ5.out, HT5.out, HR5.out, HF5.out⟩
    · have e1 : ((rn : Int) == (pr : Int)) = false := beq_eq_false_iff_ne.2 (by omega)
      have hn : j.next pr = j := by unfold Jo.next; rw [if_neg (by rw [HRN.out]; exact hfull)]
      have hj2' : ({ j with seq := js + 1 } : Jo) = j2 := by rw [← HJ2E.out, hn]
      rw [hj2'] at J3
      have HJ5 := hid J3
      clear hn hj2 hj2' hfull
      go_wp2_with fail
      go_meet
      exact ⟨_, HJ5.out, T3, R3, F3⟩
  case rest =>
    obtain ⟨rv5, J5, T5, R5, F5⟩ := hcut
    have hn2 : j2.rows.length < pr := by rw [← hj2, ← HPR.out]; exact HNR.out
    obtain ⟨a5, c5v, hrv5⟩ := orec_form J5.ro
    have c6 := J5.c6
    have f6 := J5.ff 6
    have x0 : wc.cell? ⟨R, 0, none⟩ = some (.int .i64 (rk : Nat)) := cell_at R5 0
    have x1 : wc.cell? ⟨R, 1, none⟩ = some (.int .u64 ((js : Int) + 1)) := cell_at R5 1
    have x2 : wc.cell? ⟨R, 2, none⟩ = some (.int .u64 (ra : Nat)) := cell_at R5 2
    have x3 : wc.cell? ⟨R, 3, none⟩ = some (.int .u64 (rb : Nat)) := cell_at R5 3
    have x4 : wc.cell? ⟨R, 4, none⟩ = some (.int .u64 (rc : Nat)) := cell_at R5 4
    obtain ⟨n2, hn2e⟩ : ∃ n, j2.rows.length = n := ⟨_, rfl⟩
    have HN2 := hid hn2e
    rw [hn2e] at hn2
    have hro := J5.ro
    unfold ORec at hro
    have hJl := lt_at J5.hp
    have hrJ : some J ≠ rv5.ownBlock := fun e => J5.rJ e.symm
    rw [hrv5, hn2e] at c6 hro hrJ
    have HRV5 := hid hrv5
    have HJ5 := hid J5
    have HT5 := hid T5
    have HF5 := hid F5
    obtain ⟨i0, hi0, hz0, hz1, hz2⟩ := info_parts info_rec
    obtain ⟨XS, hXS⟩ : ∃ X, j2.rows.flatMap Rec.cells = X := ⟨_, rfl⟩
    have HXS := hid hXS
    rw [hXS] at hro
    have hn100 : n2 ≤ 100 := by omega
    clear J5 T5 R5 F5 hj2 hn2e hrv5 hXS
    go_upto_region 6 with (fail)
    go_region_law (refine step_append_lies _ (by rfl) (.tmp 42) (.tmp 44) 63 (by rfl) 0 74 i0 recZ 5 40 Try.underlying63 hi0 hz0 hz1 hz2 (by rfl) (by decide) (.slice a5 n2 c5v) n2 XS (by rfl) (by exact hro.kept (((Below.refl _ _).drew.alloc (Nat.le_refl _) _).toGrown none) (Classical.em _)) ⟨wc.heap.size, 0, none⟩ 1 1 (Rec.cells ⟨rk, js + 1, ra, rb, rc⟩) (by rfl) (by rfl) (by exact World.news_of_block (alloc_new wc.drew _)) (by exact cells_one _) (by omega) (by unfold maxLen; omega) (by omega) (by simp) (wc.heap.size + 1) (by exact World.size_alloc _ _) ?_
                   intro g5 cap5 w5 hown5 hgrow5 hat5 hlt5
                   have m6 := (hgrow5.cell_far ⟨J, 6, none⟩ (by simp; omega) hrJ).trans ((World.cell?_of_block (a := ⟨J, 6, none⟩) (alloc_old (w := wc.drew) hJl)).trans c6)
                   have mf := (hgrow5.frozen_far ⟨J, 6, none⟩ (by simp; omega) hrJ).trans ((World.frozen?_of_block (a := ⟨J, 6, none⟩) (alloc_old (w := wc.drew) hJl)).trans f6))
    all_goals
      have hb4 : Below wc.heap.size wc (wc.drew.alloc (.cells #[.int .i64 (rk : Nat), .int .u64 ((js + 1 : Nat) : Int), .int .u64 (ra : Nat), .int .u64 (rb : Nat), .int .u64 (rc : Nat)] 74)) := ((Below.refl _ _).drew).alloc (Nat.le_refl _) _
      have J5 := HJ5.out.below hb4
      have T5 := HT5.out.below hb4
      rw [HRV5.out, HN2.out] at J5
      have hat6 : (Value.slice a5 n2 c5v).ownBlock = some g5 ∨ Q g5 := by
        rcases hat5 with h | h
        · exact .inl h
        · right; rw [h]; exact HT5.out.upq _ (by omega)
      have J6 := J5.pushd (r := ⟨rk, js + 1, ra, rb, rc⟩) (by rw [HN2.out, HXS.out]; exact hown5) hgrow5 hat6
      have T6 := (T5.grownR J5 hgrow5).setK (J := J) ((hgrow5.block J (by simp; omega) (fun e => J5.rJ e.symm)).trans J5.hp) (by unfold TT; decide) 6 (.slice (some ⟨g5, 0, none⟩) (n2 + 1) cap5)
      have F6 : Off Q w (w5.setCell ⟨J, 6, none⟩ (.slice (some ⟨g5, 0, none⟩) (n2 + 1) cap5)) := ((HF5.out.trans (Off.of_below hb4)).trans (off_of_grown hgrow5 (fun i e => J5.qr _ e))).setCell (p := ⟨J, 6, none⟩) HQJ.out _
      rw [HN2.out] at J6
      obtain ⟨W6, hW6⟩ : ∃ W, w5.setCell ⟨J, 6, none⟩ (.slice (some ⟨g5, 0, none⟩) (n2 + 1) cap5) = W := ⟨_, rfl⟩
      rw [hW6] at J6 T6 F6
      have c8 := J6.c8
      have f8 := J6.ff 8
      have hpush : ({ ({ j2 with rows := j2.rows ++ [⟨rk, js + 1, ra, rb, rc⟩] } : Jo) with dirty := true } : Jo) = j.push ⟨rk, rs, ra, rb, rc⟩ t.per := by rw [← HJ2E.out, HPR.out]; unfold Jo.push; rw [HJS.out]
      have J7 := J6.headS (j' := j.push ⟨rk, rs, ra, rb, rc⟩ t.per) 8 (.bool true) (by rw [← hpush]; rfl) (by rw [← hpush]) (by rw [← hpush])
      have T7 := T6.setJ J6 8 (.bool true)
      have F7 := F6.setCell (p := ⟨J, 8, none⟩) HQJ.out (.bool true)
      have hlen : (j.push ⟨rk, rs, ra, rb, rc⟩ t.per).rows.length = n2 + 1 := by rw [← hpush]; show (j2.rows ++ [_]).length = _; rw [List.length_append, List.length_singleton, HN2.out]
      obtain ⟨W7, hW7⟩ : ∃ W, W6.setCell ⟨J, 8, none⟩ (.bool true) = W := ⟨_, rfl⟩
      rw [hW7] at J7 T7 F7
      have d0 := J7.st
      have d6 := J7.c6
      have HLEN := hid hlen
      have HJ7 := hid J7
      have HT7 := hid T7
      have HF7 := hid F7
      have HP7 := hid (fun n => jper_any (T7.below ((Below.refl _ _).drewN n)) HO.out)
      unfold ifT at HP7
      rw [HPR.out] at HP7
      clear hb4 J5 T5 hat6 J6 T6 F6 J7 T7 F7 hpush hlen hown5 hgrow5 hat5 hlt5 m6 mf c6 f6 hro x0 x1 x2 x3 x4
      go_upto_region 8 with (fail)
      go_quiet ((first | (go_at_call 26; exact quiet_eq (HP7.out _)) | fail))
      by_cases hfull : n2 + 1 = pr
      · have e1 : ((n2 : Int) + 1 == (pr : Int)) = true := beq_iff_eq.2 (by omega)
        have J8 := HJ7.out.below ((Below.refl _ _).drewN nq)
        have T8 := HT7.out.below ((Below.refl _ _).drewN nq)
        have c9 := J8.c8
        have f9 := J8.ff 8
        have J9 := J8.headS (j' := { (j.push ⟨rk, rs, ra, rb, rc⟩ t.per) with dirty := false }) 8 (.bool false) rfl rfl rfl
        have T9 := T8.setJ J8 8 (.bool false)
        have F9 := (HF7.out.drewN nq).setCell (p := ⟨J, 8, none⟩) HQJ.out (.bool false)
        have HW := hid (jwrite_any (s := ⟨{ (j.push ⟨rk, rs, ra, rb, rc⟩ t.per) with dirty := false }, t⟩) ⟨T9, b, _, J9⟩ HO.out ⟨HPO.out.fit, HPO.out.few, HPO.out.gen, HPO.out.top, HPO.out.area, HPO.out.block, HPO.out.rows, HPO.out.rfit, HPO.out.seq, HPO.out.bad⟩ HOPS.out)
        have HE := hid (show JS.put ⟨j, t⟩ ⟨rk, rs, ra, rb, rc⟩ = (JS.mk { (j.push ⟨rk, rs, ra, rb, rc⟩ t.per) with dirty := false } t).write from by unfold JS.put; rw [if_pos (by show _ = t.per; rw [HLEN.out, HPR.out]; exact hfull)])
        have HF9 := hid F9
        clear J8 T8 J9 T9 F9 hfull
        go_wp2_with fail
        refine HW.out.mono ?_
        rintro e w9 ⟨rfl, h9, o9⟩
        go_wp2_with fail
        go_ret
        rw [HE.out]
        exact ⟨rfl, h9, HF9.out.trans o9⟩
      · have e1 : ((n2 : Int) + 1 == (pr : Int)) = false := beq_eq_false_iff_ne.2 (by omega)
        have HE := hid (show JS.put ⟨j, t⟩ ⟨rk, rs, ra, rb, rc⟩ = (0, JS.mk (j.push ⟨rk, rs, ra, rb, rc⟩ t.per) t) from by unfold JS.put; rw [if_neg (by show ¬ _ = t.per; rw [HLEN.out, HPR.out]; exact hfull)])
        clear hfull
        go_wp2_with fail
        go_ret
        rw [HE.out]
        exact ⟨rfl, ⟨HT7.out.below ((Below.refl _ _).drewN nq), b, _, HJ7.out.below ((Below.refl _ _).drewN nq)⟩, HF7.out.drewN nq⟩
end
end Go.Proofs.Ytkdjefnnhanhhaa
