/- Walks over gf: the tables of powers and logarithms; sync.Once, the first time. -/
import Derived.Test.YtoanopegoilcnaaGreatJc
import Derived.Deep.DeepCutAuto
import Derived.Laws.CopyOwn
set_option linter.unusedVariables false
namespace Go.Proofs.YtoanopegoilcnaaGreat
open Go.RowKit Go.Mem

theorem idx_poly (m : Nat) (hm : Gf.Ok m) (w : World) : (Instr.index 163 (.agg #[.int .i64 0, .int .i64 0, .int .i64 7, .int .i64 11, .int .i64 19, .int .i64 37, .int .i64 67, .int .i64 137, .int .i64 285, .int .i64 529, .int .i64 1033, .int .i64 2053, .int .i64 4179, .int .i64 8219]) (.int .i64 m)).run Tryz.prog w = .ok (.int .i64 (Gf.poly m)) w := by
  rcases hm.cases with rfl | rfl | rfl | rfl | rfl | rfl | rfl | rfl | rfl | rfl | rfl | rfl <;> kernel_rfl

set_option maxRecDepth 100000 in
set_option maxHeartbeats 400000 in
theorem polynomial_any (m : Nat) (w : World) (hm : Gf.Ok m) :
    Calls Tryz.prog 98 #[.int .i64 m] w fun e w' => e = .returned (.int .i64 (Gf.poly m)) ∧ w = w' := by
  have hi := idx_poly m hm
  go_enter Tryz.func98, Tryz.ntmps98
  go_wp2
  go_ret
  exact ⟨rfl, rfl⟩

theorem tab_start {w : World} {b : Nat} {a0 x1 x2 x3 y4 y5 : Value} {t : TypeId} (hb : w.heap[b]? = some (.cells #[a0, x1, x2, x3, y4, y5] t (0, 0))) (p l : Value) (A B : Obj) :
    ((((w.setCell ⟨b, 4, none⟩ p).setCell ⟨b, 5, none⟩ l).alloc A).alloc B).drew.heap[b]? = some (.cells #[a0, x1, x2, x3, p, l] t (0, 0)) ∧
    ((((w.setCell ⟨b, 4, none⟩ p).setCell ⟨b, 5, none⟩ l).alloc A).alloc B).drew.heap[w.heap.size]? = some A ∧
    ((((w.setCell ⟨b, 4, none⟩ p).setCell ⟨b, 5, none⟩ l).alloc A).alloc B).drew.heap[w.heap.size + 1]? = some B ∧
    w.grownBy ((((w.setCell ⟨b, 4, none⟩ p).setCell ⟨b, 5, none⟩ l).alloc A).alloc B).drew (some b) := by
  have hlt := lt_at hb
  have e1 : ((w.setCell ⟨b, 4, none⟩ p).setCell ⟨b, 5, none⟩ l).heap.size = w.heap.size := by simp
  have e2 : (((w.setCell ⟨b, 4, none⟩ p).setCell ⟨b, 5, none⟩ l).alloc A).heap.size = w.heap.size + 1 := by simp
  refine ⟨?_, ?_, ?_, rfl, rfl, rfl, by simp; omega, fun k hk hne => ?_⟩
  · show ((((w.setCell ⟨b, 4, none⟩ p).setCell ⟨b, 5, none⟩ l).alloc A).alloc B).heap[b]? = _
    rw [alloc_old (by omega), alloc_old (by omega), set_at (set_at hb 4 p) 5 l]; rfl
  · show ((((w.setCell ⟨b, 4, none⟩ p).setCell ⟨b, 5, none⟩ l).alloc A).alloc B).heap[w.heap.size]? = _
    rw [alloc_old (by omega), ← e1]; exact alloc_new _ _
  · show ((((w.setCell ⟨b, 4, none⟩ p).setCell ⟨b, 5, none⟩ l).alloc A).alloc B).heap[w.heap.size + 1]? = _
    rw [← e2]; exact alloc_new _ _
  · have : k ≠ b := fun e => hne (by rw [e])
    show ((((w.setCell ⟨b, 4, none⟩ p).setCell ⟨b, 5, none⟩ l).alloc A).alloc B).heap[k]? = _
    rw [alloc_old (by omega), alloc_old (by omega), set_other this, set_other this]

/-- The field's block b, while its tables are made. -/
def TabW (w : World) (b m : Nat) (x1 x2 x3 : Value) (f g : Nat → Nat) (wx : World) : Prop :=
  ∃ p l, w.heap.size ≤ p ∧ w.heap.size ≤ l ∧ p ≠ l ∧
    wx.heap[b]? = some (.cells #[.int .i64 m, x1, x2, x3, .slice (some ⟨p, 0, none⟩) (2 * Gf.sz m) (2 * Gf.sz m), .slice (some ⟨l, 0, none⟩) (Gf.sz m + 1) (Gf.sz m + 1)] 144 (0, 0)) ∧
    wx.heap[p]? = some (.cells (fa .i64 (2 * Gf.sz m) f) 3 (0, 0)) ∧ wx.heap[l]? = some (.cells (fa .i64 (Gf.sz m + 1) g) 3 (0, 0)) ∧ w.grownBy wx (some b)

def pwi (m i : Nat) : Nat → Nat := fun j => if j < i then Gf.pw m j else 0
def lgi (m i : Nat) : Nat → Nat := fun j => if j ≠ 0 ∧ Gf.lg m j < i then Gf.lg m j else 0

theorem pwi_zero (m : Nat) : pwi m 0 = fun _ => 0 := by funext j; simp [pwi]
theorem lgi_zero (m : Nat) : lgi m 0 = fun _ => 0 := by funext j; simp [lgi]
theorem pwi_succ (m k j : Nat) : upd (pwi m k) k (Gf.pw m k) j = pwi m (k+1) j := by
  unfold upd pwi
  by_cases e : j = k
  · subst e; simp
  · by_cases h : j < k
    · simp [e, h, show j < k + 1 by omega]
    · simp [e, h, show ¬ j < k + 1 by omega]
theorem lgi_succ {m : Nat} (hm : Gf.Ok m) (k j : Nat) (hk : k < Gf.sz m) (hj : j < Gf.sz m + 1) : upd (lgi m k) (Gf.pw m k) k j = lgi m (k+1) j := by
  have hj' : j < 2^m := by unfold Gf.sz at hj; have := Nat.two_pow_pos m; omega
  unfold upd lgi
  by_cases e : j = Gf.pw m k
  · subst e
    have h1 := Gf.lg_pw hm k
    rw [Nat.mod_eq_of_lt hk] at h1
    simp [h1, Gf.pw_ne hm]
  · rw [if_neg e]
    by_cases h0 : j = 0
    · simp [h0]
    · have h2 : Gf.lg m j ≠ k := fun h => e (by rw [← h]; exact (Gf.pw_lg hm hj' h0).symm)
      by_cases h : Gf.lg m j < k
      · simp [h0, h, show Gf.lg m j < k + 1 by omega]
      · simp [h0, h, show ¬ Gf.lg m j < k + 1 by omega]

theorem tab_row {m : Nat} (hm : Gf.Ok m) : (List.take (Gf.sz m) (fa IntKind.i64 (2 * Gf.sz m) (pwi m (Gf.sz m))).toList ++
          (List.map (fun j => Value.int IntKind.i64 ((Gf.pw m j : Nat) : Int)) (List.range (Gf.sz m)) ++
            List.drop (Gf.sz m + Gf.sz m) (fa IntKind.i64 (2 * Gf.sz m) (pwi m (Gf.sz m))).toList)).toArray = fa .i64 (2 * Gf.sz m) (Gf.pw m) := by
  unfold fa
  congr 1
  rw [show 2 * Gf.sz m = Gf.sz m + Gf.sz m by omega, List.range_add, List.map_append, List.map_append]
  simp only [List.map_map]
  rw [List.take_append_of_le_length (by simp), List.take_of_length_le (by simp), List.drop_of_length_le (by simp), List.append_nil]
  congr 1
  · apply List.map_congr_left
    intro j hj
    have : j < Gf.sz m := by simpa using hj
    simp [pwi, this]
  · apply List.map_congr_left
    intro j _
    simp only [Function.comp]
    rw [Nat.add_comm, Gf.pw_add_sz hm]

theorem lgi_full {m : Nat} (hm : Gf.Ok m) (j : Nat) : lgi m (Gf.sz m) j = Gf.lg m j := by
  unfold lgi
  have := Gf.lg_lt hm j
  by_cases h : j = 0
  · subst h; simp [Gf.lg_zero hm]
  · simp [h, this]

set_option maxRecDepth 100000 in
set_option maxHeartbeats 800000 in
theorem tables_any (b m : Nat) (x1 x2 x3 y4 y5 : Value) (w : World) (hm : Gf.Ok m) (hb : w.heap[b]? = some (.cells #[.int .i64 m, x1, x2, x3, y4, y5] 144 (0, 0))) :
    Calls Tryz.prog 83 #[.pointer (some ⟨b, 0, none⟩)] w fun e w' => e = .returned (.tuple #[]) ∧ TabW w b m x1 x2 x3 (fun j => Gf.pw m j) (Gf.lg m) w' := by
  have c0 : w.cell? ⟨b, 0, none⟩ = some (.int .i64 m) := cell_at hb 0
  have c4 : w.cell? ⟨b, 4, none⟩ = some y4 := cell_at hb 4
  have c5 : w.cell? ⟨b, 5, none⟩ = some y5 := cell_at hb 5
  have f4 : w.frozen? ⟨b, 4, none⟩ = false := free_at hb 4
  have f5 : w.frozen? ⟨b, 5, none⟩ = false := free_at hb 5
  have hlt := lt_at hb
  have hne : b ≠ w.heap.size := by omega
  have hne1 : b ≠ w.heap.size + 1 := by omega
  have s0 := Gf.sz_pos hm
  have s2 := sz_le hm.2
  have hmk1 : ∀ w, (Instr.makeSlice 31 (.int .i64 (2 * (Gf.sz m : Int))) (.int .i64 (2 * (Gf.sz m : Int)))).run Tryz.prog w = .ok (.slice (some ⟨w.heap.size, 0, none⟩) (2 * Gf.sz m) (2 * Gf.sz m)) (w.alloc (.cells (fa .i64 (2 * Gf.sz m) (fun _ => 0)) 3)) := fun w => by
    have := mk_int (2 * Gf.sz m) (by omega) w
    rwa [show ((2 * Gf.sz m : Nat) : Int) = 2 * (Gf.sz m : Int) by omega] at this
  have hmk2 : ∀ w, (Instr.makeSlice 31 (.int .i64 ((Gf.sz m : Int) + 1)) (.int .i64 ((Gf.sz m : Int) + 1))).run Tryz.prog w = .ok (.slice (some ⟨w.heap.size, 0, none⟩) (Gf.sz m + 1) (Gf.sz m + 1)) (w.alloc (.cells (fa .i64 (Gf.sz m + 1) (fun _ => 0)) 3)) := fun w => by
    have := mk_int (Gf.sz m + 1) (by omega) w
    rwa [show ((Gf.sz m + 1 : Nat) : Int) = (Gf.sz m : Int) + 1 by omega] at this
  have Hb := hid hb
  clear hb
  go_enter Tryz.func83, Tryz.ntmps83
  go_upto_region 1 with (go_at_call 84; refine (size_any _ m _ c0 hm.2).mono ?_; rintro e w' ⟨rfl, rfl⟩)
  go_cut [2] (fun n wx => n = .int .i64 (Gf.sz m) ∧ TabW w b m x1 x2 x3 (fun _ => 0) (fun _ => 0) wx)
  case first =>
    go_region
    all_goals
      go_wp2_with fail
      go_meet
      refine ⟨rfl, ?_⟩
      first
        | (obtain ⟨a1, a2, a3, a4⟩ := tab_start Hb.out (.slice (some ⟨w.heap.size, 0, none⟩) (2 * Gf.sz m) (2 * Gf.sz m)) (.slice (some ⟨w.heap.size + 1, 0, none⟩) (Gf.sz m + 1) (Gf.sz m + 1)) (.cells (fa .i64 (2 * Gf.sz m) (fun _ => 0)) 3) (.cells (fa .i64 (Gf.sz m + 1) (fun _ => 0)) 3)
           exact ⟨_, _, Nat.le_refl _, Nat.le_succ _, Nat.ne_of_lt (Nat.lt_succ_self _), a1, a2, a3, a4⟩)
        | (obtain ⟨a1, a2, a3, a4⟩ := tab_start Hb.out (.slice (some ⟨w.heap.size + 1, 0, none⟩) (2 * Gf.sz m) (2 * Gf.sz m)) (.slice (some ⟨w.heap.size, 0, none⟩) (Gf.sz m + 1) (Gf.sz m + 1)) (.cells (fa .i64 (Gf.sz m + 1) (fun _ => 0)) 3) (.cells (fa .i64 (2 * Gf.sz m) (fun _ => 0)) 3)
           exact ⟨_, _, Nat.le_succ _, Nat.le_refl _, Nat.ne_of_gt (Nat.lt_succ_self _), a1, a3, a2, a4⟩)
  case rest =>
    obtain ⟨rfl, ht⟩ := hcut
    have HT := hid ht
    clear hmk1 hmk2 ht c0 c4 c5 f4 f5
    go_wp2
    go_loopw [3, 20] (fun x i wr => ∃ k : Nat, k ≤ Gf.sz m ∧ i = .int .i64 k ∧ x = .int .i64 (Gf.pw m k) ∧ TabW w b m x1 x2 x3 (pwi m k) (lgi m k) wr) (fun _ i _ => Gf.sz m - (intOf i).toNat)
    case atStart => exact ⟨0, Nat.zero_le _, rfl, rfl, by rw [pwi_zero, lgi_zero]; exact HT.out⟩
    case round =>
      clear HT wc
      obtain ⟨k, hk, rfl, rfl, p, l, hp, hl, hpl, hb, hgp, hgl, hgr⟩ := hrel
      by_cases hlt2 : k < Gf.sz m
      · have hpw := Gf.pw_lt hm k
        have hsz : Gf.sz m + 1 = 2^m := by unfold Gf.sz; have := Nat.two_pow_pos m; omega
        have c0 : wr.cell? ⟨b, 0, none⟩ = some (.int .i64 m) := cell_at hb 0
        have c4 : wr.cell? ⟨b, 4, none⟩ = some (.slice (some ⟨p, 0, none⟩) (2 * Gf.sz m) (2 * Gf.sz m)) := cell_at hb 4
        have c5 : wr.cell? ⟨b, 5, none⟩ = some (.slice (some ⟨l, 0, none⟩) (Gf.sz m + 1) (Gf.sz m + 1)) := cell_at hb 5
        have cp : wr.cell? ⟨p, k, none⟩ = some (.int .i64 ((pwi m k k : Nat) : Int)) := fa_cell hgp (by omega)
        have cl : wr.cell? ⟨l, Gf.pw m k, none⟩ = some (.int .i64 ((lgi m k (Gf.pw m k) : Nat) : Int)) := fa_cell hgl (by omega)
        have fp : wr.frozen? ⟨p, k, none⟩ = false := free_at hgp k
        have fl : wr.frozen? ⟨l, Gf.pw m k, none⟩ = false := free_at hgl _
        have i1 : (k : Int) < 2 * (Gf.sz m : Int) := by omega
        have i2 : (Gf.pw m k : Int) < (Gf.sz m : Int) + 1 := by omega
        have n1 : b ≠ p := by omega
        have n2 : b ≠ l := by omega
        have HP := hid hgp
        have HL := hid hgl
        have HB := hid hb
        have HR := hid hgr
        clear hgp hgl hb hgr hsz
        have n3 : p ≠ b := by omega
        have n4 : l ≠ b := by omega
        have h13 : 2^m ≤ 2^13 := Nat.pow_le_pow_right (by omega) hm.2
        have hpw2 : (Gf.pw m k : Int) ≤ 8191 := by omega
        clear h13
        have step : ∀ wx, wx = ((wr.setCell ⟨p, k, none⟩ (.int .i64 (Gf.pw m k))).setCell ⟨l, Gf.pw m k, none⟩ (.int .i64 k)).drew → TabW w b m x1 x2 x3 (pwi m (k+1)) (lgi m (k+1)) wx := by
          rintro wx rfl
          refine ⟨p, l, hp, hl, hpl, ?_, ?_, ?_, ?_⟩
          · exact (set_other (by simpa using n2)).trans ((set_other (by simpa using n1)).trans HB.out)
          · refine (set_other (by simpa using hpl)).trans ((set_fa HP.out k (Gf.pw m k)).trans ?_)
            rw [fa_congr (fun j _ => pwi_succ m k j)]
          · refine (set_fa ((set_other (by simpa using fun h => hpl h.symm)).trans HL.out) (Gf.pw m k) k).trans ?_
            rw [fa_congr (fun j hj => lgi_succ hm k j hlt2 hj)]
          · refine ⟨HR.out.os, HR.out.tape, HR.out.output, by simpa using HR.out.size, fun q hq hqb => ?_⟩
            have h1 : q ≠ p := by omega
            have h2 : q ≠ l := by omega
            exact (set_other (by simpa using h2)).trans ((set_other (by simpa using h1)).trans (HR.out.block q hq hqb))
        have STEP := hid step
        clear step
        by_cases hc : 2 * Gf.pw m k < 2^m
        · have hc1 : (Gf.pw m k : Int) * 2 ≤ (Gf.sz m : Int) := by unfold Gf.sz; omega
          go_wp2
          go_region
          go_wp2
          go_roundw
          case rel =>
            refine ⟨k + 1, by omega, by go_num, congrArg (Value.int .i64) ?_, STEP.out _ rfl⟩
            rw [Gf.pw_succ, Gf.mx, if_pos hc]; omega
          case measure => simp [intOf]; omega
        · have hc1 : (Gf.sz m : Int) < (Gf.pw m k : Int) * 2 := by unfold Gf.sz; omega
          go_wp2
          go_region
          go_wp2_with (go_at_call 98; refine (polynomial_any m _ hm).mono ?_; rintro e w' ⟨rfl, rfl⟩)
          go_roundw
          case rel =>
            refine ⟨k + 1, by omega, by go_num, congrArg (Value.int .i64) ?_, STEP.out _ rfl⟩
            have h2 := (Gf.poly_bit hm).2.1
            have h14 : 2^(m+1) ≤ 2^14 := Nat.pow_le_pow_right (by omega) (by have := hm.2; omega)
            rw [Gf.pw_succ, Gf.mx, if_neg hc, show (Gf.pw m k : Int) * 2 = ((2 * Gf.pw m k : Nat) : Int) by omega]
            exact xor_i64 _ _ (by omega) (by omega)
          case measure => simp [intOf]; omega
      · have ek : k = Gf.sz m := by omega
        subst ek
        have c4 : wr.cell? ⟨b, 4, none⟩ = some (.slice (some ⟨p, 0, none⟩) (2 * Gf.sz m) (2 * Gf.sz m)) := cell_at hb 4
        have HP := hid hgp
        have HL := hid hgl
        have HB := hid hb
        have HR := hid hgr
        have i1 : (Gf.sz m : Int) ≤ 2 * (Gf.sz m : Int) := by omega
        have i2 : (Gf.sz m : Int) < 2 * (Gf.sz m : Int) := by omega
        have i3 : Gf.sz m ≤ 2 * Gf.sz m := by omega
        have i4 : ¬ 2 * Gf.sz m = Gf.sz m := by omega
        clear hgp hgl hb hgr
        go_wp2
        refine wp_region_quiet_tail 12 (by kernel_rfl) (by kernel_rfl) ?_
        simp only [List.take_succ_cons, List.take_zero, List.drop_succ_cons, List.drop_zero]
        repeat (go_big_quiet_step (fail))
        refine wpQuiet_nil ?_
        intro _ hw'
        obtain ⟨nq, hw''⟩ := hw'
        subst hw''
        refine wpList_copy_own rfl (.tmp 55) (.tmp 61) 31 31 rfl 3 Tryz.underlying31 (by kernel_rfl) p (Gf.sz m) (2 * Gf.sz m - Gf.sz m) (2 * Gf.sz m - Gf.sz m) ⟨p, 0, none⟩ (Gf.sz m) (2 * Gf.sz m) ?gd1 ?gs1 (fa .i64 (2 * Gf.sz m) (pwi m (Gf.sz m))) 3 HP.out ((List.range (Gf.sz m)).map (fun j => Value.int .i64 (Gf.pw m j : Nat))) ?gn1 ?gsrc ?gfit ?gone ?_
        case gd1 => show Value.slice _ _ _ = _; simp
        case gs1 => rfl
        case gn1 => simp [Nat.min_def]; omega
        case gsrc =>
          intro j v hv
          have hj : j < Gf.sz m := by
            rcases Nat.lt_or_ge j (Gf.sz m) with h | h
            · exact h
            · rw [List.getElem?_eq_none (by simp; omega)] at hv; exact absurd hv (by simp)
          have e : (⟨p, 0, none⟩ : Addr).add j = ⟨p, j, none⟩ := by unfold Addr.add; split <;> simp_all
          rw [e]
          have hx : v = Value.int .i64 (Gf.pw m j : Nat) := by rw [List.getElem?_map, List.getElem?_range hj] at hv; exact (Option.some.inj hv).symm
          subst hx
          refine (fa_cell HP.out (by omega)).trans ?_
          simp [pwi, hj]
        case gfit => simp [fa_size]; omega
        case gone => intro v hv; simp only [List.mem_map] at hv; obtain ⟨j, _, rfl⟩ := hv; rfl
        go_wp2
        go_end0
        refine ⟨rfl, p, l, hp, hl, hpl, ?_, ?_, ?_, HR.out.os, HR.out.tape, HR.out.output, ?_, ?_⟩
        · exact (setRow_other _ p b _ (by omega)).trans HB.out
        · exact (setRow_heap (wr.drewN nq) p _ _ 3 _ HP.out).trans (by rw [tab_row hm])
        · refine (setRow_other _ p l _ (by omega)).trans (HL.out.trans ?_)
          rw [fa_congr (fun j _ => lgi_full hm j)]
        · exact Nat.le_trans HR.out.size (by simp [World.setRow])
        · intro q hq hqb
          exact (setRow_other _ p q _ (by omega)).trans (HR.out.block q hq hqb)
end Go.Proofs.YtoanopegoilcnaaGreat
/- Walks over sync.Once, the first time: the field's tables are made. -/
namespace Go.Proofs.YtoanopegoilcnaaGreat
open Go.RowKit Go.Mem

theorem race_disable (w : World) : (callFunc 116 #[]).run Tryz.prog w = .ok (.value (.tuple #[])) w := run_call_mark0 Tryz.func116 (by kernel_rfl) (by kernel_rfl) (by kernel_rfl) .disable (by kernel_rfl) w
theorem race_enable (w : World) : (callFunc 118 #[]).run Tryz.prog w = .ok (.value (.tuple #[])) w := run_call_mark0 Tryz.func118 (by kernel_rfl) (by kernel_rfl) (by kernel_rfl) .enable (by kernel_rfl) w
theorem race_acquire (a : Addr) (w : World) : (callFunc 119 #[.pointer (some a)]).run Tryz.prog w = .ok (.value (.tuple #[])) w := run_call_marked Tryz.func119 (by kernel_rfl) (by kernel_rfl) (by kernel_rfl) .acquire (by kernel_rfl) a w
theorem race_releaseMerge (a : Addr) (w : World) : (callFunc 121 #[.pointer (some a)]).run Tryz.prog w = .ok (.value (.tuple #[])) w := run_call_marked Tryz.func121 (by kernel_rfl) (by kernel_rfl) (by kernel_rfl) .releaseMerge (by kernel_rfl) a w

theorem store_deferred (a : Addr) (x : Value) (u : FrameMode) (w : World) (hc : w.cell? a = some x) (hz : w.frozen? a = false) :
    CallsD Tryz.prog 108 #[.pointer (some a), .bool true] u w fun e u' w' => u' = u ∧ (e = .returned (.tuple #[]) ∧ w' = w.drew.setCell a (.int .u32 1)) := by
  have hc' : w.drew.cell? a = some x := by go_simp
  have hz' : w.drew.frozen? a = false := by go_simp
  have hst := run_call_store (P := Tryz.prog) Tryz.func114 (by kernel_rfl) (by kernel_rfl) (by kernel_rfl) (by kernel_rfl) (k := .u32) (y := 1) hc' hz'
  go_enter_d Tryz.func108, Tryz.ntmps108
  go_wp2
  go_region_calls
  all_goals (go_end0; exact ⟨rfl, rfl⟩)

set_option maxRecDepth 100000 in
theorem unlock_deferred (a : Addr) (u : FrameMode) (w : World) (hc : w.cell? a = some (.int .i32 1)) (hz : w.frozen? a = false) :
    CallsD Tryz.prog 107 #[.pointer (some a)] u w fun e u' w' => u' = u ∧ (e = .returned (.tuple #[]) ∧ w' = w.setCell a (.int .i32 0)) := by
  have hd := race_disable
  have he := race_enable
  have hr := race_releaseMerge
  have hadd := run_call_add (P := Tryz.prog) Tryz.func122 (by kernel_rfl) (by kernel_rfl) (by kernel_rfl) .i32 (by kernel_rfl) (y := -1) (s := 0) hc hz (by simp [go_sem]; rfl)
  have hcv := run_convert_to_unsafe (P := Tryz.prog) (src := 167) (dst := 171) Tryz.underlying167 Tryz.underlying171 (by kernel_rfl) hc
  go_enter_d Tryz.func107, Tryz.ntmps107
  go_wp2
  go_end0
  go_wp2
  go_end0
  exact ⟨rfl, rfl⟩

set_option maxRecDepth 100000 in
theorem lock_free (a : Addr) (w : World) (hc : w.cell? a = some (.int .i32 0)) (hz : w.frozen? a = false) :
    Calls Tryz.prog 106 #[.pointer (some a)] w fun e w' => e = .returned (.tuple #[]) ∧ w' = w.setCell a (.int .i32 1) := by
  have hd := race_disable
  have he := race_enable
  have ha := race_acquire
  have hcas := run_call_cas_hit (P := Tryz.prog) Tryz.func117 (by kernel_rfl) (by kernel_rfl) (by kernel_rfl) .i32 (by kernel_rfl) (y := 1) hc hz
  have hc' : (w.setCell a (.int .i32 1)).cell? a = some (.int .i32 1) := World.cell?_setCell_same w a _ hc
  have hcv := run_convert_to_unsafe (P := Tryz.prog) (src := 167) (dst := 171) Tryz.underlying167 Tryz.underlying171 (by kernel_rfl) hc'
  go_enter Tryz.func106, Tryz.ntmps106
  go_wp2
  first | go_end0 | (simp only [Exit.inBlock, Exit.then]; refine bodyPost_ret (results_none rfl _ _ _) rfl ?_) | refine bodyPost_ret (results_none rfl _ _ _) rfl ?_
  go_wp2
  go_end0
  exact ⟨rfl, rfl⟩

set_option maxRecDepth 100000 in
set_option maxHeartbeats 1600000 in
theorem slow_any (b m : Nat) (w : World) (hm : Gf.Ok m) (h : Raw w b m) :
    Calls Tryz.prog 97 #[.pointer (some ⟨b, 1, none⟩), .func (.func 83) #[.pointer (some ⟨b, 0, none⟩)] #[]] w fun e w' => e = .returned (.tuple #[]) ∧ Made w' b m ∧ w.grownBy w' (some b) := by
  have hb := h
  unfold Raw at hb
  have h0 : w.cell? ⟨b, 1, none⟩ = some (.int .u32 0) := cell_at hb 1
  have h1 : w.cell? ⟨b, 2, none⟩ = some (.int .i32 0) := cell_at hb 2
  have f0 : w.frozen? ⟨b, 1, none⟩ = false := free_at hb 1
  have f1 : w.frozen? ⟨b, 2, none⟩ = false := free_at hb 2
  have hl := run_call_load (P := Tryz.prog) Tryz.func105 (by kernel_rfl) (by kernel_rfl) (by kernel_rfl) .u32 (by kernel_rfl) (w := w.setCell ⟨b, 2, none⟩ (.int .i32 1)) (a := ⟨b, 1, none⟩) (x := 0) ((World.cell?_setCell_other _ ⟨b, 2, none⟩ ⟨b, 1, none⟩ _ (by simp)).trans h0)
  have hb1 : (w.setCell ⟨b, 2, none⟩ (.int .i32 1)).heap[b]? = some (.cells #[.int .i64 m, .int .u32 0, .int .i32 1, .int .u32 0, .slice none 0 0, .slice none 0 0] 144 (0, 0)) := set_at hb 2 _
  have hnot : ∀ (x : Bool) (w : World), (Op.unary .not (.bool x)).run Tryz.prog w = .ok (.bool (!x)) w := fun _ _ => rfl
  have HB := hid hb
  have HB1 := hid hb1
  clear hb hb1 h
  go_enter_defers Tryz.func97, Tryz.ntmps97
  go_wp2_with (first | (go_at_call 106; refine (lock_free ⟨b, 2, none⟩ _ (by go_simp) (by go_simp)).mono ?_; rintro e w' ⟨rfl, rfl⟩) | (go_at_call 96; go_in))
  refine (tables_any b m _ _ _ _ _ _ hm HB1.out).mono ?_
  rintro e w2 ⟨rfl, p, l, hp, hl, hpl, hb2, hp2, hl2, hgr⟩
  have HB2 := hid hb2
  have HP2 := hid hp2
  have HL2 := hid hl2
  have HGR := hid hgr
  clear hb2 hp2 hl2 hgr
  dsimp only
  go_wp2
  have hb2 := HB2.out
  refine leaves_cons (f := 108) (args := #[.pointer (some ⟨b, 1, none⟩), .bool true]) (by simp) (by simp [go_sem]) ?_
  refine (store_deferred ⟨b, 1, none⟩ (.int .u32 0) .returning _ (cell_at hb2 1) (free_at hb2 1)).mono ?_
  rintro e u' w'' ⟨rfl, rfl, rfl⟩
  have hb3 : (w2.drew.setCell ⟨b, 1, none⟩ (.int .u32 1)).heap[b]? = _ := set_at (w := w2.drew) hb2 1 _
  refine leaves_cons (f := 107) (args := #[.pointer (some ⟨b, 2, none⟩)]) (by simp [settle]) (by simp [go_sem]) ?_
  refine (unlock_deferred ⟨b, 2, none⟩ _ _ (cell_at hb3 2) (free_at hb3 2)).mono ?_
  rintro e u' w'' ⟨rfl, rfl, rfl⟩
  have hb4 := set_at hb3 2 (.int .i32 0)
  have hs : (w.setCell ⟨b, 2, none⟩ (.int .i32 1)).heap.size = w.heap.size := by simp
  have hbl := lt_at HB.out
  rw [hs] at hp hl
  have k1 : Made ((w2.drew.setCell ⟨b, 1, none⟩ (.int .u32 1)).setCell ⟨b, 2, none⟩ (.int .i32 0)) b m := by
    refine ⟨p, l, hb4, ?_, ?_⟩
    · exact (set_other (by simp; omega)).trans ((set_other (by simp; omega)).trans HP2.out)
    · exact (set_other (by simp; omega)).trans ((set_other (by simp; omega)).trans HL2.out)
  have k2 : w.grownBy ((w2.drew.setCell ⟨b, 1, none⟩ (.int .u32 1)).setCell ⟨b, 2, none⟩ (.int .i32 0)) (some b) := by
    have g := HGR.out
    refine ⟨g.os, g.tape, g.output, ?_, fun q hq hqb => ?_⟩
    · have := g.size; simpa using this
    · have hne : q ≠ b := fun e => hqb (by rw [e])
      exact (set_other (by simpa using hne)).trans ((set_other (by simpa using hne)).trans ((g.block q (by simpa using hq) hqb).trans (set_other (by simpa using hne))))
  simp only [Leaves, settle]
  exact ⟨.tuple #[], by simp [results, Tryz.results97], rfl, k1, k2⟩

set_option maxRecDepth 100000 in
set_option maxHeartbeats 1600000 in
theorem do_first (b m : Nat) (w : World) (hm : Gf.Ok m) (h : Raw w b m) :
    Calls Tryz.prog 82 #[.pointer (some ⟨b, 1, none⟩), .func (.func 83) #[.pointer (some ⟨b, 0, none⟩)] #[]] w fun e w' => e = .returned (.tuple #[]) ∧ Made w' b m ∧ w.grownBy w' (some b) := by
  have hb := h
  unfold Raw at hb
  have h0 : w.cell? ⟨b, 1, none⟩ = some (.int .u32 0) := cell_at hb 1
  have hl := run_call_load (P := Tryz.prog) Tryz.func105 (by kernel_rfl) (by kernel_rfl) (by kernel_rfl) .u32 (by kernel_rfl) h0
  have hnot : ∀ (x : Bool) (w : World), (Op.unary .not (.bool x)).run Tryz.prog w = .ok (.bool (!x)) w := fun _ _ => rfl
  have HH := hid h
  clear hb h
  go_enter Tryz.func82, Tryz.ntmps82
  go_wp2_with (first | (go_at_call 97; refine (slow_any b m _ hm HH.out).mono ?_; rintro e w' ⟨rfl, h1, h2⟩) | (go_at_call 96; go_in))
  go_end0
  exact ⟨rfl, h1, h2⟩
end Go.Proofs.YtoanopegoilcnaaGreat
/- Walks over gf: least polynomials, generators. -/
namespace Go.Proofs.YtoanopegoilcnaaGreat
open Go.RowKit Go.Mem

theorem turn_nat (n s : Nat) (hs : 0 < s) : turn (n : Int) s = n % s := by
  have := turn_cast (n : Int) hs
  have h2 : ((n % s : Nat) : Int) = (n : Int) % s := Int.natCast_emod n s
  omega

set_option maxRecDepth 100000 in
set_option maxHeartbeats 400000 in
theorem exp_raw (b m : Nat) (n : Int) (w : World) (hm : Gf.Ok m) (h : Raw w b m) :
    Calls Tryz.prog 60 #[.pointer (some ⟨b, 0, none⟩), .int .i64 n] w fun e w' => e = .returned (.int .i64 (Gf.pw m (turn n (Gf.sz m)))) ∧ Made w' b m ∧ w.grownBy w' (some b) := by
  have s0 := Gf.sz_pos hm
  have s1 : (1:Int) ≤ (Gf.sz m : Int) := by omega
  have s2 := sz_le hm.2
  have s3 : Gf.sz m ≠ 0 := by omega
  have t1 := turn_lt n s0
  have b1 := Int.lt_tmod_of_pos n (show (0:Int) < Gf.sz m by omega)
  have b2 := Int.tmod_lt_of_pos n (show (0:Int) < Gf.sz m by omega)
  have t2 : (turn n (Gf.sz m) : Int) < 2 * (Gf.sz m : Int) := by omega
  have e1 : IntKind.i64.wrap (n.tmod (Gf.sz m) + Gf.sz m) = n.tmod (Gf.sz m) + Gf.sz m := IntWalk.i64_in _ (by omega)
  have e2 : (n.tmod (Gf.sz m) + Gf.sz m).tmod (Gf.sz m) = turn n (Gf.sz m) := by rw [tmod_turn _ _ s0, turn_cast n s0]
  have HH := hid h
  clear b1 b2 h
  go_enter Tryz.func60, Tryz.ntmps60
  go_wp2_with (fail)
  refine (do_first b m _ hm HH.out).mono ?_
  rintro e w1 ⟨rfl, h1, h2⟩
  obtain ⟨p, l, hb, hp, hl⟩ := h1
  have H1 := hid (show Made w1 b m from ⟨p, l, hb, hp, hl⟩)
  have H2 := hid h2
  have c0 : w1.cell? ⟨b, 0, none⟩ = some (.int .i64 m) := cell_at hb 0
  have c4 : w1.cell? ⟨b, 4, none⟩ = some (.slice (some ⟨p, 0, none⟩) (2 * Gf.sz m) (2 * Gf.sz m)) := cell_at hb 4
  have cp : w1.cell? ⟨p, turn n (Gf.sz m), none⟩ = some (.int .i64 (Gf.pw m (turn n (Gf.sz m)))) := fa_cell hp (by omega)
  clear hb hp hl h2
  dsimp only
  go_wp2_with (go_at_call 84; refine (size_any _ m _ c0 hm.2).mono ?_; rintro e w' ⟨rfl, rfl⟩)
  go_quiet (fail)
  go_wp2
  go_ret
  exact ⟨rfl, H1.out.drewN _, H2.out.os, H2.out.tape, H2.out.output, H2.out.size, H2.out.block⟩

theorem two_mul_mod (x s : Nat) : (2 * ((x % s : Nat) : Int)) % (s : Int) = (((2 * x) % s : Nat) : Int) := by
  exact_mod_cast congrArg (Nat.cast : Nat → Int) (Nat.mul_mod_mod 2 x s)

set_option maxRecDepth 100000 in
set_option maxHeartbeats 800000 in
theorem minimal_made (b m n : Nat) (w : World) (hm : Gf.Ok m) (h : Made w b m) (hn : n < 1000000) :
    Calls Tryz.prog 90 #[.pointer (some ⟨b, 0, none⟩), .int .i64 n] w fun e w' => RetRd .i64 w' (Gf.minimal m n) e ∧ Below w.heap.size w w' := by
  have c0 := h.m
  have s0 := Gf.sz_pos hm
  have s2 := sz_le hm.2
  have s3 : Gf.sz m ≠ 0 := by omega
  have hk0 : n % Gf.sz m < Gf.sz m := Nat.mod_lt _ s0
  have e2 : ((n : Int) % (Gf.sz m) + Gf.sz m) % (Gf.sz m) = ((n % Gf.sz m : Nat) : Int) := by rw [Int.add_emod_right, Int.emod_emod_of_dvd _ (Int.dvd_refl _), Int.natCast_emod]
  have b1 := Int.emod_lt_of_pos (n:Int) (show (0:Int) < Gf.sz m by omega)
  have b2 := Int.emod_nonneg (n:Int) (show (Gf.sz m : Int) ≠ 0 by omega)
  have hcyc := Gf.cyc_spec hm n
  have HC := hid hcyc
  have HH := hid h
  clear h hcyc
  generalize ek : n % Gf.sz m = k0 at *
  have EK := hid ek
  clear ek
  go_enter Tryz.func90, Tryz.ntmps90
  go_wp2_with (go_at_call 84; refine (size_any _ m _ c0 hm.2).mono ?_; rintro e w' ⟨rfl, rfl⟩)
  simp only [e2]
  clear c0 e2 b1 b2
  go_loopg [6, 7] (Gf.cyc m n) (fun g p k wr => ∃ i, i + g = Gf.cyc m n ∧ 1 ≤ g ∧ k = .int .i64 (((2^i * n) % Gf.sz m : Nat) : Int) ∧ Rd .i64 wr p (Gf.mins m n i) ∧ Below w.heap.size w wr)
  case atStart =>
    refine ⟨0, by omega, HC.out.2.1, by rw [← EK.out]; simp, ?_, (Below.refl _ _).alloc (Nat.le_refl _) _⟩
    refine ⟨_, 1, rfl, Nat.le_refl _, by unfold maxLen; omega, fun j hj => ⟨_, 0, rfl, ?_⟩⟩
    have hj0 : j = 0 := by simp [Gf.mins] at hj; exact hj
    subst hj0
    rw [cell_at (alloc_new _ _)]; rfl
  case round =>
    obtain ⟨i, hi, hg, rfl, hp, hb⟩ := hrel
    have HP := hid hp
    have HB := hid hb
    have hM : Made wr b m := HH.out.below hb
    have hkl : (2^i * n) % Gf.sz m < Gf.sz m := Nat.mod_lt _ s0
    have e3 : turn (((2^i * n) % Gf.sz m : Nat) : Int) (Gf.sz m) = (2^i * n) % Gf.sz m := by rw [turn_nat _ _ s0, Nat.mod_mod]
    have e4 : (2 * (((2^i * n) % Gf.sz m : Nat) : Int)) % (Gf.sz m) = (((2^(i+1) * n) % Gf.sz m : Nat) : Int) := by
      rw [show 2^(i+1) * n = 2 * (2^i * n) by rw [Nat.pow_succ, Nat.mul_comm (2^i) 2, Nat.mul_assoc]]
      exact two_mul_mod _ _
    have hpl : ∀ y ∈ Gf.mins m n i, y < 2^m := Gf.mins_lt hm n i
    have hll := Gf.mins_length m n i
    have hne : Gf.mins m n i ≠ [] := (Gf.mins_mon hm n i).1.1
    have hms : Gf.mins m n (i+1) = Gf.times m (Gf.mins m n i) [Gf.pw m ((2^i * n) % Gf.sz m), 1] := rfl
    have hi13 : i ≤ 13 := by have := HC.out.1; have := hm.2; omega
    have HMS := hid hms
    have HPL := hid hpl
    have HNE := hid hne
    have hkl2 : (2^(i+1) * n) % Gf.sz m < Gf.sz m := Nat.mod_lt _ s0
    have hkq : (2^(i+1) * n) % Gf.sz m = k0 → i + 1 = Gf.cyc m n := fun h => by
      rcases Nat.lt_or_ge (i+1) (Gf.cyc m n) with h' | h'
      · exact absurd h (HC.out.2.2.2 (i+1) (by omega) h')
      · omega
    have hkq2 : i + 1 = Gf.cyc m n → (2^(i+1) * n) % Gf.sz m = k0 := fun h => by rw [h]; exact HC.out.2.2.1
    have HKQ := hid hkq
    have HKQ2 := hid hkq2
    clear hp hb hpl hne hms hkq hkq2
    generalize ek1 : (2^i * n) % Gf.sz m = k1 at *
    generalize ek2 : (2^(i+1) * n) % Gf.sz m = k2 at *
    have EK1 := hid ek1
    have EK2 := hid ek2
    clear ek1 ek2
    go_wp2_with (go_at_call 60; refine (exp_made b m _ _ hm hM).mono ?_; rintro e w' ⟨rfl, q, rfl⟩)
    refine (times_made b m _ _ (Gf.mins m n i) [Gf.pw m k1, 1] _ hm ?gM ?gr1 ?gr2 HPL.out ?gp2 HNE.out (by simp) ?gll).mono ?_
    case gM => exact hM.below (((Below.refl _ wr).drewN q).alloc (by simp) _)
    case gr1 => exact HP.out.below (((Below.refl _ wr).drewN q).alloc (by simp) _)
    case gr2 =>
      refine ⟨_, 2, rfl, Nat.le_refl _, by unfold maxLen; omega, fun j hj => ⟨_, 0, rfl, ?_⟩⟩
      have e := alloc_new (wr.drewN q) (.cells #[Value.int IntKind.i64 ((Gf.pw m k1 : Nat) : Int), Value.int IntKind.i64 1] 3)
      rw [show (wr.drewN q).heap.size = wr.heap.size by simp] at e
      rw [cell_at e]
      simp only [List.length_cons, List.length_nil] at hj
      rcases (show j = 0 ∨ j = 1 by omega) with rfl | rfl <;> rfl
    case gp2 =>
      intro y hy
      simp only [List.mem_cons, List.not_mem_nil, or_false] at hy
      rcases hy with rfl | rfl
      · exact Gf.pw_lt hm _
      · exact Gf.one_lt m hm
    case gll => simp; omega
    rintro e w2 ⟨⟨v, rfl, hv⟩, hb2⟩
    dsimp only
    have HV := hid hv
    have HB2 := hid hb2
    clear hv hb2
    by_cases hq : k2 = k0
    · have hk : ((k2 : Int) == (k0 : Int)) = true := by simp [hq]
      have hcy := hid (HKQ.out hq)
      obtain rfl := hq
      clear hk
      go_wp2
      go_ret
      refine ⟨⟨v, rfl, ?_⟩, ?_⟩
      · unfold Gf.minimal
        rw [← hcy.out, HMS.out]; exact HV.out
      · exact Below.comp HB.out (Below.comp (((Below.refl _ wr).drewN q).alloc (by simp) _) HB2.out)
    · have hk : ((k2 : Int) == (k0 : Int)) = false := beq_eq_false_iff_ne.2 (by omega)
      have hlt : i + 1 ≠ Gf.cyc m n := fun h => hq (HKQ2.out h)
      clear hq
      go_wp2
      go_roundg (gk - 1)
      case measure => omega
      case rel =>
        refine ⟨i + 1, by omega, by omega, by rw [EK2.out]; exact congrArg (Value.int .i64) e4, ?_, ?_⟩
        · rw [HMS.out]; exact HV.out
        · exact Below.comp HB.out (Below.comp (((Below.refl _ wr).drewN q).alloc (by simp) _) HB2.out)

/-- A slice's block is another one. -/
def NotIn (b : Nat) (v : Value) : Prop := ∀ a n c, v = .slice (some a) n c → a.block ≠ b
theorem Rd.grown {k : IntKind} {w w' : World} {v : Value} {xs : List Nat} {b : Nat} (h : Rd k w v xs) (hb : w.grownBy w' (some b)) (hn : NotIn b v) : Rd k w' v xs := by
  obtain ⟨a, cap, hv, h1, h2, hc⟩ := h
  refine ⟨a, cap, hv, h1, h2, fun j hj => ?_⟩
  obtain ⟨g, o, ha, hx⟩ := hc j hj
  refine ⟨g, o, ha, hb.cell hx ?_⟩
  have := hn ⟨g, o, none⟩ xs.length cap (by rw [hv, ha])
  simpa using this

set_option maxRecDepth 100000 in
set_option maxHeartbeats 1600000 in
theorem generator_raw (b m t : Nat) (w : World) (hm : Gf.Ok m) (h : Raw w b m) (h1 : 1 ≤ t) (h8 : t ≤ 8) (hs : 2 * t ≤ Gf.sz m) :
    Calls Tryz.prog 68 #[.pointer (some ⟨b, 0, none⟩), .int .i64 t] w fun e w' => (∃ v, e = .returned (.tuple #[v, .int .i64 0]) ∧ Rd .i64 w' v (Gf.gen m t)) ∧ Made w' b m ∧ w.grownBy w' (some b) := by
  have hb := h
  unfold Raw at hb
  have c0 : w.cell? ⟨b, 0, none⟩ = some (.int .i64 m) := cell_at hb 0
  have hbl := lt_at hb
  have s0 := Gf.sz_pos hm
  have s2 := sz_le hm.2
  have hs' : ¬ ((Gf.sz m : Int) < 2 * (t : Int)) := by omega
  have HH := hid h
  clear h hb
  go_enter Tryz.func68, Tryz.ntmps68
  go_wp2_with (go_at_call 84; refine (size_any _ m _ c0 hm.2).mono ?_; rintro e w' ⟨rfl, rfl⟩)
  clear c0
  go_loopg [6, 7] t (fun g p n wr => ∃ i, i + g = t ∧ n = .int .i64 ((2 * i + 1 : Nat) : Int) ∧ Rd .i64 wr p (Gf.gen m i) ∧ w.grownBy wr (some b) ∧ ((i = 0 ∧ Raw wr b m ∧ NotIn b p) ∨ Made wr b m))
  case atStart =>
    refine ⟨0, by omega, rfl, ?_, (((Below.refl _ w).alloc (Nat.le_refl _) _).toGrown _), Or.inl ⟨rfl, ?_, ?_⟩⟩
    · refine ⟨_, 1, rfl, Nat.le_refl _, by unfold maxLen; omega, fun j hj => ⟨_, 0, rfl, ?_⟩⟩
      have hj0 : j = 0 := by simp [Gf.gen] at hj; exact hj
      subst hj0
      rw [cell_at (alloc_new _ _)]; rfl
    · exact (alloc_old hbl).trans HH.out
    · intro a n c hv
      injection hv with h1
      injection h1 with h1
      subst h1
      simp; omega
  case round =>
    obtain ⟨i, hi, rfl, hp, hgr, hcase⟩ := hrel
    by_cases hlt : i < t
    · have hturn : turn (2 * (i : Int) + 1) (Gf.sz m) = 2 * i + 1 := by rw [show 2 * (i : Int) + 1 = ((2 * i + 1 : Nat) : Int) by omega, turn_nat _ _ s0, Nat.mod_eq_of_lt (by omega)]
      have hexp : Calls Tryz.prog 60 #[.pointer (some ⟨b, 0, none⟩), .int .i64 (2 * (i : Int) + 1)] wr fun e w' => e = .returned (.int .i64 (Gf.pw m (2 * i + 1))) ∧ Made w' b m ∧ Rd .i64 w' u6 (Gf.gen m i) ∧ w.grownBy w' (some b) := by
        rcases hcase with ⟨_, hr, hn⟩ | hM
        · refine (exp_raw b m _ wr hm hr).mono fun e w' ⟨h1, h2, h3⟩ => ⟨by rw [h1, hturn], h2, Rd.grown hp h3 hn, grown_trans hgr h3⟩
        · refine (exp_made b m _ wr hm hM).mono fun e w' ⟨h1, k, h2⟩ => ⟨by rw [h1, hturn], ?_⟩
          subst h2
          exact ⟨hM, hp, hgr.os, hgr.tape, hgr.output, hgr.size, hgr.block⟩
      have HE := hid hexp
      clear hexp hp hgr hcase hturn
      have hgl := Gf.gen_lt hm i
      have hgm := Gf.gen_mon hm i
      have him : i * m ≤ 8 * 13 := Nat.mul_le_mul (by omega) hm.2
      have hpl := Gf.pw_lt hm (2 * i + 1)
      have HGL := hid hgl
      have HGM := hid hgm
      have HPW := hid hpl
      have hmn := hid (Gf.minimal_mon hm (2 * i + 1))
      have hmc := (Gf.cyc_spec hm (2 * i + 1)).1
      have hm13 := hm.2
      have hml := hid (Gf.mins_lt hm (2 * i + 1) (Gf.cyc m (2 * i + 1)))
      have hgs : Gf.gen m (i + 1) = if Gf.ev m (Gf.gen m i) (Gf.pw m (2 * i + 1)) ≠ 0 then Gf.times m (Gf.gen m i) (Gf.minimal m (2 * i + 1)) else Gf.gen m i := rfl
      have HGS := hid hgs
      clear hgl hgm hpl hgs
      go_wp2_with fail
      refine (HE.out).mono ?_
      rintro e w1 ⟨rfl, hM, hR, hG⟩
      dsimp only
      have HM := hid hM
      have HR := hid hR
      have HG := hid hG
      clear hM hR hG
      go_wp2_with fail
      refine (eval_made b m _ _ (Gf.gen m i) _ hm HM.out HPW.out HR.out HGL.out).mono ?_
      rintro e w2 ⟨rfl, q, rfl⟩
      dsimp only
      by_cases hz : Gf.ev m (Gf.gen m i) (Gf.pw m (2 * i + 1)) = 0
      · have hgi : Gf.gen m (i + 1) = Gf.gen m i := by rw [HGS.out, if_neg (by simp [hz])]
        have HGI := hid hgi
        clear hgi
        have hz2 : (((Gf.ev m (Gf.gen m i) (Gf.pw m (2 * i + 1)) : Nat) : Int) != 0) = false := by simp [hz]
        clear hz
        go_wp2
        go_roundg (gk - 1)
        case measure => omega
        case rel =>
          exact ⟨i + 1, by omega, by go_num, by rw [HGI.out]; exact HR.out, ⟨HG.out.os, HG.out.tape, HG.out.output, HG.out.size, HG.out.block⟩, Or.inr HM.out⟩
      · have hgi : Gf.gen m (i + 1) = Gf.times m (Gf.gen m i) (Gf.minimal m (2 * i + 1)) := by rw [HGS.out, if_pos hz]
        have HGI := hid hgi
        clear hgi
        have hz2 : (((Gf.ev m (Gf.gen m i) (Gf.pw m (2 * i + 1)) : Nat) : Int) != 0) = true := by simpa using hz
        clear hz
        have hnum : (2 * (i : Int) + 1) = ((2 * i + 1 : Nat) : Int) := by omega
        have HNUM := hid hnum
        clear hnum
        go_wp2_with fail
        rw [HNUM.out]
        refine (minimal_made b m (2 * i + 1) _ hm (by exact HM.out) (by omega)).mono ?_
        rintro e w3 ⟨⟨v, rfl, hv⟩, hb3⟩
        have HV := hid hv
        have HB3 := hid hb3
        clear hv hb3
        dsimp only
        go_wp2_with fail
        have hRg : Rd .i64 w3 u6 (Gf.gen m i) := Rd.below (HR.out.drewN q) HB3.out
        refine (times_made b m _ _ (Gf.gen m i) (Gf.minimal m (2 * i + 1)) _ hm ((HM.out.drewN q).below HB3.out) hRg HV.out HGL.out hml.out HGM.out.1.1 hmn.out.1.1 (by have := HGM.out.2; have := hmn.out.2; omega)).mono ?_
        rintro e w4 ⟨⟨v4, rfl, hv4⟩, hb4⟩
        have HV4 := hid hv4
        have HB4 := hid hb4
        clear hv4 hb4 hRg
        dsimp only
        go_wp2
        go_roundg (gk - 1)
        case measure => omega
        case rel =>
          refine ⟨i + 1, by omega, by go_num, by rw [HGI.out]; exact HV4.out, ?_, Or.inr (((HM.out.drewN q).below HB3.out).below HB4.out)⟩
          exact grown_trans (grown_trans HG.out ((Below.refl _ w1).drewN q |>.toGrown _)) (grown_trans (HB3.out.toGrown _) (HB4.out.toGrown _))
    · have hit : i = t := by omega
      subst hit
      have hM : Made wr b m := by
        rcases hcase with ⟨h0, _, _⟩ | hM
        · omega
        · exact hM
      have HP := hid hp
      have HG := hid hgr
      have HM := hid hM
      clear hp hgr hM hcase
      go_wp2
      go_ret2
      exact ⟨⟨u6, rfl, HP.out⟩, HM.out, HG.out⟩
end Go.Proofs.YtoanopegoilcnaaGreat
