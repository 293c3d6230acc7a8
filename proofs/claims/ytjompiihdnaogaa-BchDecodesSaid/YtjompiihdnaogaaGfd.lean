/- Walks over gf: the tables of powers and logarithms; sync.Once, the first time. -/
import Derived.Test.YtjompiihdnaogaaGfc
import Derived.Deep.DeepCutAuto
import Derived.Laws.CopyOwn
namespace Go.Proofs.Ytjompiihdnaogaa
open Go.RowKit Go.Mem

theorem idx_poly (m : Nat) (hm : Gf.Ok m) (w : World) : (Instr.index 116 (.agg #[.int .i64 0, .int .i64 0, .int .i64 7, .int .i64 11, .int .i64 19, .int .i64 37, .int .i64 67, .int .i64 137, .int .i64 285, .int .i64 529, .int .i64 1033, .int .i64 2053, .int .i64 4179, .int .i64 8219]) (.int .i64 m)).run Try.prog w = .ok (.int .i64 (Gf.poly m)) w := by
  rcases hm.cases with rfl | rfl | rfl | rfl | rfl | rfl | rfl | rfl | rfl | rfl | rfl | rfl <;> kernel_rfl

set_option maxRecDepth 100000 in
set_option maxHeartbeats 400000 in
theorem polynomial_any (m : Nat) (w : World) (hm : Gf.Ok m) :
    Calls Try.prog 71 #[.int .i64 m] w fun e w' => e = .returned (.int .i64 (Gf.poly m)) ∧ w = w' := by
  have hi := idx_poly m hm
  go_enter Try.func71, Try.ntmps71
  go_wp2
  go_ret
  exact ⟨rfl, rfl⟩

theorem tab_start {w : World} {b : Nat} {a0 x1 x2 x3 y4 y5 : Value} {t : TypeId} (hb : w.heap[b]? = some (.cells #[a0, x1, x2, x3, y4, y5] t (0, 0))) (p l : Value) (A B : Obj) :
    ((((w.setCell ⟨b, 4, none⟩ p).setCell ⟨b, 5, none⟩ l).alloc A).alloc B).drew.heap[b]? = some (.cells #[a0, x1, x2, x3, p, l] t (0, 0)) ∧
    ((((w.setCell ⟨b, 4, none⟩ p).setCell ⟨b, 5, none⟩ l).alloc A).alloc B).drew.heap[w.heap.size]? = some A ∧
    ((((w.setCell ⟨b, 4, none⟩ p).setCell ⟨b, 5, none⟩ l).alloc A).alloc B).drew.heap[w.heap.size + 1]? = some B ∧
    w.grownBy ((((w.setCell ⟨b, 4, none⟩ p).setCell ⟨b, 5, none⟩ l).alloc A).alloc B).drew (some b) := by
  have hlt := lt_at hb
  have e1 : ((w.setCell ⟨b, 4, none⟩ p).setCell ⟨b, 5, none⟩ l).heap.size = w.heap.size := by simp
  have e2 : (((w.setCell ⟨b, 4, none⟩ p).setCell ⟨b, 5, none⟩ l).alloc A).heap.size = w.heap.size + 1 := by simp
  refine ⟨?_, ?_, ?_, rfl, rfl, rfl, by simp; omega, fun k hk hne => ?_⟩
  · show ((((w.setCell ⟨b, 4, none⟩ p).setCell ⟨b, 5, none⟩ l).alloc A).alloc B).heap[b]? = _
    rw [alloc_old (by omega), alloc_old (by omega), set_at (set_at hb 4 p) 5 l]; rfl
  · show ((((w.setCell ⟨b, 4, none⟩ p).setCell ⟨b, 5, none⟩ l).alloc A).alloc B).heap[w.heap.size]? = _
    rw [alloc_old (by omega), ← e1]; exact alloc_new _ _
  · show ((((w.setCell ⟨b, 4, none⟩ p).setCell ⟨b, 5, none⟩ l).alloc A).alloc B).heap[w.heap.size + 1]? = _
    rw [← e2]; exact alloc_new _ _
  · have : k ≠ b := fun e => hne (by rw [e])
    show ((((w.setCell ⟨b, 4, none⟩ p).setCell ⟨b, 5, none⟩ l).alloc A).alloc B).heap[k]? = _
    rw [alloc_old (by omega), alloc_old (by omega), set_other this, set_other this]

/-- The field's block b, while its tables are made. -/
def TabW (w : World) (b m : Nat) (x1 x2 x3 : Value) (f g : Nat → Nat) (wx : World) : Prop :=
  ∃ p l, w.heap.size ≤ p ∧ w.heap.size ≤ l ∧ p ≠ l ∧
    wx.heap[b]? = some (.cells #[.int .i64 m, x1, x2, x3, .slice (some ⟨p, 0, none⟩) (2 * Gf.sz m) (2 * Gf.sz m), .slice (some ⟨l, 0, none⟩) (Gf.sz m + 1) (Gf.sz m + 1)] 98 (0, 0)) ∧
    wx.heap[p]? = some (.cells (fa .i64 (2 * Gf.sz m) f) 3 (0, 0)) ∧ wx.heap[l]? = some (.cells (fa .i64 (Gf.sz m + 1) g) 3 (0, 0)) ∧ w.grownBy wx (some b)

def pwi (m i : Nat) : Nat → Nat := fun j => if j < i then Gf.pw m j else 0
def lgi (m i : Nat) : Nat → Nat := fun j => if j ≠ 0 ∧ Gf.lg m j < i then Gf.lg m j else 0

theorem pwi_zero (m : Nat) : pwi m 0 = fun _ => 0 := by funext j; simp [pwi]
theorem lgi_zero (m : Nat) : lgi m 0 = fun _ => 0 := by funext j; simp [lgi]
theorem pwi_succ (m k j : Nat) : upd (pwi m k) k (Gf.pw m k) j = pwi m (k+1) j := by
  unfold upd pwi
  by_cases e : j = k
  · subst e; simp
  · by_cases h : j < k
    · simp [e, h, show j < k + 1 by omega]
    · simp [e, h, show ¬ j < k + 1 by omega]
theorem lgi_succ {m : Nat} (hm : Gf.Ok m) (k j : Nat) (hk : k < Gf.sz m) (hj : j < Gf.sz m + 1) : upd (lgi m k) (Gf.pw m k) k j = lgi m (k+1) j := by
  have hj' : j < 2^m := by unfold Gf.sz at hj; have := Nat.two_pow_pos m; omega
  unfold upd lgi
  by_cases e : j = Gf.pw m k
  · subst e
    have h1 := Gf.lg_pw hm k
    rw [Nat.mod_eq_of_lt hk] at h1
    simp [h1, Gf.pw_ne hm]
  · rw [if_neg e]
    by_cases h0 : j = 0
    · simp [h0]
    · have h2 : Gf.lg m j ≠ k := fun h => e (by rw [← h]; exact (Gf.pw_lg hm hj' h0).symm)
      by_cases h : Gf.lg m j < k
      · simp [h0, h, show Gf.lg m j < k + 1 by omega]
      · simp [h0, h, show ¬ Gf.lg m j < k + 1 by omega]

theorem tab_row {m : Nat} (hm : Gf.Ok m) : (List.take (Gf.sz m) (fa IntKind.i64 (2 * Gf.sz m) (pwi m (Gf.sz m))).toList ++
          (List.map (fun j => Value.int IntKind.i64 ((Gf.pw m j : Nat) : Int)) (List.range (Gf.sz m)) ++
            List.drop (Gf.sz m + Gf.sz m) (fa IntKind.i64 (2 * Gf.sz m) (pwi m (Gf.sz m))).toList)).toArray = fa .i64 (2 * Gf.sz m) (Gf.pw m) := by
  unfold fa
  congr 1
  rw [show 2 * Gf.sz m = Gf.sz m + Gf.sz m by omega, List.range_add, List.map_append, List.map_append]
  simp only [List.map_map]
  rw [List.take_append_of_le_length (by simp), List.take_of_length_le (by simp), List.drop_of_length_le (by simp), List.append_nil]
  congr 1
  · apply List.map_congr_left
    intro j hj
    have : j < Gf.sz m := by simpa using hj
    simp [pwi, this]
  · apply List.map_congr_left
    intro j _
    simp only [Function.comp]
    rw [Nat.add_comm, Gf.pw_add_sz hm]

theorem lgi_full {m : Nat} (hm : Gf.Ok m) (j : Nat) : lgi m (Gf.sz m) j = Gf.lg m j := by
  unfold lgi
  have := Gf.lg_lt hm j
  by_cases h : j = 0
  · subst h; simp [Gf.lg_zero hm]
  · simp [h, this]

set_option maxRecDepth 100000 in
set_option maxHeartbeats 800000 in
theorem tables_any (b m : Nat) (x1 x2 x3 y4 y5 : Value) (w : World) (hm : Gf.Ok m) (hb : w.heap[b]? = some (.cells #[.int .i64 m, x1, x2, x3, y4, y5] 98 (0, 0))) :
    Calls Try.prog 61 #[.pointer (some ⟨b, 0, none⟩)] w fun e w' => e = .returned (.tuple #[]) ∧ TabW w b m x1 x2 x3 (fun j => Gf.pw m j) (Gf.lg m) w' := by
  have c0 : w.cell? ⟨b, 0, none⟩ = some (.int .i64 m) := cell_at hb 0
  have c4 : w.cell? ⟨b, 4, none⟩ = some y4 := cell_at hb 4
  have c5 : w.cell? ⟨b, 5, none⟩ = some y5 := cell_at hb 5
  have f4 : w.frozen? ⟨b, 4, none⟩ = false := free_at hb 4
  have f5 : w.frozen? ⟨b, 5, none⟩ = false := free_at hb 5
  have hlt := lt_at hb
  have hne : b ≠ w.heap.size := by omega
  have hne1 : b ≠ w.heap.size + 1 := by omega
  have s0 := Gf.sz_pos hm
  have s2 := sz_le hm.2
  have hmk1 : ∀ w, (Instr.makeSlice 27 (.int .i64 (2 * (Gf.sz m : Int))) (.int .i64 (2 * (Gf.sz m : Int)))).run Try.prog w = .ok (.slice (some ⟨w.heap.size, 0, none⟩) (2 * Gf.sz m) (2 * Gf.sz m)) (w.alloc (.cells (fa .i64 (2 * Gf.sz m) (fun _ => 0)) 3)) := fun w => by
    have := mk_int (2 * Gf.sz m) (by omega) w
    rwa [show ((2 * Gf.sz m : Nat) : Int) = 2 * (Gf.sz m : Int) by omega] at this
  have hmk2 : ∀ w, (Instr.makeSlice 27 (.int .i64 ((Gf.sz m : Int) + 1)) (.int .i64 ((Gf.sz m : Int) + 1))).run Try.prog w = .ok (.slice (some ⟨w.heap.size, 0, none⟩) (Gf.sz m + 1) (Gf.sz m + 1)) (w.alloc (.cells (fa .i64 (Gf.sz m + 1) (fun _ => 0)) 3)) := fun w => by
    have := mk_int (Gf.sz m + 1) (by omega) w
    rwa [show ((Gf.sz m + 1 : Nat) : Int) = (Gf.sz m : Int) + 1 by omega] at this
  have Hb := hid hb
  clear hb
  go_enter Try.func61, Try.ntmps61
  go_upto_region 1 with (go_at_call 47; refine (size_any _ m _ c0 hm.2).mono ?_; rintro e w' ⟨rfl, rfl⟩)
  go_cut [2] (fun n wx => n = .int .i64 (Gf.sz m) ∧ TabW w b m x1 x2 x3 (fun _ => 0) (fun _ => 0) wx)
  case first =>
    go_region
    all_goals
      go_wp2_with fail
      go_meet
      refine ⟨rfl, ?_⟩
      first
        | (obtain ⟨a1, a2, a3, a4⟩ := tab_start Hb.out (.slice (some ⟨w.heap.size, 0, none⟩) (2 * Gf.sz m) (2 * Gf.sz m)) (.slice (some ⟨w.heap.size + 1, 0, none⟩) (Gf.sz m + 1) (Gf.sz m + 1)) (.cells (fa .i64 (2 * Gf.sz m) (fun _ => 0)) 3) (.cells (fa .i64 (Gf.sz m + 1) (fun _ => 0)) 3)
           exact ⟨_, _, Nat.le_refl _, Nat.le_succ _, Nat.ne_of_lt (Nat.lt_succ_self _), a1, a2, a3, a4⟩)
        | (obtain ⟨a1, a2, a3, a4⟩ := tab_start Hb.out (.slice (some ⟨w.heap.size + 1, 0, none⟩) (2 * Gf.sz m) (2 * Gf.sz m)) (.slice (some ⟨w.heap.size, 0, none⟩) (Gf.sz m + 1) (Gf.sz m + 1)) (.cells (fa .i64 (Gf.sz m + 1) (fun _ => 0)) 3) (.cells (fa .i64 (2 * Gf.sz m) (fun _ => 0)) 3)
           exact ⟨_, _, Nat.le_succ _, Nat.le_refl _, Nat.ne_of_gt (Nat.lt_succ_self _), a1, a3, a2, a4⟩)
  case rest =>
    obtain ⟨rfl, ht⟩ := hcut
    have HT := hid ht
    clear hmk1 hmk2 ht c0 c4 c5 f4 f5
    go_wp2
    go_loopw [3, 20] (fun x i wr => ∃ k : Nat, k ≤ Gf.sz m ∧ i = .int .i64 k ∧ x = .int .i64 (Gf.pw m k) ∧ TabW w b m x1 x2 x3 (pwi m k) (lgi m k) wr) (fun _ i _ => Gf.sz m - (intOf i).toNat)
    case atStart => exact ⟨0, Nat.zero_le _, rfl, rfl, by rw [pwi_zero, lgi_zero]; exact HT.out⟩
    case round =>
      clear HT wc
      obtain ⟨k, hk, rfl, rfl, p, l, hp, hl, hpl, hb, hgp, hgl, hgr⟩ := hrel
      by_cases hlt2 : k < Gf.sz m
      · have hpw := Gf.pw_lt hm k
        have hsz : Gf.sz m + 1 = 2^m := by unfold Gf.sz; have := Nat.two_pow_pos m; omega
        have c0 : wr.cell? ⟨b, 0, none⟩ = some (.int .i64 m) := cell_at hb 0
        have c4 : wr.cell? ⟨b, 4, none⟩ = some (.slice (some ⟨p, 0, none⟩) (2 * Gf.sz m) (2 * Gf.sz m)) := cell_at hb 4
        have c5 : wr.cell? ⟨b, 5, none⟩ = some (.slice (some ⟨l, 0, none⟩) (Gf.sz m + 1) (Gf.sz m + 1)) := cell_at hb 5
        have cp : wr.cell? ⟨p, k, none⟩ = some (.int .i64 ((pwi m k k : Nat) : Int)) := fa_cell hgp (by omega)
        have cl : wr.cell? ⟨l, Gf.pw m k, none⟩ = some (.int .i64 ((lgi m k (Gf.pw m k) : Nat) : Int)) := fa_cell hgl (by omega)
        have fp : wr.frozen? ⟨p, k, none⟩ = false := free_at hgp k
        have fl : wr.frozen? ⟨l, Gf.pw m k, none⟩ = false := free_at hgl _
        have i1 : (k : Int) < 2 * (Gf.sz m : Int) := by omega
        have i2 : (Gf.pw m k : Int) < (Gf.sz m : Int) + 1 := by omega
        have n1 : b ≠ p := by omega
        have n2 : b ≠ l := by omega
        have HP := hid hgp
        have HL := hid hgl
        have HB := hid hb
        have HR := hid hgr
        clear hgp hgl hb hgr hsz
        have n3 : p ≠ b := by omega
        have n4 : l ≠ b := by omega
        have h13 : 2^m ≤ 2^13 := Nat.pow_le_pow_right (by omega) hm.2
        have hpw2 : (Gf.pw m k : Int) ≤ 8191 := by omega
        clear h13
        have step : ∀ wx, wx = ((wr.setCell ⟨p, k, none⟩ (.int .i64 (Gf.pw m k))).setCell ⟨l, Gf.pw m k, none⟩ (.int .i64 k)).drew → TabW w b m x1 x2 x3 (pwi m (k+1)) (lgi m (k+1)) wx := by
          rintro wx rfl
          refine ⟨p, l, hp, hl, hpl, ?_, ?_, ?_, ?_⟩
          · exact (set_other (by simpa using n2)).trans ((set_other (by simpa using n1)).trans HB.out)
          · refine (set_other (by simpa using hpl)).trans ((set_fa HP.out k (Gf.pw m k)).trans ?_)
            rw [fa_congr (fun j _ => pwi_succ m k j)]
          · refine (set_fa ((set_other (by simpa using fun h => hpl h.symm)).trans HL.out) (Gf.pw m k) k).trans ?_
            rw [fa_congr (fun j hj => lgi_succ hm k j hlt2 hj)]
          · refine ⟨HR.out.os, HR.out.tape, HR.out.output, by simpa using HR.out.size, fun q hq hqb => ?_⟩
            have h1 : q ≠ p := by omega
            have h2 : q ≠ l := by omega
            exact (set_other (by simpa using h2)).trans ((set_other (by simpa using h1)).trans (HR.out.block q hq hqb))
        have STEP := hid step
        clear step
        by_cases hc : 2 * Gf.pw m k < 2^m
        · have hc1 : (Gf.pw m k : Int) * 2 ≤ (Gf.sz m : Int) := by unfold Gf.sz; omega
          go_wp2
          go_region
          go_wp2
          go_roundw
          case rel =>
            refine ⟨k + 1, by omega, by go_num, congrArg (Value.int .i64) ?_, STEP.out _ rfl⟩
            rw [Gf.pw_succ, Gf.mx, if_pos hc]; omega
          case measure => simp [intOf]; omega
        · have hc1 : (Gf.sz m : Int) < (Gf.pw m k : Int) * 2 := by unfold Gf.sz; omega
          go_wp2
          go_region
          go_wp2_with (go_at_call 71; refine (polynomial_any m _ hm).mono ?_; rintro e w' ⟨rfl, rfl⟩)
          go_roundw
          case rel =>
            refine ⟨k + 1, by omega, by go_num, congrArg (Value.int .i64) ?_, STEP.out _ rfl⟩
            have h2 := (Gf.poly_bit hm).2.1
            have h14 : 2^(m+1) ≤ 2^14 := Nat.pow_le_pow_right (by omega) (by have := hm.2; omega)
            rw [Gf.pw_succ, Gf.mx, if_neg hc, show (Gf.pw m k : Int) * 2 = ((2 * Gf.pw m k : Nat) : Int) by omega]
            exact xor_i64 _ _ (by omega) (by omega)
          case measure => simp [intOf]; omega
      · have ek : k = Gf.sz m := by omega
        subst ek
        have c4 : wr.cell? ⟨b, 4, none⟩ = some (.slice (some ⟨p, 0, none⟩) (2 * Gf.sz m) (2 * Gf.sz m)) := cell_at hb 4
        have HP := hid hgp
        have HL := hid hgl
        have HB := hid hb
        have HR := hid hgr
        have i1 : (Gf.sz m : Int) ≤ 2 * (Gf.sz m : Int) := by omega
        have i2 : (Gf.sz m : Int) < 2 * (Gf.sz m : Int) := by omega
        have i3 : Gf.sz m ≤ 2 * Gf.sz m := by omega
        have i4 : ¬ 2 * Gf.sz m = Gf.sz m := by omega
        clear hgp hgl hb hgr
        go_wp2
        refine wp_region_quiet_tail 12 (by kernel_rfl) (by kernel_rfl) ?_
        simp only [List.take_succ_cons, List.take_zero, List.drop_succ_cons, List.drop_zero]
        repeat (go_big_quiet_step (fail))
        refine wpQuiet_nil ?_
        intro _ hw'
        obtain ⟨nq, hw''⟩ := hw'
        subst hw''
        refine wpList_copy_own rfl (.tmp 55) (.tmp 61) 27 27 rfl 3 Try.underlying27 (by kernel_rfl) p (Gf.sz m) (2 * Gf.sz m - Gf.sz m) (2 * Gf.sz m - Gf.sz m) ⟨p, 0, none⟩ (Gf.sz m) (2 * Gf.sz m) ?gd1 ?gs1 (fa .i64 (2 * Gf.sz m) (pwi m (Gf.sz m))) 3 HP.out ((List.range (Gf.sz m)).map (fun j => Value.int .i64 (Gf.pw m j : Nat))) ?gn1 ?gsrc ?gfit ?gone ?_
        case gd1 => show Value.slice _ _ _ = _; simp
        case gs1 => rfl
        case gn1 => simp [Nat.min_def]; omega
        case gsrc =>
          intro j v hv
          have hj : j < Gf.sz m := by
            rcases Nat.lt_or_ge j (Gf.sz m) with h | h
            · exact h
            · rw [List.getElem?_eq_none (by simp; omega)] at hv; exact absurd hv (by simp)
          have e : (⟨p, 0, none⟩ : Addr).add j = ⟨p, j, none⟩ := by unfold Addr.add; split <;> simp_all
          rw [e]
          have hx : v = Value.int .i64 (Gf.pw m j : Nat) := by rw [List.getElem?_map, List.getElem?_range hj] at hv; exact (Option.some.inj hv).symm
          subst hx
          refine (fa_cell HP.out (by omega)).trans ?_
          simp [pwi, hj]
        case gfit => simp [fa_size]; omega
        case gone => intro v hv; simp only [List.mem_map] at hv; obtain ⟨j, _, rfl⟩ := hv; rfl
        go_wp2
        go_end0
        refine ⟨rfl, p, l, hp, hl, hpl, ?_, ?_, ?_, HR.out.os, HR.out.tape, HR.out.output, ?_, ?_⟩
        · exact (setRow_other _ p b _ (by omega)).trans HB.out
        · exact (setRow_heap (wr.drewN nq) p _ _ 3 _ HP.out).trans (by rw [tab_row hm])
        · refine (setRow_other _ p l _ (by omega)).trans (HL.out.trans ?_)
          rw [fa_congr (fun j _ => lgi_full hm j)]
        · exact Nat.le_trans HR.out.size (by simp [World.setRow])
        · intro q hq hqb
          exact (setRow_other _ p q _ (by omega)).trans (HR.out.block q hq hqb)
end Go.Proofs.Ytjompiihdnaogaa
