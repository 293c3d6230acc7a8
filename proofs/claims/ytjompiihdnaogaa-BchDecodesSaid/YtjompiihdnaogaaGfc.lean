/- Walks over gf: rows without noughts at their end; products of polynomials. -/
import Derived.Test.YtjompiihdnaogaaGfb
namespace Go.Proofs.Ytjompiihdnaogaa
open Go.RowKit Go.Mem

/-- A row is handed back. -/
def RetRd (k : IntKind) (w : World) (xs : List Nat) (e : Ending) : Prop := ∃ v, e = .returned v ∧ Rd k w v xs

set_option maxRecDepth 100000 in
set_option maxHeartbeats 400000 in
theorem trim_any (v : Value) (xs : List Nat) (w : World) (hv : Rd .i64 w v xs) :
    Calls Try.prog 64 #[v] w fun e w' => RetRd .i64 w (Gf.trim xs) e ∧ w = w' := by
  have hl := hv.len
  obtain ⟨a, cap, rfl, hcap, hmax, hc⟩ := hv
  have Hc := hid hc
  go_enter Try.func64, Try.ntmps64
  go_wp2
  go_loop [0] (fun s => ∃ k : Nat, k ≤ xs.length ∧ s = .slice a k cap ∧ Gf.trim (xs.take k) = Gf.trim xs) (fun s => lenOf s)
  case atStart => exact ⟨xs.length, Nat.le_refl _, rfl, by rw [List.take_length]⟩
  case round =>
    obtain ⟨k, hk, rfl, ht⟩ := hrel
    have HT := hid ht
    clear ht hc
    cases k with
    | zero =>
      go_wp2
      go_ret
      refine ⟨⟨_, rfl, ?_⟩, rfl⟩
      rw [← HT.out]
      exact ⟨a, cap, rfl, Nat.zero_le _, hmax, fun j hj => by simp [Gf.trim] at hj⟩
    | succ k =>
      obtain ⟨g, o, rfl, hcell⟩ := Hc.out k (by omega)
      have ek : ((k + 1 : Nat) : Int) = (k : Int) + 1 := by omega
      have ek2 : (k : Int) + 1 - 1 = k := by omega
      have hkc : k ≤ cap := by omega
      by_cases h0 : xs.getD k 0 = 0
      · have h1 := Gf.trim_take_succ xs k (by omega) h0
        have H1 := hid h1; clear h1
        rw [h0] at hcell
        go_wp2
        go_round
        case rel => exact ⟨k, by omega, by simp, by rw [← H1.out]; exact HT.out⟩
        case measure => simp [lenOf]
      · have h1 := Gf.trim_take_self xs k (by omega) h0
        have H1 := hid h1; clear h1
        have hb : (((xs.getD k 0 : Nat) : Int) == 0) = false := beq_eq_false_iff_ne.2 (by omega)
        generalize xs.getD k 0 = x0 at hcell hb h0
        go_wp2
        go_ret
        refine ⟨⟨_, rfl, ?_⟩, rfl⟩
        rw [← HT.out, H1.out]
        have hlen : (xs.take (k+1)).length = k + 1 := by simp; omega
        refine ⟨some ⟨g, o, none⟩, cap, by rw [hlen]; rfl, by omega, hmax, fun j hj => ?_⟩
        obtain ⟨g', o', he, hx⟩ := Hc.out j (by omega)
        refine ⟨g', o', he, ?_⟩
        rw [hx]
        simp only [List.getD]
        rw [List.getElem?_take_of_lt (by omega)]

theorem info_int : (Try.prog.info? 3).map (fun i => (i.zero, i.size, i.bytes)) = some (some (.int .i64 0), 1, 8) := by kernel_rfl
theorem mk_int (n : Nat) (h : n ≤ 1000000000) (w : World) : (Instr.makeSlice 27 (.int .i64 n) (.int .i64 n)).run Try.prog w = .ok (.slice (some ⟨w.heap.size, 0, none⟩) n n) (w.alloc (.cells (fa .i64 n (fun _ => 0)) 3)) := by
  obtain ⟨i, hi, hz, hs, hb⟩ := info_parts info_int
  have := run_make (P := Try.prog) w 27 3 i _ Try.underlying27 hi hz .i64 .i64 n n (by omega) (Int.le_refl _) (by rw [hb]; omega) (by omega)
  rw [hs] at this
  simp only [Int.toNat_natCast, made_fa] at this
  exact this

theorem times_nil (b m : Nat) (v1 v2 : Value) (p q : List Nat) (w : World) (h1 : Rd .i64 w v1 p) (h2 : Rd .i64 w v2 q) (hn : p = [] ∨ q = []) :
    Calls Try.prog 48 #[.pointer (some ⟨b, 0, none⟩), v1, v2] w fun e w' => RetRd .i64 w' (Gf.times m p q) e ∧ Below w.heap.size w w' := by
  obtain ⟨a1, k1, rfl, _, _, hc1⟩ := h1
  obtain ⟨a2, k2, rfl, _, _, hc2⟩ := h2
  have ht : Gf.times m p q = [] := by unfold Gf.times; rw [if_pos hn]
  have hr : ∀ w : World, RetRd .i64 w (Gf.times m p q) (.returned (.slice none 0 0)) := fun w => ⟨_, rfl, none, 0, by rw [ht]; rfl, by rw [ht]; exact Nat.le_refl _, Nat.zero_le _, fun j hj => by rw [ht] at hj; exact absurd hj (Nat.not_lt_zero _)⟩
  have HR := hid hr
  clear hr ht hc1 hc2
  by_cases hp : p.length = 0
  · have t1 : ((p.length : Int) == 0) = true := by simp [hp]
    have HP := hid hn
    clear hn hp
    go_enter Try.func48, Try.ntmps48
    go_wp2
    go_ret
    exact ⟨HR.out _, Below.refl _ _⟩
  · have hq : q.length = 0 := by rcases hn with h | h <;> simp_all
    have t1 : ((p.length : Int) == 0) = false := by simpa using hp
    have t2 : ((q.length : Int) == 0) = true := by simp [hq]
    have HP := hid hn
    clear hn hp hq
    go_enter Try.func48, Try.ntmps48
    go_wp2
    go_ret
    exact ⟨HR.out _, Below.refl _ _⟩

set_option maxRecDepth 100000 in
set_option maxHeartbeats 800000 in
theorem times_made (b m : Nat) (v1 v2 : Value) (p q : List Nat) (w : World) (hm : Gf.Ok m) (h : Made w b m) (h1 : Rd .i64 w v1 p) (h2 : Rd .i64 w v2 q)
    (hp : ∀ y ∈ p, y < 2^m) (hq : ∀ y ∈ q, y < 2^m) (p0 : p ≠ []) (q0 : q ≠ []) (hl : p.length + q.length ≤ 1000000) :
    Calls Try.prog 48 #[.pointer (some ⟨b, 0, none⟩), v1, v2] w fun e w' => RetRd .i64 w' (Gf.times m p q) e ∧ Below w.heap.size w w' := by
  obtain ⟨a1, k1, rfl, _, _, hc1⟩ := h1
  obtain ⟨a2, k2, rfl, _, _, hc2⟩ := h2
  have np : 0 < p.length := List.length_pos_iff.2 p0
  have nq : 0 < q.length := List.length_pos_iff.2 q0
  have t1 : ((p.length : Int) == 0) = false := beq_eq_false_iff_ne.2 (by omega)
  have t2 : ((q.length : Int) == 0) = false := beq_eq_false_iff_ne.2 (by omega)
  have Hc1 := hid hc1
  have Hc2 := hid hc2
  have Hh := hid h
  have eN : (p.length : Int) + q.length - 1 = ((p.length + q.length - 1 : Nat) : Int) := by omega
  have hmk : ∀ w, (Instr.makeSlice 27 (.int .i64 ((p.length : Int) + q.length - 1)) (.int .i64 ((p.length : Int) + q.length - 1))).run Try.prog w = .ok (.slice (some ⟨w.heap.size, 0, none⟩) (p.length + q.length - 1) (p.length + q.length - 1)) (w.alloc (.cells (fa .i64 (p.length + q.length - 1) (fun _ => 0)) 3)) := fun w => by
    rw [eN]; exact mk_int _ (by omega) w
  clear hc1 hc2 h eN
  go_enter Try.func48, Try.ntmps48
  go_wp2
  go_loopw [33] (fun i wr => ∃ I : Nat, I ≤ p.length ∧ i = .int .i64 I ∧ Below w.heap.size w wr ∧ wr.heap[w.heap.size]? = some (.cells (fa .i64 (p.length + q.length - 1) (Gf.cf m p q I)) 3 (0, 0))) (fun i _ => p.length - (intOf i).toNat)
  case atStart => exact ⟨0, Nat.zero_le _, rfl, (Below.refl _ _).alloc (Nat.le_refl _) _, alloc_new _ _⟩
  case round =>
    obtain ⟨I, hI, rfl, hb, hg⟩ := hrel
    have HB := hid hb
    have HG := hid hg
    clear hb hg
    by_cases hlt : I < p.length
    · obtain ⟨g1, o1, rfl, hx1⟩ := Hc1.out I hlt
      have cx : wr.cell? ⟨g1, o1 + I, none⟩ = some (.int .i64 ((p.getD I 0 : Nat) : Int)) := by rw [HB.out.cell (World.block_lt_of_cell? _ _ hx1)]; exact hx1
      have hx := hid hx1
      clear hx1
      have hxl : p.getD I 0 < 2^m := hp _ (getD_mem hlt)
      have HX := hid hxl
      clear hxl
      generalize ex : p.getD I 0 = x at cx HX
      have EX := hid ex
      clear ex
      obtain ⟨wo, rfl⟩ : ∃ wo : World, wo = wr := ⟨_, rfl⟩
      go_wp2
      clear cx
      go_loopw [40] (fun i wr => ∃ K : Nat, K ≤ q.length ∧ i = .int .i64 K ∧ Below w.heap.size w wr ∧ wr.heap[w.heap.size]? = some (.cells (fa .i64 (p.length + q.length - 1) (Gf.cfk m p q I K)) 3 (0, 0))) (fun i _ => q.length - (intOf i).toNat)
      case atStart => exact ⟨0, Nat.zero_le _, rfl, HB.out, by rw [Gf.cfk_zero]; exact HG.out⟩
      case round =>
        obtain ⟨K, hK, rfl, hb2, hg2⟩ := hrel
        have HB2 := hid hb2
        have HG2 := hid hg2
        clear hb2 hg2
        by_cases hlt2 : K < q.length
        · obtain ⟨g2, o2, rfl, hy2⟩ := Hc2.out K hlt2
          have cy : wr.cell? ⟨g2, o2 + K, none⟩ = some (.int .i64 ((q.getD K 0 : Nat) : Int)) := by rw [HB2.out.cell (World.block_lt_of_cell? _ _ hy2)]; exact hy2
          have hy := hid hy2
          clear hy2
          have hyl : q.getD K 0 < 2^m := hq _ (getD_mem hlt2)
          have HY := hid hyl
          clear hyl
          generalize ey : q.getD K 0 = y at cy HY
          have EY := hid ey
          clear ey
          have h13 : 2^m ≤ 2^13 := Nat.pow_le_pow_right (by omega) hm.2
          have hc0 := Gf.cfk_lt hm p q I K (I + K)
          have hml := Gf.mul_lt hm x y
          have cz : wr.cell? ⟨w.heap.size, I + K, none⟩ = some (.int .i64 ((Gf.cfk m p q I K (I + K) : Nat) : Int)) := fa_cell HG2.out (by omega)
          have fz : wr.frozen? ⟨w.heap.size, I + K, none⟩ = false := free_at HG2.out _
          have ex := xor_i64 (Gf.cfk m p q I K (I + K)) (Gf.mul m x y) (by omega) (by omega)
          have es : IntKind.i64.wrap ((I : Int) + K) = ((I + K : Nat) : Int) := by rw [IntWalk.i64_in _ (by omega)]; simp
          have hb1 : ((I + K : Nat) : Int) < ((p.length + q.length - 1 : Nat) : Int) := by omega
          have hM : Made wr b m := Hh.out.below (HB2.out.mono (Nat.le_refl _))
          clear h13 hc0 hml
          generalize ev : Gf.cfk m p q I K (I + K) = v0 at cz ex
          have EV := hid ev
          clear ev
          go_wp2
          refine wp_region_quiet_tail 12 (by kernel_rfl) (by kernel_rfl) ?_
          simp only [List.take_succ_cons, List.take_zero, List.drop_succ_cons, List.drop_zero]
          repeat (go_big_quiet_step ((go_at_call 56; exact Calls.quiet_of (mul_made b m _ _ _ hm (by exact hM) HX.out HY.out))))
          refine wpQuiet_nil ?_
          intro _ hw'
          obtain ⟨nq, hw''⟩ := hw'
          subst hw''
          go_wp2
          go_roundw
          case rel =>
            refine ⟨K + 1, by omega, by go_num, ?_, ?_⟩
            · first | exact Below.drewN (HB2.out.setCell (Nat.le_refl _) _) nq | exact (Below.drewN HB2.out nq).setCell (Nat.le_refl _) _
            · refine (set_fa HG2.out (I + K) (v0 ^^^ Gf.mul m x y)).trans ?_
              rw [fa_congr (fun j _ => ?_)]
              rw [Gf.cfk_succ, EX.out, EY.out]
              unfold upd
              split
              · rename_i hj; rw [hj, EV.out]
              · rfl
          case measure => simp [intOf]; omega
        · have eK : K = q.length := by omega
          subst eK
          go_wp2
          go_roundw
          case rel => exact ⟨I + 1, by omega, by go_num, HB2.out, HG2.out⟩
          case measure => simp [intOf]; omega
    · have eI : I = p.length := by omega
      subst eI
      have hr : Rd .i64 wr (.slice (some ⟨w.heap.size, 0, none⟩) (p.length + q.length - 1) (p.length + q.length - 1)) (Gf.prod m p q) := Rd.of_fa HG.out _ _ (Nat.le_refl _) (Nat.le_refl _) (by unfold maxLen; omega)
      have ht : Gf.times m p q = Gf.trim (Gf.prod m p q) := by unfold Gf.times; rw [if_neg (by simp [p0, q0])]
      have HT := hid ht
      have HR := hid hr
      clear ht hr
      go_wp2_with (go_at_call 64; refine (trim_any _ _ _ HR.out).mono ?_; rintro e w' ⟨⟨v, rfl, hv⟩, rfl⟩)
      go_ret
      exact ⟨⟨v, rfl, by rw [HT.out]; exact hv⟩, HB.out⟩
end Go.Proofs.Ytjompiihdnaogaa
