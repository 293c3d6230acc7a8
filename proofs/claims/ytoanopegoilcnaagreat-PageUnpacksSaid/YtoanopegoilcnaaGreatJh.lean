/- Walks over bch: syndromes. -/
import Derived.Test.YtoanopegoilcnaaGreatJf
import Derived.Test.YtoanopegoilcnaaGreatJa
import Derived.Test.YtoanopegoilcnaaGreatJb
import Derived.Test.YtoanopegoilcnaaGreatZBcc
import Derived.Deep.CutBlock
set_option linter.unusedVariables false
namespace Go.Proofs.YtoanopegoilcnaaGreat
open Go.RowKit Go.Mem

/-- The syndromes' row, the first K turned by the word's bit at a power. -/
def sadd (m power : Nat) (f : Nat → Nat) (K j : Nat) : Nat := if j < K then f j ^^^ Gf.pw m (power * (j + 1)) else f j
theorem sadd_lt {m : Nat} (hm : Gf.Ok m) (power : Nat) (f : Nat → Nat) (hf : ∀ j, f j < 2^m) (K j : Nat) : sadd m power f K j < 2^m := by
  unfold sadd
  split
  · exact Nat.xor_lt_two_pow (hf j) (Gf.pw_lt hm _)
  · exact hf j
theorem sadd_succ (m power : Nat) (f : Nat → Nat) (K j : Nat) : upd (sadd m power f K) K (sadd m power f K K ^^^ Gf.pw m (power * (K + 1))) j = sadd m power f (K+1) j := by
  unfold upd sadd
  by_cases h : j = K
  · subst h; simp
  · rw [if_neg h]
    by_cases h2 : j < K
    · rw [if_pos h2, if_pos (by omega)]
    · rw [if_neg h2, if_neg (by omega)]

set_option maxRecDepth 100000 in
set_option maxHeartbeats 800000 in
theorem sadd_any (sb cb c g n bytes t m power : Nat) (f : Nat → Nat) (W w : World) (hp : Par bytes t m) (h : CodeAt W c bytes t m) (hb : Below W.heap.size W w) (hgW : W.heap.size ≤ g)
    (hs : w.heap[sb]? = some (.cells #[.slice (some ⟨g, 0, none⟩) n n] 31 (0, 0))) (hc : w.heap[cb]? = some (.cells #[.pointer (some ⟨c, 0, none⟩)] 65 (0, 0)))
    (hg : w.heap[g]? = some (.cells (fa .i64 n f) 3 (0, 0))) (hsg : sb ≠ g) (hcg : cb ≠ g) (hn : n ≤ 16) (hpw : power ≤ 10000) (hf : ∀ j, f j < 2^m) :
    Calls Tryz.prog 76 #[.int .i64 power, .pointer (some ⟨sb, 0, none⟩), .pointer (some ⟨cb, 0, none⟩)] w fun e w' => e = .returned (.tuple #[]) ∧ w'.heap[g]? = some (.cells (fa .i64 n (sadd m power f n)) 3 (0, 0)) ∧ w.grownBy w' (some g) ∧ w'.heap.size = w.heap.size := by
  have hm := hp.ok
  have h13 := hm.2
  have hl2 : 2^m ≤ 8192 := Nat.pow_le_pow_right (n := 2) (by decide) h13
  have cs : w.cell? ⟨sb, 0, none⟩ = some (.slice (some ⟨g, 0, none⟩) n n) := cell_at hs 0
  have HS := hid hs
  have HC := hid hc
  have HG0 := hid hg
  have HB := hid hb
  have HH := hid h
  obtain ⟨fb, gv, h1, h2, h3⟩ := h
  have H1 := hid h1
  have H2 := hid h2
  have HF := hid hf
  clear hs hc hg hb h1 h2 h3 hf
  go_enter Tryz.func76, Tryz.ntmps76
  go_wp2
  clear cs
  go_loopg [7] n (fun gk k wr => ∃ K : Nat, K + gk = n ∧ k = .int .i64 K ∧ w.grownBy wr (some g) ∧ wr.heap.size = w.heap.size ∧ wr.heap[g]? = some (.cells (fa .i64 n (sadd m power f K)) 3 (0, 0)))
  case atStart => exact ⟨0, by omega, rfl, World.grownBy.refl _ _, rfl, HG0.out.trans (by rw [fa_congr (fun j _ => ?_)]; simp [sadd])⟩
  case round =>
    obtain ⟨K, hK, rfl, hgr, hsz, hg⟩ := hrel
    have HGR := hid hgr
    have HSZ := hid hsz
    have HG := hid hg
    have hS : wr.heap[sb]? = _ := (hgr.block sb (lt_at HS.out) (fun h => hsg (by cases h; rfl))).trans HS.out
    have hC : wr.heap[cb]? = _ := (hgr.block cb (lt_at HC.out) (fun h => hcg (by cases h; rfl))).trans HC.out
    have hBW : Below W.heap.size W wr := HB.out.grown hgr HB.out.size (fun k hk => by cases hk; exact hgW)
    have h1' : wr.heap[c]? = _ := (hBW.block c (lt_at H1.out)).trans H1.out
    have cs : wr.cell? ⟨sb, 0, none⟩ = some (.slice (some ⟨g, 0, none⟩) n n) := cell_at hS 0
    have cc : wr.cell? ⟨cb, 0, none⟩ = some (.pointer (some ⟨c, 0, none⟩)) := cell_at hC 0
    have cf : wr.cell? ⟨c, 0, none⟩ = some (.pointer (some ⟨fb, 0, none⟩)) := cell_at h1' 0
    have HM : Hid (Made wr fb m) := hid (H2.out.below hBW)
    have HBW := hid hBW
    clear hgr hsz hg hS hC h1' hBW
    by_cases hlt : K < n
    · have cz : wr.cell? ⟨g, K, none⟩ = some (.int .i64 ((sadd m power f K K : Nat) : Int)) := fa_cell HG.out hlt
      have fz : wr.frozen? ⟨g, K, none⟩ = false := free_at HG.out _
      have hlt' : (K : Int) < (n : Int) := by omega
      obtain ⟨E, hE⟩ : ∃ E : Int, E = ((power * (K + 1) : Nat) : Int) := ⟨_, rfl⟩
      have hEb : power * (K + 1) ≤ 10000 * 16 := Nat.mul_le_mul hpw (by omega)
      have hmul : IntKind.i64.wrap ((power : Int) * ((K : Int) + 1)) = E := by
        have : (power : Int) * ((K : Int) + 1) = ((power * (K + 1) : Nat) : Int) := by simp
        rw [this, hE]
        exact IntWalk.i64_in _ (by omega)
      have hex := exp_made fb m E
      have htn : turn E (Gf.sz m) = (power * (K + 1)) % Gf.sz m := by rw [hE]; unfold turn; omega
      rw [htn, Gf.pw_mod hm] at hex
      have hv1 := sadd_lt hm power f HF.out K K
      have hv2 := Gf.pw_lt hm (power * (K + 1))
      have ex := xor_i64 (sadd m power f K K) (Gf.pw m (power * (K + 1))) (by omega) (by omega)
      have HEX := hid hex
      have HE := hid hE
      clear hex hE htn hEb
      obtain ⟨v1, ev1⟩ : ∃ v1, sadd m power f K K = v1 := ⟨_, rfl⟩
      obtain ⟨v2, ev2⟩ : ∃ v2, Gf.pw m (power * (K + 1)) = v2 := ⟨_, rfl⟩
      rw [ev1] at cz ex hv1
      rw [ev2] at ex hv2 HEX
      have EV1 := hid ev1
      have EV2 := hid ev2
      clear ev1 ev2
      go_wp2
      refine wp_region_quiet_tail 15 (by kernel_rfl) (by kernel_rfl) ?_
      simp only [List.take_succ_cons, List.take_zero, List.drop_succ_cons, List.drop_zero]
      repeat (go_big_quiet_step ((go_at_call 60; exact Calls.quiet_of (HEX.out _ hm HM.out))))
      refine wpQuiet_nil ?_
      intro _ hw'
      obtain ⟨nq, hw''⟩ := hw'
      subst hw''
      go_wp2
      go_roundg (gk - 1)
      case measure => omega
      case rel =>
        refine ⟨K + 1, by omega, by go_num, ?_, ?_, ?_⟩
        · refine grown_trans HGR.out ⟨rfl, rfl, rfl, by simp, fun k _ hk => (set_other (fun e => hk (by rw [e]))).trans rfl⟩
        · simpa using HSZ.out
        · refine (set_fa (w := wr.drewN nq) HG.out K _).trans ?_
          rw [fa_congr (fun j _ => ?_)]
          rw [← EV1.out, ← EV2.out, sadd_succ]
    · obtain rfl : K = n := by omega
      go_wp2
      go_end0
      exact ⟨rfl, HG.out, HGR.out, HSZ.out⟩
end Go.Proofs.YtoanopegoilcnaaGreat
/- Walks over bch: syndromes. -/
namespace Go.Proofs.YtoanopegoilcnaaGreat
open Go.RowKit Go.Mem

/-- The value of I bits, the first of them at power P - 1, at the k-th power. -/
def sy1 (m P : Nat) (b : Nat → Bool) (I k : Nat) : Nat := Gf.sx (fun i => if b i then Gf.pw m ((P - 1 - i) * (k + 1)) else 0) I
theorem sy1_succ (m P : Nat) (b : Nat → Bool) (I k : Nat) : sy1 m P b (I+1) k = sy1 m P b I k ^^^ (if b I then Gf.pw m ((P - 1 - I) * (k + 1)) else 0) := rfl
theorem sy1_lt {m : Nat} (hm : Gf.Ok m) (P : Nat) (b : Nat → Bool) (I k : Nat) : sy1 m P b I k < 2^m := by
  refine Gf.sx_lt _ _ fun i _ => ?_
  split
  · exact Gf.pw_lt hm _
  · exact Nat.two_pow_pos m
/-- The word's syndromes. -/
def synf (m n r : Nat) (d p : Nat → Nat) (I J k : Nat) : Nat := sy1 m (n + r) (bitAt d) I k ^^^ sy1 m r (bitAt p) J k
theorem synf_lt {m : Nat} (hm : Gf.Ok m) (n r : Nat) (d p : Nat → Nat) (I J k : Nat) : synf m n r d p I J k < 2^m := Nat.xor_lt_two_pow (sy1_lt hm _ _ _ _) (sy1_lt hm _ _ _ _)
theorem synf_d (m n r : Nat) (d p : Nat → Nat) (I k : Nat) (_hI : I < n) : synf m n r d p (I+1) 0 k = if bitAt d I then synf m n r d p I 0 k ^^^ Gf.pw m ((n + r - 1 - I) * (k+1)) else synf m n r d p I 0 k := by
  unfold synf
  rw [sy1_succ]
  split
  · rw [Nat.xor_assoc, Nat.xor_assoc, Nat.xor_comm (Gf.pw m _)]
  · rw [Nat.xor_zero]
theorem synf_p (m n r : Nat) (d p : Nat → Nat) (J k : Nat) : synf m n r d p n (J+1) k = if bitAt p J then synf m n r d p n J k ^^^ Gf.pw m ((r - 1 - J) * (k+1)) else synf m n r d p n J k := by
  unfold synf
  rw [sy1_succ]
  split
  · rw [Nat.xor_assoc]
  · rw [Nat.xor_zero]
/-- The first I are all nought. -/
def az (f : Nat → Nat) : Nat → Bool
  | 0 => true
  | I + 1 => az f I && decide (f I = 0)
theorem az_iff (f : Nat → Nat) (I : Nat) : az f I = true ↔ ∀ k, k < I → f k = 0 := by
  induction I with
  | zero => simp [az]
  | succ I ih =>
    rw [az, Bool.and_eq_true, ih, decide_eq_true_iff]
    constructor
    · rintro ⟨h1, h2⟩ k hk
      by_cases e : k = I
      · rw [e]; exact h2
      · exact h1 k (by omega)
    · intro h; exact ⟨fun k hk => h k (by omega), h I (by omega)⟩

theorem az_step (f : Nat → Nat) (I : Nat) : az f (I+1) = (az f I && decide (f I = 0)) := rfl

theorem sadd_int (sb cb c g n bytes t m : Nat) (E : Int) (f : Nat → Nat) (W w : World) (hp : Par bytes t m) (h : CodeAt W c bytes t m) (hb : Below W.heap.size W w) (hgW : W.heap.size ≤ g)
    (hs : w.heap[sb]? = some (.cells #[.slice (some ⟨g, 0, none⟩) n n] 31 (0, 0))) (hc : w.heap[cb]? = some (.cells #[.pointer (some ⟨c, 0, none⟩)] 65 (0, 0)))
    (hg : w.heap[g]? = some (.cells (fa .i64 n f) 3 (0, 0))) (hsg : sb ≠ g) (hcg : cb ≠ g) (hn : n ≤ 16) (h0 : 0 ≤ E) (hpw : E ≤ 10000) (hf : ∀ j, f j < 2^m) :
    Calls Tryz.prog 76 #[.int .i64 E, .pointer (some ⟨sb, 0, none⟩), .pointer (some ⟨cb, 0, none⟩)] w fun e w' => e = .returned (.tuple #[]) ∧ w'.heap[g]? = some (.cells (fa .i64 n (sadd m E.toNat f n)) 3 (0, 0)) ∧ w.grownBy w' (some g) ∧ w'.heap.size = w.heap.size := by
  obtain ⟨N, rfl⟩ := Int.eq_ofNat_of_zero_le h0
  exact sadd_any sb cb c g n bytes t m N f W w hp h hb hgW hs hc hg hsg hcg hn (by omega) hf

/-- What stands in memory while the word is summed. -/
def SynInv (w wr : World) (c C S G n2 : Nat) (f : Nat → Nat) : Prop :=
  Below w.heap.size w wr ∧ wr.heap[C]? = some (.cells #[.pointer (some ⟨c, 0, none⟩)] 65 (0, 0)) ∧
  wr.heap[S]? = some (.cells #[.slice (some ⟨G, 0, none⟩) n2 n2] 31 (0, 0)) ∧ wr.heap[G]? = some (.cells (fa .i64 n2 f) 3 (0, 0)) ∧ S ≠ G ∧ C ≠ G ∧ w.heap.size ≤ G ∧ w.heap.size ≤ C

theorem SynInv.next {w wr w2 : World} {c C S G n2 : Nat} {f f' : Nat → Nat} (h : SynInv w wr c C S G n2 f) (h1 : w2.heap[G]? = some (.cells (fa .i64 n2 f') 3 (0, 0))) (h2 : wr.grownBy w2 (some G)) : SynInv w w2 c C S G n2 f' := by
  obtain ⟨i1, i2, i3, i4, i5, i6, i7, i8⟩ := h
  exact ⟨i1.grown h2 i1.size (fun k hk => by cases hk; exact i7), (h2.block C (lt_at i2) (fun h => i6 (by cases h; rfl))).trans i2, (h2.block S (lt_at i3) (fun h => i5 (by cases h; rfl))).trans i3, h1, i5, i6, i7, i8⟩
theorem SynInv.turn {w wr w2 : World} {c C S G n2 : Nat} {f f' g : Nat → Nat} (h : SynInv w wr c C S G n2 f) (h1 : w2.heap[G]? = some (.cells (fa .i64 n2 g) 3 (0, 0))) (h2 : wr.grownBy w2 (some G)) (h3 : ∀ j, j < n2 → g j = f' j) : SynInv w w2 c C S G n2 f' :=
  h.next (by rw [h1, fa_congr h3]) h2

/-- What syndromes hands back. -/
def SynRet (w w' : World) (m n r t : Nat) (d p : Nat → Nat) (e : Ending) : Prop :=
  ∃ g, w.heap.size ≤ g ∧ e = .returned (.tuple #[.slice (some ⟨g, 0, none⟩) (2 * t) (2 * t), .bool (az (synf m n r d p n r) (2 * t))]) ∧ w'.heap[g]? = some (.cells (fa .i64 (2 * t) (synf m n r d p n r)) 3 (0, 0))

set_option maxRecDepth 100000 in
set_option maxHeartbeats 1600000 in
theorem syndromes_any (c bytes t m : Nat) (v1 v2 : Value) (xs ys : List Nat) (w : World) (hp : Par bytes t m) (h : CodeAt w c bytes t m) (hv1 : Rd .u8 w v1 xs) (hv2 : Rd .u8 w v2 ys)
    (hx : ∀ y ∈ xs, y < 256) (hy : ∀ y ∈ ys, y < 256) (hxl : xs.length = bytes) (hyl : rr m t ≤ 8 * ys.length) :
    Calls Tryz.prog 57 #[.pointer (some ⟨c, 0, none⟩), v1, v2] w fun e w' => SynRet w w' m (8 * bytes) (rr m t) t (xs.getD · 0) (ys.getD · 0) e ∧ Below w.heap.size w w' := by
  have hr := hp.r
  have hm := hp.ok
  have h13 := hm.2
  have hl2 : 2^m ≤ 8192 := Nat.pow_le_pow_right (n := 2) (by decide) h13
  have HH := hid h
  have HX := hid hx
  have HY := hid hy
  have HV1 := hid hv1
  have HV2 := hid hv2
  obtain ⟨fb, gv, h1, h2, h3⟩ := h
  have hmf : ∀ (fn : Fn) (first cap : Array Value) (w : World), (Instr.makeFunc fn first cap).run Tryz.prog w = .ok (.func fn first cap) w := fun _ _ _ _ => rfl
  have c1 : w.cell? ⟨c, 1, none⟩ = some (.int .i64 bytes) := cell_at h1 1
  have c2 : w.cell? ⟨c, 2, none⟩ = some (.int .i64 t) := cell_at h1 2
  have hcl := lt_at h1
  obtain ⟨n2, hn2⟩ : ∃ n2, 2 * t = n2 := ⟨_, rfl⟩
  obtain ⟨n8, hn8⟩ : ∃ n8, 8 * bytes = n8 := ⟨_, rfl⟩
  have b2 := hp.b2
  have t8 := hp.t8
  have hmk : ∀ w, (Instr.makeSlice 31 (.int .i64 (n2 : Int)) (.int .i64 (n2 : Int))).run Tryz.prog w = .ok (.slice (some ⟨w.heap.size, 0, none⟩) n2 n2) (w.alloc (.cells (fa .i64 n2 (fun _ => 0)) 3)) := fun w => mk_int _ (by omega) w
  have e2 : IntKind.i64.wrap ((2:Int) * (t:Int)) = (n2 : Int) := by rw [IntWalk.i64_in _ (by omega)]; omega
  have e8 : IntKind.i64.wrap ((8:Int) * (bytes:Int)) = (n8 : Int) := by rw [IntWalk.i64_in _ (by omega)]; omega
  have c1' := (World.cell?_alloc_past (w := w) (.cells #[.pointer (some ⟨c, 0, none⟩)] 65) _ _ hcl).trans c1
  have c2' := (World.cell?_alloc_past (w := w) (.cells #[.pointer (some ⟨c, 0, none⟩)] 65) _ _ hcl).trans c2
  have r104 := hr.2.2.2.1
  clear h1 h2 h3 hv1 hv2 hx hy hr
  go_enter Tryz.func57, Tryz.ntmps57
  go_wp2
  go_quiet ((go_at_call 54; exact quiet_eq (codeBits_any c bytes t m _ (HH.out.below (by (repeat (first | exact Below.refl _ _ | refine bl_drew ?_ | refine bl_drewN ?_ _ | refine bl_alloc ?_ _ | refine bl_set ?_ (by first | (simp; done) | (simp; omega)) _ | refine Below.comp ?_ (by assumption))))) hp)))
  go_wp2
  have hH : SynInv w ((((w.alloc (.cells #[.pointer (some ⟨c, 0, none⟩)] 65)).drewN nq).alloc (.cells (fa .i64 n2 (fun _ => 0)) 3)).alloc (.cells #[.slice (some ⟨w.heap.size + 1, 0, none⟩) n2 n2] 31)) c w.heap.size (w.heap.size + 1 + 1) (w.heap.size + 1) n2 (fun _ => 0) := by
    refine ⟨by (repeat (first | exact Below.refl _ _ | refine bl_drew ?_ | refine bl_drewN ?_ _ | refine bl_alloc ?_ _ | refine bl_set ?_ (by first | (simp; done) | (simp; omega)) _ | refine Below.comp ?_ (by assumption))), ?_, ?_, ?_, by omega, by omega, by omega, by omega⟩
    · exact (alloc_old (by simp; omega)).trans ((alloc_old (by simp)).trans (alloc_new w _))
    · exact alloc_at (by simp)
    · exact (alloc_old (by simp)).trans (alloc_at (by simp))
  have HI := hid hH
  clear hH c1 c2 c1' c2'
  obtain ⟨C, hC⟩ : ∃ C, w.heap.size = C := ⟨_, rfl⟩
  obtain ⟨G, hG⟩ : ∃ G, C + 1 = G := ⟨_, rfl⟩
  obtain ⟨S, hS⟩ : ∃ S, G + 1 = S := ⟨_, rfl⟩
  generalize ((((w.alloc (.cells #[.pointer (some ⟨c, 0, none⟩)] 65)).drewN nq).alloc (.cells (fa .i64 n2 (fun _ => 0)) 3)).alloc (.cells #[.slice (some ⟨w.heap.size + 1, 0, none⟩) n2 n2] 31)) = wz at *
  simp only [hC, hS, hG] at *
  clear hC hS hG
  have e0 : synf m n8 (rr m t) (xs.getD · 0) (ys.getD · 0) 0 0 = fun _ => 0 := by funext k; simp [synf, sy1, Gf.sx]
  go_loopg [32] n8 (fun gk i wr => ∃ I : Nat, I + gk = n8 ∧ i = .int .i64 I ∧ SynInv w wr c C S G n2 (synf m n8 (rr m t) (xs.getD · 0) (ys.getD · 0) I 0))
  case atStart => exact ⟨0, by omega, rfl, by rw [e0]; exact HI.out⟩
  case round =>
    clear HI e0
    obtain ⟨I, hI, rfl, hinv⟩ := hrel
    have HI := hid hinv
    obtain ⟨i1, i2, i3, i4, i5, i6, i7, i8⟩ := hinv
    have I1 := hid i1
    have I2 := hid i2
    have I3 := hid i3
    have I4 := hid i4
    clear i1 i2 i3 i4
    by_cases hlt : I < n8
    · have hb := bit_any v1 xs I wr (HV1.out.below I1.out) HX.out (by omega)
      obtain ⟨E, hE⟩ : ∃ E : Int, (n8 : Int) + rr m t - 1 - I = E := ⟨_, rfl⟩
      have hE0 : 0 ≤ E := by omega
      have hE1 : E ≤ 10000 := by omega
      have hEn : E.toNat = n8 + rr m t - 1 - I := by omega
      have HEN := hid hEn
      clear hEn
      by_cases hbit : bitAt (xs.getD · 0) I = true
      · rw [hbit] at hb
        have HB := hid hb
        have HBI := hid hbit
        clear hb hbit
        go_wp2_with (first | (go_at_call 77; refine HB.out.mono ?_; rintro e w' ⟨rfl, rfl⟩) | (go_at_call 76; refine (sadd_int S C c G n2 bytes t m E _ w _ hp HH.out I1.out i7 I3.out I2.out I4.out i5 i6 (by omega) hE0 hE1 (synf_lt hm _ _ _ _ _ _)).mono ?_; rintro e w2 ⟨rfl, ht1, ht2, ht3⟩))
        go_roundg (gk - 1)
        case measure => omega
        case rel =>
          refine ⟨I + 1, by omega, by go_num, HI.out.turn ht1 ht2 fun j hj => ?_⟩
          rw [synf_d _ _ _ _ _ _ _ hlt, if_pos HBI.out, HEN.out]
          simp [sadd, hj]
      · rw [Bool.not_eq_true] at hbit
        rw [hbit] at hb
        have HB := hid hb
        have HBI := hid hbit
        clear hb hbit
        go_wp2_with (go_at_call 77; refine HB.out.mono ?_; rintro e w' ⟨rfl, rfl⟩)
        go_roundg (gk - 1)
        case measure => omega
        case rel =>
          refine ⟨I + 1, by omega, by go_num, ?_⟩
          have : synf m n8 (rr m t) (xs.getD · 0) (ys.getD · 0) (I + 1) 0 = synf m n8 (rr m t) (xs.getD · 0) (ys.getD · 0) I 0 := by
            funext k
            rw [synf_d _ _ _ _ _ _ _ hlt, HBI.out]; rfl
          rw [this]
          exact HI.out
    · obtain rfl : I = n8 := by omega
      clear I1 I2 I3 I4
      obtain ⟨wo, rfl⟩ : ∃ wo : World, wo = wr := ⟨_, rfl⟩
      go_wp2
      go_loopg [49] (rr m t) (fun gk i wr => ∃ J : Nat, J + gk = rr m t ∧ i = .int .i64 J ∧ SynInv w wr c C S G n2 (synf m I (rr m t) (xs.getD · 0) (ys.getD · 0) I J))
      case atStart => exact ⟨0, by omega, rfl, HI.out⟩
      case round =>
        clear HI
        obtain ⟨J, hJ, rfl, hinv⟩ := hrel
        have HI := hid hinv
        obtain ⟨i1, i2, i3, i4, i5, i6, i7, i8⟩ := hinv
        have I1 := hid i1
        have I2 := hid i2
        have I3 := hid i3
        have I4 := hid i4
        clear i1 i2 i3 i4
        by_cases hlt : J < rr m t
        · have hb := bit_any v2 ys J wr (HV2.out.below I1.out) HY.out (by omega)
          obtain ⟨E, hE⟩ : ∃ E : Int, (rr m t : Int) - 1 - J = E := ⟨_, rfl⟩
          have hE0 : 0 ≤ E := by omega
          have hE1 : E ≤ 10000 := by omega
          have hEn : E.toNat = rr m t - 1 - J := by omega
          have HEN := hid hEn
          clear hEn
          by_cases hbit : bitAt (ys.getD · 0) J = true
          · rw [hbit] at hb
            have HB := hid hb
            have HBI := hid hbit
            clear hb hbit
            go_wp2_with (first | (go_at_call 77; refine HB.out.mono ?_; rintro e w' ⟨rfl, rfl⟩) | (go_at_call 76; refine (sadd_int S C c G n2 bytes t m E _ w _ hp HH.out I1.out i7 I3.out I2.out I4.out i5 i6 (by omega) hE0 hE1 (synf_lt hm _ _ _ _ _ _)).mono ?_; rintro e w2 ⟨rfl, ht1, ht2, ht3⟩))
            go_roundg (gk - 1)
            case measure => omega
            case rel =>
              refine ⟨J + 1, by omega, by go_num, HI.out.turn ht1 ht2 fun j hj => ?_⟩
              rw [synf_p, if_pos HBI.out, HEN.out]
              simp [sadd, hj]
          · rw [Bool.not_eq_true] at hbit
            rw [hbit] at hb
            have HB := hid hb
            have HBI := hid hbit
            clear hb hbit
            go_wp2_with (go_at_call 77; refine HB.out.mono ?_; rintro e w' ⟨rfl, rfl⟩)
            go_roundg (gk - 1)
            case measure => omega
            case rel =>
              refine ⟨J + 1, by omega, by go_num, ?_⟩
              have : synf m I (rr m t) (xs.getD · 0) (ys.getD · 0) I (J + 1) = synf m I (rr m t) (xs.getD · 0) (ys.getD · 0) I J := by
                funext k
                rw [synf_p, HBI.out]; rfl
              rw [this]
              exact HI.out
        · obtain rfl : J = rr m t := by omega
          have cs : wr.cell? ⟨S, 0, none⟩ = some (.slice (some ⟨G, 0, none⟩) n2 n2) := cell_at I3.out 0
          clear I1 I2 I3
          have hfl := synf_lt hm I (rr m t) (xs.getD · 0) (ys.getD · 0) I (rr m t)
          generalize hf : synf m I (rr m t) (xs.getD · 0) (ys.getD · 0) I (rr m t) = f at *
          have HF := hid hf
          clear hf
          obtain ⟨wo, rfl⟩ : ∃ wo : World, wo = wr := ⟨_, rfl⟩
          go_wp2
          go_loopg [65, 11] n2 (fun gk i b wr => ∃ K : Nat, K + gk = n2 ∧ i = .int .i64 K ∧ b = .bool (az f K) ∧ wr = wo)
          case atStart => exact ⟨0, by omega, rfl, rfl, rfl⟩
          case round =>
            obtain ⟨K, hK, rfl, rfl, rfl⟩ := hrel
            by_cases hlt2 : K < n2
            · have cx : wr.cell? ⟨G, K, none⟩ = some (.int .i64 ((f K : Nat) : Int)) := fa_cell I4.out hlt2
              have hlt3 : (K : Int) < (n2 : Int) := by omega
              have hz := az_step f K
              generalize hbz : az f K = bz at *
              generalize hx : f K = x at *
              have HZ := hid hz
              have HBZ := hid hbz
              have HX := hid hx
              clear hz hbz hx
              have HFL := hid hfl
              clear hfl
              cases bz with
              | false =>
                go_wp2
                go_roundg (gk - 1)
                case measure => omega
                case rel => exact ⟨K + 1, by omega, by go_num, by rw [HZ.out]; rfl, rfl⟩
              | true =>
                by_cases hx0 : x = 0
                · subst hx0
                  go_wp2
                  go_roundg (gk - 1)
                  case measure => omega
                  case rel => exact ⟨K + 1, by omega, by go_num, by rw [HZ.out]; rfl, rfl⟩
                · have hx1 : ((x : Int) == 0) = false := by simpa using hx0
                  have HX0 := hid hx0
                  clear hx0
                  go_wp2
                  go_roundg (gk - 1)
                  case measure => omega
                  case rel => exact ⟨K + 1, by omega, by go_num, by rw [HZ.out]; simp [HX0.out], rfl⟩
            · obtain rfl : K = n2 := by omega
              go_wp2
              go_ret2
              have hn2' : 2 * t = K := hn2
              refine ⟨⟨G, i7, ?_, ?_⟩, HI.out.1⟩
              · rw [hn2', hn8, HF.out]; rfl
              · rw [hn2', hn8, HF.out]; exact I4.out
end Go.Proofs.YtoanopegoilcnaaGreat
/- Walks: rows made anew (Clone), rows compared (Equal), a bit turned in a row of one's own. -/
namespace Go.Proofs.YtoanopegoilcnaaGreat
open Go.RowKit Go.Mem

theorem addr_add (g o j : Nat) : (⟨g, o, none⟩ : Addr).add j = ⟨g, o + j, none⟩ := by unfold Addr.add; split <;> simp_all
theorem news_rd {k : IntKind} {w : World} {g o : Nat} {xs : List Nat} (h : ∀ j, j < xs.length → w.cell? ⟨g, o + j, none⟩ = some (.int k ((xs.getD j 0 : Nat) : Int))) :
    ∀ j u, (xs.map fun x => Value.int k (x : Nat))[j]? = some u → w.cell? ((⟨g, o, none⟩ : Addr).add j) = some u := by
  intro j u hu
  rw [addr_add]
  rw [List.getElem?_map] at hu
  rcases Nat.lt_or_ge j xs.length with hj | hj
  · rw [h j hj]
    rw [List.getElem?_eq_getElem hj] at hu
    simp only [Option.map_some, Option.some.injEq] at hu
    rw [← hu]; simp [List.getD, hj]
  · rw [List.getElem?_eq_none hj] at hu; cases hu
theorem news_get {k : IntKind} (xs : List Nat) : ∀ j, j < xs.length → (xs.map fun x => Value.int k (x : Nat))[j]? = some (.int k ((xs.getD j 0 : Nat) : Int)) := fun j hj => by
  rw [List.getElem?_map, List.getElem?_eq_getElem hj]; simp [List.getD, hj]
theorem rd_block {k : IntKind} {w : World} {a : Option Addr} {n cap : Nat} {xs : List Nat} (h : Rd k w (.slice a n cap) xs) (h0 : 0 < xs.length) :
    ∃ g o, a = some ⟨g, o, none⟩ ∧ n = xs.length ∧ g < w.heap.size ∧ ∀ j, j < xs.length → w.cell? ⟨g, o + j, none⟩ = some (.int k ((xs.getD j 0 : Nat) : Int)) := by
  obtain ⟨a', cap', hv, h1, h2, hc⟩ := h
  cases hv
  obtain ⟨g, o, rfl, hx⟩ := hc 0 h0
  refine ⟨g, o, rfl, rfl, World.block_lt_of_cell? _ _ hx, fun j hj => ?_⟩
  obtain ⟨g', o', he, hx'⟩ := hc j hj
  cases he
  exact hx'

theorem eq_nil (t e : TypeId) (a : Addr) (l c : Nat) (w : World) (h : Tryz.prog.underlying t = some (.slice e)) : (binOp .eql t (.slice (some a) l c) (.slice none 0 0)).run Tryz.prog w = .ok (.bool false) w := by
  simp only [binOp]
  simp [run_equal_slice_nil w t e (some a) l c h]

/-- A clone: a row of its own. -/
def CloneRet (k : IntKind) (e : TypeId) (w w' : World) (xs : List Nat) (r : Ending) : Prop :=
  ∃ g cap, w.heap.size ≤ g ∧ r = .returned (.slice (some ⟨g, 0, none⟩) xs.length cap) ∧ Ow k e w' g xs.length cap (xs.getD · 0)

set_option maxRecDepth 100000 in
set_option maxHeartbeats 800000 in
theorem clone_bytes (v : Value) (xs : List Nat) (w : World) (hv : Rd .u8 w v xs) (h0 : 0 < xs.length) (h1 : xs.length ≤ 1000000) :
    Calls Tryz.prog 55 #[v] w fun e w' => CloneRet .u8 5 w w' xs e ∧ Below w.heap.size w w' := by
  have hv0 := hv
  obtain ⟨a, cap, rfl, x1, x2, x3⟩ := hv
  obtain ⟨g, o, rfl, _, hg, hcell⟩ := rd_block hv0 h0
  clear x3 hv0
  obtain ⟨i, hi, hz, hs, hb⟩ := info_parts info_byte
  have HC := hid hcell
  clear hcell
  have hnil := fun w => eq_nil 39 5 ⟨g, o, none⟩ xs.length cap w Tryz.underlying39
  go_enter Tryz.func55, Tryz.ntmps55
  go_wp2_with (at_builtin; refine wpList_append_lies _ rfl _ _ 39 rfl w.heap.size 5 i (.int .u8 0) 1 1 Tryz.underlying39 hi hz hs hb rfl (by decide) (.slice (some ⟨w.heap.size, 0, none⟩) 0 0) 0 [] rfl (World.ownsRow_made w #[] 0 (Nat.le_refl _) (by decide) rfl) ⟨g, o, none⟩ xs.length cap (xs.map fun x => Value.int .u8 (x : Nat)) rfl (by simp) (news_rd (fun j hj => (World.cell?_alloc_past _ _ _ hg).trans (HC.out j hj))) (fun u hu => by obtain ⟨a, _, rfl⟩ := List.mem_map.1 hu; rfl) h0 (by unfold maxLen; omega) (by omega) (by simp) _ rfl ?_; intro g1 cap1 w1 hown hgrow hat hlt)
  go_ret
  have ho := Ow.of_owns (k := .u8) (f := (xs.getD · 0)) hown (fun j hj => by
    have := news_get (k := .u8) xs j (by simpa using hj)
    simpa using this)
  refine ⟨⟨g1, cap1, ho.1, rfl, ?_⟩, ?_⟩
  · simpa using ho.2.2
  · exact (bl_alloc (Below.refl _ w) _).grown hgrow (by simp) (fun k hk => by cases hk; exact Nat.le_refl _)

set_option maxRecDepth 100000 in
set_option maxHeartbeats 800000 in
theorem clone_ints (v : Value) (xs : List Nat) (w : World) (hv : Rd .i64 w v xs) (h0 : 0 < xs.length) (h1 : xs.length ≤ 1000000) :
    Calls Tryz.prog 79 #[v] w fun e w' => CloneRet .i64 3 w w' xs e ∧ Below w.heap.size w w' := by
  have hv0 := hv
  obtain ⟨a, cap, rfl, x1, x2, x3⟩ := hv
  obtain ⟨g, o, rfl, _, hg, hcell⟩ := rd_block hv0 h0
  clear x3 hv0
  obtain ⟨i, hi, hz, hs, hb⟩ := info_parts info_int
  have HC := hid hcell
  clear hcell
  have hnil := fun w => eq_nil 31 3 ⟨g, o, none⟩ xs.length cap w Tryz.underlying31
  go_enter Tryz.func79, Tryz.ntmps79
  go_wp2_with (at_builtin; refine wpList_append_lies _ rfl _ _ 31 rfl w.heap.size 3 i (.int .i64 0) 1 8 Tryz.underlying31 hi hz hs hb rfl (by decide) (.slice (some ⟨w.heap.size, 0, none⟩) 0 0) 0 [] rfl (World.ownsRow_made w #[] 0 (Nat.le_refl _) (by decide) rfl) ⟨g, o, none⟩ xs.length cap (xs.map fun x => Value.int .i64 (x : Nat)) rfl (by simp) (news_rd (fun j hj => (World.cell?_alloc_past _ _ _ hg).trans (HC.out j hj))) (fun u hu => by obtain ⟨a, _, rfl⟩ := List.mem_map.1 hu; rfl) h0 (by unfold maxLen; omega) (by omega) (by simp) _ rfl ?_; intro g1 cap1 w1 hown hgrow hat hlt)
  go_ret
  have ho := Ow.of_owns (k := .i64) (f := (xs.getD · 0)) hown (fun j hj => by
    have := news_get (k := .i64) xs j (by simpa using hj)
    simpa using this)
  refine ⟨⟨g1, cap1, ho.1, rfl, ?_⟩, ?_⟩
  · simpa using ho.2.2
  · exact (bl_alloc (Below.refl _ w) _).grown hgrow (by simp) (fun k hk => by cases hk; exact Nat.le_refl _)


theorem eq_of_getD {xs ys : List Nat} (hl : xs.length = ys.length) (h : ∀ j, j < xs.length → xs.getD j 0 = ys.getD j 0) : xs = ys := by
  apply List.ext_getElem hl
  intro j h1 h2
  have := h j h1
  simpa [List.getD, h1, h2] using this

set_option maxRecDepth 100000 in
set_option maxHeartbeats 800000 in
theorem equal_bytes (v1 v2 : Value) (xs ys : List Nat) (w : World) (hv1 : Rd .u8 w v1 xs) (hv2 : Rd .u8 w v2 ys) (h1 : xs.length ≤ 1000000) (_h2 : ys.length ≤ 1000000) :
    Calls Tryz.prog 56 #[v1, v2] w fun e w' => e = .returned (.bool (decide (xs = ys))) ∧ ∃ k, w' = w.drewN k := by
  have HV1 := hid hv1
  have HV2 := hid hv2
  obtain ⟨a1, k1, rfl, p1, p2, p3⟩ := hv1
  obtain ⟨a2, k2, rfl, q1, q2, q3⟩ := hv2
  have HP := hid p3
  have HQ := hid q3
  clear p3 q3
  by_cases hl : xs.length = ys.length
  · have hne : ((xs.length : Int) != (ys.length : Int)) = false := by simp [hl]
    have HL := hid hl
    go_enter Tryz.func56, Tryz.ntmps56
    go_wp2
    go_loopg [13] xs.length (fun gk i wr => ∃ J : Nat, J + gk = xs.length ∧ i = .int .i64 J ∧ (∃ k, wr = w.drewN k) ∧ ∀ j, j < J → xs.getD j 0 = ys.getD j 0)
    case atStart => exact ⟨0, by omega, rfl, ⟨0, rfl⟩, fun j hj => absurd hj (Nat.not_lt_zero _)⟩
    case round =>
      obtain ⟨J, hJ, rfl, ⟨kd, rfl⟩, hsame⟩ := hrel
      have HS := hid hsame
      clear hsame
      by_cases hlt : J < xs.length
      · obtain ⟨g1, o1, rfl, hx1⟩ := HP.out J hlt
        obtain ⟨g2, o2, rfl, hx2⟩ := HQ.out J (by omega)
        have cx1 : (w.drewN kd).cell? ⟨g1, o1 + J, none⟩ = some (.int .u8 ((xs.getD J 0 : Nat) : Int)) := hx1
        have cx2 : (w.drewN kd).cell? ⟨g2, o2 + J, none⟩ = some (.int .u8 ((ys.getD J 0 : Nat) : Int)) := hx2
        have hlt1 : (J : Int) < (xs.length : Int) := by omega
        have hlt2 : (J : Int) < (ys.length : Int) := by omega
        clear hx1 hx2
        obtain ⟨x, ex⟩ : ∃ x, xs.getD J 0 = x := ⟨_, rfl⟩
        obtain ⟨y, ey⟩ : ∃ y, ys.getD J 0 = y := ⟨_, rfl⟩
        rw [ex] at cx1
        rw [ey] at cx2
        have EX := hid ex
        have EY := hid ey
        clear ex ey
        generalize hwd : w.drewN kd = wd at *
        have HWD := hid hwd
        clear hwd
        by_cases hxy : x = y
        · have hq : ((x : Int) != (y : Int)) = false := by simp [hxy]
          have HXY := hid hxy
          clear hxy
          go_wp2
          go_quiet (fail)
          go_wp2
          go_roundg (gk - 1)
          case measure => omega
          case rel =>
            refine ⟨J + 1, by omega, by go_num, ⟨kd + nq, by rw [← HWD.out, drewN_add]⟩, fun j hj => ?_⟩
            by_cases e : j = J
            · subst e; rw [EX.out, EY.out, HXY.out]
            · exact HS.out j (by omega)
        · have hq : ((x : Int) != (y : Int)) = true := bne_iff_ne.2 (by omega)
          have HXY := hid hxy
          clear hxy
          go_wp2
          go_quiet (fail)
          go_wp2
          go_ret
          have : ¬ xs = ys := fun e => HXY.out (by rw [← EX.out, ← EY.out, e])
          refine ⟨by rw [decide_eq_false this]; rfl, kd + nq, by rw [← HWD.out, drewN_add]⟩
      · go_wp2
        go_ret
        have : xs = ys := eq_of_getD HL.out (fun j hj => HS.out j (by omega))
        refine ⟨by rw [decide_eq_true this]; rfl, kd, rfl⟩
  · have hne : ((xs.length : Int) != (ys.length : Int)) = true := bne_iff_ne.2 (by omega)
    have HL := hid hl
    clear hl
    go_enter Tryz.func56, Tryz.ntmps56
    go_wp2
    go_ret
    have : ¬ xs = ys := fun e => HL.out (by rw [e])
    refine ⟨by rw [decide_eq_false this]; rfl, 0, rfl⟩
end Go.Proofs.YtoanopegoilcnaaGreat
/- The kinds of slices of this program. -/
namespace Go.Proofs.YtoanopegoilcnaaGreat
open Go.RowKit Go.Mem
theorem el_int : ElT Tryz.prog 31 3 .i64 8 := ⟨Tryz.underlying31, info_int, by decide⟩
theorem el_byte : ElT Tryz.prog 39 5 .u8 1 := ⟨Tryz.underlying39, info_byte, by decide⟩
end Go.Proofs.YtoanopegoilcnaaGreat
/- Walks over bch: the locator (Berlekamp, Massey). -/
namespace Gf
/-- How long the rows may grow. -/
theorem bms_len (m : Nat) (s : List Nat) (n : Nat) : (bms m s n).now.length ≤ n + 1 ∧ (bms m s n).was.length + (bms m s n).gap ≤ n + 2 ∧ 1 ≤ (bms m s n).now.length ∧ 1 ≤ (bms m s n).was.length := by
  induction n with
  | zero => simp [bms]
  | succ n ih =>
    show (bmStep m s n (bms m s n)).now.length ≤ _ ∧ (bmStep m s n (bms m s n)).was.length + (bmStep m s n (bms m s n)).gap ≤ _ ∧ 1 ≤ (bmStep m s n (bms m s n)).now.length ∧ 1 ≤ (bmStep m s n (bms m s n)).was.length
    generalize bms m s n = b at *
    obtain ⟨h1, h2, h3, h4⟩ := ih
    unfold bmStep
    split
    · exact ⟨by show b.now.length ≤ _; omega, by show b.was.length + (b.gap + 1) ≤ _; omega, h3, h4⟩
    · split
      · simp only [nextP, List.length_map, List.length_range]; omega
      · simp only [nextP, List.length_map, List.length_range]; omega
end Gf
namespace Go.Proofs.YtoanopegoilcnaaGreat
open Go.RowKit Go.Mem

theorem _root_.Go.Mem.Ow.owns {k : IntKind} {e : TypeId} {w : World} {g n cap base : Nat} {f : Nat → Nat} (h : Ow k e w g n cap f) (hb : base ≤ g) :
    w.ownsRow base e 1 (.slice (some ⟨g, 0, none⟩) n cap) n ((List.range n).map fun j => Value.int k (f j : Nat)) := by
  obtain ⟨cur, h1, h2, h3, h4, h5⟩ := h
  refine ⟨by simp, .inr ⟨g, cap, cur, rfl, hb, h1, h3, h4, by simpa using h2, ?_⟩⟩
  apply List.ext_getElem?
  intro j
  rw [Nat.mul_one, List.getElem?_take]
  by_cases hj : j < n
  · rw [if_pos hj]
    have := h5 j hj
    rw [Array.getElem?_toList, this]
    simp [hj]
  · rw [if_neg hj, List.getElem?_eq_none (by simp; omega)]

/-- A slice into memory of one's own. -/
def Fr (B : Nat) (v : Value) : Prop := ∃ (a : Option Addr) (n c g o : Nat), v = .slice a n c ∧ a = some ⟨g, o, none⟩ ∧ B ≤ g
theorem Fr.len {B : Nat} {a : Option Addr} {n c : Nat} (h : Fr B (.slice a n c)) (k : Nat) : Fr B (.slice a k c) := by
  obtain ⟨a', n', c', g, o, he, ha, hg⟩ := h
  cases he
  exact ⟨_, _, _, g, o, rfl, ha, hg⟩

/-- The next register, the first K terms of it turned. -/
def nxk (m : Nat) (now was : List Nat) (gap y K j : Nat) : Nat := now.getD j 0 ^^^ (if gap ≤ j ∧ j - gap < K then Gf.mul m y (was.getD (j - gap) 0) else 0)
theorem nxk_lt {m : Nat} (hm : Gf.Ok m) {now : List Nat} (hn : ∀ y ∈ now, y < 2^m) (was : List Nat) (gap y K j : Nat) : nxk m now was gap y K j < 2^m := by
  refine Nat.xor_lt_two_pow (Gf.getD_lt hn j) ?_
  split
  · exact Gf.mul_lt hm _ _
  · exact Nat.two_pow_pos m
theorem nxk_succ (m : Nat) (now was : List Nat) (gap y K : Nat) (j : Nat) : upd (nxk m now was gap y K) (K + gap) (nxk m now was gap y K (K + gap) ^^^ Gf.mul m y (was.getD K 0)) j = nxk m now was gap y (K+1) j := by
  unfold upd nxk
  by_cases h : j = K + gap
  · subst h
    rw [if_pos rfl, if_neg (by omega), if_pos (by omega), Nat.xor_zero, show K + gap - gap = K by omega]
  · rw [if_neg h]
    by_cases h2 : gap ≤ j ∧ j - gap < K
    · rw [if_pos h2, if_pos (by omega)]
    · rw [if_neg h2, if_neg (by omega)]
theorem nxk_all (m : Nat) (now was : List Nat) (gap y j : Nat) : nxk m now was gap y was.length j = Gf.nxf m now was gap y j := by
  unfold nxk Gf.nxf
  by_cases h : gap ≤ j
  · rw [if_pos h]
    by_cases h2 : j - gap < was.length
    · rw [if_pos ⟨h, h2⟩]
    · rw [if_neg (by omega), show was.getD (j - gap) 0 = 0 from Gf.getD_ge (by omega), Gf.mul_zero]
  · rw [if_neg h, if_neg (by omega)]

set_option maxRecDepth 100000 in
set_option maxHeartbeats 3200000 in
theorem locator_any (c bytes t m : Nat) (v : Value) (s : List Nat) (w : World) (hp : Par bytes t m) (h : CodeAt w c bytes t m) (hv : Rd .i64 w v s) (hs : ∀ y ∈ s, y < 2^m) (hl : s.length ≤ 16) :
    Calls Tryz.prog 58 #[.pointer (some ⟨c, 0, none⟩), v] w fun e w' => (∃ v', e = .returned v' ∧ Rd .i64 w' v' (Gf.locator m s) ∧ Fr w.heap.size v') ∧ Below w.heap.size w w' := by
  have hm := hp.ok
  have h13 := hm.2
  have hl2 : 2^m ≤ 8192 := Nat.pow_le_pow_right (n := 2) (by decide) h13
  have HH := hid h
  have HV := hid hv
  have HSL := hid hs
  obtain ⟨fb, gv, h1, h2, h3⟩ := h
  have hcl := lt_at h1
  obtain ⟨sa, scap, rfl, x1, x2, x3⟩ := hv
  have HX3 := hid x3
  have H1 := hid h1
  have H2 := hid h2
  clear h1 h2 h3 x3 hs
  go_enter Tryz.func58, Tryz.ntmps58
  go_wp2
  go_loopg [21, 5, 6, 7, 8, 9] s.length (fun gk i vn vw vl vg vz wr => ∃ n : Nat, n + gk = s.length ∧ i = .int .i64 n ∧ Rd .i64 wr vn (Gf.bms m s n).now ∧ Rd .i64 wr vw (Gf.bms m s n).was ∧ vl = .int .i64 ((Gf.bms m s n).len : Nat) ∧ vg = .int .i64 ((Gf.bms m s n).gap : Nat) ∧ vz = .int .i64 ((Gf.bms m s n).last : Nat) ∧ Below w.heap.size w wr ∧ Fr w.heap.size vn ∧ Fr w.heap.size vw)
  case atStart =>
    refine ⟨0, by omega, rfl, ?_, ?_, rfl, rfl, rfl, by (repeat (first | exact Below.refl _ _ | refine bl_drew ?_ | refine bl_drewN ?_ _ | refine bl_alloc ?_ _ | refine bl_set ?_ (by first | (simp; done) | (simp; omega)) _ | refine Below.comp ?_ (by assumption))), ⟨_, _, _, w.heap.size, 0, rfl, rfl, Nat.le_refl _⟩, ⟨_, _, _, w.heap.size + 1, 0, rfl, rfl, by omega⟩⟩
    · refine ⟨_, _, rfl, Nat.le_refl 1, by decide, fun j hj => ⟨w.heap.size, 0, rfl, ?_⟩⟩
      obtain rfl : j = 0 := by have : j < 1 := hj; omega
      exact cell_at (b := w.heap.size) ((alloc_old (by simp)).trans (alloc_new _ _)) 0
    · refine ⟨_, _, rfl, Nat.le_refl 1, by decide, fun j hj => ⟨w.heap.size + 1, 0, rfl, ?_⟩⟩
      obtain rfl : j = 0 := by have : j < 1 := hj; omega
      exact cell_at (b := w.heap.size + 1) (alloc_at (by simp)) 0
  case round =>
    obtain ⟨n, hn, rfl, hrn, hrw, rfl, rfl, rfl, hb, hfn, hfw⟩ := hrel
    have HB := hid hb
    have HRN := hid hrn
    have HRW := hid hrw
    have hln := Gf.bms_len m s n
    have hinv := Gf.inv_all hm s HSL.out n
    have HG : Hid (Gf.bms m s (n+1) = Gf.bmStep m s n (Gf.bms m s n)) := hid rfl
    generalize hb' : Gf.bms m s n = b at *
    have HI := hid hinv
    have n1 := hln.1
    have n2 := hln.2.1
    have n3 := hln.2.2.1
    have n4 := hln.2.2.2
    have n5 := hinv.ln
    have n6 := hinv.g1
    have hnl := hinv.nl
    have HNL := hid hnl
    have HWL := hid hinv.wl
    clear hb hrn hrw hln hinv hnl
    by_cases hlt : n < s.length
    · clear hb'
      obtain ⟨na, ncap, rfl, nc1, nc2, nc3⟩ := HRN.out
      obtain ⟨wa, wcap, rfl, wc1, wc2, wc3⟩ := HRW.out
      have HNC := hid nc3
      have HWC := hid wc3
      obtain ⟨g0, o0, rfl, hx0⟩ := HX3.out n hlt
      have cx : wr.cell? ⟨g0, o0 + n, none⟩ = some (.int .i64 ((s.getD n 0 : Nat) : Int)) := by rw [HB.out.cell (World.block_lt_of_cell? _ _ hx0)]; exact hx0
      have HX0 := hid hx0
      obtain ⟨sn, hsn⟩ : ∃ sn, s.getD n 0 = sn := ⟨_, rfl⟩
      rw [hsn] at cx
      have HSN := hid hsn
      clear hx0 nc3 wc3 hsn
      obtain ⟨wo, rfl⟩ : ∃ wo : World, wo = wr := ⟨_, rfl⟩
      have h1' : wo.heap[c]? = _ := (HB.out.block c (lt_at H1.out)).trans H1.out
      have HM : Hid (Made wo fb m) := hid (H2.out.below HB.out)
      have H1' := hid h1'
      clear h1'
      obtain ⟨M, hM⟩ : ∃ M, min b.len (b.now.length - 1) = M := ⟨_, rfl⟩
      have dl : ∀ I, Gf.disci m s b.now n I < 2^m := fun I => Nat.xor_lt_two_pow (Gf.getD_lt HSL.out n) (Gf.sx_lt _ _ fun i _ => Gf.mul_lt hm _ _)
      have DL := hid dl
      clear dl
      go_upto_block 2 with fail
      clear cx
      go_cut [11, 12] (fun d i wx => d = .int .i64 ((Gf.disc m s b.now b.len n : Nat) : Int) ∧ ∃ k, wx = wo.drewN k)
      case first =>
       go_wp2
       go_loopg [12, 11] M (fun gk i d wr => ∃ I : Nat, I + gk = M ∧ i = .int .i64 ((I : Int) + 1) ∧ d = .int .i64 ((Gf.disci m s b.now n I : Nat) : Int) ∧ ∃ k, wr = wo.drewN k)
       case atStart => exact ⟨0, by omega, rfl, by rw [← HSN.out]; simp [Gf.disci, Gf.sx], 0, rfl⟩
       case round =>
         obtain ⟨I, hI, rfl, rfl, kd, rfl⟩ := hrel
         by_cases hIM : I < M
         · obtain ⟨g1, o1, rfl, hy1⟩ := HNC.out (I+1) (by omega)
           obtain ⟨q, hq⟩ : ∃ q : Nat, (n : Int) - ((I : Int) + 1) = (q : Int) := ⟨n - (I + 1), by omega⟩
           have hqn : n - (I + 1) = q := by omega
           obtain ⟨g0', o0', he, hx1⟩ := HX3.out q (by omega)
           cases he
           have cz : (wo.drewN kd).cell? ⟨g0, o0 + q, none⟩ = some (.int .i64 ((s.getD q 0 : Nat) : Int)) := by rw [World.cell?_drewN, HB.out.cell (World.block_lt_of_cell? _ _ hx1)]; exact hx1
           have cy : (wo.drewN kd).cell? ⟨g1, o1 + (I + 1), none⟩ = some (.int .i64 ((b.now.getD (I+1) 0 : Nat) : Int)) := hy1
           have cf : (wo.drewN kd).cell? ⟨c, 0, none⟩ = some (.pointer (some ⟨fb, 0, none⟩)) := cell_at (w := wo) H1'.out 0
           have b1 : (I : Int) + 1 < (b.now.length : Int) := by omega
           have b2 : (q : Int) < (s.length : Int) := by omega
           have b3 : (I : Int) + 1 ≤ (b.len : Int) := by omega
           have hvs := Gf.getD_lt HSL.out q
           have hvn := Gf.getD_lt HNL.out (I+1)
           have hml := Gf.mul_lt hm (b.now.getD (I+1) 0) (s.getD q 0)
           have hdl := DL.out I
           have hstep : Gf.disci m s b.now n (I+1) = Gf.disci m s b.now n I ^^^ Gf.mul m (b.now.getD (I+1) 0) (s.getD q 0) := by
             unfold Gf.disci
             rw [Nat.xor_assoc, ← hqn]; rfl
           have ex := xor_i64 (Gf.disci m s b.now n I) (Gf.mul m (b.now.getD (I+1) 0) (s.getD q 0)) (by omega) (by omega)
           have HST := hid hstep
           have HVS := hid hvs
           have HVN := hid hvn
           clear hstep hvs hvn hml hdl hqn hx1 hy1
           generalize Gf.disci m s b.now n I = d at *
           generalize b.now.getD (I+1) 0 = y at *
           generalize s.getD q 0 = z at *
           generalize hwd : wo.drewN kd = wd at *
           have HMD : Hid (Made wd fb m) := hid (by rw [← hwd]; exact HM.out)
           have HWD := hid hwd
           clear hwd
           go_wp2
           go_quiet ((go_at_call 78; exact Calls.quiet_of (mul_made fb m _ _ _ hm (by exact HMD.out) HVN.out HVS.out)))
           go_wp2
           go_roundg (gk - 1)
           case measure => omega
           case rel => exact ⟨I + 1, by omega, by go_num, by rw [HST.out], kd + nq, by rw [← HWD.out, drewN_add]⟩
         · obtain rfl : I = M := by omega
           have hdc : Gf.disc m s b.now b.len n = Gf.disci m s b.now n I := by unfold Gf.disc Gf.disci; rw [hM]
           generalize hd : Gf.disci m s b.now n I = d at *
           have HD := hid hd
           have HDC := hid hdc
           clear hd hdc
           generalize hwd : wo.drewN kd = wd at *
           have HMD : Hid (Made wd fb m) := hid (by rw [← hwd]; exact HM.out)
           have HWD := hid hwd
           clear hwd
           by_cases hIl : I < b.len
           · have b3 : (I : Int) + 1 ≤ (b.len : Int) := by omega
             have b1 : ¬ (I : Int) + 1 < (b.now.length : Int) := by omega
             go_wp2
             go_meet
             exact ⟨by rw [HDC.out], kd, HWD.out.symm⟩
           · have b3 : ¬ (I : Int) + 1 ≤ (b.len : Int) := by omega
             go_wp2
             go_meet
             exact ⟨by rw [HDC.out], kd, HWD.out.symm⟩
      case rest =>
        obtain ⟨rfl, kd, rfl⟩ := hcut
        generalize hd : Gf.disc m s b.now b.len n = d at *
        have hdl : d < 2^m := by rw [← hd]; exact Nat.xor_lt_two_pow (Gf.getD_lt HSL.out n) (Gf.sx_lt _ _ fun i _ => Gf.mul_lt hm _ _)
        have HD := hid hd
        clear hd
        generalize hwd : wo.drewN kd = wd at *
        have HWD := hid hwd
        clear hwd
        by_cases hd0 : d = 0
        · have e1 : Gf.bms m s (n+1) = { b with gap := b.gap + 1 } := by rw [HG.out]; unfold Gf.bmStep; rw [HD.out, if_pos hd0]
          have E1 := hid e1
          clear e1
          subst hd0
          go_wp2
          go_roundg (gk - 1)
          case measure => omega
          case rel =>
            refine ⟨n + 1, by omega, by go_num, ?_⟩
            rw [E1.out]
            refine ⟨?_, ?_, rfl, by go_num, rfl, ?_, hfn, hfw⟩
            · rw [← HWD.out]; exact HRN.out.drewN kd
            · rw [← HWD.out]; exact HRW.out.drewN kd
            · rw [← HWD.out]; exact HB.out.drewN kd
        · have hd1 : ((d : Int) == 0) = false := beq_eq_false_iff_ne.2 (by omega)
          have HD0 := hid hd0
          clear hd0
          have HRN' : Hid (Rd .i64 wd (.slice na b.now.length ncap) b.now) := hid (by rw [← HWD.out]; exact HRN.out.drewN kd)
          have HRW' : Hid (Rd .i64 wd (.slice wa b.was.length wcap) b.was) := hid (by rw [← HWD.out]; exact HRW.out.drewN kd)
          have HB' : Hid (Below w.heap.size w wd) := hid (by rw [← HWD.out]; exact HB.out.drewN kd)
          have HMD : Hid (Made wd fb m) := hid (by rw [← HWD.out]; exact HM.out)
          have H1d : Hid (wd.heap[c]? = _) := hid ((by rw [← HWD.out]; rfl : wd.heap[c]? = wo.heap[c]?).trans H1'.out)
          clear HRN HRW HB HM H1' HNC HWC
          obtain ⟨T, hT⟩ : ∃ T, max b.now.length (b.was.length + b.gap) = T := ⟨_, rfl⟩
          obtain ⟨i, hi, hz, hs, hbb⟩ := info_parts info_int
          go_upto_block 4 with (go_at_call 79; refine (clone_ints _ b.now _ HRN'.out (by omega) (by omega)).mono ?_; rintro e wx ⟨⟨g2, cap2, hg2, rfl, ho⟩, hbx⟩)
          go_wp2
          go_loopg [13] (T - b.now.length) (fun gk v wr => ∃ cnt g cap : Nat, cnt + gk = T ∧ b.now.length ≤ cnt ∧ v = .slice (some ⟨g, 0, none⟩) cnt cap ∧ wd.heap.size ≤ g ∧ Ow .i64 3 wr g cnt cap (b.now.getD · 0) ∧ Below wd.heap.size wd wr)
          case atStart => exact ⟨_, g2, cap2, by omega, Nat.le_refl _, rfl, hg2, ho, hbx⟩
          case round =>
            clear ho hbx
            obtain ⟨cnt, g, cap, hcnt, hcn, rfl, hgd, ho, hbx⟩ := hrel
            have HO := hid ho
            have HBX := hid hbx
            clear ho hbx
            by_cases hlc : cnt < T
            · have hc1 : (cnt : Int) < (b.was.length : Int) + b.gap := by omega
              have hcap := HO.out
              obtain ⟨_, _, _, hcap1, hcap2, _⟩ := hcap
              go_wp2_with (at_builtin; refine wpList_append_lies _ rfl _ _ 31 rfl wd.heap.size 3 i (.int .i64 0) 1 8 Tryz.underlying31 hi hz hs hbb rfl (by decide) (.slice (some ⟨g, 0, none⟩) cnt cap) cnt ((List.range cnt).map fun j => Value.int .i64 (b.now.getD j 0 : Nat)) rfl ((HO.out.owns hgd).alloc _) ⟨wr.heap.size, 0, none⟩ 1 1 [.int .i64 0] rfl rfl (cell_one_new _ _ _) (fun x hx => by simp at hx; subst hx; rfl) (by decide) (by unfold maxLen; omega) (by omega) (by simp; exact Nat.le_succ_of_le HBX.out.size) _ rfl ?_; intro g3 cap3 w3 hown hgrow hat hlt3)
              have hO3 := (Ow.of_owns (k := .i64) (f := (b.now.getD · 0)) hown (fun j hj => by
                by_cases hj2 : j < cnt
                · simp [List.getElem?_append, hj2]
                · obtain rfl : j = cnt := by omega
                  rw [Gf.getD_ge hcn]
                  simp))
              go_roundg (gk - 1)
              case measure => omega
              case rel => exact ⟨cnt + 1, g3, cap3, by omega, by omega, rfl, hO3.1, hO3.2.2, (bl_alloc HBX.out _).grown hgrow (by simp; exact Nat.le_succ_of_le HBX.out.size) (fun k hk => by cases hk; exact hgd)⟩
            · obtain rfl : cnt = T := by omega
              have hc1 : ¬ (cnt : Int) < (b.was.length : Int) + b.gap := by omega
              have hMx : Hid (Made wr fb m) := hid (HMD.out.below HBX.out)
              have h1x : wr.heap[c]? = _ := (HBX.out.block c (lt_at H1d.out)).trans H1d.out
              have cf : wr.cell? ⟨c, 0, none⟩ = some (.pointer (some ⟨fb, 0, none⟩)) := cell_at h1x 0
              have hl0 := HI.out.l0
              have hll := HI.out.ll
              have hlz : b.last ≤ Gf.sz m := by unfold Gf.sz; omega
              have hil := Gf.inv_lt hm b.last
              have h1x' := hid h1x
              have HL0 := hid hl0
              clear h1x hl0 hll
              go_wp2
              go_quiet ((first | (go_at_call 80; exact Calls.quiet_of (inv_made fb m _ _ hm (by exact hMx.out) hlz HL0.out)) | (go_at_call 78; exact Calls.quiet_of (mul_made fb m _ _ _ hm (by exact hMx.out) hdl hil))))
              go_wp2
              obtain ⟨y, hy⟩ : ∃ y, Gf.mul m d (Gf.inv m b.last) = y := ⟨_, rfl⟩
              have hyl : y < 2^m := by rw [← hy]; exact Gf.mul_lt hm _ _
              rw [hy]
              have HYE := hid hy
              have HOq : Hid (Ow .i64 3 (wr.drewN nq) g cnt cap (b.now.getD · 0)) := hid HO.out
              have HBq : Hid (Below wd.heap.size wd (wr.drewN nq)) := hid (HBX.out.drewN nq)
              clear HO HBX cf hMx h1x' hy
              generalize wr.drewN nq = wq at *
              go_loopg [86] b.was.length (fun gk k wr => ∃ K : Nat, K + gk = b.was.length ∧ k = .int .i64 K ∧ Ow .i64 3 wr g cnt cap (nxk m b.now b.was b.gap y K) ∧ Below wd.heap.size wd wr)
              case atStart => exact ⟨0, by omega, rfl, HOq.out.congr (fun j _ => by simp [nxk]), HBq.out⟩
              case round =>
                clear HOq HBq
                obtain ⟨K, hK, rfl, ho, hbx⟩ := hrel
                have HO := hid ho
                have HBX := hid hbx
                clear ho hbx
                by_cases hKl : K < b.was.length
                · have hr2 := HRW'.out.below HBX.out
                  obtain ⟨g5, o5, rfl, _, hg5, hcw⟩ := rd_block hr2 (by omega)
                  have cw : wr.cell? ⟨g5, o5 + K, none⟩ = some (.int .i64 ((b.was.getD K 0 : Nat) : Int)) := hcw K hKl
                  have h1x : wr.heap[c]? = _ := (HBX.out.block c (lt_at H1d.out)).trans H1d.out
                  have cf : wr.cell? ⟨c, 0, none⟩ = some (.pointer (some ⟨fb, 0, none⟩)) := cell_at h1x 0
                  have hMx : Hid (Made wr fb m) := hid (HMD.out.below HBX.out)
                  have hKg : K + b.gap < cnt := by omega
                  have cz : wr.cell? ⟨g, K + b.gap, none⟩ = some (.int .i64 ((nxk m b.now b.was b.gap y K (K + b.gap) : Nat) : Int)) := HO.out.cell hKg
                  have fz : wr.frozen? ⟨g, K + b.gap, none⟩ = false := HO.out.free _
                  have es : IntKind.i64.wrap ((K : Int) + b.gap) = ((K + b.gap : Nat) : Int) := by rw [IntWalk.i64_in _ (by omega)]; simp
                  have hb1 : ((K + b.gap : Nat) : Int) < (cnt : Int) := by omega
                  have hb2 : (K : Int) < (b.was.length : Int) := by omega
                  have hwl := Gf.getD_lt HWL.out K
                  have hvl := nxk_lt hm HNL.out b.was b.gap y K (K + b.gap)
                  have hml := Gf.mul_lt hm y (b.was.getD K 0)
                  have ex := xor_i64 (nxk m b.now b.was b.gap y K (K + b.gap)) (Gf.mul m y (b.was.getD K 0)) (by omega) (by omega)
                  have hst := nxk_succ m b.now b.was b.gap y K
                  have HST := hid hst
                  have HWK := hid hwl
                  clear h1x hr2 hcw hvl hml hst hwl
                  generalize nxk m b.now b.was b.gap y K (K + b.gap) = v0 at *
                  generalize b.was.getD K 0 = z at *
                  go_wp2
                  refine wp_region_quiet_tail 15 (by kernel_rfl) (by kernel_rfl) ?_
                  simp only [List.take_succ_cons, List.take_zero, List.drop_succ_cons, List.drop_zero]
                  repeat (go_big_quiet_step ((go_at_call 78; exact Calls.quiet_of (mul_made fb m _ _ _ hm (by exact hMx.out) hyl HWK.out))))
                  refine wpQuiet_nil ?_
                  intro _ hw'
                  obtain ⟨nr, hw''⟩ := hw'
                  subst hw''
                  go_wp2
                  go_roundg (gk - 1)
                  case measure => omega
                  case rel =>
                    refine ⟨K + 1, by omega, by go_num, ?_, ?_⟩
                    · refine Ow.congr (f := upd (nxk m b.now b.was b.gap y K) (K + b.gap) (v0 ^^^ Gf.mul m y z)) ?_ (fun j _ => HST.out j)
                      exact Ow.set (w := wr.drewN nr) HO.out _ _
                    · exact (HBX.out.drewN nr).setCell hgd _
                · obtain rfl : K = b.was.length := by omega
                  have hn : Hid (Ow .i64 3 wr g cnt cap (Gf.nxf m b.now b.was b.gap y)) := hid (HO.out.congr fun j _ => nxk_all m _ _ _ _ j)
                  have HNX : Hid (Rd .i64 wr (.slice (some ⟨g, 0, none⟩) cnt cap) (Gf.nextP m b.now b.was b.gap y)) := hid (by
                    have := hn.out.rd
                    unfold Gf.nextP
                    rw [hT]; exact this)
                  by_cases h2l : 2 * b.len ≤ n
                  · have hc2 : (2 : Int) * b.len ≤ n := by omega
                    have e1 : Gf.bms m s (n+1) = ⟨Gf.nextP m b.now b.was b.gap y, b.now, n + 1 - b.len, 1, d⟩ := by
                      rw [HG.out]; unfold Gf.bmStep
                      rw [HD.out, if_neg HD0.out, if_pos h2l, HYE.out]
                    have E1 := hid e1
                    clear e1
                    go_wp2
                    go_roundg (s.length - (n + 1))
                    case measure => omega
                    case rel =>
                      refine ⟨n + 1, by omega, by go_num, ?_⟩
                      rw [E1.out]
                      exact ⟨HNX.out, HRN'.out.below HBX.out, congrArg (Value.int .i64) (by simp only; omega), rfl, rfl, HB'.out.comp HBX.out, ⟨_, _, _, g, 0, rfl, rfl, Nat.le_trans HB'.out.size hgd⟩, hfn⟩
                  · have hc2 : ¬ (2 : Int) * b.len ≤ n := by omega
                    have e1 : Gf.bms m s (n+1) = ⟨Gf.nextP m b.now b.was b.gap y, b.was, b.len, b.gap + 1, b.last⟩ := by
                      rw [HG.out]; unfold Gf.bmStep
                      rw [HD.out, if_neg HD0.out, if_neg h2l, HYE.out]
                    have E1 := hid e1
                    clear e1
                    go_wp2
                    go_roundg (s.length - (n + 1))
                    case measure => omega
                    case rel =>
                      refine ⟨n + 1, by omega, by go_num, ?_⟩
                      rw [E1.out]
                      exact ⟨HNX.out, HRW'.out.below HBX.out, rfl, by go_num, rfl, HB'.out.comp HBX.out, ⟨_, _, _, g, 0, rfl, rfl, Nat.le_trans HB'.out.size hgd⟩, hfw⟩
    · obtain rfl : n = s.length := by omega
      obtain ⟨na, ncap, rfl, nc1, nc2, nc3⟩ := HRN.out
      have HNC := hid nc3
      have hfr : ∀ k, Fr w.heap.size (.slice na k ncap) := fun k => hfn.len k
      have HFR := hid hfr
      clear nc3 hfn hfw hfr
      have hne : b.now ≠ [] := fun e => by rw [e] at n3; simp at n3
      obtain ⟨q1, q2, q3, q4⟩ := Gf.trim1_spec b.now hne
      have hLd : Gf.locator m s = Gf.trim1 b.now := by unfold Gf.locator; rw [hb']
      have HLD := hid hLd
      have Q2 := hid q2
      have hL1 : 1 ≤ (Gf.trim1 b.now).length := List.length_pos_iff.2 q1
      generalize hp' : Gf.trim1 b.now = P at *
      clear hLd q1 q2 hp'
      obtain ⟨L, hL⟩ : ∃ L, P.length = L := ⟨_, rfl⟩
      rw [hL] at q3 q4 hL1
      have HQ4 := hid q4
      have HLL := hid hL
      clear q4 hL
      obtain ⟨wo, rfl⟩ : ∃ wo : World, wo = wr := ⟨_, rfl⟩
      go_wp2
      go_loopg [5] (b.now.length - L) (fun gk v wr => v = .slice na (L + gk) ncap ∧ L + gk ≤ b.now.length ∧ wr = wo)
      case atStart => exact ⟨by rw [show L + (b.now.length - L) = b.now.length by omega], by omega, rfl⟩
      case round =>
        obtain ⟨rfl, hle, rfl⟩ := hrel
        cases gk with
        | succ r =>
          obtain ⟨N, hN⟩ : ∃ N, L + r = N := ⟨_, rfl⟩
          have eN : L + (r + 1) = N + 1 := by omega
          rw [eN] at hle ⊢
          obtain ⟨g, o, rfl, hcell⟩ := HNC.out N (by omega)
          have h0 : b.now.getD N 0 = 0 := by rw [← Q2.out N]; exact Gf.getD_ge (by rw [HLL.out]; omega)
          rw [h0] at hcell
          have ek2 : (N : Int) + 1 - 1 = N := by omega
          have hkc : N ≤ ncap := by omega
          have h1N : (1 : Int) < (N : Int) + 1 := by omega
          go_wp2
          go_roundg r
          case measure => omega
          case rel => exact ⟨by rw [hN], by omega, rfl⟩
        | zero =>
          have hRd : Hid (Rd .i64 wr (.slice na L ncap) P) := hid (by
            refine ⟨na, ncap, by rw [HLL.out], by rw [HLL.out]; omega, nc2, fun j hj => ?_⟩
            obtain ⟨g', o', he, hx⟩ := HNC.out j (by rw [HLL.out] at hj; omega)
            exact ⟨g', o', he, by rw [hx, Q2.out j]⟩)
          rw [Nat.add_zero] at hle ⊢
          by_cases hL2 : 1 < L
          · obtain ⟨N, hN⟩ : ∃ N, L = N + 1 := ⟨L - 1, by omega⟩
            have hq := HQ4.out hL2
            rw [Q2.out, show L - 1 = N by omega] at hq
            subst hN
            obtain ⟨g, o, rfl, hcell⟩ := HNC.out N (by omega)
            have hb : (((b.now.getD N 0 : Nat) : Int) == 0) = false := beq_eq_false_iff_ne.2 (by omega)
            have ek2 : (N : Int) + 1 - 1 = N := by omega
            have h1N : (1 : Int) < (N : Int) + 1 := by omega
            generalize b.now.getD N 0 = x0 at hcell hb hq
            go_wp2
            go_ret
            exact ⟨⟨_, rfl, by rw [HLD.out]; exact hRd.out, HFR.out _⟩, HB.out⟩
          · obtain rfl : L = 1 := by omega
            go_wp2
            go_ret
            exact ⟨⟨_, rfl, by rw [HLD.out]; exact hRd.out, HFR.out _⟩, HB.out⟩
end Go.Proofs.YtoanopegoilcnaaGreat
/- Words in bytes: bits turned, the encoder's word, what a decoder may answer. -/
namespace Go.Proofs.YtoanopegoilcnaaGreat
open Go.RowKit Go.Mem

/-- One bit turned. -/
def tb (f : Nat → Nat) (i : Nat) : Nat → Nat := upd f (i / 8) (f (i / 8) ^^^ (128 >>> (i % 8)))
theorem shr_bit (a b : Nat) (ha : a < 8) (hb : b < 8) : (128 >>> a).testBit (7 - b) = decide (a = b) := by
  have : ∀ a : Fin 8, ∀ b : Fin 8, (128 >>> a.val).testBit (7 - b.val) = decide (a.val = b.val) := by decide
  exact this ⟨a, ha⟩ ⟨b, hb⟩
theorem shr_lt (a : Nat) : 128 >>> a < 256 := by rw [Nat.shiftRight_eq_div_pow]; exact Nat.lt_of_le_of_lt (Nat.div_le_self _ _) (by decide)
theorem tb_lt {f : Nat → Nat} (hf : ∀ j, f j < 256) (i : Nat) : ∀ j, tb f i j < 256 := fun j => by
  unfold tb upd
  split
  · exact Nat.xor_lt_two_pow (n := 8) (hf _) (shr_lt _)
  · exact hf j
theorem bitAt_tb (f : Nat → Nat) (i j : Nat) : bitAt (tb f i) j = (bitAt f j ^^ decide (i = j)) := by
  unfold bitAt tb upd
  by_cases h : j / 8 = i / 8
  · rw [if_pos h, Nat.testBit_xor, shr_bit _ _ (Nat.mod_lt _ (by decide)) (Nat.mod_lt _ (by decide)), h]
    congr 1
    have : (i % 8 = j % 8) ↔ (i = j) := by omega
    exact decide_eq_decide.2 this
  · rw [if_neg h, decide_eq_false (show ¬ i = j from fun e => h (by rw [e]))]
    simp

/-- The bits of data and parity by their powers. -/
def wd (n r : Nat) (d p : Nat → Nat) (k : Nat) : Bool := if k < r then bitAt p (r - 1 - k) else bitAt d (n + r - 1 - k)
theorem wd_lo {n r : Nat} {d p : Nat → Nat} {k : Nat} (h : k < r) : wd n r d p k = bitAt p (r - 1 - k) := if_pos h
theorem wd_hi {n r : Nat} {d p : Nat → Nat} {k : Nat} (h : r ≤ k) : wd n r d p k = bitAt d (n + r - 1 - k) := if_neg (by omega)

theorem synf_syn (m n r : Nat) (d p : Nat → Nat) (k : Nat) : synf m n r d p n r k = Gf.syn m (wd n r d p) (n + r) (k + 1) := by
  unfold synf sy1 Gf.syn
  rw [Nat.add_comm n r, Gf.sx_add, Nat.xor_comm]
  congr 1
  · rw [← Gf.sx_rev (fun q => if wd n r d p q then Gf.pw m (q * (k+1)) else 0)]
    refine Gf.sx_congr _ (fun i hi => ?_)
    simp only [wd_lo (n := n) (d := d) (p := p) (show r - 1 - i < r by omega), show r - 1 - (r - 1 - i) = i by omega]
  · rw [← Gf.sx_rev (fun i => if wd n r d p (r + i) then Gf.pw m ((r + i) * (k+1)) else 0)]
    refine Gf.sx_congr _ (fun i hi => ?_)
    simp only [wd_hi (n := n) (d := d) (p := p) (show r ≤ r + (n - 1 - i) by omega), show n + r - 1 - (r + (n - 1 - i)) = i by omega]
    rw [show r + (n - 1 - i) = r + n - 1 - i by omega]

theorem bitAt_zero (i : Nat) : bitAt (fun _ => 0) i = false := by simp [bitAt]
theorem bitAt_pbI (r X I i : Nat) : bitAt (pbI r X I) i = (decide (i < I) && X.testBit (r - 1 - i)) := by
  induction I with
  | zero => simp [pbI, bitAt_zero]
  | succ I ih =>
    unfold pbI
    by_cases hb : X.testBit (r - 1 - I) = true
    · rw [if_pos hb]
      show bitAt (tb _ I) i = _
      rw [bitAt_tb, ih]
      by_cases e : I = i
      · subst e; simp [hb]
      · rw [decide_eq_false e, Bool.xor_false]
        congr 1
        exact decide_eq_decide.2 (by omega)
    · rw [if_neg hb, ih]
      by_cases e : I = i
      · subst e; simp [hb]
      · congr 1
        exact decide_eq_decide.2 (by omega)

/-- Encoded data are a word. -/
theorem par_cw {bytes t m : Nat} (hp : Par bytes t m) (xs : List Nat) (hl : xs.length = bytes) : Gf.Cw m t (wd (8 * bytes) (rr m t) (xs.getD · 0) (par m t xs)) (8 * bytes + rr m t) := by
  subst hl
  have hr := hp.r
  refine Gf.word_cw hp.ok hr.1 hr.2.1 (by omega) (xs.getD · 0) xs.length (bitAt (xs.getD · 0)) (fun i => rfl) _ (fun k hk => ?_) (fun k hk => ?_)
  · rw [wd_lo hk]
    unfold par
    rw [bitAt_pbI, decide_eq_true (show rr m t - 1 - k < rr m t by omega), Bool.true_and, show rr m t - 1 - (rr m t - 1 - k) = k by omega]
    rfl
  · rw [wd_hi (by omega)]
    congr 1; omega
theorem par_pad (m t : Nat) (xs : List Nat) (i : Nat) (h : rr m t ≤ i) : bitAt (par m t xs) i = false := by
  unfold par
  rw [bitAt_pbI, decide_eq_false (by omega), Bool.false_and]
theorem par_lt (m t : Nat) (xs : List Nat) : ∀ j, par m t xs j < 256 := pbI_lt _ _ _

/-- Is a power one of a root's? -/
def rtB (m : Nat) (l : List Nat) (K : Nat) : Bool := decide (Gf.ev m l (Gf.yv m K) = 0)
def dfl (n r m : Nat) (l : List Nat) (d : Nat → Nat) : Nat → Nat → Nat
  | 0 => d
  | K+1 => if rtB m l K && decide (r ≤ K) then tb (dfl n r m l d K) (n + r - 1 - K) else dfl n r m l d K
def pfl (r m : Nat) (l : List Nat) (p : Nat → Nat) : Nat → Nat → Nat
  | 0 => p
  | K+1 => if rtB m l K && decide (K < r) then tb (pfl r m l p K) (r - 1 - K) else pfl r m l p K
def cnt (m : Nat) (l : List Nat) : Nat → Nat
  | 0 => 0
  | K+1 => cnt m l K + (rtB m l K).toNat

theorem dfl_lt {n r m : Nat} {l : List Nat} {d : Nat → Nat} (hd : ∀ j, d j < 256) (K : Nat) : ∀ j, dfl n r m l d K j < 256 := by
  induction K with
  | zero => exact hd
  | succ K ih => intro j; unfold dfl; split; exact tb_lt ih _ j; exact ih j
theorem pfl_lt {r m : Nat} {l : List Nat} {p : Nat → Nat} (hp : ∀ j, p j < 256) (K : Nat) : ∀ j, pfl r m l p K j < 256 := by
  induction K with
  | zero => exact hp
  | succ K ih => intro j; unfold pfl; split; exact tb_lt ih _ j; exact ih j
theorem pfl_pad {r m : Nat} {l : List Nat} {p : Nat → Nat} (K i : Nat) (hi : r ≤ i) : bitAt (pfl r m l p K) i = bitAt p i := by
  induction K with
  | zero => rfl
  | succ K ih =>
    unfold pfl
    split
    · rename_i h
      simp only [Bool.and_eq_true, decide_eq_true_eq] at h
      rw [bitAt_tb, ih, decide_eq_false (by omega), Bool.xor_false]
    · exact ih

theorem wd_fl (n r m : Nat) (l : List Nat) (d p : Nat → Nat) (K : Nat) (hK : K ≤ n + r) (k : Nat) (hk : k < n + r) : wd n r (dfl n r m l d K) (pfl r m l p K) k = (wd n r d p k ^^ (decide (k < K) && rtB m l k)) := by
  induction K with
  | zero => simp [dfl, pfl]
  | succ K ih =>
    have ih := ih (by omega)
    cases hb : rtB m l K with
    | false =>
      have e1 : dfl n r m l d (K+1) = dfl n r m l d K := by rw [dfl, hb]; rfl
      have e2 : pfl r m l p (K+1) = pfl r m l p K := by rw [pfl, hb]; rfl
      rw [e1, e2, ih]
      congr 1
      by_cases e : k = K
      · subst e; simp [hb]
      · congr 1; exact decide_eq_decide.2 (by omega)
    | true =>
      by_cases hr : K < r
      · have e1 : dfl n r m l d (K+1) = dfl n r m l d K := by rw [dfl, hb, decide_eq_false (by omega)]; rfl
        have e2 : pfl r m l p (K+1) = tb (pfl r m l p K) (r - 1 - K) := by rw [pfl, hb, decide_eq_true hr]; rfl
        rw [e1, e2]
        by_cases hkr : k < r
        · rw [wd_lo hkr] at ih ⊢
          rw [bitAt_tb, ih]
          by_cases e : k = K
          · subst e; simp [hb]
          · rw [decide_eq_false (show ¬ r - 1 - K = r - 1 - k by omega), Bool.xor_false]
            congr 2; exact decide_eq_decide.2 (by omega)
        · rw [wd_hi (by omega)] at ih ⊢
          rw [ih]
          congr 2; exact decide_eq_decide.2 (by omega)
      · have e1 : dfl n r m l d (K+1) = tb (dfl n r m l d K) (n + r - 1 - K) := by rw [dfl, hb, decide_eq_true (by omega)]; rfl
        have e2 : pfl r m l p (K+1) = pfl r m l p K := by rw [pfl, hb, decide_eq_false hr]; rfl
        rw [e1, e2]
        by_cases hkr : k < r
        · rw [wd_lo hkr] at ih ⊢
          rw [ih]
          congr 2; exact decide_eq_decide.2 (by omega)
        · rw [wd_hi (by omega)] at ih ⊢
          rw [bitAt_tb, ih]
          by_cases e : k = K
          · subst e; simp [hb]
          · rw [decide_eq_false (show ¬ n + r - 1 - K = n + r - 1 - k by omega), Bool.xor_false]
            congr 2; exact decide_eq_decide.2 (by omega)

theorem cnt_supp (m : Nat) (l : List Nat) (K : Nat) : cnt m l K = (Gf.supp (rtB m l) K).length := by
  induction K with
  | zero => rfl
  | succ K ih => rw [cnt, Gf.supp_succ, List.length_append, ih]; cases rtB m l K <;> simp
theorem supp_cut (f : Nat → Bool) (K L : Nat) (h : K ≤ L) : (Gf.supp (fun k => decide (k < K) && f k) L).length = (Gf.supp f K).length := by
  induction L with
  | zero => obtain rfl : K = 0 := by omega
            rfl
  | succ L ih =>
    by_cases e : K = L + 1
    · subst e
      rw [Gf.supp_congr (fun p hp => ?_)]
      rw [decide_eq_true hp, Bool.true_and]
    · rw [Gf.supp_succ, List.length_append, ih (by omega), decide_eq_false (by omega)]; simp
theorem cnt_mono (m : Nat) (l : List Nat) : ∀ a b, a ≤ b → cnt m l a ≤ cnt m l b := fun a b hab => by
  induction b with
  | zero => obtain rfl : a = 0 := by omega
            exact Nat.le_refl _
  | succ b ih =>
    by_cases e : a = b + 1
    · rw [e]; exact Nat.le_refl _
    · have := ih (by omega); rw [cnt]; omega
theorem cnt_flat (m : Nat) (l : List Nat) (K L : Nat) (_h : K ≤ L) (he : cnt m l L ≤ cnt m l K) : ∀ k, K ≤ k → k < L → rtB m l k = false := by
  intro k h1 h2
  have a1 := cnt_mono m l K k h1
  have a2 := cnt_mono m l (k+1) L (by omega)
  rw [cnt] at a2
  cases hb : rtB m l k
  · rfl
  · rw [hb] at a2; simp at a2; omega

/-- Where there is a word within t bits the locator's roots lead to it. -/
theorem dec_plain {bytes t m : Nat} (hp : Par bytes t m) (w c : Nat → Bool) (s : List Nat) (hlen : s.length = 2 * t) (hs : ∀ y ∈ s, y < 2^m)
    (hsy : ∀ k, k < 2 * t → s.getD k 0 = Gf.syn m w (8 * bytes + rr m t) (k+1)) (K : Nat) (hK : K ≤ 8 * bytes + rr m t) (hend : K = 8 * bytes + rr m t ∨ cnt m (Gf.locator m s) K + 1 = (Gf.locator m s).length)
    (hc : Gf.Cw m t c (8 * bytes + rr m t)) (hd : Gf.dst w c (8 * bytes + rr m t) ≤ t) :
    (∀ k, k < 8 * bytes + rr m t → (w k ^^ (decide (k < K) && rtB m (Gf.locator m s) k)) = c k) ∧ cnt m (Gf.locator m s) K ≤ t := by
  have hr := hp.r
  have hL := hr.2.2.2.2
  generalize 8 * bytes + rr m t = L at *
  obtain ⟨hl, hroot⟩ := Gf.locator_spec hp.ok (fun k => w k ^^ c k) L t hL s hlen hs (fun k hk => by
    rw [hsy k hk, Gf.syn_xor, hc (k+1) (by omega) (by omega), Nat.xor_zero]) hd
  generalize Gf.locator m s = l at *
  have hrt : ∀ k, k < L → rtB m l k = (w k ^^ c k) := fun k hk => by
    unfold rtB
    rw [Bool.eq_iff_iff, decide_eq_true_eq]
    exact hroot k hk
  have hcl : cnt m l L = Gf.dst w c L := by
    rw [cnt_supp]; unfold Gf.dst
    rw [Gf.supp_congr hrt]
  have hflat : ∀ k, K ≤ k → k < L → rtB m l k = false := by
    rcases hend with rfl | hend
    · intro k h1 h2; omega
    · refine cnt_flat m l K L hK ?_
      unfold Gf.dst at hcl
      omega
  refine ⟨fun k hk => ?_, ?_⟩
  · by_cases hkK : k < K
    · rw [decide_eq_true hkK, Bool.true_and, hrt k hk]
      cases w k <;> cases c k <;> rfl
    · have h1 := hflat k (by omega) hk
      rw [decide_eq_false hkK, Bool.false_and, Bool.xor_false]
      rw [hrt k hk] at h1
      revert h1
      cases w k <;> cases c k <;> simp
  · have := cnt_mono m l K L hK
    omega

/-- What is answered where there is a word within t bits. -/
def DecGood (m t n r P : Nat) (d p d' p' : Nat → Nat) (k : Nat) : Prop :=
  Gf.Cw m t (wd n r d' p') (n + r) ∧ Gf.dst (wd n r d p) (wd n r d' p') (n + r) = k ∧ k ≤ t ∧ ∀ i, r ≤ i → i < 8 * P → bitAt p' i = false
/-- There is none. -/
def DecBad (m t n r : Nat) (d p : Nat → Nat) : Prop := ∀ c, Gf.Cw m t c (n + r) → t < Gf.dst (wd n r d p) c (n + r)

theorem byte_ext {a b : Nat} (ha : a < 256) (hb : b < 256) (h : ∀ i, i < 8 → a.testBit i = b.testBit i) : a = b := by
  apply Nat.eq_of_testBit_eq
  intro i
  by_cases hi : i < 8
  · exact h i hi
  · rw [Nat.testBit_lt_two_pow (Nat.lt_of_lt_of_le ha (Nat.pow_le_pow_right (n := 2) (i := 8) (by decide) (by omega))), Nat.testBit_lt_two_pow (Nat.lt_of_lt_of_le hb (Nat.pow_le_pow_right (n := 2) (i := 8) (by decide) (by omega)))]
theorem bytes_ext {f g : Nat → Nat} {n : Nat} (hf : ∀ j, f j < 256) (hg : ∀ j, g j < 256) (h : ∀ i, i < 8 * n → bitAt f i = bitAt g i) : ∀ j, j < n → f j = g j := fun j hj => by
  refine byte_ext (hf j) (hg j) (fun i hi => ?_)
  have := h (8 * j + (7 - i)) (by omega)
  unfold bitAt at this
  rwa [show (8 * j + (7 - i)) / 8 = j by omega, show 7 - (8 * j + (7 - i)) % 8 = i by omega] at this

theorem cw_near {bytes t m : Nat} (hp : Par bytes t m) {w c : Nat → Bool} (h1 : Gf.Cw m t w (8 * bytes + rr m t)) (h2 : Gf.Cw m t c (8 * bytes + rr m t)) (hd : Gf.dst w c (8 * bytes + rr m t) ≤ 2 * t) : ∀ k, k < 8 * bytes + rr m t → w k = c k := fun k hk => by
  have := Gf.word_zero hp.ok (fun k => w k ^^ c k) _ t hp.r.2.2.2.2 hd (h1.xor h2) k hk
  revert this
  cases w k <;> cases c k <;> simp

theorem wd_bytes {bytes r P : Nat} {d1 p1 d2 p2 : Nat → Nat} (_hr : r ≤ 8 * P) (hd1 : ∀ j, d1 j < 256) (hp1 : ∀ j, p1 j < 256) (hd2 : ∀ j, d2 j < 256) (hp2 : ∀ j, p2 j < 256)
    (h : ∀ k, k < 8 * bytes + r → wd (8 * bytes) r d1 p1 k = wd (8 * bytes) r d2 p2 k) (hz : ∀ i, r ≤ i → i < 8 * P → bitAt p1 i = bitAt p2 i) : (∀ j, j < bytes → d1 j = d2 j) ∧ ∀ j, j < P → p1 j = p2 j := by
  constructor
  · refine bytes_ext hd1 hd2 (fun i hi => ?_)
    have := h (8 * bytes + r - 1 - i) (by omega)
    rwa [wd_hi (by omega), wd_hi (by omega), show 8 * bytes + r - 1 - (8 * bytes + r - 1 - i) = i by omega] at this
  · refine bytes_ext hp1 hp2 (fun i hi => ?_)
    by_cases hir : i < r
    · have := h (r - 1 - i) (by omega)
      rwa [wd_lo (by omega), wd_lo (by omega), show r - 1 - (r - 1 - i) = i by omega] at this
    · exact hz i (by omega) hi

theorem DecGood.uniq {bytes t m P : Nat} (hp : Par bytes t m) (hP : P = (rr m t + 7) / 8) {d p d1 p1 d2 p2 : Nat → Nat} {k1 k2 : Nat} (h1 : DecGood m t (8 * bytes) (rr m t) P d p d1 p1 k1) (h2 : DecGood m t (8 * bytes) (rr m t) P d p d2 p2 k2)
    (hd1 : ∀ j, d1 j < 256) (hp1 : ∀ j, p1 j < 256) (hd2 : ∀ j, d2 j < 256) (hp2 : ∀ j, p2 j < 256) : (∀ j, j < bytes → d1 j = d2 j) ∧ (∀ j, j < P → p1 j = p2 j) ∧ k1 = k2 := by
  obtain ⟨a1, a2, a3, a4⟩ := h1
  obtain ⟨b1, b2, b3, b4⟩ := h2
  have hd : Gf.dst (wd (8 * bytes) (rr m t) d1 p1) (wd (8 * bytes) (rr m t) d2 p2) (8 * bytes + rr m t) ≤ 2 * t := by
    refine Nat.le_trans (Gf.dst_tri _ (wd (8 * bytes) (rr m t) d p) _ _) ?_
    rw [Gf.dst_comm, a2, b2]; omega
  have hs := cw_near hp a1 b1 hd
  obtain ⟨c1, c2⟩ := wd_bytes (P := P) (by omega) hd1 hp1 hd2 hp2 hs (fun i h1 h2 => by rw [a4 i h1 h2, b4 i h1 h2])
  refine ⟨c1, c2, ?_⟩
  rw [← a2, ← b2]
  exact Gf.dst_congr (fun _ _ => rfl) hs
theorem DecBad.not {m t n r P : Nat} {d p d1 p1 : Nat → Nat} {k1 : Nat} (h : DecBad m t n r d p) (h1 : DecGood m t n r P d p d1 p1 k1) : False := by
  have := h _ h1.1
  rw [h1.2.1] at this
  have := h1.2.2.1
  omega

/-- The parity with its last byte's other bits away. -/
def pm (r P : Nat) (p : Nat → Nat) : Nat → Nat := if r % 8 = 0 then p else upd p (P - 1) (p (P - 1) &&& ((255 <<< (8 - r % 8)) % 256))
theorem pm_lt {r P : Nat} {p : Nat → Nat} (hp : ∀ j, p j < 256) : ∀ j, pm r P p j < 256 := fun j => by
  unfold pm
  split
  · exact hp j
  · unfold upd
    split
    · exact Nat.lt_of_le_of_lt Nat.and_le_left (hp _)
    · exact hp j
theorem mask_bit (k b : Nat) (hk : k < 8) (hb : b < 8) (h0 : k ≠ 0) : ((255 <<< (8 - k)) % 256).testBit (7 - b) = decide (b < k) := by
  have : ∀ k : Fin 8, ∀ b : Fin 8, k.val ≠ 0 → ((255 <<< (8 - k.val)) % 256).testBit (7 - b.val) = decide (b.val < k.val) := by decide
  exact this ⟨k, hk⟩ ⟨b, hb⟩ h0
theorem bitAt_pm {r P : Nat} (p : Nat → Nat) (hP : P = (r + 7) / 8) (i : Nat) (hi : i < 8 * P) : bitAt (pm r P p) i = (bitAt p i && decide (i < r)) := by
  unfold pm
  split
  · rw [decide_eq_true (by omega), Bool.and_true]
  · rename_i h0
    unfold bitAt upd
    by_cases e : i / 8 = P - 1
    · rw [if_pos e, Nat.testBit_and, mask_bit _ _ (Nat.mod_lt _ (by decide)) (Nat.mod_lt _ (by decide)) h0, e]
      congr 1
      exact decide_eq_decide.2 (by omega)
    · rw [if_neg e, decide_eq_true (by omega), Bool.and_true]
theorem wd_pm {n r P : Nat} (d p : Nat → Nat) (hP : P = (r + 7) / 8) (k : Nat) : wd n r d (pm r P p) k = wd n r d p k := by
  by_cases h : k < r
  · rw [wd_lo h, wd_lo h, bitAt_pm p hP _ (by omega), decide_eq_true (by omega), Bool.and_true]
  · rw [wd_hi (by omega), wd_hi (by omega)]
theorem wd_congr {n r P : Nat} {d p d' p' : Nat → Nat} (hP : r ≤ 8 * P) (hd : ∀ j, j < n / 8 → d j = d' j) (hn : n % 8 = 0) (hp : ∀ j, j < P → p j = p' j) (k : Nat) (hk : k < n + r) : wd n r d p k = wd n r d' p' k := by
  by_cases h : k < r
  · rw [wd_lo h, wd_lo h]; unfold bitAt; rw [hp _ (by omega)]
  · rw [wd_hi (by omega), wd_hi (by omega)]; unfold bitAt; rw [hd _ (by omega)]
end Go.Proofs.YtoanopegoilcnaaGreat
