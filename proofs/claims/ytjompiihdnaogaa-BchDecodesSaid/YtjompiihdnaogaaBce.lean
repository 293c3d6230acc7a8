/- Walks over bch: syndromes. -/
import Derived.Test.YtjompiihdnaogaaOw
import Derived.Test.YtjompiihdnaogaaBcd
import Derived.Test.YtjompiihdnaogaaBw
namespace Go.Proofs.Ytjompiihdnaogaa
open Go.RowKit Go.Mem

/-- The value of I bits, the first of them at power P - 1, at the k-th power. -/
def sy1 (m P : Nat) (b : Nat → Bool) (I k : Nat) : Nat := Gf.sx (fun i => if b i then Gf.pw m ((P - 1 - i) * (k + 1)) else 0) I
theorem sy1_succ (m P : Nat) (b : Nat → Bool) (I k : Nat) : sy1 m P b (I+1) k = sy1 m P b I k ^^^ (if b I then Gf.pw m ((P - 1 - I) * (k + 1)) else 0) := rfl
theorem sy1_lt {m : Nat} (hm : Gf.Ok m) (P : Nat) (b : Nat → Bool) (I k : Nat) : sy1 m P b I k < 2^m := by
  refine Gf.sx_lt _ _ fun i _ => ?_
  split
  · exact Gf.pw_lt hm _
  · exact Nat.two_pow_pos m
/-- The word's syndromes. -/
def synf (m n r : Nat) (d p : Nat → Nat) (I J k : Nat) : Nat := sy1 m (n + r) (bitAt d) I k ^^^ sy1 m r (bitAt p) J k
theorem synf_lt {m : Nat} (hm : Gf.Ok m) (n r : Nat) (d p : Nat → Nat) (I J k : Nat) : synf m n r d p I J k < 2^m := Nat.xor_lt_two_pow (sy1_lt hm _ _ _ _) (sy1_lt hm _ _ _ _)
theorem synf_d (m n r : Nat) (d p : Nat → Nat) (I k : Nat) (_hI : I < n) : synf m n r d p (I+1) 0 k = if bitAt d I then synf m n r d p I 0 k ^^^ Gf.pw m ((n + r - 1 - I) * (k+1)) else synf m n r d p I 0 k := by
  unfold synf
  rw [sy1_succ]
  split
  · rw [Nat.xor_assoc, Nat.xor_assoc, Nat.xor_comm (Gf.pw m _)]
  · rw [Nat.xor_zero]
theorem synf_p (m n r : Nat) (d p : Nat → Nat) (J k : Nat) : synf m n r d p n (J+1) k = if bitAt p J then synf m n r d p n J k ^^^ Gf.pw m ((r - 1 - J) * (k+1)) else synf m n r d p n J k := by
  unfold synf
  rw [sy1_succ]
  split
  · rw [Nat.xor_assoc]
  · rw [Nat.xor_zero]
/-- The first I are all nought. -/
def az (f : Nat → Nat) : Nat → Bool
  | 0 => true
  | I + 1 => az f I && decide (f I = 0)
theorem az_iff (f : Nat → Nat) (I : Nat) : az f I = true ↔ ∀ k, k < I → f k = 0 := by
  induction I with
  | zero => simp [az]
  | succ I ih =>
    rw [az, Bool.and_eq_true, ih, decide_eq_true_iff]
    constructor
    · rintro ⟨h1, h2⟩ k hk
      by_cases e : k = I
      · rw [e]; exact h2
      · exact h1 k (by omega)
    · intro h; exact ⟨fun k hk => h k (by omega), h I (by omega)⟩

theorem az_step (f : Nat → Nat) (I : Nat) : az f (I+1) = (az f I && decide (f I = 0)) := rfl

theorem sadd_int (sb cb c g n bytes t m : Nat) (E : Int) (f : Nat → Nat) (W w : World) (hp : Par bytes t m) (h : CodeAt W c bytes t m) (hb : Below W.heap.size W w) (hgW : W.heap.size ≤ g)
    (hs : w.heap[sb]? = some (.cells #[.slice (some ⟨g, 0, none⟩) n n] 27 (0, 0))) (hc : w.heap[cb]? = some (.cells #[.pointer (some ⟨c, 0, none⟩)] 23 (0, 0)))
    (hg : w.heap[g]? = some (.cells (fa .i64 n f) 3 (0, 0))) (hsg : sb ≠ g) (hcg : cb ≠ g) (hn : n ≤ 16) (h0 : 0 ≤ E) (hpw : E ≤ 10000) (hf : ∀ j, f j < 2^m) :
    Calls Try.prog 54 #[.int .i64 E, .pointer (some ⟨sb, 0, none⟩), .pointer (some ⟨cb, 0, none⟩)] w fun e w' => e = .returned (.tuple #[]) ∧ w'.heap[g]? = some (.cells (fa .i64 n (sadd m E.toNat f n)) 3 (0, 0)) ∧ w.grownBy w' (some g) ∧ w'.heap.size = w.heap.size := by
  obtain ⟨N, rfl⟩ := Int.eq_ofNat_of_zero_le h0
  exact sadd_any sb cb c g n bytes t m N f W w hp h hb hgW hs hc hg hsg hcg hn (by omega) hf

/-- What stands in memory while the word is summed. -/
def SynInv (w wr : World) (c C S G n2 : Nat) (f : Nat → Nat) : Prop :=
  Below w.heap.size w wr ∧ wr.heap[C]? = some (.cells #[.pointer (some ⟨c, 0, none⟩)] 23 (0, 0)) ∧
  wr.heap[S]? = some (.cells #[.slice (some ⟨G, 0, none⟩) n2 n2] 27 (0, 0)) ∧ wr.heap[G]? = some (.cells (fa .i64 n2 f) 3 (0, 0)) ∧ S ≠ G ∧ C ≠ G ∧ w.heap.size ≤ G ∧ w.heap.size ≤ C

theorem SynInv.next {w wr w2 : World} {c C S G n2 : Nat} {f f' : Nat → Nat} (h : SynInv w wr c C S G n2 f) (h1 : w2.heap[G]? = some (.cells (fa .i64 n2 f') 3 (0, 0))) (h2 : wr.grownBy w2 (some G)) : SynInv w w2 c C S G n2 f' := by
  obtain ⟨i1, i2, i3, i4, i5, i6, i7, i8⟩ := h
  exact ⟨i1.grown h2 i1.size (fun k hk => by cases hk; exact i7), (h2.block C (lt_at i2) (fun h => i6 (by cases h; rfl))).trans i2, (h2.block S (lt_at i3) (fun h => i5 (by cases h; rfl))).trans i3, h1, i5, i6, i7, i8⟩
theorem SynInv.turn {w wr w2 : World} {c C S G n2 : Nat} {f f' g : Nat → Nat} (h : SynInv w wr c C S G n2 f) (h1 : w2.heap[G]? = some (.cells (fa .i64 n2 g) 3 (0, 0))) (h2 : wr.grownBy w2 (some G)) (h3 : ∀ j, j < n2 → g j = f' j) : SynInv w w2 c C S G n2 f' :=
  h.next (by rw [h1, fa_congr h3]) h2

/-- What syndromes hands back. -/
def SynRet (w w' : World) (m n r t : Nat) (d p : Nat → Nat) (e : Ending) : Prop :=
  ∃ g, w.heap.size ≤ g ∧ e = .returned (.tuple #[.slice (some ⟨g, 0, none⟩) (2 * t) (2 * t), .bool (az (synf m n r d p n r) (2 * t))]) ∧ w'.heap[g]? = some (.cells (fa .i64 (2 * t) (synf m n r d p n r)) 3 (0, 0))

set_option maxRecDepth 100000 in
set_option maxHeartbeats 1600000 in
theorem syndromes_any (c bytes t m : Nat) (v1 v2 : Value) (xs ys : List Nat) (w : World) (hp : Par bytes t m) (h : CodeAt w c bytes t m) (hv1 : Rd .u8 w v1 xs) (hv2 : Rd .u8 w v2 ys)
    (hx : ∀ y ∈ xs, y < 256) (hy : ∀ y ∈ ys, y < 256) (hxl : xs.length = bytes) (hyl : rr m t ≤ 8 * ys.length) :
    Calls Try.prog 39 #[.pointer (some ⟨c, 0, none⟩), v1, v2] w fun e w' => SynRet w w' m (8 * bytes) (rr m t) t (xs.getD · 0) (ys.getD · 0) e ∧ Below w.heap.size w w' := by
  have hr := hp.r
  have hm := hp.ok
  have h13 := hm.2
  have hl2 : 2^m ≤ 8192 := Nat.pow_le_pow_right (n := 2) (by decide) h13
  have HH := hid h
  have HX := hid hx
  have HY := hid hy
  have HV1 := hid hv1
  have HV2 := hid hv2
  obtain ⟨fb, gv, h1, h2, h3⟩ := h
  have hmf : ∀ (fn : Fn) (first cap : Array Value) (w : World), (Instr.makeFunc fn first cap).run Try.prog w = .ok (.func fn first cap) w := fun _ _ _ _ => rfl
  have c1 : w.cell? ⟨c, 1, none⟩ = some (.int .i64 bytes) := cell_at h1 1
  have c2 : w.cell? ⟨c, 2, none⟩ = some (.int .i64 t) := cell_at h1 2
  have hcl := lt_at h1
  obtain ⟨n2, hn2⟩ : ∃ n2, 2 * t = n2 := ⟨_, rfl⟩
  obtain ⟨n8, hn8⟩ : ∃ n8, 8 * bytes = n8 := ⟨_, rfl⟩
  have b2 := hp.b2
  have t8 := hp.t8
  have hmk : ∀ w, (Instr.makeSlice 27 (.int .i64 (n2 : Int)) (.int .i64 (n2 : Int))).run Try.prog w = .ok (.slice (some ⟨w.heap.size, 0, none⟩) n2 n2) (w.alloc (.cells (fa .i64 n2 (fun _ => 0)) 3)) := fun w => mk_int _ (by omega) w
  have e2 : IntKind.i64.wrap ((2:Int) * (t:Int)) = (n2 : Int) := by rw [IntWalk.i64_in _ (by omega)]; omega
  have e8 : IntKind.i64.wrap ((8:Int) * (bytes:Int)) = (n8 : Int) := by rw [IntWalk.i64_in _ (by omega)]; omega
  have c1' := (World.cell?_alloc_past (w := w) (.cells #[.pointer (some ⟨c, 0, none⟩)] 23) _ _ hcl).trans c1
  have c2' := (World.cell?_alloc_past (w := w) (.cells #[.pointer (some ⟨c, 0, none⟩)] 23) _ _ hcl).trans c2
  have r104 := hr.2.2.2.1
  clear h1 h2 h3 hv1 hv2 hx hy hr
  go_enter Try.func39, Try.ntmps39
  go_wp2
  go_quiet ((go_at_call 16; exact quiet_eq (codeBits_any c bytes t m _ (HH.out.below (by (repeat (first | exact Below.refl _ _ | refine bl_drew ?_ | refine bl_drewN ?_ _ | refine bl_alloc ?_ _ | refine bl_set ?_ (by first | (simp; done) | (simp; omega)) _ | refine Below.comp ?_ (by assumption))))) hp)))
  go_wp2
  have hH : SynInv w ((((w.alloc (.cells #[.pointer (some ⟨c, 0, none⟩)] 23)).drewN nq).alloc (.cells (fa .i64 n2 (fun _ => 0)) 3)).alloc (.cells #[.slice (some ⟨w.heap.size + 1, 0, none⟩) n2 n2] 27)) c w.heap.size (w.heap.size + 1 + 1) (w.heap.size + 1) n2 (fun _ => 0) := by
    refine ⟨by (repeat (first | exact Below.refl _ _ | refine bl_drew ?_ | refine bl_drewN ?_ _ | refine bl_alloc ?_ _ | refine bl_set ?_ (by first | (simp; done) | (simp; omega)) _ | refine Below.comp ?_ (by assumption))), ?_, ?_, ?_, by omega, by omega, by omega, by omega⟩
    · exact (alloc_old (by simp; omega)).trans ((alloc_old (by simp)).trans (alloc_new w _))
    · exact alloc_at (by simp)
    · exact (alloc_old (by simp)).trans (alloc_at (by simp))
  have HI := hid hH
  clear hH c1 c2 c1' c2'
  obtain ⟨C, hC⟩ : ∃ C, w.heap.size = C := ⟨_, rfl⟩
  obtain ⟨G, hG⟩ : ∃ G, C + 1 = G := ⟨_, rfl⟩
  obtain ⟨S, hS⟩ : ∃ S, G + 1 = S := ⟨_, rfl⟩
  generalize ((((w.alloc (.cells #[.pointer (some ⟨c, 0, none⟩)] 23)).drewN nq).alloc (.cells (fa .i64 n2 (fun _ => 0)) 3)).alloc (.cells #[.slice (some ⟨w.heap.size + 1, 0, none⟩) n2 n2] 27)) = wz at *
  simp only [hC, hS, hG] at *
  clear hC hS hG
  have e0 : synf m n8 (rr m t) (xs.getD · 0) (ys.getD · 0) 0 0 = fun _ => 0 := by funext k; simp [synf, sy1, Gf.sx]
  go_loopg [32] n8 (fun gk i wr => ∃ I : Nat, I + gk = n8 ∧ i = .int .i64 I ∧ SynInv w wr c C S G n2 (synf m n8 (rr m t) (xs.getD · 0) (ys.getD · 0) I 0))
  case atStart => exact ⟨0, by omega, rfl, by rw [e0]; exact HI.out⟩
  case round =>
    clear HI e0
    obtain ⟨I, hI, rfl, hinv⟩ := hrel
    have HI := hid hinv
    obtain ⟨i1, i2, i3, i4, i5, i6, i7, i8⟩ := hinv
    have I1 := hid i1
    have I2 := hid i2
    have I3 := hid i3
    have I4 := hid i4
    clear i1 i2 i3 i4
    by_cases hlt : I < n8
    · have hb := bit_any v1 xs I wr (HV1.out.below I1.out) HX.out (by omega)
      obtain ⟨E, hE⟩ : ∃ E : Int, (n8 : Int) + rr m t - 1 - I = E := ⟨_, rfl⟩
      have hE0 : 0 ≤ E := by omega
      have hE1 : E ≤ 10000 := by omega
      have hEn : E.toNat = n8 + rr m t - 1 - I := by omega
      have HEN := hid hEn
      clear hEn
      by_cases hbit : bitAt (xs.getD · 0) I = true
      · rw [hbit] at hb
        have HB := hid hb
        have HBI := hid hbit
        clear hb hbit
        go_wp2_with (first | (go_at_call 55; refine HB.out.mono ?_; rintro e w' ⟨rfl, rfl⟩) | (go_at_call 54; refine (sadd_int S C c G n2 bytes t m E _ w _ hp HH.out I1.out i7 I3.out I2.out I4.out i5 i6 (by omega) hE0 hE1 (synf_lt hm _ _ _ _ _ _)).mono ?_; rintro e w2 ⟨rfl, ht1, ht2, ht3⟩))
        go_roundg (gk - 1)
        case measure => omega
        case rel =>
          refine ⟨I + 1, by omega, by go_num, HI.out.turn ht1 ht2 fun j hj => ?_⟩
          rw [synf_d _ _ _ _ _ _ _ hlt, if_pos HBI.out, HEN.out]
          simp [sadd, hj]
      · rw [Bool.not_eq_true] at hbit
        rw [hbit] at hb
        have HB := hid hb
        have HBI := hid hbit
        clear hb hbit
        go_wp2_with (go_at_call 55; refine HB.out.mono ?_; rintro e w' ⟨rfl, rfl⟩)
        go_roundg (gk - 1)
        case measure => omega
        case rel =>
          refine ⟨I + 1, by omega, by go_num, ?_⟩
          have : synf m n8 (rr m t) (xs.getD · 0) (ys.getD · 0) (I + 1) 0 = synf m n8 (rr m t) (xs.getD · 0) (ys.getD · 0) I 0 := by
            funext k
            rw [synf_d _ _ _ _ _ _ _ hlt, HBI.out]; rfl
          rw [this]
          exact HI.out
    · obtain rfl : I = n8 := by omega
      clear I1 I2 I3 I4
      obtain ⟨wo, rfl⟩ : ∃ wo : World, wo = wr := ⟨_, rfl⟩
      go_wp2
      go_loopg [49] (rr m t) (fun gk i wr => ∃ J : Nat, J + gk = rr m t ∧ i = .int .i64 J ∧ SynInv w wr c C S G n2 (synf m I (rr m t) (xs.getD · 0) (ys.getD · 0) I J))
      case atStart => exact ⟨0, by omega, rfl, HI.out⟩
      case round =>
        clear HI
        obtain ⟨J, hJ, rfl, hinv⟩ := hrel
        have HI := hid hinv
        obtain ⟨i1, i2, i3, i4, i5, i6, i7, i8⟩ := hinv
        have I1 := hid i1
        have I2 := hid i2
        have I3 := hid i3
        have I4 := hid i4
        clear i1 i2 i3 i4
        by_cases hlt : J < rr m t
        · have hb := bit_any v2 ys J wr (HV2.out.below I1.out) HY.out (by omega)
          obtain ⟨E, hE⟩ : ∃ E : Int, (rr m t : Int) - 1 - J = E := ⟨_, rfl⟩
          have hE0 : 0 ≤ E := by omega
          have hE1 : E ≤ 10000 := by omega
          have hEn : E.toNat = rr m t - 1 - J := by omega
          have HEN := hid hEn
          clear hEn
          by_cases hbit : bitAt (ys.getD · 0) J = true
          · rw [hbit] at hb
            have HB := hid hb
            have HBI := hid hbit
            clear hb hbit
            go_wp2_with (first | (go_at_call 55; refine HB.out.mono ?_; rintro e w' ⟨rfl, rfl⟩) | (go_at_call 54; refine (sadd_int S C c G n2 bytes t m E _ w _ hp HH.out I1.out i7 I3.out I2.out I4.out i5 i6 (by omega) hE0 hE1 (synf_lt hm _ _ _ _ _ _)).mono ?_; rintro e w2 ⟨rfl, ht1, ht2, ht3⟩))
            go_roundg (gk - 1)
            case measure => omega
            case rel =>
              refine ⟨J + 1, by omega, by go_num, HI.out.turn ht1 ht2 fun j hj => ?_⟩
              rw [synf_p, if_pos HBI.out, HEN.out]
              simp [sadd, hj]
          · rw [Bool.not_eq_true] at hbit
            rw [hbit] at hb
            have HB := hid hb
            have HBI := hid hbit
            clear hb hbit
            go_wp2_with (go_at_call 55; refine HB.out.mono ?_; rintro e w' ⟨rfl, rfl⟩)
            go_roundg (gk - 1)
            case measure => omega
            case rel =>
              refine ⟨J + 1, by omega, by go_num, ?_⟩
              have : synf m I (rr m t) (xs.getD · 0) (ys.getD · 0) I (J + 1) = synf m I (rr m t) (xs.getD · 0) (ys.getD · 0) I J := by
                funext k
                rw [synf_p, HBI.out]; rfl
              rw [this]
              exact HI.out
        · obtain rfl : J = rr m t := by omega
          have cs : wr.cell? ⟨S, 0, none⟩ = some (.slice (some ⟨G, 0, none⟩) n2 n2) := cell_at I3.out 0
          clear I1 I2 I3
          have hfl := synf_lt hm I (rr m t) (xs.getD · 0) (ys.getD · 0) I (rr m t)
          generalize hf : synf m I (rr m t) (xs.getD · 0) (ys.getD · 0) I (rr m t) = f at *
          have HF := hid hf
          clear hf
          obtain ⟨wo, rfl⟩ : ∃ wo : World, wo = wr := ⟨_, rfl⟩
          go_wp2
          go_loopg [65, 11] n2 (fun gk i b wr => ∃ K : Nat, K + gk = n2 ∧ i = .int .i64 K ∧ b = .bool (az f K) ∧ wr = wo)
          case atStart => exact ⟨0, by omega, rfl, rfl, rfl⟩
          case round =>
            obtain ⟨K, hK, rfl, rfl, rfl⟩ := hrel
            by_cases hlt2 : K < n2
            · have cx : wr.cell? ⟨G, K, none⟩ = some (.int .i64 ((f K : Nat) : Int)) := fa_cell I4.out hlt2
              have hlt3 : (K : Int) < (n2 : Int) := by omega
              have hz := az_step f K
              generalize hbz : az f K = bz at *
              generalize hx : f K = x at *
              have HZ := hid hz
              have HBZ := hid hbz
              have HX := hid hx
              clear hz hbz hx
              have HFL := hid hfl
              clear hfl
              cases bz with
              | false =>
                go_wp2
                go_roundg (gk - 1)
                case measure => omega
                case rel => exact ⟨K + 1, by omega, by go_num, by rw [HZ.out]; rfl, rfl⟩
              | true =>
                by_cases hx0 : x = 0
                · subst hx0
                  go_wp2
                  go_roundg (gk - 1)
                  case measure => omega
                  case rel => exact ⟨K + 1, by omega, by go_num, by rw [HZ.out]; rfl, rfl⟩
                · have hx1 : ((x : Int) == 0) = false := by simpa using hx0
                  have HX0 := hid hx0
                  clear hx0
                  go_wp2
                  go_roundg (gk - 1)
                  case measure => omega
                  case rel => exact ⟨K + 1, by omega, by go_num, by rw [HZ.out]; simp [HX0.out], rfl⟩
            · obtain rfl : K = n2 := by omega
              go_wp2
              go_ret2
              have hn2' : 2 * t = K := hn2
              refine ⟨⟨G, i7, ?_, ?_⟩, HI.out.1⟩
              · rw [hn2', hn8, HF.out]; rfl
              · rw [hn2', hn8, HF.out]; exact I4.out
end Go.Proofs.Ytjompiihdnaogaa
