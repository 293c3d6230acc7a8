/- Walks over bch: a code is made; its numbers; bits of bytes. -/
import Derived.Test.YtjompiihdnaogaaRgc
import Derived.Test.YtjompiihdnaogaaBg
namespace Go.Proofs.Ytjompiihdnaogaa
open Go.RowKit Go.Mem

/-- What a code may be: so many bytes, t, and the field's m. -/
structure Par (bytes t m : Nat) : Prop where
  ok : Gf.Ok m
  m4 : 4 ≤ m
  b1 : 1 ≤ bytes
  b2 : bytes ≤ 512
  t1 : 1 ≤ t
  t8 : t ≤ 8
  fits : 8 * bytes + m * t ≤ Gf.sz m
  least : ∀ k, 4 ≤ k → k < m → ¬ 8 * bytes + k * t ≤ Gf.sz k

theorem Par.ex (bytes t : Nat) (b1 : 1 ≤ bytes) (b2 : bytes ≤ 512) (t1 : 1 ≤ t) (t8 : t ≤ 8) : ∃ m, Par bytes t m := by
  have key : ∀ j, (∃ m, 4 ≤ m ∧ m ≤ 13 ∧ 8 * bytes + m * t ≤ Gf.sz m ∧ ∀ k, 4 ≤ k → k < m → ¬ 8 * bytes + k * t ≤ Gf.sz k) ∨ (∀ k, 4 ≤ k → k < 4 + j → k ≤ 13 → ¬ 8 * bytes + k * t ≤ Gf.sz k) := by
    intro j
    induction j with
    | zero => right; intro k h1 h2; omega
    | succ j ih =>
      rcases ih with h | h
      · exact .inl h
      · by_cases hc : 4 + j ≤ 13 ∧ 8 * bytes + (4 + j) * t ≤ Gf.sz (4 + j)
        · exact .inl ⟨4 + j, by omega, hc.1, hc.2, fun k h1 h2 => h k h1 h2 (by omega)⟩
        · right
          intro k h1 h2 h3 h4
          by_cases e : k = 4 + j
          · subst e; exact hc ⟨h3, h4⟩
          · exact h k h1 (by omega) h3 h4
  rcases key 10 with ⟨m, h1, h2, h3, h4⟩ | h
  · exact ⟨m, ⟨by omega, h2⟩, h1, b1, b2, t1, t8, h3, h4⟩
  · exfalso
    have : Gf.sz 13 = 8191 := by decide
    exact h 13 (by omega) (by omega) (by omega) (by rw [this]; omega)

theorem Par.uniq {bytes t m m' : Nat} (h : Par bytes t m) (h' : Par bytes t m') : m = m' := by
  rcases Nat.lt_trichotomy m m' with e | e | e
  · exact absurd h.fits (h'.least m h.m4 e)
  · exact e
  · exact absurd h'.fits (h.least m' h'.m4 e)

/-- The parity's bits. -/
def rr (m t : Nat) : Nat := (Gf.gen m t).length - 1
theorem Par.r {bytes t m : Nat} (h : Par bytes t m) : (Gf.gen m t).length = rr m t + 1 ∧ 1 ≤ rr m t ∧ rr m t ≤ m * t ∧ rr m t ≤ 104 ∧ 8 * bytes + rr m t ≤ Gf.sz m := by
  have h1 := Gf.exs_nodup h.ok t
  have h2 := (Gf.gen_mon h.ok t).2
  have h3 := Gf.gen_powers h.ok t 1 (by omega) (by have := h.t1; omega)
  have h4 : 0 < (Gf.exs m t).length := List.length_pos_of_mem h3
  have h5 : m * t ≤ 13 * 8 := Nat.mul_le_mul h.ok.2 h.t8
  have h6 := h.fits
  have h7 : t * m = m * t := Nat.mul_comm _ _
  unfold rr
  omega

/-- A code in memory. -/
def CodeAt (w : World) (c bytes t m : Nat) : Prop :=
  ∃ fb gv, w.heap[c]? = some (.cells #[.pointer (some ⟨fb, 0, none⟩), .int .i64 bytes, .int .i64 t, gv] 63 (0, 0)) ∧ Made w fb m ∧ Rd .i64 w gv (Gf.gen m t)

theorem CodeAt.drewN {w : World} {c bytes t m : Nat} (h : CodeAt w c bytes t m) (n : Nat) : CodeAt (w.drewN n) c bytes t m := h
theorem CodeAt.below {w w' : World} {c bytes t m : Nat} (h : CodeAt w c bytes t m) (hb : Below w.heap.size w w') : CodeAt w' c bytes t m := by
  obtain ⟨fb, gv, h1, h2, h3⟩ := h
  exact ⟨fb, gv, by rw [hb.block c (lt_at h1)]; exact h1, h2.below hb, h3.below hb⟩

set_option maxRecDepth 100000 in
set_option maxHeartbeats 400000 in
theorem codeM_any (c bytes t m : Nat) (w : World) (h : CodeAt w c bytes t m) :
    Calls Try.prog 15 #[.pointer (some ⟨c, 0, none⟩)] w fun e w' => e = .returned (.int .i64 m) ∧ w = w' := by
  obtain ⟨fb, gv, h1, h2, h3⟩ := h
  have c0 : w.cell? ⟨c, 0, none⟩ = some (.pointer (some ⟨fb, 0, none⟩)) := cell_at h1 0
  have cm := h2.m
  clear h1 h2 h3
  go_enter Try.func15, Try.ntmps15
  go_wp2
  go_ret
  exact ⟨rfl, rfl⟩

set_option maxRecDepth 100000 in
set_option maxHeartbeats 400000 in
theorem codeBits_any (c bytes t m : Nat) (w : World) (h : CodeAt w c bytes t m) (hp : Par bytes t m) :
    Calls Try.prog 16 #[.pointer (some ⟨c, 0, none⟩)] w fun e w' => e = .returned (.int .i64 (rr m t)) ∧ w = w' := by
  obtain ⟨fb, gv, h1, h2, h3⟩ := h
  obtain ⟨a, cap, hv, h4, h5, h6⟩ := h3
  subst hv
  have c3 : w.cell? ⟨c, 3, none⟩ = some (.slice a (Gf.gen m t).length cap) := cell_at h1 3
  have hl := hp.r.1
  rw [hl] at c3
  have ek : ((rr m t + 1 : Nat) : Int) - 1 = rr m t := by omega
  have hr := hp.r.2.2.2.1
  clear h1 h2 h4 h5 h6 hl
  go_enter Try.func16, Try.ntmps16
  go_wp2
  go_ret
  exact ⟨by simp, rfl⟩

set_option maxRecDepth 100000 in
set_option maxHeartbeats 400000 in
theorem codeParity_any (c bytes t m : Nat) (w : World) (h : CodeAt w c bytes t m) (hp : Par bytes t m) :
    Calls Try.prog 18 #[.pointer (some ⟨c, 0, none⟩)] w fun e w' => e = .returned (.int .i64 (((rr m t + 7) / 8 : Nat) : Int)) ∧ w = w' := by
  have hr := hp.r.2.2.2.1
  go_enter Try.func18, Try.ntmps18
  go_wp2_with (go_at_call 16; refine (codeBits_any c bytes t m _ h hp).mono ?_; rintro e w' ⟨rfl, rfl⟩)
  go_ret
  exact ⟨by simp, rfl⟩

theorem wrap_div (x k : Nat) (hx : x < 256) : wrap64 ((x : Int) / 2 ^ k) = (x : Int) / 2 ^ k := by
  have e0 : ((x : Int) / 2 ^ k) = ((x / 2 ^ k : Nat) : Int) := by simp
  have hle : x / 2 ^ k ≤ x := Nat.div_le_self _ _
  rw [e0]
  generalize x / 2 ^ k = q at *
  exact IntWalk.wrap64_in _ ⟨by omega, by omega⟩

/-- A bit of bytes, the highest one first. -/
def bitAt (f : Nat → Nat) (i : Nat) : Bool := (f (i / 8)).testBit (7 - i % 8)

set_option maxRecDepth 100000 in
set_option maxHeartbeats 400000 in
theorem bit_any (v : Value) (xs : List Nat) (i : Nat) (w : World) (hv : Rd .u8 w v xs) (hx : ∀ y ∈ xs, y < 256) (hi : i < 8 * xs.length) :
    Calls Try.prog 55 #[v, .int .i64 i] w fun e w' => e = .returned (.int .i64 ((bitAt (xs.getD · 0) i).toNat : Nat)) ∧ w = w' := by
  have hl := hv.len
  obtain ⟨a, cap, rfl, _, _, hc⟩ := hv
  obtain ⟨g, o, rfl, hcell⟩ := hc (i / 8) (by omega)
  have hb := hx _ (getD_mem (show i / 8 < xs.length by omega))
  have hlt : ((i / 8 : Nat) : Int) < (xs.length : Int) := by omega
  have hi62 : (i : Int) ≤ 8 * (xs.length : Int) := by omega
  have hbt : bitAt (xs.getD · 0) i = (xs.getD (i / 8) 0).testBit (7 - i % 8) := rfl
  have HBT := hid hbt
  clear hc hx hbt
  generalize xs.getD (i / 8) 0 = x0 at *
  have e1 := wrap_div x0 (7 - i % 8) hb
  have e2 := and1_i64 x0 (7 - i % 8) (by omega)
  have E1 := hid e1
  have E2 := hid e2
  clear e1 e2
  go_enter Try.func55, Try.ntmps55
  go_wp2
  go_ret
  refine ⟨congrArg (fun z => Ending.returned (Value.int .i64 z)) ?_, rfl⟩
  rw [E1.out, E2.out, HBT.out]
  cases x0.testBit (7 - i % 8) <;> rfl

theorem shr128 (k : Nat) : (128 : Int) / (2 : Int) ^ k = (((128 >>> k : Nat) : Nat) : Int) := by
  rw [Nat.shiftRight_eq_div_pow]; simp

set_option maxRecDepth 100000 in
set_option maxHeartbeats 400000 in
/-- A bit is turned: the byte is another one. -/
theorem turn_any (g n cap i : Nat) (f : Nat → Nat) (w : World) (hg : w.heap[g]? = some (.cells (fa .u8 cap f) 5 (0, 0))) (hn : n ≤ cap) (hc : cap ≤ 1000000) (hx : ∀ j, f j < 256) (hi : i < 8 * n) :
    Calls Try.prog 33 #[.slice (some ⟨g, 0, none⟩) n cap, .int .i64 i] w fun e w' => e = .returned (.tuple #[]) ∧ w'.heap[g]? = some (.cells (fa .u8 cap (upd f (i / 8) (f (i / 8) ^^^ (128 >>> (i % 8))))) 5 (0, 0)) ∧ w.grownBy w' (some g) ∧ w'.heap.size = w.heap.size := by
  have cz : w.cell? ⟨g, i / 8, none⟩ = some (.int .u8 (f (i / 8))) := fa_cell hg (by omega)
  have fz : w.frozen? ⟨g, i / 8, none⟩ = false := free_at hg _
  have hlt : ((i / 8 : Nat) : Int) < (n : Int) := by omega
  have hlt2 : (i : Int) / 8 < (n : Int) := by omega
  have hi62 : (i : Int) ≤ 8000000 := by omega
  have h1 := hx (i / 8)
  have h2 : 128 >>> (i % 8) < 256 := by rw [Nat.shiftRight_eq_div_pow]; exact Nat.lt_of_le_of_lt (Nat.div_le_self _ _) (by decide)
  have ex : bits .xor .u8 ((f (i / 8) : Nat) : Int) ((128 : Int) / 2 ^ (i % 8)) = ((f (i / 8) ^^^ (128 >>> (i % 8)) : Nat) : Int) := by
    rw [shr128]
    exact bits_xor_nat .u8 8 (by decide) wraps_u8 _ _ h1 h2
  have HG := hid hg
  clear hg h1 h2
  go_enter Try.func33, Try.ntmps33
  go_wp2
  refine wp_region_quiet_tail 10 (by kernel_rfl) (by kernel_rfl) ?_
  simp only [List.take_succ_cons, List.take_zero, List.drop_succ_cons, List.drop_zero]
  repeat (go_big_quiet_step (fail))
  refine wpQuiet_nil ?_
  intro _ hw'
  obtain ⟨nq, hw''⟩ := hw'
  subst hw''
  go_wp2
  go_end0
  have hne : ∀ k, some k ≠ some g → k ≠ g := fun k hk e => hk (by rw [e])
  exact ⟨rfl, set_fa (w := w.drewN nq) HG.out _ _, ⟨rfl, rfl, rfl, by simp, fun k _ hk => (set_other (hne k hk)).trans rfl⟩, by simp⟩

set_option maxRecDepth 100000 in
set_option maxHeartbeats 400000 in
theorem longbit_any (hi lo i : Nat) (w : World) (h1 : hi < 18446744073709551616) (h2 : lo < 18446744073709551616) (h3 : i < 128) :
    Calls Try.prog 32 #[.agg #[.int .u64 hi, .int .u64 lo], .int .i64 i] w fun e w' => e = .returned (.int .u64 ((if i < 64 then lo.testBit i else hi.testBit (i - 64)).toNat : Nat)) ∧ Below w.heap.size w w' := by
  by_cases hc : i < 64
  · rw [if_pos hc]
    go_enter Try.func32, Try.ntmps32
    have ea := hid (and1_u64 lo i h2)
    clear h1 h2
    go_wp2
    go_ret
    refine ⟨congrArg (fun z => Ending.returned (Value.int .u64 z)) ?_, (Below.refl _ _).alloc (Nat.le_refl _) _⟩
    rw [ea.out]; cases lo.testBit i <;> rfl
  · rw [if_neg hc]
    have ea := hid (and1_u64 hi (i - 64) h1)
    have hc2 : 64 ≤ i := by omega
    clear h1 h2
    go_enter Try.func32, Try.ntmps32
    go_wp2
    go_ret
    refine ⟨congrArg (fun z => Ending.returned (Value.int .u64 z)) ?_, (Below.refl _ _).alloc (Nat.le_refl _) _⟩
    rw [ea.out]; cases hi.testBit (i - 64) <;> rfl

set_option maxRecDepth 100000 in
set_option maxHeartbeats 800000 in
theorem bchnew_any (bytes t m : Nat) (w : World) (hp : Par bytes t m) :
    Calls Try.prog 13 #[.int .i64 bytes, .int .i64 t] w fun e w' => (∃ c, e = .returned (.tuple #[.pointer (some ⟨c, 0, none⟩), .int .i64 0]) ∧ CodeAt w' c bytes t m) ∧ Below w.heap.size w w' := by
  have b1 := hp.b1
  have b2 := hp.b2
  have t1 := hp.t1
  have t8 := hp.t8
  have m4 := hp.m4
  have m13 := hp.ok.2
  have HP := hid hp
  clear hp
  go_enter Try.func13, Try.ntmps13
  go_wp2
  go_loopg [6] (m - 4) (fun g k wr => ∃ q : Nat, 4 ≤ q ∧ q + g = m ∧ k = .int .i64 q ∧ wr = w)
  case atStart => exact ⟨4, by omega, by omega, rfl, rfl⟩
  case round =>
    obtain ⟨q, hq4, hq, rfl, rfl⟩ := hrel
    have q1 := two_pow_pos' q
    have q2 := two_pow_le q (by omega)
    have n1 : q * t ≤ 13 * 8 := Nat.mul_le_mul (by omega) t8
    have n2 : (q : Int) * (t : Int) ≤ 104 := by exact_mod_cast n1
    have n3 : (0 : Int) ≤ (q : Int) * (t : Int) := by exact_mod_cast Nat.zero_le (q * t)
    have hsz := sz_cast q
    by_cases hlt : q < m
    · have hno := HP.out.least q hq4 hlt
      have hno2 : (2:Int)^q - 1 < 8 * (bytes : Int) + (q : Int) * (t : Int) := by
        have : ((8 * bytes + q * t : Nat) : Int) = 8 * (bytes : Int) + (q : Int) * (t : Int) := by simp
        omega
      clear hno hsz
      go_wp2
      go_roundg (gk - 1)
      case measure => omega
      case rel => exact ⟨q + 1, by omega, by omega, by go_num, rfl⟩
    · have eq : q = m := by omega
      subst eq
      have hyes := HP.out.fits
      have hyes2 : 8 * (bytes : Int) + (q : Int) * (t : Int) ≤ (2:Int)^q - 1 := by
        have : ((8 * bytes + q * t : Nat) : Int) = 8 * (bytes : Int) + (q : Int) * (t : Int) := by simp
        omega
      have h2t : 2 * t ≤ Gf.sz q := by
        have : 4 * t ≤ q * t := Nat.mul_le_mul_right t hq4
        omega
      have H2T := hid h2t
      clear hyes hsz h2t
      go_wp2_with fail
      refine (gfnew_any _ _ (by omega) (by omega)).mono ?_
      rintro e w1 ⟨rfl, rfl⟩
      dsimp only
      go_wp2_with fail
      refine (generator_raw wr.heap.size q t _ HP.out.ok (alloc_new wr _) t1 t8 H2T.out).mono ?_
      rintro e w2 ⟨⟨v, rfl, hv⟩, hM, hgr⟩
      obtain ⟨sa, cap, rfl, hv1, hv2, hv3⟩ := hv
      have HV : Hid (Rd .i64 w2 (.slice sa (Gf.gen q t).length cap) (Gf.gen q t)) := hid ⟨sa, cap, rfl, hv1, hv2, hv3⟩
      have HM := hid hM
      have HG := hid hgr
      clear hv1 hv2 hv3 hM hgr
      dsimp only
      go_wp2
      go_ret2
      have hsz : wr.heap.size + 1 ≤ w2.heap.size := by have := HG.out.size; simpa using this
      have hB : Below wr.heap.size wr w2 := by
        have g := HG.out
        refine ⟨g.os, g.tape, g.output, by omega, fun k hk => ?_⟩
        exact (g.block k (by simp; omega) (by simp; omega)).trans (alloc_old hk)
      have hb2 := (Below.refl w2.heap.size w2).alloc (Nat.le_refl _) (.cells #[.pointer (some ⟨wr.heap.size, 0, none⟩), .int .i64 bytes, .int .i64 t, .slice sa (Gf.gen q t).length cap] 63)
      refine ⟨⟨w2.heap.size, rfl, wr.heap.size, _, alloc_new _ _, HM.out.below hb2, HV.out.below hb2⟩, hB.comp hb2⟩
end Go.Proofs.Ytjompiihdnaogaa
