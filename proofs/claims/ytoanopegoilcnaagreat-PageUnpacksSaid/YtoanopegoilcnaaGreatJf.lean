/- Walks over bch: a code is made; its numbers; bits of bytes. -/
import Derived.Test.YtoanopegoilcnaaGreatJe
import Derived.Test.YtoanopegoilcnaaGreatJb
import Derived.Test.YtoanopegoilcnaaGreatJa
import Derived.Test.YtoanopegoilcnaaGreatJc
set_option linter.unusedVariables false
namespace Go.Proofs.YtoanopegoilcnaaGreat
open Go.RowKit Go.Mem

/-- What a code may be: so many bytes, t, and the field's m. -/
structure Par (bytes t m : Nat) : Prop where
  ok : Gf.Ok m
  m4 : 4 ≤ m
  b1 : 1 ≤ bytes
  b2 : bytes ≤ 512
  t1 : 1 ≤ t
  t8 : t ≤ 8
  fits : 8 * bytes + m * t ≤ Gf.sz m
  least : ∀ k, 4 ≤ k → k < m → ¬ 8 * bytes + k * t ≤ Gf.sz k

theorem Par.ex (bytes t : Nat) (b1 : 1 ≤ bytes) (b2 : bytes ≤ 512) (t1 : 1 ≤ t) (t8 : t ≤ 8) : ∃ m, Par bytes t m := by
  have key : ∀ j, (∃ m, 4 ≤ m ∧ m ≤ 13 ∧ 8 * bytes + m * t ≤ Gf.sz m ∧ ∀ k, 4 ≤ k → k < m → ¬ 8 * bytes + k * t ≤ Gf.sz k) ∨ (∀ k, 4 ≤ k → k < 4 + j → k ≤ 13 → ¬ 8 * bytes + k * t ≤ Gf.sz k) := by
    intro j
    induction j with
    | zero => right; intro k h1 h2; omega
    | succ j ih =>
      rcases ih with h | h
      · exact .inl h
      · by_cases hc : 4 + j ≤ 13 ∧ 8 * bytes + (4 + j) * t ≤ Gf.sz (4 + j)
        · exact .inl ⟨4 + j, by omega, hc.1, hc.2, fun k h1 h2 => h k h1 h2 (by omega)⟩
        · right
          intro k h1 h2 h3 h4
          by_cases e : k = 4 + j
          · subst e; exact hc ⟨h3, h4⟩
          · exact h k h1 (by omega) h3 h4
  rcases key 10 with ⟨m, h1, h2, h3, h4⟩ | h
  · exact ⟨m, ⟨by omega, h2⟩, h1, b1, b2, t1, t8, h3, h4⟩
  · exfalso
    have : Gf.sz 13 = 8191 := by decide
    exact h 13 (by omega) (by omega) (by omega) (by rw [this]; omega)

theorem Par.uniq {bytes t m m' : Nat} (h : Par bytes t m) (h' : Par bytes t m') : m = m' := by
  rcases Nat.lt_trichotomy m m' with e | e | e
  · exact absurd h.fits (h'.least m h.m4 e)
  · exact e
  · exact absurd h'.fits (h.least m' h'.m4 e)

/-- The parity's bits. -/
def rr (m t : Nat) : Nat := (Gf.gen m t).length - 1
theorem Par.r {bytes t m : Nat} (h : Par bytes t m) : (Gf.gen m t).length = rr m t + 1 ∧ 1 ≤ rr m t ∧ rr m t ≤ m * t ∧ rr m t ≤ 104 ∧ 8 * bytes + rr m t ≤ Gf.sz m := by
  have h1 := Gf.exs_nodup h.ok t
  have h2 := (Gf.gen_mon h.ok t).2
  have h3 := Gf.gen_powers h.ok t 1 (by omega) (by have := h.t1; omega)
  have h4 : 0 < (Gf.exs m t).length := List.length_pos_of_mem h3
  have h5 : m * t ≤ 13 * 8 := Nat.mul_le_mul h.ok.2 h.t8
  have h6 := h.fits
  have h7 : t * m = m * t := Nat.mul_comm _ _
  unfold rr
  omega

/-- A code in memory. -/
def CodeAt (w : World) (c bytes t m : Nat) : Prop :=
  ∃ fb gv, w.heap[c]? = some (.cells #[.pointer (some ⟨fb, 0, none⟩), .int .i64 bytes, .int .i64 t, gv] 103 (0, 0)) ∧ Made w fb m ∧ Rd .i64 w gv (Gf.gen m t)

theorem CodeAt.drewN {w : World} {c bytes t m : Nat} (h : CodeAt w c bytes t m) (n : Nat) : CodeAt (w.drewN n) c bytes t m := h
theorem CodeAt.below {w w' : World} {c bytes t m : Nat} (h : CodeAt w c bytes t m) (hb : Below w.heap.size w w') : CodeAt w' c bytes t m := by
  obtain ⟨fb, gv, h1, h2, h3⟩ := h
  exact ⟨fb, gv, by rw [hb.block c (lt_at h1)]; exact h1, h2.below hb, h3.below hb⟩

set_option maxRecDepth 100000 in
set_option maxHeartbeats 400000 in
theorem codeBits_any (c bytes t m : Nat) (w : World) (h : CodeAt w c bytes t m) (hp : Par bytes t m) :
    Calls Tryz.prog 54 #[.pointer (some ⟨c, 0, none⟩)] w fun e w' => e = .returned (.int .i64 (rr m t)) ∧ w = w' := by
  obtain ⟨fb, gv, h1, h2, h3⟩ := h
  obtain ⟨a, cap, hv, h4, h5, h6⟩ := h3
  subst hv
  have c3 : w.cell? ⟨c, 3, none⟩ = some (.slice a (Gf.gen m t).length cap) := cell_at h1 3
  have hl := hp.r.1
  rw [hl] at c3
  have ek : ((rr m t + 1 : Nat) : Int) - 1 = rr m t := by omega
  have hr := hp.r.2.2.2.1
  clear h1 h2 h4 h5 h6 hl
  go_enter Tryz.func54, Tryz.ntmps54
  go_wp2
  go_ret
  exact ⟨by simp, rfl⟩

set_option maxRecDepth 100000 in
set_option maxHeartbeats 400000 in
theorem codeParity_any (c bytes t m : Nat) (w : World) (h : CodeAt w c bytes t m) (hp : Par bytes t m) :
    Calls Tryz.prog 34 #[.pointer (some ⟨c, 0, none⟩)] w fun e w' => e = .returned (.int .i64 (((rr m t + 7) / 8 : Nat) : Int)) ∧ w = w' := by
  have hr := hp.r.2.2.2.1
  go_enter Tryz.func34, Tryz.ntmps34
  go_wp2_with (go_at_call 54; refine (codeBits_any c bytes t m _ h hp).mono ?_; rintro e w' ⟨rfl, rfl⟩)
  go_ret
  exact ⟨by simp, rfl⟩

theorem wrap_div (x k : Nat) (hx : x < 256) : wrap64 ((x : Int) / 2 ^ k) = (x : Int) / 2 ^ k := by
  have e0 : ((x : Int) / 2 ^ k) = ((x / 2 ^ k : Nat) : Int) := by simp
  have hle : x / 2 ^ k ≤ x := Nat.div_le_self _ _
  rw [e0]
  generalize x / 2 ^ k = q at *
  exact IntWalk.wrap64_in _ ⟨by omega, by omega⟩

/-- A bit of bytes, the highest one first. -/
def bitAt (f : Nat → Nat) (i : Nat) : Bool := (f (i / 8)).testBit (7 - i % 8)

set_option maxRecDepth 100000 in
set_option maxHeartbeats 400000 in
theorem bit_any (v : Value) (xs : List Nat) (i : Nat) (w : World) (hv : Rd .u8 w v xs) (hx : ∀ y ∈ xs, y < 256) (hi : i < 8 * xs.length) :
    Calls Tryz.prog 77 #[v, .int .i64 i] w fun e w' => e = .returned (.int .i64 ((bitAt (xs.getD · 0) i).toNat : Nat)) ∧ w = w' := by
  have hl := hv.len
  obtain ⟨a, cap, rfl, _, _, hc⟩ := hv
  obtain ⟨g, o, rfl, hcell⟩ := hc (i / 8) (by omega)
  have hb := hx _ (getD_mem (show i / 8 < xs.length by omega))
  have hlt : ((i / 8 : Nat) : Int) < (xs.length : Int) := by omega
  have hi62 : (i : Int) ≤ 8 * (xs.length : Int) := by omega
  have hbt : bitAt (xs.getD · 0) i = (xs.getD (i / 8) 0).testBit (7 - i % 8) := rfl
  have HBT := hid hbt
  clear hc hx hbt
  generalize xs.getD (i / 8) 0 = x0 at *
  have e1 := wrap_div x0 (7 - i % 8) hb
  have e2 := and1_i64 x0 (7 - i % 8) (by omega)
  have E1 := hid e1
  have E2 := hid e2
  clear e1 e2
  go_enter Tryz.func77, Tryz.ntmps77
  go_wp2
  go_ret
  refine ⟨congrArg (fun z => Ending.returned (Value.int .i64 z)) ?_, rfl⟩
  rw [E1.out, E2.out, HBT.out]
  cases x0.testBit (7 - i % 8) <;> rfl

theorem shr128 (k : Nat) : (128 : Int) / (2 : Int) ^ k = (((128 >>> k : Nat) : Nat) : Int) := by
  rw [Nat.shiftRight_eq_div_pow]; simp

set_option maxRecDepth 100000 in
set_option maxHeartbeats 400000 in
/-- A bit is turned: the byte is another one. -/
theorem turn_any (g n cap i : Nat) (f : Nat → Nat) (w : World) (hg : w.heap[g]? = some (.cells (fa .u8 cap f) 5 (0, 0))) (hn : n ≤ cap) (hc : cap ≤ 1000000) (hx : ∀ j, f j < 256) (hi : i < 8 * n) :
    Calls Tryz.prog 61 #[.slice (some ⟨g, 0, none⟩) n cap, .int .i64 i] w fun e w' => e = .returned (.tuple #[]) ∧ w'.heap[g]? = some (.cells (fa .u8 cap (upd f (i / 8) (f (i / 8) ^^^ (128 >>> (i % 8))))) 5 (0, 0)) ∧ w.grownBy w' (some g) ∧ w'.heap.size = w.heap.size := by
  have cz : w.cell? ⟨g, i / 8, none⟩ = some (.int .u8 (f (i / 8))) := fa_cell hg (by omega)
  have fz : w.frozen? ⟨g, i / 8, none⟩ = false := free_at hg _
  have hlt : ((i / 8 : Nat) : Int) < (n : Int) := by omega
  have hlt2 : (i : Int) / 8 < (n : Int) := by omega
  have hi62 : (i : Int) ≤ 8000000 := by omega
  have h1 := hx (i / 8)
  have h2 : 128 >>> (i % 8) < 256 := by rw [Nat.shiftRight_eq_div_pow]; exact Nat.lt_of_le_of_lt (Nat.div_le_self _ _) (by decide)
  have ex : bits .xor .u8 ((f (i / 8) : Nat) : Int) ((128 : Int) / 2 ^ (i % 8)) = ((f (i / 8) ^^^ (128 >>> (i % 8)) : Nat) : Int) := by
    rw [shr128]
    exact bits_xor_nat .u8 8 (by decide) wraps_u8 _ _ h1 h2
  have HG := hid hg
  clear hg h1 h2
  go_enter Tryz.func61, Tryz.ntmps61
  go_wp2
  refine wp_region_quiet_tail 10 (by kernel_rfl) (by kernel_rfl) ?_
  simp only [List.take_succ_cons, List.take_zero, List.drop_succ_cons, List.drop_zero]
  repeat (go_big_quiet_step (fail))
  refine wpQuiet_nil ?_
  intro _ hw'
  obtain ⟨nq, hw''⟩ := hw'
  subst hw''
  go_wp2
  go_end0
  have hne : ∀ k, some k ≠ some g → k ≠ g := fun k hk e => hk (by rw [e])
  exact ⟨rfl, set_fa (w := w.drewN nq) HG.out _ _, ⟨rfl, rfl, rfl, by simp, fun k _ hk => (set_other (hne k hk)).trans rfl⟩, by simp⟩

set_option maxRecDepth 100000 in
set_option maxHeartbeats 400000 in
theorem longbit_any (hi lo i : Nat) (w : World) (h1 : hi < 18446744073709551616) (h2 : lo < 18446744073709551616) (h3 : i < 128) :
    Calls Tryz.prog 71 #[.agg #[.int .u64 hi, .int .u64 lo], .int .i64 i] w fun e w' => e = .returned (.int .u64 ((if i < 64 then lo.testBit i else hi.testBit (i - 64)).toNat : Nat)) ∧ Below w.heap.size w w' := by
  by_cases hc : i < 64
  · rw [if_pos hc]
    go_enter Tryz.func71, Tryz.ntmps71
    have ea := hid (and1_u64 lo i h2)
    clear h1 h2
    go_wp2
    go_ret
    refine ⟨congrArg (fun z => Ending.returned (Value.int .u64 z)) ?_, (Below.refl _ _).alloc (Nat.le_refl _) _⟩
    rw [ea.out]; cases lo.testBit i <;> rfl
  · rw [if_neg hc]
    have ea := hid (and1_u64 hi (i - 64) h1)
    have hc2 : 64 ≤ i := by omega
    clear h1 h2
    go_enter Tryz.func71, Tryz.ntmps71
    go_wp2
    go_ret
    refine ⟨congrArg (fun z => Ending.returned (Value.int .u64 z)) ?_, (Below.refl _ _).alloc (Nat.le_refl _) _⟩
    rw [ea.out]; cases hi.testBit (i - 64) <;> rfl

set_option maxRecDepth 100000 in
set_option maxHeartbeats 800000 in
theorem bchnew_any (bytes t m : Nat) (w : World) (hp : Par bytes t m) :
    Calls Tryz.prog 45 #[.int .i64 bytes, .int .i64 t] w fun e w' => (∃ c, e = .returned (.tuple #[.pointer (some ⟨c, 0, none⟩), .int .i64 0]) ∧ CodeAt w' c bytes t m) ∧ Below w.heap.size w w' := by
  have b1 := hp.b1
  have b2 := hp.b2
  have t1 := hp.t1
  have t8 := hp.t8
  have m4 := hp.m4
  have m13 := hp.ok.2
  have HP := hid hp
  clear hp
  go_enter Tryz.func45, Tryz.ntmps45
  go_wp2
  go_loopg [6] (m - 4) (fun g k wr => ∃ q : Nat, 4 ≤ q ∧ q + g = m ∧ k = .int .i64 q ∧ wr = w)
  case atStart => exact ⟨4, by omega, by omega, rfl, rfl⟩
  case round =>
    obtain ⟨q, hq4, hq, rfl, rfl⟩ := hrel
    have q1 := two_pow_pos' q
    have q2 := two_pow_le q (by omega)
    have n1 : q * t ≤ 13 * 8 := Nat.mul_le_mul (by omega) t8
    have n2 : (q : Int) * (t : Int) ≤ 104 := by exact_mod_cast n1
    have n3 : (0 : Int) ≤ (q : Int) * (t : Int) := by exact_mod_cast Nat.zero_le (q * t)
    have hsz := sz_cast q
    by_cases hlt : q < m
    · have hno := HP.out.least q hq4 hlt
      have hno2 : (2:Int)^q - 1 < 8 * (bytes : Int) + (q : Int) * (t : Int) := by
        have : ((8 * bytes + q * t : Nat) : Int) = 8 * (bytes : Int) + (q : Int) * (t : Int) := by simp
        omega
      clear hno hsz
      go_wp2
      go_roundg (gk - 1)
      case measure => omega
      case rel => exact ⟨q + 1, by omega, by omega, by go_num, rfl⟩
    · have eq : q = m := by omega
      subst eq
      have hyes := HP.out.fits
      have hyes2 : 8 * (bytes : Int) + (q : Int) * (t : Int) ≤ (2:Int)^q - 1 := by
        have : ((8 * bytes + q * t : Nat) : Int) = 8 * (bytes : Int) + (q : Int) * (t : Int) := by simp
        omega
      have h2t : 2 * t ≤ Gf.sz q := by
        have : 4 * t ≤ q * t := Nat.mul_le_mul_right t hq4
        omega
      have H2T := hid h2t
      clear hyes hsz h2t
      go_wp2_with fail
      refine (gfnew_any _ _ (by omega) (by omega)).mono ?_
      rintro e w1 ⟨rfl, rfl⟩
      dsimp only
      go_wp2_with fail
      refine (generator_raw wr.heap.size q t _ HP.out.ok (alloc_new wr _) t1 t8 H2T.out).mono ?_
      rintro e w2 ⟨⟨v, rfl, hv⟩, hM, hgr⟩
      obtain ⟨sa, cap, rfl, hv1, hv2, hv3⟩ := hv
      have HV : Hid (Rd .i64 w2 (.slice sa (Gf.gen q t).length cap) (Gf.gen q t)) := hid ⟨sa, cap, rfl, hv1, hv2, hv3⟩
      have HM := hid hM
      have HG := hid hgr
      clear hv1 hv2 hv3 hM hgr
      dsimp only
      go_wp2
      go_ret2
      have hsz : wr.heap.size + 1 ≤ w2.heap.size := by have := HG.out.size; simpa using this
      have hB : Below wr.heap.size wr w2 := by
        have g := HG.out
        refine ⟨g.os, g.tape, g.output, by omega, fun k hk => ?_⟩
        exact (g.block k (by simp; omega) (by simp; omega)).trans (alloc_old hk)
      have hb2 := (Below.refl w2.heap.size w2).alloc (Nat.le_refl _) (.cells #[.pointer (some ⟨wr.heap.size, 0, none⟩), .int .i64 bytes, .int .i64 t, .slice sa (Gf.gen q t).length cap] 103)
      refine ⟨⟨w2.heap.size, rfl, wr.heap.size, _, alloc_new _ _, HM.out.below hb2, HV.out.below hb2⟩, hB.comp hb2⟩
end Go.Proofs.YtoanopegoilcnaaGreat
/- Bytes made anew. -/
namespace Go.Proofs.YtoanopegoilcnaaGreat
open Go.RowKit Go.Mem

theorem info_byte : (Tryz.prog.info? 5).map (fun i => (i.zero, i.size, i.bytes)) = some (some (.int .u8 0), 1, 1) := by kernel_rfl
theorem mk_bytes (n : Nat) (h : n ≤ 1000000000) (w : World) : (Instr.makeSlice 39 (.int .i64 n) (.int .i64 n)).run Tryz.prog w = .ok (.slice (some ⟨w.heap.size, 0, none⟩) n n) (w.alloc (.cells (fa .u8 n (fun _ => 0)) 5)) := by
  obtain ⟨i, hi, hz, hs, hb⟩ := info_parts info_byte
  have := run_make (P := Tryz.prog) w 39 5 i _ Tryz.underlying39 hi hz .i64 .i64 n n (by omega) (Int.le_refl _) (by rw [hb]; omega) (by omega)
  rw [hs] at this
  simp only [Int.toNat_natCast, made_fa] at this
  exact this
end Go.Proofs.YtoanopegoilcnaaGreat
/- Walks over bch: the rest by the generator. -/
namespace Go.Proofs.YtoanopegoilcnaaGreat
open Go.RowKit Go.Mem

def gf1 (m t : Nat) : Nat → Nat := fun i => (Gf.gen m t).getD i 0
theorem gf1_le {m t : Nat} (h : Gf.Ok m) (i : Nat) : gf1 m t i ≤ 1 := by
  rcases Gf.bin_getD (Gf.gen_bin h t) i with e | e <;> unfold gf1 <;> omega
/-- The generator's lower coefficients as a number. -/
def gnum (m t : Nat) : Nat := Gf.gn (gf1 m t) (rr m t)

theorem longbit_int (hi lo : Nat) (i : Int) (w : World) (h1 : hi < 18446744073709551616) (h2 : lo < 18446744073709551616) (h0 : 0 ≤ i) (h3 : i < 128) :
    Calls Tryz.prog 71 #[.agg #[.int .u64 hi, .int .u64 lo], .int .i64 i] w fun e w' => e = .returned (.int .u64 ((if i.toNat < 64 then lo.testBit i.toNat else hi.testBit (i.toNat - 64)).toNat : Nat)) ∧ Below w.heap.size w w' := by
  obtain ⟨n, rfl⟩ := Int.eq_ofNat_of_zero_le h0
  exact longbit_any hi lo n w h1 h2 (by omega)

/-- What is handed back: the register's halves. -/
def RestRet (m t : Nat) (xs : List Nat) (e : Ending) : Prop :=
  e = .returned (.agg #[.int .u64 ((Gf.hi64 (Gf.zd (rr m t) (gnum m t) (xs.getD · 0) xs.length) : Nat) : Int), .int .u64 ((Gf.lo64 (Gf.zd (rr m t) (gnum m t) (xs.getD · 0) xs.length) : Nat) : Int)])

set_option maxRecDepth 100000 in
set_option maxHeartbeats 800000 in
theorem rest_any (c bytes t m : Nat) (v : Value) (xs : List Nat) (w : World) (hp : Par bytes t m) (h : CodeAt w c bytes t m) (hv : Rd .u8 w v xs) (hx : ∀ y ∈ xs, y < 256) :
    Calls Tryz.prog 70 #[.pointer (some ⟨c, 0, none⟩), v] w fun e w' => RestRet m t xs e ∧ Below w.heap.size w w' := by
  have hl := hv.len
  have hr := hp.r
  have HH := hid h
  obtain ⟨fb, gv, h1, h2, h3⟩ := h
  obtain ⟨ga, gcap, rfl, g1, g2, g3⟩ := h3
  rw [hr.1] at h1 g1 g3
  have c3 : w.cell? ⟨c, 3, none⟩ = some (.slice ga (rr m t + 1) gcap) := cell_at h1 3
  have hclt := lt_at h1
  obtain ⟨xa, xcap, rfl, x1, x2, x3⟩ := hv
  have HG3 := hid g3
  have HX3 := hid x3
  have HXL := hid hx
  have r1 := hr.2.1
  have r104 := hr.2.2.2.1
  have hrc : rr m t ≤ gcap := by omega
  clear h1 h2 g3 x3 hx hr
  go_enter Tryz.func70, Tryz.ntmps70
  go_wp2_with (go_at_call 54; refine (codeBits_any c bytes t m _ (HH.out.below ((Below.refl _ w).alloc (Nat.le_refl _) _)) hp).mono ?_; rintro e w' ⟨rfl, rfl⟩)
  go_loopg [22] (rr m t) (fun g i wr => ∃ I : Nat, I + g = rr m t ∧ i = .int .i64 I ∧ Below w.heap.size w wr ∧ wr.heap.size = w.heap.size + 2 ∧ wr.heap[w.heap.size]? = some (.cells #[.int .u64 0, .int .u64 0] 123 (0, 0)) ∧ wr.heap[w.heap.size + 1]? = some (.cells #[.int .u64 ((Gf.hi64 (Gf.gn (gf1 m t) I) : Nat) : Int), .int .u64 ((Gf.lo64 (Gf.gn (gf1 m t) I) : Nat) : Int)] 123 (0, 0)))
  case atStart =>
    refine ⟨0, by omega, rfl, ((Below.refl _ w).alloc (Nat.le_refl _) _).alloc (by simp) _, by simp, ?_, ?_⟩
    · exact (alloc_old (by simp)).trans (alloc_new _ _)
    · have := alloc_new (w.alloc (.cells #[.int .u64 0, .int .u64 0] 123)) (.cells #[.int .u64 0, .int .u64 0] 123)
      rw [World.size_alloc] at this
      have e1 : Gf.gn (gf1 m t) 0 = 0 := rfl
      rw [e1, Gf.hi64_zero, Gf.lo64_zero]
      exact this
  case round =>
    obtain ⟨I, hI, rfl, hb, hsz, hbx, hbg⟩ := hrel
    have HB := hid hb
    have HS := hid hsz
    have HBX := hid hbx
    have HBG := hid hbg
    clear hb hsz hbx hbg
    by_cases hlt : I < rr m t
    · obtain ⟨gg, go, rfl, hgc⟩ := HG3.out I (by omega)
      have cg : wr.cell? ⟨gg, go + I, none⟩ = some (.int .i64 ((gf1 m t I : Nat) : Int)) := by rw [HB.out.cell (World.block_lt_of_cell? _ _ hgc)]; exact hgc
      clear hgc
      have g1le := gf1_le hp.ok (t := t) I
      have hgl := Gf.gn_lt (gf1_le hp.ok (t := t)) I
      by_cases h64 : I < 64
      · have cl : wr.cell? ⟨w.heap.size + 1, 1, none⟩ = some (.int .u64 ((Gf.lo64 (Gf.gn (gf1 m t) I) : Nat) : Int)) := cell_at HBG.out 1
        have hll := Gf.lo64_lt (Gf.gn (gf1 m t) I)
        generalize el : Gf.lo64 (Gf.gn (gf1 m t) I) = lo at *
        have EL := hid el
        clear el
        have fl : wr.frozen? ⟨w.heap.size + 1, 1, none⟩ = false := free_at HBG.out 1
        go_wp2
        refine wp_region_quiet_tail 8 (by kernel_rfl) (by kernel_rfl) ?_
        simp only [List.take_succ_cons, List.take_zero, List.drop_succ_cons, List.drop_zero]
        repeat (go_big_quiet_step (fail))
        refine wpQuiet_nil ?_
        intro _ hw'
        obtain ⟨nq, hw''⟩ := hw'
        subst hw''
        go_wp2
        go_roundg (gk - 1)
        case measure => omega
        case rel =>
          have e := Gf.gn_lo (gf1_le hp.ok (t := t)) I h64
          refine ⟨I + 1, by omega, by go_num, (HB.out.drewN nq).setCell (by simp) _, by simpa using HS.out, ?_, ?_⟩
          · exact (set_other (by simp)).trans HBX.out
          · refine (set_at (w := wr.drewN nq) HBG.out 1 _).trans ?_
            rw [e.1, e.2, EL.out, or_shl_u64 lo _ I hll g1le h64]; rfl
      · have cl : wr.cell? ⟨w.heap.size + 1, 0, none⟩ = some (.int .u64 ((Gf.hi64 (Gf.gn (gf1 m t) I) : Nat) : Int)) := cell_at HBG.out 0
        have h128 : Gf.gn (gf1 m t) I < 2^128 := Nat.lt_of_lt_of_le hgl (Nat.pow_le_pow_right (by decide) (by omega))
        have hll := Gf.hi64_lt h128
        clear h128 hgl
        generalize el : Gf.hi64 (Gf.gn (gf1 m t) I) = lo at *
        have EL := hid el
        clear el
        have fl : wr.frozen? ⟨w.heap.size + 1, 0, none⟩ = false := free_at HBG.out 0
        go_wp2
        refine wp_region_quiet_tail 9 (by kernel_rfl) (by kernel_rfl) ?_
        simp only [List.take_succ_cons, List.take_zero, List.drop_succ_cons, List.drop_zero]
        repeat (go_big_quiet_step (fail))
        refine wpQuiet_nil ?_
        intro _ hw'
        obtain ⟨nq, hw''⟩ := hw'
        subst hw''
        go_wp2
        go_roundg (gk - 1)
        case measure => omega
        case rel =>
          have e := Gf.gn_hi (gf1_le hp.ok (t := t)) I (by omega)
          refine ⟨I + 1, by omega, by go_num, (HB.out.drewN nq).setCell (by simp) _, by simpa using HS.out, ?_, ?_⟩
          · exact (set_other (by simp)).trans HBX.out
          · refine (set_at (w := wr.drewN nq) HBG.out 0 _).trans ?_
            rw [e.1, e.2, EL.out, or_shl_u64 lo _ (I - 64) hll g1le (by omega)]; rfl
    · have eI : I = rr m t := by omega
      subst eI
      have hG128 : gnum m t < 2^128 := Nat.lt_of_lt_of_le (Gf.gn_lt (gf1_le hp.ok (t := t)) _) (Nat.pow_le_pow_right (by decide) (by omega))
      have HBG' : Hid (wr.heap[w.heap.size + 1]? = some (.cells #[.int .u64 ((Gf.hi64 (gnum m t) : Nat) : Int), .int .u64 ((Gf.lo64 (gnum m t) : Nat) : Int)] 123 (0, 0))) := HBG
      have HS' : Hid (w.heap.size + 2 ≤ wr.heap.size) := hid (by rw [HS.out]; exact Nat.le_refl _)
      clear HBG HS
      generalize eG : gnum m t = G at *
      have EG := hid eG
      clear eG
      obtain ⟨wo, rfl⟩ : ∃ wo : World, wo = wr := ⟨_, rfl⟩
      go_wp2
      go_loopg [49] xs.length (fun g j wr => ∃ J : Nat, J + g = xs.length ∧ j = .int .i64 J ∧ Below w.heap.size w wr ∧ w.heap.size + 2 ≤ wr.heap.size ∧ wr.heap[w.heap.size]? = some (.cells #[.int .u64 ((Gf.hi64 (Gf.zd (rr m t) G (xs.getD · 0) J) : Nat) : Int), .int .u64 ((Gf.lo64 (Gf.zd (rr m t) G (xs.getD · 0) J) : Nat) : Int)] 123 (0, 0)) ∧ wr.heap[w.heap.size + 1]? = some (.cells #[.int .u64 ((Gf.hi64 G : Nat) : Int), .int .u64 ((Gf.lo64 G : Nat) : Int)] 123 (0, 0)))
      case atStart =>
        have e0 : Gf.zd (rr m t) G (xs.getD · 0) 0 = 0 := rfl
        exact ⟨0, by omega, rfl, HB.out, HS'.out, by rw [e0, Gf.hi64_zero, Gf.lo64_zero]; exact HBX.out, HBG'.out⟩
      case round =>
        clear HBX HBG' HB HS'
        obtain ⟨J, hJ, rfl, hb, hsz, hbx, hbg⟩ := hrel
        have HB := hid hb
        have HS := hid hsz
        have HBX := hid hbx
        have HBG := hid hbg
        clear hb hsz hbx hbg
        by_cases hlt2 : J < xs.length
        · obtain ⟨xg, xo, rfl, hxc⟩ := HX3.out J hlt2
          have cx : wr.cell? ⟨xg, xo + J, none⟩ = some (.int .u8 ((xs.getD J 0 : Nat) : Int)) := by rw [HB.out.cell (World.block_lt_of_cell? _ _ hxc)]; exact hxc
          have hx256 := HXL.out _ (getD_mem hlt2)
          have hzs : Gf.zd (rr m t) G (xs.getD · 0) (J+1) = Gf.zb (rr m t) G (Gf.zd (rr m t) G (xs.getD · 0) J) (xs.getD J 0) 8 := rfl
          have HZS := hid hzs
          have hz128 := Gf.zd_lt (r := rr m t) (G := G) (xs.getD · 0) hG128 J
          clear hxc hzs
          generalize xs.getD J 0 = x at *
          generalize Gf.zd (rr m t) G (xs.getD · 0) J = Z at *
          obtain ⟨wp, rfl⟩ : ∃ wp : World, wp = wr := ⟨_, rfl⟩
          go_wp2
          clear cx
          go_loopg [11] 8 (fun g k wr => ∃ i : Nat, i + g = 8 ∧ k = .int .i64 (7 - (i : Int)) ∧ Below w.heap.size w wr ∧ w.heap.size + 2 ≤ wr.heap.size ∧ wr.heap[w.heap.size]? = some (.cells #[.int .u64 ((Gf.hi64 (Gf.zb (rr m t) G Z x i) : Nat) : Int), .int .u64 ((Gf.lo64 (Gf.zb (rr m t) G Z x i) : Nat) : Int)] 123 (0, 0)) ∧ wr.heap[w.heap.size + 1]? = some (.cells #[.int .u64 ((Gf.hi64 G : Nat) : Int), .int .u64 ((Gf.lo64 G : Nat) : Int)] 123 (0, 0)))
          case atStart => exact ⟨0, by omega, rfl, HB.out, HS.out, HBX.out, HBG.out⟩
          case round =>
            clear HBX HBG HB HS
            obtain ⟨i, hi, rfl, hb, hsz, hbx, hbg⟩ := hrel
            have HB := hid hb
            have HS := hid hsz
            have HBX := hid hbx
            have HBG := hid hbg
            clear hb hsz hbx hbg
            by_cases hi8 : i < 8
            · have hzi := Gf.zb_lt (r := rr m t) (x := x) hG128 hz128 i
              have hh := Gf.hi64_lt hzi
              have hll := Gf.lo64_lt (Gf.zb (rr m t) G Z x i)
              have hgh := Gf.hi64_lt hG128
              have hgl := Gf.lo64_lt G
              have hbit := Gf.bit_halves (Gf.zb (rr m t) G Z x i) (rr m t - 1)
              have hst : Gf.zb (rr m t) G Z x (i+1) = Gf.zstep (rr m t) G (Gf.zb (rr m t) G Z x i) (x.testBit (7 - i)) := rfl
              have HBIT := hid hbit
              have HST := hid hst
              clear hbit hst hzi
              have cxh : wr.cell? ⟨w.heap.size, 0, none⟩ = some (.int .u64 ((Gf.hi64 (Gf.zb (rr m t) G Z x i) : Nat) : Int)) := cell_at HBX.out 0
              have cxl : wr.cell? ⟨w.heap.size, 1, none⟩ = some (.int .u64 ((Gf.lo64 (Gf.zb (rr m t) G Z x i) : Nat) : Int)) := cell_at HBX.out 1
              generalize ezh : Gf.hi64 (Gf.zb (rr m t) G Z x i) = zh at *
              generalize ezl : Gf.lo64 (Gf.zb (rr m t) G Z x i) = zl at *
              have EZH := hid ezh
              have EZL := hid ezl
              clear ezh ezl
              have hk0 : (0 : Int) ≤ 7 - (i : Int) := by omega
              obtain ⟨r1, hr1⟩ : ∃ r1, rr m t - 1 = r1 := ⟨_, rfl⟩
              rw [hr1] at HBIT
              have ew : IntKind.i64.wrap ((rr m t : Int) - 1) = (r1 : Int) := by rw [IntWalk.i64_in _ (by omega)]; omega
              have hr128 : r1 < 128 := by omega
              have HR1 := hid hr1
              clear hr1
              obtain ⟨tv, htv⟩ : ∃ tv, (if r1 < 64 then zl.testBit r1 else zh.testBit (r1 - 64)).toNat = tv := ⟨_, rfl⟩
              have hcall : Hid (∀ w', Calls Tryz.prog 71 #[.agg #[.int .u64 zh, .int .u64 zl], .int .i64 r1] w' fun e w'' => e = .returned (.int .u64 tv) ∧ Below w'.heap.size w' w'') := hid fun w' => by
                have := longbit_any zh zl r1 w' hh hll hr128
                rwa [htv] at this
              have htv1 : tv ≤ 1 := by rw [← htv]; cases (if r1 < 64 then zl.testBit r1 else zh.testBit (r1 - 64)) <;> decide
              have HTV := hid htv
              clear htv
              have eand := and1_wrap x (7 - i) hx256
              obtain ⟨bv, hbv⟩ : ∃ bv, (x.testBit (7 - i)).toNat = bv := ⟨_, rfl⟩
              have hbv1 : bv ≤ 1 := by rw [← hbv]; cases x.testBit (7 - i) <;> decide
              rw [hbv] at eand
              have HBV := hid hbv
              clear hbv
              have exor := bits_xor_u64_nat tv bv (by omega) (by omega)
              obtain ⟨tp, htp⟩ : ∃ tp, tv ^^^ bv = tp := ⟨_, rfl⟩
              have htp1 : tp ≤ 1 := by
                rw [← htp]
                rcases (show tv = 0 ∨ tv = 1 by omega) with e | e <;> rcases (show bv = 0 ∨ bv = 1 by omega) with e' | e' <;> rw [e, e'] <;> decide
              rw [htp] at exor
              have HTP := hid htp
              clear htp
              go_upto_region 16 with fail
              go_cut [12] (fun s wx => s = .int .u64 (tp : Int) ∧ Below wr.heap.size wr wx)
              case first =>
                go_region_with (go_at_call 71; refine (hcall.out _).mono ?_; rintro e w' ⟨rfl, hb⟩)
                all_goals
                  go_wp2_with fail
                  go_meet
                  exact ⟨rfl, hb.os, hb.tape, hb.output, hb.size, hb.block⟩
              case rest =>
                obtain ⟨rfl, hbc⟩ := hcut
                have HBC := hid hbc
                have hsz2 := hbc.size
                clear cxh cxl eand exor hcall hbc
                have HBX2 := hid ((HBC.out.block _ (lt_at HBX.out)).trans HBX.out)
                have HBG2 := hid ((HBC.out.block _ (lt_at HBG.out)).trans HBG.out)
                have cxh : wc.cell? ⟨w.heap.size, 0, none⟩ = some (.int .u64 (zh : Int)) := cell_at HBX2.out 0
                have cxl : wc.cell? ⟨w.heap.size, 1, none⟩ = some (.int .u64 (zl : Int)) := cell_at HBX2.out 1
                have fxh : wc.frozen? ⟨w.heap.size, 0, none⟩ = false := free_at HBX2.out 0
                have fxl : wc.frozen? ⟨w.heap.size, 1, none⟩ = false := free_at HBX2.out 1
                have cgh : wc.cell? ⟨w.heap.size + 1, 0, none⟩ = some (.int .u64 ((Gf.hi64 G : Nat) : Int)) := cell_at HBG2.out 0
                have cgl : wc.cell? ⟨w.heap.size + 1, 1, none⟩ = some (.int .u64 ((Gf.lo64 G : Nat) : Int)) := cell_at HBG2.out 1
                generalize egh : Gf.hi64 G = gh at *
                generalize egl : Gf.lo64 G = gl at *
                have EGH := hid egh
                have EGL := hid egl
                clear egh egl
                have E17a := hid (twice_hi zh zl hll)
                have E17b := hid (twice_lo zl)
                obtain ⟨h2, eh2⟩ : ∃ h2, ((zh * 2) % 2^64) ||| (zl / 2^63) = h2 := ⟨_, rfl⟩
                obtain ⟨l2, el2⟩ : ∃ l2, (zl * 2) % 2^64 = l2 := ⟨_, rfl⟩
                rw [eh2] at E17a
                rw [el2] at E17b
                obtain ⟨mk, emk⟩ : ∃ mk, (if tp = 1 then 2^64 - 1 else 0 : Nat) = mk := ⟨_, rfl⟩
                obtain ⟨ah, eah⟩ : ∃ ah, (if tp = 1 then gh else 0 : Nat) = ah := ⟨_, rfl⟩
                obtain ⟨al, eal⟩ : ∃ al, (if tp = 1 then gl else 0 : Nat) = al := ⟨_, rfl⟩
                have en := neg_mask tp htp1
                have ea1 : bits .and .u64 (gh : Int) (mk : Int) = (ah : Int) := by
                  rw [← emk, ← eah, ← Gf.and_mask gh tp hgh htp1]
                  exact bits_and_u64_nat _ _ hgh (by split <;> decide)
                have ea2 : bits .and .u64 (gl : Int) (mk : Int) = (al : Int) := by
                  rw [← emk, ← eal, ← Gf.and_mask gl tp hgl htp1]
                  exact bits_and_u64_nat _ _ hgl (by split <;> decide)
                rw [emk] at en
                have hh2 : h2 < 2^64 := by rw [← eh2]; exact Nat.or_lt_two_pow (Nat.mod_lt _ (Nat.two_pow_pos 64)) (by omega)
                have hl2 : l2 < 2^64 := by rw [← el2]; exact Nat.mod_lt _ (Nat.two_pow_pos 64)
                have hah : ah < 2^64 := by rw [← eah]; split; exact hgh; exact Nat.two_pow_pos 64
                have hal : al < 2^64 := by rw [← eal]; split; exact hgl; exact Nat.two_pow_pos 64
                have ex1 := bits_xor_u64_nat h2 ah hh2 hah
                have ex2 := bits_xor_u64_nat l2 al hl2 hal
                have EH2 := hid eh2
                have EL2 := hid el2
                have EMK := hid emk
                have EAH := hid eah
                have EAL := hid eal
                clear eh2 el2 emk eah eal hh2 hl2 hah hal hgh hgl
                go_upto_region 18 with fail
                rw [E17a.out, E17b.out]
                go_region
                have HZH := Gf.zstep_halves (rr m t) G (Gf.zb (rr m t) G Z x i) (x.testBit (7 - i)) zh zl gh gl tv bv tp h2 l2 ah al EZH.out EZL.out EGH.out EGL.out (by rw [HR1.out, HBIT.out, HTV.out]) HBV.out HTP.out EH2.out EL2.out EAH.out EAL.out
                have HZ2 := hid HZH
                clear HZH
                go_wp2
                go_roundg (gk - 1)
                case measure => omega
                case rel =>
                  refine ⟨i + 1, by omega, congrArg (Value.int .i64) (by omega), ?_, ?_, ?_, ?_⟩
                  · exact (((((HB.out.trans (HBC.out.mono HB.out.size)).setCell (Nat.le_refl _) _).setCell (Nat.le_refl _) _).setCell (Nat.le_refl _) _).setCell (Nat.le_refl _) _).drew
                  · have := HS.out; simp; omega
                  · refine (set_at (set_at (set_at (set_at HBX2.out 0 (.int .u64 (h2 : Int))) 1 (.int .u64 (l2 : Int))) 0 (.int .u64 ((h2 ^^^ ah : Nat) : Int))) 1 (.int .u64 ((l2 ^^^ al : Nat) : Int))).trans ?_
                    rw [HST.out, HZ2.out.1, HZ2.out.2]; rfl
                  · refine (set_other (by simp)).trans ((set_other (by simp)).trans ((set_other (by simp)).trans ((set_other (by simp)).trans HBG2.out)))
            · have ei : i = 8 := by omega
              subst ei
              rw [← HZS.out] at HBX
              go_wp2
              go_roundg (xs.length - (J + 1))
              case measure => omega
              case rel => exact ⟨J + 1, by omega, by go_num, HB.out, HS.out, HBX.out, HBG.out⟩
        · have eJ : J = xs.length := by omega
          subst eJ
          generalize ezh : Gf.hi64 (Gf.zd (rr m t) G (xs.getD · 0) xs.length) = zh at *
          generalize ezl : Gf.lo64 (Gf.zd (rr m t) G (xs.getD · 0) xs.length) = zl at *
          have EZH := hid ezh
          have EZL := hid ezl
          clear ezh ezl
          have cxh : wr.cell? ⟨w.heap.size, 0, none⟩ = some (.int .u64 (zh : Int)) := cell_at HBX.out 0
          have cxl : wr.cell? ⟨w.heap.size, 1, none⟩ = some (.int .u64 (zl : Int)) := cell_at HBX.out 1
          have fxh : wr.frozen? ⟨w.heap.size, 0, none⟩ = false := free_at HBX.out 0
          have fxl : wr.frozen? ⟨w.heap.size, 1, none⟩ = false := free_at HBX.out 1
          go_wp2
          have c1 := (World.cell?_setCell_same wr ⟨w.heap.size, 0, none⟩ (.int .u64 (zh : Int)) cxh)
          have c2 : (wr.setCell ⟨w.heap.size, 0, none⟩ (.int .u64 (zh : Int))).cell? ⟨w.heap.size, 1, none⟩ = some (.int .u64 (zl : Int)) := (World.cell?_setCell_other _ _ _ _ (by simp)).trans cxl
          have c3 := (World.cell?_setCell_same _ ⟨w.heap.size, 1, none⟩ (.int .u64 (zl : Int)) c2)
          have c4 : ((wr.setCell ⟨w.heap.size, 0, none⟩ (.int .u64 (zh : Int))).setCell ⟨w.heap.size, 1, none⟩ (.int .u64 (zl : Int))).cell? ⟨w.heap.size, 0, none⟩ = some (.int .u64 (zh : Int)) := (World.cell?_setCell_other _ _ _ _ (by simp)).trans c1
          refine bodyPost_ret (v := .agg #[.int .u64 (zh : Int), .int .u64 (zl : Int)]) (by simp [results, Tryz.results70, go_sem, c3, c4]) rfl ⟨?_, (HB.out.setCell (Nat.le_refl _) _).setCell (Nat.le_refl _) _⟩
          unfold RestRet
          rw [EG.out, EZH.out, EZL.out]
end Go.Proofs.YtoanopegoilcnaaGreat
