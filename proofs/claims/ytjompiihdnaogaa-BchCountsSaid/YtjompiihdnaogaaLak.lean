/- Walks over firkinlaw02: BchNothing. -/
import Derived.Test.YtjompiihdnaogaaLaj
namespace Go.Proofs.Ytjompiihdnaogaa
open Go.RowKit Go.Mem

/-- The parity with junk in its last byte's other bits. -/
def jk (f : Nat → Nat) (P left j : Nat) : Nat → Nat := upd f (P - 1) (f (P - 1) ||| (j &&& (2 ^ left - 1)))
theorem pow_wrap {left : Nat} (h : left ≤ 7) : wrap64 ((2 : Int) ^ left) = 2 ^ left := by
  have : ∀ k : Fin 8, wrap64 ((2 : Int) ^ k.val) = 2 ^ k.val := by decide +kernel
  exact this ⟨left, by omega⟩
theorem jk_lt {f : Nat → Nat} (hf : ∀ j, f j < 256) (P left j : Nat) (hj : j < 256) : ∀ i, jk f P left j i < 256 := fun i => by
  unfold jk upd
  split
  · exact Nat.or_lt_two_pow (n := 8) (hf _) (Nat.lt_of_le_of_lt Nat.and_le_left hj)
  · exact hf i
theorem bitAt_jk {f : Nat → Nat} {P left j r : Nat} (hP : P = (r + 7) / 8) (hl : left = 8 * P - r) (i : Nat) (hi : i < r) : bitAt (jk f P left j) i = bitAt f i := by
  unfold bitAt jk upd
  by_cases e : i / 8 = P - 1
  · rw [if_pos e, Nat.testBit_or, Nat.testBit_and, Nat.testBit_two_pow_sub_one, decide_eq_false (show ¬ 7 - i % 8 < left by omega), Bool.and_false, Bool.or_false, e]
  · rw [if_neg e]
theorem nothing_good {bytes t m P left j : Nat} (hp : Par bytes t m) (hP : P = (rr m t + 7) / 8) (hleft : left = 8 * P - rr m t) (xs : List Nat) (hl : xs.length = bytes) : DecGood m t (8 * bytes) (rr m t) P (xs.getD · 0) (jk (par m t xs) P left j) (xs.getD · 0) (par m t xs) 0 := by
  refine ⟨par_cw hp xs hl, ?_, Nat.zero_le _, fun i h1 _ => par_pad m t xs i h1⟩
  rw [Gf.dst_congr (w' := wd (8 * bytes) (rr m t) (xs.getD · 0) (par m t xs)) (fun k _ => ?_) (fun _ _ => rfl), Gf.dst_self]
  by_cases h : k < rr m t
  · rw [wd_lo h, wd_lo h, bitAt_jk hP hleft _ (by omega)]
  · rw [wd_hi (by omega), wd_hi (by omega)]
theorem par_low {bytes t m P left : Nat} (hp : Par bytes t m) (hP : P = (rr m t + 7) / 8) (hleft : left = 8 * P - rr m t) (xs : List Nat) : par m t xs (P - 1) % 2 ^ left = 0 := by
  have r1 := hp.r.2.1
  apply Nat.eq_of_testBit_eq
  intro i
  rw [Nat.testBit_mod_two_pow, Nat.zero_testBit]
  by_cases hi : i < left
  · rw [decide_eq_true hi, Bool.true_and]
    have := par_pad m t xs (8 * (P - 1) + (7 - i)) (by omega)
    unfold bitAt at this
    rwa [show (8 * (P - 1) + (7 - i)) / 8 = P - 1 by omega, show 7 - (8 * (P - 1) + (7 - i)) % 8 = i by omega] at this
  · rw [decide_eq_false hi, Bool.false_and]
theorem nothing_known {bytes t m P left j : Nat} (hp : Par bytes t m) (hP : P = (rr m t + 7) / 8) (hleft : left = 8 * P - rr m t) (xs : List Nat) (hl : xs.length = bytes) (hx : ∀ y ∈ xs, y < 256) {q : Nat → Nat} (hq : ∀ i, i < P → q i = jk (par m t xs) P left j i)
    {w w' : World} {e : Ending} (h : DecRet m t bytes P (xs.getD · 0) q w w' e) : ∃ g1 c1 g2 c2, e = .returned (.tuple #[.slice (some ⟨g1, 0, none⟩) bytes c1, .slice (some ⟨g2, 0, none⟩) P c2, .int .i64 0, .int .i64 0]) ∧
    Rd .u8 w' (.slice (some ⟨g1, 0, none⟩) bytes c1) xs ∧ Rd .u8 w' (.slice (some ⟨g2, 0, none⟩) P c2) ((List.range P).map (par m t xs)) := by
  have hg0 := nothing_good (j := j) hp hP hleft xs hl
  have hw : ∀ k, k < 8 * bytes + rr m t → wd (8 * bytes) (rr m t) (xs.getD · 0) (jk (par m t xs) P left j) k = wd (8 * bytes) (rr m t) (xs.getD · 0) q k := fun k hk => wd_congr (P := P) (by omega) (fun _ _ => rfl) (by omega) (fun i hi => (hq i hi).symm) k hk
  have hg1 : DecGood m t (8 * bytes) (rr m t) P (xs.getD · 0) q (xs.getD · 0) (par m t xs) 0 := ⟨hg0.1, (Gf.dst_congr (fun k hk => (hw k hk).symm) (fun _ _ => rfl)).trans hg0.2.1, hg0.2.2⟩
  rcases h with ⟨g1, c1, g2, c2, d', p', k, _, _, he, ho1, ho2, hd', hp', hg⟩ | ⟨_, hb⟩
  · obtain ⟨u1, u2, u3⟩ := DecGood.uniq hp hP hg hg1 hd' hp' (fun j => Gf.getD_lt (m := 8) hx j) (par_lt _ _ _)
    refine ⟨g1, c1, g2, c2, by rw [he, u3]; rfl, ow_rd_eq ho1 hl u1, ow_rd_eq ho2 (by simp) (fun j hj => by rw [u2 j hj, rg_getD _ _ _ hj])⟩
  · exact (hb.not hg1).elim

theorem jk_val (x j left : Nat) (hx : x < 256) (hj : j < 256) (hl : left ≤ 7) : bits .or .u8 (x : Int) (bits .and .u8 (j : Int) (((2 : Int) ^ left - 1) % 256)) = ((x ||| (j &&& (2 ^ left - 1)) : Nat) : Int) := by
  have h2 : 2 ^ left ≤ 2 ^ 7 := Nat.pow_le_pow_right (by decide) hl
  have h1 := Nat.two_pow_pos left
  have e : (((2 : Int) ^ left - 1) % 256) = ((2 ^ left - 1 : Nat) : Int) := by
    have : ((2 ^ left : Nat) : Int) = (2 : Int) ^ left := by simp
    rw [← this]
    generalize 2 ^ left = q at *
    omega
  rw [e]
  have hq : 2 ^ left - 1 < 256 := by omega
  generalize 2 ^ left - 1 = q at *
  rw [(bits_nat .u8 8 (by decide) (fun n h0 h1 => wraps_u8 n h0 h1) j q hj hq).1]
  exact (bits_nat .u8 8 (by decide) (fun n h0 h1 => wraps_u8 n h0 h1) x (j &&& q) hx (Nat.lt_of_le_of_lt Nat.and_le_left hj)).2

set_option maxRecDepth 100000 in
set_option maxHeartbeats 3200000 in
theorem bchNothing_walk (a : Option Addr) (n cap : Nat) (xs : List Nat) (t : Int) (j : Nat) (w : World) (hv : Rd .u8 w (.slice a n cap) xs) (hl : xs.length = n) (hx : ∀ y ∈ xs, y < 256) (ht : (Lit.int .i64 t).wf = true) (hj : j < 256) :
    Calls Try.prog 9 #[.slice a n cap, .int .i64 t, .int .u8 j] w fun e w' => e = .returned (.bool true) ∧ Below w.heap.size w w' := by
  have htc := tt_cases t ht
  have htb := tt_bd t
  have hb64 := bounds_i64 ht
  have hb641 := hb64.1
  have hb642 := hb64.2
  clear hb64
  have HV := hid hv
  have HX := hid hx
  have HL := hid hl
  have hcapn : n ≤ cap ∧ cap ≤ maxLen := by obtain ⟨a', c', he, h1, h2, _⟩ := hv; cases he; exact ⟨by omega, h2⟩
  have hc1 := hcapn.1
  have hc2 : cap ≤ 9223372036854775807 := by have := hcapn.2; unfold maxLen at this; omega
  clear hv hx hl hcapn
  by_cases h0 : n = 0 ∨ 200 < n
  · rcases h0 with rfl | h0
    · go_enter Try.func9, Try.ntmps9
      go_wp2_with fail
      refine (awake_any _).mono ?_
      rintro e w1 ⟨rfl, hb1⟩
      go_wp2_with fail
      go_ret
      exact ⟨rfl, hb1⟩
    · have h1 : ((n : Int) == 0) = false := beq_eq_false_iff_ne.2 (by omega)
      have h2 : (200 : Int) < (n : Int) := by omega
      go_enter Try.func9, Try.ntmps9
      go_wp2_with fail
      refine (awake_any _).mono ?_
      rintro e w1 ⟨rfl, hb1⟩
      go_wp2_with fail
      go_ret
      exact ⟨rfl, hb1⟩
  · have h1 : ((n : Int) == 0) = false := beq_eq_false_iff_ne.2 (by omega)
    have h2 : ¬ (200 : Int) < (n : Int) := by omega
    have hn1 : 1 ≤ n := by omega
    have hn2 : n ≤ 200 := by omega
    clear h0
    obtain ⟨m, hp⟩ := Par.ex n (tt t) (by omega) (by omega) (tt_bd t).1 (tt_bd t).2
    have HP := hid hp
    have hcode := fun w => code_any a n cap m t w hp ht
    generalize tt t = T at *
    have HCODE := hid hcode
    clear hcode hp
    have htb1 := htb.1
    have htb2 := htb.2
    clear htb
    clear htc
    all_goals
      go_enter Try.func9, Try.ntmps9
      go_wp2_with fail
      refine (awake_any _).mono ?_
      rintro e w1 ⟨rfl, hb1⟩
      have HB1 := hid hb1
      clear hb1
      go_wp2_with fail
      refine (HCODE.out _).mono ?_
      rintro e w2 ⟨⟨c, rv, rfl, hc, hrc⟩, hb2⟩
      have HC := hid hc
      have HRC := hid hrc
      have HB2 := hid (HB1.out.comp hb2)
      obtain ⟨ga, L, gcap, rfl⟩ := nil_RC hrc
      clear hc hrc hb2 HCODE
      go_wp2_with fail
      obtain ⟨W0, hW0⟩ : ∃ W0, w2.alloc (.cells #[.int .i64 m, .int .i64 n, .int .i64 T, .slice ga L gcap] 29) = W0 := ⟨_, rfl⟩
      have hb20 : Below w2.heap.size w2 W0 := by rw [← hW0]; exact (Below.refl _ _).alloc (Nat.le_refl _) _
      rw [hW0]
      have HC0 := hid (HC.out.below hb20)
      have HB0 := hid (HB2.out.comp hb20)
      clear hb20 hW0 HC HRC HB2
      have hr1 := HP.out.r.2.1
      have hr104 := HP.out.r.2.2.2.1
      refine (codeBits_any c n T m _ HC0.out HP.out).mono ?_
      rintro e w' ⟨rfl, rfl⟩
      have hrb : ((rr m T : Int) == 0) = false := beq_eq_false_iff_ne.2 (by omega)
      go_wp2_with fail
      refine (encode_any c n T m _ xs _ HP.out HC0.out (HV.out.below HB0.out) HX.out HL.out).mono ?_
      rintro e w3 ⟨p, P, hp1, hP, rfl, hpc, hb3⟩
      have hPl : P ≤ 14 := by omega
      have hP1 : 1 ≤ P := by omega
      have hpr := Rd.of_fa hpc P P (Nat.le_refl _) (Nat.le_refl _) (by unfold maxLen; omega)
      have HPR := hid hpr
      have HPC := hid hpc
      have HPE := hid hP
      have HB3 := hid (HB0.out.comp hb3)
      have HC3 := hid (HC0.out.below hb3)
      have hpar := codeParity_any c n T m w3 HC3.out HP.out
      rw [← HPE.out] at hpar
      have HPAR := hid hpar
      obtain ⟨left, hleft⟩ : ∃ left, 8 * P - rr m T = left := ⟨_, rfl⟩
      have hleftz : 8 * (P : Int) - rr m T = (left : Int) := by omega
      have hl7 : left ≤ 7 := by omega
      have HLEFT := hid hleft
      clear hpr hP hb3 hp1 hpc HC0 HB0 hpar hleft
      go_wp2_with fail
      refine HPAR.out.mono ?_
      rintro e w' ⟨rfl, rfl⟩
      go_wp2_with fail
      refine HPAR.out.mono ?_
      rintro e w' ⟨rfl, rfl⟩
      go_wp2_with fail
      refine (codeBits_any c n T m _ HC3.out HP.out).mono ?_
      rintro e w' ⟨rfl, rfl⟩
      have HJ := hid hj
      have hlq : ((List.range P).map (par m T xs)).length = P := by simp
      have HLQ := hid hlq
      clear hlq
      go_wp2_with (at_builtin; refine app_row el_byte rfl _ _ rfl w3.heap.size (.slice none 0 0) [] rfl (Own.nil _ _ _ _) ((List.range P).map (par m T xs)) (by exact HPR.out) (by rw [HLQ.out]; omega) (by rw [HLQ.out]; simp; omega) (Nat.le_refl _) ?_; rw [HLQ.out]; simp only [List.length_nil, Nat.zero_add, List.nil_append]; intro g1 cap1 w4 hown hgrow hat; have hb4 := grow_below (v := .slice none 0 0) (Below.refl w3.heap.size w3) (Nat.le_refl _) hgrow (by simp [Value.ownBlock]); have hoe := hown.ow (by rw [HLQ.out]; omega); rw [HLQ.out] at hoe; obtain ⟨g', c', he, hg1, ho1⟩ := hoe; cases he; have cz : w4.cell? ⟨g1, P - 1, none⟩ = some (.int .u8 ((par m T xs (P - 1) : Nat) : Int)) := (by rw [ho1.cell (show P - 1 < P by omega), rg_getD _ _ _ (show P - 1 < P by omega)]); have fz : w4.frozen? ⟨g1, P - 1, none⟩ = false := ho1.free _; have HO1 := hid ho1; have HB4 := hid hb4; clear hown hgrow hat ho1 hb4)
      have hxl := par_lt m T xs (P - 1)
      have hlow := par_low HP.out HPE.out HLEFT.out.symm xs
      rw [jk_val _ _ _ hxl HJ.out hl7]
      obtain ⟨W5, hW5⟩ : ∃ W5, w4.setCell ⟨g1, P - 1, none⟩ (.int .u8 ((par m T xs (P - 1) ||| (j &&& (2 ^ left - 1)) : Nat) : Int)) = W5 := ⟨_, rfl⟩
      have hoj : Ow .u8 5 W5 g1 P cap1 (jk (par m T xs) P left j) := by
        rw [← hW5]
        have := HO1.out.set (P - 1) (par m T xs (P - 1) ||| (j &&& (2 ^ left - 1)))
        refine this.congr (fun i hi => ?_)
        unfold jk upd
        split
        · rfl
        · exact rg_getD _ _ _ hi
      have hb5 : Below w3.heap.size w3 W5 := by rw [← hW5]; exact HB4.out.setCell hg1 _
      rw [hW5]
      have hrq := hoj.rd
      have hqlt : ∀ y ∈ (List.range P).map (jk (par m T xs) P left j), y < 256 := fun y hy => by obtain ⟨i, _, rfl⟩ := List.mem_map.1 hy; exact jk_lt (par_lt _ _ _) _ _ _ HJ.out i
      have HRQ := hid hrq
      have HQLT := hid hqlt
      have HB5 := hid hb5
      have hlq2 : ((List.range P).map (jk (par m T xs) P left j)).length = P := by simp
      have HLQ2 := hid hlq2
      clear hxl hW5 hoj hb5 hrq hqlt hlq2 HO1 HB4 cz fz
      refine (decode_any c n T m P _ _ xs _ _ HP.out (HC3.out.below HB5.out) (HV.out.below (HB3.out.comp HB5.out)) HRQ.out HX.out HQLT.out HL.out HPE.out HLQ2.out).mono ?_
      rintro e w6 ⟨hdr, hb6⟩
      obtain ⟨g3, cc3, g4, cc4, rfl, hx3, hx4⟩ := nothing_known HP.out HPE.out HLEFT.out.symm xs HL.out HX.out (fun i hi => rg_getD _ _ _ hi) hdr
      have hb36 := HB5.out.comp hb6
      have HB6 := hid (HB3.out.comp hb36)
      have hpr6 := HPR.out.below hb36
      have hpc6 := (hb36.block _ (lt_at HPC.out)).trans HPC.out
      have cp : w6.cell? ⟨p, P - 1, none⟩ = some (.int .u8 ((par m T xs (P - 1) : Nat) : Int)) := fa_cell hpc6 (by omega)
      have k1 : (convert 35 9 (.slice (some ⟨g3, 0, none⟩) n cc3)).run Try.prog w6 = .ok (.string (sv xs)) w6 := conv_rd hx3
      have k2 : (convert 35 9 (.slice a n cap)).run Try.prog w6 = .ok (.string (sv xs)) w6 := conv_rd (HV.out.below HB6.out)
      have k3 : (convert 35 9 (.slice (some ⟨g4, 0, none⟩) P cc4)).run Try.prog w6 = .ok (.string (sv ((List.range P).map (par m T xs)))) w6 := conv_rd hx4
      have k4 : (convert 35 9 (.slice (some ⟨p, 0, none⟩) P P)).run Try.prog w6 = .ok (.string (sv ((List.range P).map (par m T xs)))) w6 := conv_rd hpr6
      have hxl := par_lt m T xs (P - 1)
      generalize sv xs = str1 at *
      generalize sv ((List.range P).map (par m T xs)) = str2 at *
      generalize par m T xs (P - 1) = x at *
      have hlz : (x : Int) % 2 ^ left = 0 := by
        have : ((2 ^ left : Nat) : Int) = (2 : Int) ^ left := by simp
        rw [← this, ← Int.natCast_emod, hlow]; rfl
      clear hdr hb6 hx3 hx4 hb36 hpr6 hpc6 hlow
      have hwr : wrap64 ((2 : Int) ^ left) = 2 ^ left := pow_wrap hl7
      have hpz : ¬ (2 : Int) ^ left = 0 := Int.ne_of_gt (Int.pow_pos (by decide))
      go_wp2_with fail
      all_goals first
        | (exfalso; rw [hwr] at *; exact hpz (by assumption))
        | (go_ret; rw [hwr, hlz]; exact ⟨by simp, HB6.out⟩)
end Go.Proofs.Ytjompiihdnaogaa
