/- Walks over firkinlaw02: BchEncodes. -/
import Derived.Test.YtjompiihdnaogaaLac
import Derived.Test.YtjompiihdnaogaaRow
namespace Go.Proofs.Ytjompiihdnaogaa
open Go.RowKit Go.Mem

set_option maxRecDepth 100000 in
set_option maxHeartbeats 400000 in
theorem encode_bad (c bytes t m : Nat) (a : Option Addr) (n cap : Nat) (w : World) (h : CodeAt w c bytes t m) (hne : n ≠ bytes) :
    Calls Try.prog 21 #[.pointer (some ⟨c, 0, none⟩), .slice a n cap] w fun e w' => e = .returned (.tuple #[.slice none 0 0, .int .i64 1]) ∧ w = w' := by
  have c1 : w.cell? ⟨c, 1, none⟩ = some (.int .i64 bytes) := by obtain ⟨fb, gv, h1, h2, h3⟩ := h; exact cell_at h1 1
  have t1 : ((n : Int) != (bytes : Int)) = true := bne_iff_ne.2 (by omega)
  go_enter Try.func21, Try.ntmps21
  go_wp2_with fail
  go_ret2
  exact ⟨rfl, rfl⟩
set_option maxRecDepth 100000 in
set_option maxHeartbeats 400000 in
theorem rencode_bad (v : Value) (bytes t m : Nat) (a : Option Addr) (n cap : Nat) (w : World) (h : RC w v bytes t m) (hne : n ≠ bytes) :
    Calls Try.prog 22 #[v, .slice a n cap] w fun e w' => e = .returned (.tuple #[.slice none 0 0, .int .i64 1]) ∧ Below w.heap.size w w' := by
  obtain ⟨ga, L, gcap, rfl⟩ := nil_RC h
  have t1 : ((n : Int) != (bytes : Int)) = true := bne_iff_ne.2 (by omega)
  go_enter Try.func22, Try.ntmps22
  go_wp2_with fail
  go_ret2
  exact ⟨rfl, (Below.refl _ _).alloc (Nat.le_refl _) _⟩

set_option maxRecDepth 100000 in
set_option maxHeartbeats 800000 in
theorem bchEncodes_whole (a : Option Addr) (n cap : Nat) (xs : List Nat) (t : Int) (w : World) (hv : Rd .u8 w (.slice a n cap) xs) (hl : xs.length = n) (hx : ∀ y ∈ xs, y < 256) (ht : (Lit.int .i64 t).wf = true) :
    Calls Try.prog 4 #[.slice a n cap, .int .i64 t, .bool false] w fun e w' => e = .returned (.bool true) ∧ Below w.heap.size w w' := by
  have HV := hid hv
  have HX := hid hx
  have HL := hid hl
  have hcapn : n ≤ cap ∧ cap ≤ maxLen := by obtain ⟨a', c', he, h1, h2, _⟩ := hv; cases he; exact ⟨by omega, h2⟩
  have hc1 := hcapn.1
  have hc2 : cap ≤ 9223372036854775807 := by have := hcapn.2; unfold maxLen at this; omega
  clear hv hx hl hcapn
  by_cases h0 : n = 0 ∨ 200 < n
  · rcases h0 with rfl | h0
    · go_enter Try.func4, Try.ntmps4
      go_wp2_with fail
      refine (awake_any _).mono ?_
      rintro e w1 ⟨rfl, hb1⟩
      go_wp2_with fail
      go_ret
      exact ⟨rfl, hb1⟩
    · have h1 : ((n : Int) == 0) = false := beq_eq_false_iff_ne.2 (by omega)
      have h2 : (200 : Int) < (n : Int) := by omega
      go_enter Try.func4, Try.ntmps4
      go_wp2_with fail
      refine (awake_any _).mono ?_
      rintro e w1 ⟨rfl, hb1⟩
      go_wp2_with fail
      go_ret
      exact ⟨rfl, hb1⟩
  · have h1 : ((n : Int) == 0) = false := beq_eq_false_iff_ne.2 (by omega)
    have h2 : ¬ (200 : Int) < (n : Int) := by omega
    have hn1 : 1 ≤ n := by omega
    have hn2 : n ≤ 200 := by omega
    clear h0
    obtain ⟨m, hp⟩ := Par.ex n (tt t) (by omega) (by omega) (tt_bd t).1 (tt_bd t).2
    have HP := hid hp
    obtain ⟨T, hT⟩ : ∃ T, tt t = T := ⟨_, rfl⟩
    have HT := hid hT
    have hcode := fun w => code_any a n cap m t w hp ht
    rw [hT] at hcode HP
    have HCODE := hid hcode
    clear hcode hT hp
    go_enter Try.func4, Try.ntmps4
    go_wp2_with fail
    refine (awake_any _).mono ?_
    rintro e w1 ⟨rfl, hb1⟩
    have HB1 := hid hb1
    clear hb1
    go_wp2_with fail
    refine (HCODE.out _).mono ?_
    rintro e w2 ⟨⟨c, rv, rfl, hc, hrc⟩, hb2⟩
    have HC := hid hc
    have HRC := hid hrc
    have HB2 := hid (HB1.out.comp hb2)
    obtain ⟨ga, L, gcap, rfl⟩ := nil_RC hrc
    clear hc hrc hb2 HCODE
    go_wp2_with fail
    obtain ⟨W0, hW0⟩ : ∃ W0, w2.alloc (.cells #[.int .i64 m, .int .i64 n, .int .i64 T, .slice ga L gcap] 29) = W0 := ⟨_, rfl⟩
    have hR : W0.heap[w2.heap.size]? = some (.cells #[.int .i64 m, .int .i64 n, .int .i64 T, .slice ga L gcap] 29 (0, 0)) := by rw [← hW0]; exact alloc_new w2 _
    have hb20 : Below w2.heap.size w2 W0 := by rw [← hW0]; exact (Below.refl _ _).alloc (Nat.le_refl _) _
    rw [hW0]
    have HC0 := hid (HC.out.below hb20)
    have HRC0 := hid (HRC.out.below hb20)
    have HB0 := hid (HB2.out.comp hb20)
    have HR := hid hR
    obtain ⟨R, hRe⟩ : ∃ R, w2.heap.size = R := ⟨_, rfl⟩
    rw [hRe] at HR ⊢
    clear hR hb20 hW0 HC HRC HB2 hRe
    go_wp2_with fail
    refine (encode_any c n T m _ xs _ HP.out HC0.out (HV.out.below HB0.out) HX.out HL.out).mono ?_
    rintro e w3 ⟨p, P, hp1, hP, rfl, hpc, hb3⟩
    have hPl : P ≤ 14 := by have := HP.out.r.2.2.2.1; omega
    have HPC := hid hpc
    have HPE := hid hP
    have HB3 := hid hb3
    have hR3 := (hb3.block _ (lt_at HR.out)).trans HR.out
    have q0 : w3.cell? ⟨R, 0, none⟩ = some (.int .i64 m) := cell_at hR3 0
    have q1 : w3.cell? ⟨R, 1, none⟩ = some (.int .i64 n) := cell_at hR3 1
    have q2 : w3.cell? ⟨R, 2, none⟩ = some (.int .i64 T) := cell_at hR3 2
    have q3 : w3.cell? ⟨R, 3, none⟩ = some (.slice ga L gcap) := cell_at hR3 3
    clear hpc hP hb3 hR3 hp1
    go_wp2_with fail
    refine (rencode_any _ _ xs n T m _ HP.out (HRC0.out.below HB3.out) ((HV.out.below HB0.out).below HB3.out) HX.out HL.out).mono ?_
    rintro e w4 ⟨p2, P2, hp2, hP2, rfl, hpc2, hb4⟩
    obtain rfl : P2 = P := by rw [hP2, HPE.out]
    have k1 : (convert 35 9 (.slice (some ⟨p, 0, none⟩) P2 P2)).run Try.prog w4 = .ok (.string (sv ((List.range P2).map (par m T xs)))) w4 := conv_rd ((Rd.of_fa HPC.out _ _ (Nat.le_refl _) (Nat.le_refl _) (by unfold maxLen; omega)).below hb4)
    have k2 : (convert 35 9 (.slice (some ⟨p2, 0, none⟩) P2 P2)).run Try.prog w4 = .ok (.string (sv ((List.range P2).map (par m T xs)))) w4 := conv_rd (Rd.of_fa hpc2 _ _ (Nat.le_refl _) (Nat.le_refl _) (by unfold maxLen; omega))
    have HB4 := hid ((HB0.out.comp HB3.out).comp hb4)
    clear hP2 hpc2 hb4 hp2 q0 q1 q2 q3
    generalize sv ((List.range P2).map (par m T xs)) = str at *
    go_wp2_with fail
    go_ret
    exact ⟨by simp, HB4.out⟩

set_option maxRecDepth 100000 in
set_option maxHeartbeats 800000 in
theorem bchEncodes_less (a : Option Addr) (n cap : Nat) (xs : List Nat) (t : Int) (w : World) (hv : Rd .u8 w (.slice a n cap) xs) (hl : xs.length = n) (hx : ∀ y ∈ xs, y < 256) (ht : (Lit.int .i64 t).wf = true) :
    Calls Try.prog 4 #[.slice a n cap, .int .i64 t, .bool true] w fun e w' => e = .returned (.bool true) ∧ Below w.heap.size w w' := by
  have HV := hid hv
  have HX := hid hx
  have HL := hid hl
  have hcapn : n ≤ cap ∧ cap ≤ maxLen := by obtain ⟨a', c', he, h1, h2, _⟩ := hv; cases he; exact ⟨by omega, h2⟩
  have hc1 := hcapn.1
  have hc2 : cap ≤ 9223372036854775807 := by have := hcapn.2; unfold maxLen at this; omega
  clear hv hx hl hcapn
  by_cases h0 : n = 0 ∨ 200 < n
  · rcases h0 with rfl | h0
    · go_enter Try.func4, Try.ntmps4
      go_wp2_with fail
      refine (awake_any _).mono ?_
      rintro e w1 ⟨rfl, hb1⟩
      go_wp2_with fail
      go_ret
      exact ⟨rfl, hb1⟩
    · have h1 : ((n : Int) == 0) = false := beq_eq_false_iff_ne.2 (by omega)
      have h2 : (200 : Int) < (n : Int) := by omega
      go_enter Try.func4, Try.ntmps4
      go_wp2_with fail
      refine (awake_any _).mono ?_
      rintro e w1 ⟨rfl, hb1⟩
      go_wp2_with fail
      go_ret
      exact ⟨rfl, hb1⟩
  · have h1 : ((n : Int) == 0) = false := beq_eq_false_iff_ne.2 (by omega)
    have h2 : ¬ (200 : Int) < (n : Int) := by omega
    have hn1 : 1 ≤ n := by omega
    have hn2 : n ≤ 200 := by omega
    clear h0
    obtain ⟨m, hp⟩ := Par.ex n (tt t) (by omega) (by omega) (tt_bd t).1 (tt_bd t).2
    have HP := hid hp
    obtain ⟨T, hT⟩ : ∃ T, tt t = T := ⟨_, rfl⟩
    have HT := hid hT
    have hcode := fun w => code_any a n cap m t w hp ht
    rw [hT] at hcode HP
    have HCODE := hid hcode
    clear hcode hT hp
    go_enter Try.func4, Try.ntmps4
    go_wp2_with fail
    refine (awake_any _).mono ?_
    rintro e w1 ⟨rfl, hb1⟩
    have HB1 := hid hb1
    clear hb1
    go_wp2_with fail
    refine (HCODE.out _).mono ?_
    rintro e w2 ⟨⟨c, rv, rfl, hc, hrc⟩, hb2⟩
    have HC := hid hc
    have HRC := hid hrc
    have HB2 := hid (HB1.out.comp hb2)
    obtain ⟨ga, L, gcap, rfl⟩ := nil_RC hrc
    clear hc hrc hb2 HCODE
    go_wp2_with fail
    all_goals
      obtain ⟨W0, hW0⟩ : ∃ W0, w2.alloc (.cells #[.int .i64 m, .int .i64 n, .int .i64 T, .slice ga L gcap] 29) = W0 := ⟨_, rfl⟩
      have hR : W0.heap[w2.heap.size]? = some (.cells #[.int .i64 m, .int .i64 n, .int .i64 T, .slice ga L gcap] 29 (0, 0)) := by rw [← hW0]; exact alloc_new w2 _
      have hb20 : Below w2.heap.size w2 W0 := by rw [← hW0]; exact (Below.refl _ _).alloc (Nat.le_refl _) _
      rw [hW0]
      have HC0 := hid (HC.out.below hb20)
      have HRC0 := hid (HRC.out.below hb20)
      have HB0 := hid (HB2.out.comp hb20)
      have HR := hid hR
      obtain ⟨R, hRe⟩ : ∃ R, w2.heap.size = R := ⟨_, rfl⟩
      rw [hRe] at HR ⊢
      clear hR hb20 hW0 HC HRC HB2 hRe
      have hn0 : n - 1 ≠ n := by omega
      go_wp2_with fail
      refine (encode_bad c n T m _ (n - 1) _ _ HC0.out hn0).mono ?_
      rintro e w' ⟨rfl, rfl⟩
      have q0 : W0.cell? ⟨R, 0, none⟩ = some (.int .i64 m) := cell_at HR.out 0
      have q1 : W0.cell? ⟨R, 1, none⟩ = some (.int .i64 n) := cell_at HR.out 1
      have q2 : W0.cell? ⟨R, 2, none⟩ = some (.int .i64 T) := cell_at HR.out 2
      have q3 : W0.cell? ⟨R, 3, none⟩ = some (.slice ga L gcap) := cell_at HR.out 3
      go_wp2_with fail
      refine (rencode_bad _ n T m _ (n - 1) _ _ HRC0.out hn0).mono ?_
      rintro e w3 ⟨rfl, hb3⟩
      have k1 : (convert 35 9 (.slice none 0 0)).run Try.prog w3 = .ok (.string (sv [])) w3 := conv_rd ⟨none, 0, rfl, Nat.le_refl _, by unfold maxLen; omega, fun j hj => by simp at hj⟩
      have HB3 := hid (HB0.out.comp hb3)
      clear hb3
      go_wp2_with fail
      go_ret
      exact ⟨by simp, HB3.out⟩

theorem bchEncodes_walk (a : Option Addr) (n cap : Nat) (xs : List Nat) (t : Int) (less : Bool) (w : World) (hv : Rd .u8 w (.slice a n cap) xs) (hl : xs.length = n) (hx : ∀ y ∈ xs, y < 256) (ht : (Lit.int .i64 t).wf = true) :
    Calls Try.prog 4 #[.slice a n cap, .int .i64 t, .bool less] w fun e w' => e = .returned (.bool true) ∧ Below w.heap.size w w' := by
  cases less with
  | false => exact bchEncodes_whole a n cap xs t w hv hl hx ht
  | true => exact bchEncodes_less a n cap xs t w hv hl hx ht
end Go.Proofs.Ytjompiihdnaogaa
