/- Walks over firkinlaw02: BchNoughts. -/
import Derived.Test.YtjompiihdnaogaaLak
namespace Go.Proofs.Ytjompiihdnaogaa
open Go.RowKit Go.Mem

/-- The parity is the only bytes that fill up to a word. -/
theorem par_unique {bytes t m P : Nat} (hp : Par bytes t m) (hP : P = (rr m t + 7) / 8) (xs : List Nat) (hl : xs.length = bytes) (hx : ∀ y ∈ xs, y < 256) (q : Nat → Nat) (hq : ∀ j, q j < 256)
    (hpad : ∀ i, rr m t ≤ i → i < 8 * P → bitAt q i = false) (hcw : Gf.Cw m t (wd (8 * bytes) (rr m t) (xs.getD · 0) q) (8 * bytes + rr m t)) : ∀ j, j < P → par m t xs j = q j := by
  have h := Gf.cw_same hp.ok hp.r.1 (L := 8 * bytes + rr m t) (by omega) (par_cw hp xs hl) hcw (fun k h1 _ => by rw [wd_hi h1, wd_hi h1])
  exact (wd_bytes (bytes := bytes) (by omega) (fun j => Gf.getD_lt (m := 8) hx j) (par_lt _ _ _) (fun j => Gf.getD_lt (m := 8) hx j) hq h (fun i h1 h2 => by rw [par_pad _ _ _ _ h1, hpad i h1 h2])).2
theorem cw_zero (m t L : Nat) : Gf.Cw m t (fun _ => false) L := fun k _ _ => by
  unfold Gf.syn
  induction L with
  | zero => rfl
  | succ L ih => rw [Gf.sx, ih]; simp
theorem par_zero {bytes t m P : Nat} (hp : Par bytes t m) (hP : P = (rr m t + 7) / 8) : ∀ j, j < P → par m t (List.replicate bytes 0) j = 0 := by
  have hz : ∀ j, (List.replicate bytes 0).getD j 0 = 0 := fun j => by
    by_cases h : j < bytes <;> simp [List.getD, h]
  refine par_unique hp hP _ (by simp) (fun y hy => by rw [(List.mem_replicate.1 hy).2]; omega) (fun _ => 0) (fun _ => by omega) (fun i _ _ => bitAt_zero i) ?_
  refine (cw_zero m t _).congr (fun p hp => ?_)
  unfold wd
  split
  · exact (bitAt_zero _).symm
  · unfold bitAt
    show false = ((List.replicate bytes 0).getD _ 0).testBit _
    rw [hz]; simp

set_option maxRecDepth 100000 in
theorem noneM (w : World) : Calls Try.prog 15 #[.pointer none] w fun e w' => e = .returned (.int .i64 0) ∧ w = w' := by
  go_enter Try.func15, Try.ntmps15
  go_wp2_with fail
  go_ret
  exact ⟨rfl, rfl⟩
set_option maxRecDepth 100000 in
theorem noneBits (w : World) : Calls Try.prog 16 #[.pointer none] w fun e w' => e = .returned (.int .i64 0) ∧ w = w' := by
  go_enter Try.func16, Try.ntmps16
  go_wp2_with fail
  go_ret
  exact ⟨rfl, rfl⟩
set_option maxRecDepth 100000 in
theorem noneParity (w : World) : Calls Try.prog 18 #[.pointer none] w fun e w' => e = .returned (.int .i64 0) ∧ w = w' := by
  go_enter Try.func18, Try.ntmps18
  go_wp2_with (go_at_call 16; refine (noneBits _).mono ?_; rintro e w' ⟨rfl, rfl⟩)
  go_ret
  exact ⟨by simp, rfl⟩
set_option maxRecDepth 100000 in
theorem noneEncode (v : Value) (w : World) : Calls Try.prog 21 #[.pointer none, v] w fun e w' => e = .returned (.tuple #[.slice none 0 0, .int .i64 1]) ∧ w = w' := by
  go_enter Try.func21, Try.ntmps21
  go_wp2_with fail
  go_ret2
  exact ⟨rfl, rfl⟩
set_option maxRecDepth 100000 in
theorem noneDecode (v1 v2 : Value) (w : World) : Calls Try.prog 24 #[.pointer none, v1, v2] w fun e w' => e = .returned (.tuple #[.slice none 0 0, .slice none 0 0, .int .i64 0, .int .i64 1]) ∧ w = w' := by
  go_enter Try.func24, Try.ntmps24
  go_wp2; go_step3; go_wp2_with fail
  rw [Exit.noGoto_ret]
  refine bodyPost_ret (v := .tuple #[.slice none 0 0, .slice none 0 0, .int .i64 0, .int .i64 1]) (by simp [results, Try.results24, go_sem]) rfl ⟨rfl, rfl⟩

theorem n200 (t : Int) (hw : (Lit.int .i64 t).wf = true) : ∃ q : Nat, 1 ≤ q ∧ q ≤ 200 ∧ ((t < 0 ∧ wrap64 (1 + -(t + 1).tmod 200) = (q : Int)) ∨ (0 ≤ t ∧ 1 + t % 200 = (q : Int))) := by
  have hb := bounds_i64 hw
  by_cases h0 : t < 0
  · refine ⟨(1 + (-(t + 1)) % 200).toNat, by omega, by omega, .inl ⟨h0, ?_⟩⟩
    rw [← Int.neg_tmod, Int.tmod_eq_emod_of_nonneg (by omega), IntWalk.wrap64_in _ ⟨by omega, by omega⟩]
    omega
  · refine ⟨(1 + t % 200).toNat, by omega, by omega, .inr ⟨by omega, ?_⟩⟩
    omega

set_option maxRecDepth 100000 in
set_option maxHeartbeats 3200000 in
theorem bchNoughts_walk (x t : Int) (w : World) (hxw : (Lit.int .i64 x).wf = true) (ht : (Lit.int .i64 t).wf = true) :
    Calls Try.prog 11 #[.int .i64 x, .int .i64 t] w fun e w' => e = .returned (.bool true) ∧ Below w.heap.size w w' := by
  obtain ⟨n, hn1, hn2, hcase⟩ := n200 x hxw
  have hb64 := bounds_i64 hxw
  have hb641 := hb64.1
  have hb642 := hb64.2
  obtain ⟨m, hp⟩ := Par.ex n (tt t) (by omega) (by omega) (tt_bd t).1 (tt_bd t).2
  have HP := hid hp
  have hcode := fun a cap w => code_any a n cap m t w hp ht
  generalize tt t = T at *
  have HCODE := hid hcode
  have hmk0 : ∀ w, (Instr.makeSlice 35 (.int .i64 (n : Int)) (.int .i64 (n : Int))).run Try.prog w = .ok (.slice (some ⟨w.heap.size, 0, none⟩) n n) (w.alloc (.cells (fa .u8 n (fun _ => 0)) 5)) := fun w => mk_bytes _ (by omega) w
  clear hcode hp hxw hb64
  rcases hcase with ⟨hx0, hN⟩ | ⟨hx0, hN⟩
  all_goals
    go_enter Try.func11, Try.ntmps11
    go_wp2_with fail
    refine (awake_any _).mono ?_
    rintro e w1 ⟨rfl, hb1⟩
    have HB1 := hid hb1
    clear hb1
    go_wp2_with fail
    obtain ⟨W0, hW0⟩ : ∃ W0, w1.alloc (.cells (fa .u8 n (fun _ => 0)) 5) = W0 := ⟨_, rfl⟩
    have hD : W0.heap[w1.heap.size]? = some (.cells (fa .u8 n (fun _ => 0)) 5 (0, 0)) := by rw [← hW0]; exact alloc_new w1 _
    have hb10 : Below w1.heap.size w1 W0 := by rw [← hW0]; exact (Below.refl _ _).alloc (Nat.le_refl _) _
    rw [hW0]
    obtain ⟨D, hDe⟩ : ∃ D, w1.heap.size = D := ⟨_, rfl⟩
    have HB0 := hid (HB1.out.comp hb10)
    rw [hDe] at hD ⊢
    have hdr : Rd .u8 W0 (.slice (some ⟨D, 0, none⟩) n n) (List.replicate n 0) := by
      have := Rd.of_fa hD n n (Nat.le_refl _) (Nat.le_refl _) (by unfold maxLen; omega)
      rwa [show (List.range n).map (fun _ => 0) = List.replicate n 0 by rw [List.map_const', List.length_range]] at this
    have HDR := hid hdr
    clear hD hb10 hdr HB1 hDe hW0
    refine (HCODE.out _ _ _).mono ?_
    rintro e w2 ⟨⟨c, rv, rfl, hc, hrc⟩, hb2⟩
    have HC := hid hc
    have HB2 := hid (HB0.out.comp hb2)
    have HDR2 := hid (HDR.out.below hb2)
    obtain ⟨ga, L, gcap, rfl⟩ := nil_RC hrc
    clear hc hrc hb2 HCODE
    go_wp2_with fail
    obtain ⟨W1, hW1⟩ : ∃ W1, w2.alloc (.cells #[.int .i64 m, .int .i64 n, .int .i64 T, .slice ga L gcap] 29) = W1 := ⟨_, rfl⟩
    have hb20 : Below w2.heap.size w2 W1 := by rw [← hW1]; exact (Below.refl _ _).alloc (Nat.le_refl _) _
    rw [hW1]
    have HC1 := hid (HC.out.below hb20)
    have HB3 := hid (HB2.out.comp hb20)
    have HDR3 := hid (HDR2.out.below hb20)
    clear hb20 hW1 HC HB2 HDR2 HDR
    refine (encode_any c n T m _ (List.replicate n 0) _ HP.out HC1.out HDR3.out (fun y hy => by rw [(List.mem_replicate.1 hy).2]; omega) (by simp)).mono ?_
    rintro e w3 ⟨p, P, hp1, hP, rfl, hpc, hb3⟩
    have hPl : P ≤ 14 := by have := HP.out.r.2.2.2.1; omega
    have HPE := hid hP
    have HB4 := hid (HB3.out.comp hb3)
    have HC4 := hid (HC1.out.below hb3)
    have hpr := Rd.of_fa hpc P P (Nat.le_refl _) (Nat.le_refl _) (by unfold maxLen; omega)
    rw [show (List.range P).map (par m T (List.replicate n 0)) = List.replicate P 0 by rw [List.map_congr_left (fun j hj => par_zero HP.out hP j (List.mem_range.1 hj)), List.map_const', List.length_range]] at hpr
    have k1 : (convert 35 9 (.slice (some ⟨p, 0, none⟩) P P)).run Try.prog w3.drew = .ok (.string (sv (List.replicate P 0))) w3.drew := conv_rd (hpr.below (Below.refl w3.heap.size w3).drew)
    have k2 : (convert 35 9 (.slice (some ⟨p, 0, none⟩) P P)).run Try.prog (w3.alloc (.cells (fa .u8 P (fun _ => 0)) 5)).drew = .ok (.string (sv (List.replicate P 0))) (w3.alloc (.cells (fa .u8 P (fun _ => 0)) 5)).drew := conv_rd (hpr.below (((Below.refl w3.heap.size w3).alloc (Nat.le_refl _) _).drew))
    have k3 : (convert 35 9 (.slice (some ⟨w3.heap.size, 0, none⟩) P P)).run Try.prog (w3.alloc (.cells (fa .u8 P (fun _ => 0)) 5)).drew = .ok (.string (sv (List.replicate P 0))) (w3.alloc (.cells (fa .u8 P (fun _ => 0)) 5)).drew := conv_rd (by
      have := Rd.of_fa (alloc_new w3 (.cells (fa .u8 P (fun _ => 0)) 5)) P P (Nat.le_refl _) (Nat.le_refl _) (by unfold maxLen; omega)
      rw [show (List.range P).map (fun _ => 0) = List.replicate P 0 by rw [List.map_const', List.length_range]] at this
      exact this.below ((Below.refl _ _).drew))
    have hmk : ∀ w, (Instr.makeSlice 35 (.int .i64 (P : Int)) (.int .i64 (P : Int))).run Try.prog w = .ok (.slice (some ⟨w.heap.size, 0, none⟩) P P) (w.alloc (.cells (fa .u8 P (fun _ => 0)) 5)) := fun w => mk_bytes _ (by omega) w
    have hpar := fun w' h => codeParity_any c n T m w' (HC4.out.below (w' := w') h) HP.out
    rw [← HPE.out] at hpar
    have HPAR := hid hpar
    generalize sv (List.replicate P 0) = str at *
    clear hP hb3 hp1 hpc hpr HB3 HC1 HDR3 hpar
    go_upto_region 11 with fail
    go_cut [54] (fun b wx => b = .bool false ∧ Below w3.heap.size w3 wx)
    case first =>
      go_region_with (go_at_call 18; refine (HPAR.out _ (by first | exact (Below.refl _ _).drew | exact (Below.refl _ _))).mono ?_; rintro e w' ⟨rfl, rfl⟩)
      all_goals (go_wp2_with fail; go_meet; refine ⟨by simp, ?_⟩)
      all_goals first
        | exact ((Below.refl _ _).alloc (Nat.le_refl _) _).drew
        | exact (Below.refl _ _).drew
    case rest =>
      obtain ⟨rfl, hbc⟩ := hcut
      have HB5 := hid (HB4.out.comp hbc)
      clear k1 k2 k3 hmk hmk0 hbc HPAR
      go_wp2_with fail
      refine (noneEncode _ _).mono ?_
      rintro e w' ⟨rfl, rfl⟩
      go_wp2_with fail
      refine (noneDecode _ _ _).mono ?_
      rintro e w' ⟨rfl, rfl⟩
      go_wp2_with (first | (go_at_call 15; refine (noneM _).mono ?_; rintro e w' ⟨rfl, rfl⟩) | (go_at_call 16; refine (noneBits _).mono ?_; rintro e w' ⟨rfl, rfl⟩) | (go_at_call 18; refine (noneParity _).mono ?_; rintro e w' ⟨rfl, rfl⟩))
      go_ret
      exact ⟨by simp, HB5.out⟩
end Go.Proofs.Ytjompiihdnaogaa
