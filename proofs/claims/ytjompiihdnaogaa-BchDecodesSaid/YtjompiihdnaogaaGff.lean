/- Walks over gf: least polynomials, generators. -/
import Derived.Test.YtjompiihdnaogaaGfe
namespace Go.Proofs.Ytjompiihdnaogaa
open Go.RowKit Go.Mem

theorem turn_nat (n s : Nat) (hs : 0 < s) : turn (n : Int) s = n % s := by
  have := turn_cast (n : Int) hs
  have h2 : ((n % s : Nat) : Int) = (n : Int) % s := Int.natCast_emod n s
  omega

set_option maxRecDepth 100000 in
set_option maxHeartbeats 400000 in
theorem exp_raw (b m : Nat) (n : Int) (w : World) (hm : Gf.Ok m) (h : Raw w b m) :
    Calls Try.prog 42 #[.pointer (some ⟨b, 0, none⟩), .int .i64 n] w fun e w' => e = .returned (.int .i64 (Gf.pw m (turn n (Gf.sz m)))) ∧ Made w' b m ∧ w.grownBy w' (some b) := by
  have s0 := Gf.sz_pos hm
  have s1 : (1:Int) ≤ (Gf.sz m : Int) := by omega
  have s2 := sz_le hm.2
  have s3 : Gf.sz m ≠ 0 := by omega
  have t1 := turn_lt n s0
  have b1 := Int.lt_tmod_of_pos n (show (0:Int) < Gf.sz m by omega)
  have b2 := Int.tmod_lt_of_pos n (show (0:Int) < Gf.sz m by omega)
  have t2 : (turn n (Gf.sz m) : Int) < 2 * (Gf.sz m : Int) := by omega
  have e1 : IntKind.i64.wrap (n.tmod (Gf.sz m) + Gf.sz m) = n.tmod (Gf.sz m) + Gf.sz m := IntWalk.i64_in _ (by omega)
  have e2 : (n.tmod (Gf.sz m) + Gf.sz m).tmod (Gf.sz m) = turn n (Gf.sz m) := by rw [tmod_turn _ _ s0, turn_cast n s0]
  have HH := hid h
  clear b1 b2 h
  go_enter Try.func42, Try.ntmps42
  go_wp2_with (fail)
  refine (do_first b m _ hm HH.out).mono ?_
  rintro e w1 ⟨rfl, h1, h2⟩
  obtain ⟨p, l, hb, hp, hl⟩ := h1
  have H1 := hid (show Made w1 b m from ⟨p, l, hb, hp, hl⟩)
  have H2 := hid h2
  have c0 : w1.cell? ⟨b, 0, none⟩ = some (.int .i64 m) := cell_at hb 0
  have c4 : w1.cell? ⟨b, 4, none⟩ = some (.slice (some ⟨p, 0, none⟩) (2 * Gf.sz m) (2 * Gf.sz m)) := cell_at hb 4
  have cp : w1.cell? ⟨p, turn n (Gf.sz m), none⟩ = some (.int .i64 (Gf.pw m (turn n (Gf.sz m)))) := fa_cell hp (by omega)
  clear hb hp hl h2
  dsimp only
  go_wp2_with (go_at_call 47; refine (size_any _ m _ c0 hm.2).mono ?_; rintro e w' ⟨rfl, rfl⟩)
  go_quiet (fail)
  go_wp2
  go_ret
  exact ⟨rfl, H1.out.drewN _, H2.out.os, H2.out.tape, H2.out.output, H2.out.size, H2.out.block⟩

theorem two_mul_mod (x s : Nat) : (2 * ((x % s : Nat) : Int)) % (s : Int) = (((2 * x) % s : Nat) : Int) := by
  exact_mod_cast congrArg (Nat.cast : Nat → Int) (Nat.mul_mod_mod 2 x s)

set_option maxRecDepth 100000 in
set_option maxHeartbeats 800000 in
theorem minimal_made (b m n : Nat) (w : World) (hm : Gf.Ok m) (h : Made w b m) (hn : n < 1000000) :
    Calls Try.prog 49 #[.pointer (some ⟨b, 0, none⟩), .int .i64 n] w fun e w' => RetRd .i64 w' (Gf.minimal m n) e ∧ Below w.heap.size w w' := by
  have c0 := h.m
  have s0 := Gf.sz_pos hm
  have s2 := sz_le hm.2
  have s3 : Gf.sz m ≠ 0 := by omega
  have hk0 : n % Gf.sz m < Gf.sz m := Nat.mod_lt _ s0
  have e2 : ((n : Int) % (Gf.sz m) + Gf.sz m) % (Gf.sz m) = ((n % Gf.sz m : Nat) : Int) := by rw [Int.add_emod_right, Int.emod_emod_of_dvd _ (Int.dvd_refl _), Int.natCast_emod]
  have b1 := Int.emod_lt_of_pos (n:Int) (show (0:Int) < Gf.sz m by omega)
  have b2 := Int.emod_nonneg (n:Int) (show (Gf.sz m : Int) ≠ 0 by omega)
  have hcyc := Gf.cyc_spec hm n
  have HC := hid hcyc
  have HH := hid h
  clear h hcyc
  generalize ek : n % Gf.sz m = k0 at *
  have EK := hid ek
  clear ek
  go_enter Try.func49, Try.ntmps49
  go_wp2_with (go_at_call 47; refine (size_any _ m _ c0 hm.2).mono ?_; rintro e w' ⟨rfl, rfl⟩)
  simp only [e2]
  clear c0 e2 b1 b2
  go_loopg [6, 7] (Gf.cyc m n) (fun g p k wr => ∃ i, i + g = Gf.cyc m n ∧ 1 ≤ g ∧ k = .int .i64 (((2^i * n) % Gf.sz m : Nat) : Int) ∧ Rd .i64 wr p (Gf.mins m n i) ∧ Below w.heap.size w wr)
  case atStart =>
    refine ⟨0, by omega, HC.out.2.1, by rw [← EK.out]; simp, ?_, (Below.refl _ _).alloc (Nat.le_refl _) _⟩
    refine ⟨_, 1, rfl, Nat.le_refl _, by unfold maxLen; omega, fun j hj => ⟨_, 0, rfl, ?_⟩⟩
    have hj0 : j = 0 := by simp [Gf.mins] at hj; exact hj
    subst hj0
    rw [cell_at (alloc_new _ _)]; rfl
  case round =>
    obtain ⟨i, hi, hg, rfl, hp, hb⟩ := hrel
    have HP := hid hp
    have HB := hid hb
    have hM : Made wr b m := HH.out.below hb
    have hkl : (2^i * n) % Gf.sz m < Gf.sz m := Nat.mod_lt _ s0
    have e3 : turn (((2^i * n) % Gf.sz m : Nat) : Int) (Gf.sz m) = (2^i * n) % Gf.sz m := by rw [turn_nat _ _ s0, Nat.mod_mod]
    have e4 : (2 * (((2^i * n) % Gf.sz m : Nat) : Int)) % (Gf.sz m) = (((2^(i+1) * n) % Gf.sz m : Nat) : Int) := by
      rw [show 2^(i+1) * n = 2 * (2^i * n) by rw [Nat.pow_succ, Nat.mul_comm (2^i) 2, Nat.mul_assoc]]
      exact two_mul_mod _ _
    have hpl : ∀ y ∈ Gf.mins m n i, y < 2^m := Gf.mins_lt hm n i
    have hll := Gf.mins_length m n i
    have hne : Gf.mins m n i ≠ [] := (Gf.mins_mon hm n i).1.1
    have hms : Gf.mins m n (i+1) = Gf.times m (Gf.mins m n i) [Gf.pw m ((2^i * n) % Gf.sz m), 1] := rfl
    have hi13 : i ≤ 13 := by have := HC.out.1; have := hm.2; omega
    have HMS := hid hms
    have HPL := hid hpl
    have HNE := hid hne
    have hkl2 : (2^(i+1) * n) % Gf.sz m < Gf.sz m := Nat.mod_lt _ s0
    have hkq : (2^(i+1) * n) % Gf.sz m = k0 → i + 1 = Gf.cyc m n := fun h => by
      rcases Nat.lt_or_ge (i+1) (Gf.cyc m n) with h' | h'
      · exact absurd h (HC.out.2.2.2 (i+1) (by omega) h')
      · omega
    have hkq2 : i + 1 = Gf.cyc m n → (2^(i+1) * n) % Gf.sz m = k0 := fun h => by rw [h]; exact HC.out.2.2.1
    have HKQ := hid hkq
    have HKQ2 := hid hkq2
    clear hp hb hpl hne hms hkq hkq2
    generalize ek1 : (2^i * n) % Gf.sz m = k1 at *
    generalize ek2 : (2^(i+1) * n) % Gf.sz m = k2 at *
    have EK1 := hid ek1
    have EK2 := hid ek2
    clear ek1 ek2
    go_wp2_with (go_at_call 42; refine (exp_made b m _ _ hm hM).mono ?_; rintro e w' ⟨rfl, q, rfl⟩)
    refine (times_made b m _ _ (Gf.mins m n i) [Gf.pw m k1, 1] _ hm ?gM ?gr1 ?gr2 HPL.out ?gp2 HNE.out (by simp) ?gll).mono ?_
    case gM => exact hM.below (((Below.refl _ wr).drewN q).alloc (by simp) _)
    case gr1 => exact HP.out.below (((Below.refl _ wr).drewN q).alloc (by simp) _)
    case gr2 =>
      refine ⟨_, 2, rfl, Nat.le_refl _, by unfold maxLen; omega, fun j hj => ⟨_, 0, rfl, ?_⟩⟩
      have e := alloc_new (wr.drewN q) (.cells #[Value.int IntKind.i64 ((Gf.pw m k1 : Nat) : Int), Value.int IntKind.i64 1] 3)
      rw [show (wr.drewN q).heap.size = wr.heap.size by simp] at e
      rw [cell_at e]
      simp only [List.length_cons, List.length_nil] at hj
      rcases (show j = 0 ∨ j = 1 by omega) with rfl | rfl <;> rfl
    case gp2 =>
      intro y hy
      simp only [List.mem_cons, List.not_mem_nil, or_false] at hy
      rcases hy with rfl | rfl
      · exact Gf.pw_lt hm _
      · exact Gf.one_lt m hm
    case gll => simp; omega
    rintro e w2 ⟨⟨v, rfl, hv⟩, hb2⟩
    dsimp only
    have HV := hid hv
    have HB2 := hid hb2
    clear hv hb2
    by_cases hq : k2 = k0
    · have hk : ((k2 : Int) == (k0 : Int)) = true := by simp [hq]
      have hcy := hid (HKQ.out hq)
      obtain rfl := hq
      clear hk
      go_wp2
      go_ret
      refine ⟨⟨v, rfl, ?_⟩, ?_⟩
      · unfold Gf.minimal
        rw [← hcy.out, HMS.out]; exact HV.out
      · exact Below.comp HB.out (Below.comp (((Below.refl _ wr).drewN q).alloc (by simp) _) HB2.out)
    · have hk : ((k2 : Int) == (k0 : Int)) = false := beq_eq_false_iff_ne.2 (by omega)
      have hlt : i + 1 ≠ Gf.cyc m n := fun h => hq (HKQ2.out h)
      clear hq
      go_wp2
      go_roundg (gk - 1)
      case measure => omega
      case rel =>
        refine ⟨i + 1, by omega, by omega, by rw [EK2.out]; exact congrArg (Value.int .i64) e4, ?_, ?_⟩
        · rw [HMS.out]; exact HV.out
        · exact Below.comp HB.out (Below.comp (((Below.refl _ wr).drewN q).alloc (by simp) _) HB2.out)

/-- A slice's block is another one. -/
def NotIn (b : Nat) (v : Value) : Prop := ∀ a n c, v = .slice (some a) n c → a.block ≠ b
theorem Rd.grown {k : IntKind} {w w' : World} {v : Value} {xs : List Nat} {b : Nat} (h : Rd k w v xs) (hb : w.grownBy w' (some b)) (hn : NotIn b v) : Rd k w' v xs := by
  obtain ⟨a, cap, hv, h1, h2, hc⟩ := h
  refine ⟨a, cap, hv, h1, h2, fun j hj => ?_⟩
  obtain ⟨g, o, ha, hx⟩ := hc j hj
  refine ⟨g, o, ha, hb.cell hx ?_⟩
  have := hn ⟨g, o, none⟩ xs.length cap (by rw [hv, ha])
  simpa using this

set_option maxRecDepth 100000 in
set_option maxHeartbeats 1600000 in
theorem generator_raw (b m t : Nat) (w : World) (hm : Gf.Ok m) (h : Raw w b m) (h1 : 1 ≤ t) (h8 : t ≤ 8) (hs : 2 * t ≤ Gf.sz m) :
    Calls Try.prog 28 #[.pointer (some ⟨b, 0, none⟩), .int .i64 t] w fun e w' => (∃ v, e = .returned (.tuple #[v, .int .i64 0]) ∧ Rd .i64 w' v (Gf.gen m t)) ∧ Made w' b m ∧ w.grownBy w' (some b) := by
  have hb := h
  unfold Raw at hb
  have c0 : w.cell? ⟨b, 0, none⟩ = some (.int .i64 m) := cell_at hb 0
  have hbl := lt_at hb
  have s0 := Gf.sz_pos hm
  have s2 := sz_le hm.2
  have hs' : ¬ ((Gf.sz m : Int) < 2 * (t : Int)) := by omega
  have HH := hid h
  clear h hb
  go_enter Try.func28, Try.ntmps28
  go_wp2_with (go_at_call 47; refine (size_any _ m _ c0 hm.2).mono ?_; rintro e w' ⟨rfl, rfl⟩)
  clear c0
  go_loopg [6, 7] t (fun g p n wr => ∃ i, i + g = t ∧ n = .int .i64 ((2 * i + 1 : Nat) : Int) ∧ Rd .i64 wr p (Gf.gen m i) ∧ w.grownBy wr (some b) ∧ ((i = 0 ∧ Raw wr b m ∧ NotIn b p) ∨ Made wr b m))
  case atStart =>
    refine ⟨0, by omega, rfl, ?_, (((Below.refl _ w).alloc (Nat.le_refl _) _).toGrown _), Or.inl ⟨rfl, ?_, ?_⟩⟩
    · refine ⟨_, 1, rfl, Nat.le_refl _, by unfold maxLen; omega, fun j hj => ⟨_, 0, rfl, ?_⟩⟩
      have hj0 : j = 0 := by simp [Gf.gen] at hj; exact hj
      subst hj0
      rw [cell_at (alloc_new _ _)]; rfl
    · exact (alloc_old hbl).trans HH.out
    · intro a n c hv
      injection hv with h1
      injection h1 with h1
      subst h1
      simp; omega
  case round =>
    obtain ⟨i, hi, rfl, hp, hgr, hcase⟩ := hrel
    by_cases hlt : i < t
    · have hturn : turn (2 * (i : Int) + 1) (Gf.sz m) = 2 * i + 1 := by rw [show 2 * (i : Int) + 1 = ((2 * i + 1 : Nat) : Int) by omega, turn_nat _ _ s0, Nat.mod_eq_of_lt (by omega)]
      have hexp : Calls Try.prog 42 #[.pointer (some ⟨b, 0, none⟩), .int .i64 (2 * (i : Int) + 1)] wr fun e w' => e = .returned (.int .i64 (Gf.pw m (2 * i + 1))) ∧ Made w' b m ∧ Rd .i64 w' u6 (Gf.gen m i) ∧ w.grownBy w' (some b) := by
        rcases hcase with ⟨_, hr, hn⟩ | hM
        · refine (exp_raw b m _ wr hm hr).mono fun e w' ⟨h1, h2, h3⟩ => ⟨by rw [h1, hturn], h2, Rd.grown hp h3 hn, grown_trans hgr h3⟩
        · refine (exp_made b m _ wr hm hM).mono fun e w' ⟨h1, k, h2⟩ => ⟨by rw [h1, hturn], ?_⟩
          subst h2
          exact ⟨hM, hp, hgr.os, hgr.tape, hgr.output, hgr.size, hgr.block⟩
      have HE := hid hexp
      clear hexp hp hgr hcase hturn
      have hgl := Gf.gen_lt hm i
      have hgm := Gf.gen_mon hm i
      have him : i * m ≤ 8 * 13 := Nat.mul_le_mul (by omega) hm.2
      have hpl := Gf.pw_lt hm (2 * i + 1)
      have HGL := hid hgl
      have HGM := hid hgm
      have HPW := hid hpl
      have hmn := hid (Gf.minimal_mon hm (2 * i + 1))
      have hmc := (Gf.cyc_spec hm (2 * i + 1)).1
      have hm13 := hm.2
      have hml := hid (Gf.mins_lt hm (2 * i + 1) (Gf.cyc m (2 * i + 1)))
      have hgs : Gf.gen m (i + 1) = if Gf.ev m (Gf.gen m i) (Gf.pw m (2 * i + 1)) ≠ 0 then Gf.times m (Gf.gen m i) (Gf.minimal m (2 * i + 1)) else Gf.gen m i := rfl
      have HGS := hid hgs
      clear hgl hgm hpl hgs
      go_wp2_with fail
      refine (HE.out).mono ?_
      rintro e w1 ⟨rfl, hM, hR, hG⟩
      dsimp only
      have HM := hid hM
      have HR := hid hR
      have HG := hid hG
      clear hM hR hG
      go_wp2_with fail
      refine (eval_made b m _ _ (Gf.gen m i) _ hm HM.out HPW.out HR.out HGL.out).mono ?_
      rintro e w2 ⟨rfl, q, rfl⟩
      dsimp only
      by_cases hz : Gf.ev m (Gf.gen m i) (Gf.pw m (2 * i + 1)) = 0
      · have hgi : Gf.gen m (i + 1) = Gf.gen m i := by rw [HGS.out, if_neg (by simp [hz])]
        have HGI := hid hgi
        clear hgi
        have hz2 : (((Gf.ev m (Gf.gen m i) (Gf.pw m (2 * i + 1)) : Nat) : Int) != 0) = false := by simp [hz]
        clear hz
        go_wp2
        go_roundg (gk - 1)
        case measure => omega
        case rel =>
          exact ⟨i + 1, by omega, by go_num, by rw [HGI.out]; exact HR.out, ⟨HG.out.os, HG.out.tape, HG.out.output, HG.out.size, HG.out.block⟩, Or.inr HM.out⟩
      · have hgi : Gf.gen m (i + 1) = Gf.times m (Gf.gen m i) (Gf.minimal m (2 * i + 1)) := by rw [HGS.out, if_pos hz]
        have HGI := hid hgi
        clear hgi
        have hz2 : (((Gf.ev m (Gf.gen m i) (Gf.pw m (2 * i + 1)) : Nat) : Int) != 0) = true := by simpa using hz
        clear hz
        have hnum : (2 * (i : Int) + 1) = ((2 * i + 1 : Nat) : Int) := by omega
        have HNUM := hid hnum
        clear hnum
        go_wp2_with fail
        rw [HNUM.out]
        refine (minimal_made b m (2 * i + 1) _ hm (by exact HM.out) (by omega)).mono ?_
        rintro e w3 ⟨⟨v, rfl, hv⟩, hb3⟩
        have HV := hid hv
        have HB3 := hid hb3
        clear hv hb3
        dsimp only
        go_wp2_with fail
        have hRg : Rd .i64 w3 u6 (Gf.gen m i) := Rd.below (HR.out.drewN q) HB3.out
        refine (times_made b m _ _ (Gf.gen m i) (Gf.minimal m (2 * i + 1)) _ hm ((HM.out.drewN q).below HB3.out) hRg HV.out HGL.out hml.out HGM.out.1.1 hmn.out.1.1 (by have := HGM.out.2; have := hmn.out.2; omega)).mono ?_
        rintro e w4 ⟨⟨v4, rfl, hv4⟩, hb4⟩
        have HV4 := hid hv4
        have HB4 := hid hb4
        clear hv4 hb4 hRg
        dsimp only
        go_wp2
        go_roundg (gk - 1)
        case measure => omega
        case rel =>
          refine ⟨i + 1, by omega, by go_num, by rw [HGI.out]; exact HV4.out, ?_, Or.inr (((HM.out.drewN q).below HB3.out).below HB4.out)⟩
          exact grown_trans (grown_trans HG.out ((Below.refl _ w1).drewN q |>.toGrown _)) (grown_trans (HB3.out.toGrown _) (HB4.out.toGrown _))
    · have hit : i = t := by omega
      subst hit
      have hM : Made wr b m := by
        rcases hcase with ⟨h0, _, _⟩ | hM
        · omega
        · exact hM
      have HP := hid hp
      have HG := hid hgr
      have HM := hid hM
      clear hp hgr hM hcase
      go_wp2
      go_ret2
      exact ⟨⟨u6, rfl, HP.out⟩, HM.out, HG.out⟩
end Go.Proofs.Ytjompiihdnaogaa
