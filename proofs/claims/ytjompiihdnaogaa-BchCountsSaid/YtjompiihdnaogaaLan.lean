/- Walks over firkinlaw02: BchCounts. -/
import Derived.Test.YtjompiihdnaogaaLam
import Derived.Maps.OwnSet
namespace Go.Proofs.Ytjompiihdnaogaa
open Go.RowKit Go.Mem Go.Maps

theorem law_int : Keyed Try.prog 3 := int_keyed Try.underlying3
theorem zero_int (w : World) : (zeroValue 3).run Try.prog w = .ok (.int .i64 0) w := by kernel_rfl

theorem cs_flip {f : Nat → Bool} {i L : Nat} (hi : i < L) (hf : f i = false) : Gf.cs (fun j => f j ^^ decide (i = j)) L = Gf.cs f L + 1 := by
  induction L with
  | zero => omega
  | succ L ih =>
    rw [Gf.cs, Gf.cs]
    by_cases h : i = L
    · subst h
      rw [hf, Gf.cs_congr (g := f) (fun j hj => by rw [decide_eq_false (show ¬ i = j by omega), Bool.xor_false])]
      simp
    · rw [ih (by omega), decide_eq_false h, Bool.xor_false]; omega
theorem ub_flip {f x : Nat → Nat} {i n : Nat} (hi : i < 8 * n) (hf : bitAt f i = bitAt x i) : ub (tb f i) x n = ub f x n + 1 := by
  unfold ub
  rw [← cs_flip (f := fun j => bitAt f j ^^ bitAt x j) hi (by rw [hf]; simp)]
  refine Gf.cs_congr (fun j _ => ?_)
  rw [bitAt_tb]
  cases bitAt f j <;> cases bitAt x j <;> simp
theorem lob_inj {a b : Nat} (h : lob a = lob b) : a = b := by unfold lob at h; omega
theorem lob_lt {k n : Nat} (h : k < 8 * n) : lob k < 8 * n := by unfold lob; omega

/-- The keys of the map are the bits that were turned. -/
def Turned (n : Nat) (x f : Nat → Nat) (D : DataW Unit) : Prop :=
  (∀ k, k < 8 * n → Maps.has D (.int .i64 (k : Nat)) = (bitAt f (lob k) ^^ bitAt x (lob k))) ∧ Maps.size D = ub f x n
theorem Turned.new {n : Nat} {x f : Nat → Nat} {D : DataW Unit} (h : Turned n x f D) (ht : Tidy D) (k : Nat) (hk : k < 8 * n) (hh : Maps.has D (.int .i64 (k : Nat)) = false) (d : DataW Unit) : Turned n x (tb f (lob k)) (D.put (.int .i64 (k : Nat)) d) := by
  have hb : bitAt f (lob k) = bitAt x (lob k) := by
    have := h.1 k hk
    rw [hh] at this
    revert this
    cases bitAt f (lob k) <;> cases bitAt x (lob k) <;> simp
  refine ⟨fun j hj => ?_, ?_⟩
  · rw [bitAt_tb]
    by_cases e : j = k
    · subst e
      rw [has_put_same ht.isMap (by trivial), hb]
      cases bitAt x (lob j) <;> simp
    · rw [has_put_other (fun he => e (by injection he with _ he; omega)), h.1 j hj, decide_eq_false (fun he => e (lob_inj he).symm)]
      simp
  · rw [size_put ht, hh, ub_flip (lob_lt hk) hb, h.2]; simp

theorem place_of (f0 s0 I N : Nat) (hf : f0 < N) (hs : s0 < N) (hI : I ≤ 8) (hN : N ≤ 1600) (hN1 : 1 ≤ N) : ∃ kk : Nat, (wrap64 ((f0 : Int) + wrap64 ((I : Int) * (s0 : Int)))).tmod (N : Int) = (kk : Int) ∧ kk < N := by
  have h1 : I * s0 ≤ 8 * 1600 := Nat.mul_le_mul hI (by omega)
  refine ⟨(f0 + I * s0) % N, ?_, Nat.mod_lt _ (by omega)⟩
  rw [show (I : Int) * (s0 : Int) = ((I * s0 : Nat) : Int) by simp]
  generalize I * s0 = p0 at *
  rw [IntWalk.wrap64_in (p0 : Int) ⟨by omega, by omega⟩, IntWalk.wrap64_in _ ⟨by omega, by omega⟩, Int.tmod_eq_emod_of_nonneg (by omega)]
  rfl
/-- Out of a number that may be below 0. -/
def ng (z : Int) : Int := if z < 0 then -(z + 1) else z
theorem ng_bd {z : Int} (hw : (Lit.int .i64 z).wf = true) : 0 ≤ ng z ∧ ng z ≤ 9223372036854775807 := by
  have := bounds_i64 hw
  unfold ng; split <;> omega

set_option maxRecDepth 100000 in
set_option maxHeartbeats 3200000 in
theorem bchCounts_walk (a : Option Addr) (n cap : Nat) (xs : List Nat) (t first step many : Int) (w : World) (hv : Rd .u8 w (.slice a n cap) xs) (hl : xs.length = n) (hx : ∀ y ∈ xs, y < 256) (ht : (Lit.int .i64 t).wf = true)
    (hfw : (Lit.int .i64 first).wf = true) (hsw : (Lit.int .i64 step).wf = true) (hmw : (Lit.int .i64 many).wf = true) :
    Calls Try.prog 10 #[.slice a n cap, .int .i64 t, .int .i64 first, .int .i64 step, .int .i64 many] w fun e w' => e = .returned (.bool true) ∧ Below w.heap.size w w' := by
  have hmm := @run_makeMap Try.prog
  have hb1 := bounds_i64 ht
  have hb2 := bounds_i64 hfw
  have hb3 := bounds_i64 hsw
  have hb4 := bounds_i64 hmw
  have hb11 := hb1.1
  have hb12 := hb1.2
  have hb21 := hb2.1
  have hb22 := hb2.2
  have hb31 := hb3.1
  have hb32 := hb3.2
  have hb41 := hb4.1
  have hb42 := hb4.2
  have hn1 := ng_bd ht
  have hn2 := ng_bd hfw
  have hn3 := ng_bd hsw
  have hn4 := ng_bd hmw
  have HN1 := hid hn1
  have HN2 := hid hn2
  have HN3 := hid hn3
  have HN4 := hid hn4
  clear hb1 hb2 hb3 hb4 hn1 hn2 hn3 hn4
  have HV := hid hv
  have HX := hid hx
  have HL := hid hl
  have hcapn : n ≤ cap ∧ cap ≤ maxLen := by obtain ⟨a', c', he, h1, h2, _⟩ := hv; cases he; exact ⟨by omega, h2⟩
  have hc1 := hcapn.1
  have hc2 : cap ≤ 9223372036854775807 := by have := hcapn.2; unfold maxLen at this; omega
  clear hv hx hl hcapn
  by_cases h0 : n = 0 ∨ 200 < n
  · rcases h0 with rfl | h0
    · go_enter Try.func10, Try.ntmps10
      go_wp2_with fail
      refine (awake_any _).mono ?_
      rintro e w1 ⟨rfl, hb1⟩
      go_wp2_with fail
      go_ret
      exact ⟨rfl, hb1⟩
    · have h1 : ((n : Int) == 0) = false := beq_eq_false_iff_ne.2 (by omega)
      have h2 : (200 : Int) < (n : Int) := by omega
      go_enter Try.func10, Try.ntmps10
      go_wp2_with fail
      refine (awake_any _).mono ?_
      rintro e w1 ⟨rfl, hb1⟩
      go_wp2_with fail
      go_ret
      exact ⟨rfl, hb1⟩
  · have h1 : ((n : Int) == 0) = false := beq_eq_false_iff_ne.2 (by omega)
    have h2 : ¬ (200 : Int) < (n : Int) := by omega
    have hn1 : 1 ≤ n := by omega
    have hn2 : n ≤ 200 := by omega
    clear h0
    obtain ⟨m, hp⟩ := Par.ex n (tt t) (by omega) (by omega) (tt_bd t).1 (tt_bd t).2
    have HP := hid hp
    have hcode := fun w => code_any a n cap m t w hp ht
    obtain ⟨T, hT⟩ : ∃ T, tt t = T := ⟨_, rfl⟩
    have hT2 : 2 + ng t % 8 = ((T + 1 : Nat) : Int) := by rw [← hT]; unfold tt ng; omega
    have hT8 : T ≤ 8 := by rw [← hT]; exact (tt_bd t).2
    rw [hT] at hcode HP
    obtain ⟨M, hM, hMT⟩ : ∃ M : Nat, ng many % ((T + 1 : Nat) : Int) = (M : Int) ∧ M ≤ T := by
      have h5 := Int.emod_nonneg (ng many) (show ((T + 1 : Nat) : Int) ≠ 0 by omega)
      have h6 := Int.emod_lt_of_pos (ng many) (show (0 : Int) < ((T + 1 : Nat) : Int) by omega)
      exact ⟨(ng many % ((T + 1 : Nat) : Int)).toNat, by omega, by omega⟩
    have HT2 := hid hT2
    have HM := hid hM
    have HCODE := hid hcode
    clear hcode hp hT hT2 hM
    go_enter Try.func10, Try.ntmps10
    go_wp2_with fail
    refine (awake_any _).mono ?_
    rintro e w1 ⟨rfl, hb1⟩
    have HB1 := hid hb1
    clear hb1
    go_wp2_with fail
    refine (HCODE.out _).mono ?_
    rintro e w2 ⟨⟨c, rv, rfl, hc, hrc⟩, hb2⟩
    have HC := hid hc
    have HB2 := hid (HB1.out.comp hb2)
    obtain ⟨ga, L, gcap, rfl⟩ := nil_RC hrc
    clear hc hrc hb2 HCODE
    go_wp2_with fail
    obtain ⟨W0, hW0⟩ : ∃ W0, w2.alloc (.cells #[.int .i64 m, .int .i64 n, .int .i64 T, .slice ga L gcap] 29) = W0 := ⟨_, rfl⟩
    have hb20 : Below w2.heap.size w2 W0 := by rw [← hW0]; exact (Below.refl _ _).alloc (Nat.le_refl _) _
    rw [hW0]
    have HC0 := hid (HC.out.below hb20)
    have HB0 := hid (HB2.out.comp hb20)
    clear hb20 hW0 HC HB2
    refine (encode_any c n T m _ xs _ HP.out HC0.out (HV.out.below HB0.out) HX.out HL.out).mono ?_
    rintro e w3 ⟨p, P, hp1, hP, rfl, hpc, hb3⟩
    have hPl : P ≤ 14 := by have := HP.out.r.2.2.2.1; omega
    have HPE := hid hP
    have HPC := hid hpc
    have HB3 := hid (HB0.out.comp hb3)
    have HC3 := hid (HC0.out.below hb3)
    have HV3 := hid (HV.out.below HB3.out)
    clear hP hb3 hp1 hpc HC0 HB0
    go_upto_if 53 with fail
    go_cut [1] (fun v wx => v = .int .i64 (ng t) ∧ wx = w3)
    case first =>
      go_wp2_with fail
      all_goals (go_meet; exact ⟨congrArg (Value.int .i64) (by unfold ng; split <;> omega), rfl⟩)
    case rest =>
    obtain ⟨rfl, rfl⟩ := hcut
    go_upto_if 58 with fail
    go_cut [4] (fun v wx => v = .int .i64 (ng many) ∧ wx = wc)
    case first =>
      go_wp2_with fail
      all_goals (go_meet; exact ⟨congrArg (Value.int .i64) (by unfold ng; split <;> omega), rfl⟩)
    case rest =>
    obtain ⟨rfl, rfl⟩ := hcut
    go_upto_if 63 with fail
    go_cut [2] (fun v wx => v = .int .i64 (ng first) ∧ wx = wc)
    case first =>
      go_wp2_with fail
      all_goals (go_meet; exact ⟨congrArg (Value.int .i64) (by unfold ng; split <;> omega), rfl⟩)
    case rest =>
    obtain ⟨rfl, rfl⟩ := hcut
    go_upto_if 68 with fail
    go_cut [3] (fun v wx => v = .int .i64 (ng step) ∧ wx = wc)
    case first =>
      go_wp2_with fail
      all_goals (go_meet; exact ⟨congrArg (Value.int .i64) (by unfold ng; split <;> omega), rfl⟩)
    case rest =>
    obtain ⟨rfl, rfl⟩ := hcut
    clear hb11 hb12 hb21 hb22 hb31 hb32 hb41 hb42
    have d1 := HN1.out.1
    have d2 := HN1.out.2
    have d3 := HN2.out.1
    have d4 := HN2.out.2
    have d5 := HN3.out.1
    have d6 := HN3.out.2
    have d7 := HN4.out.1
    have d8 := HN4.out.2
    have hT2 := HT2.out
    have hM := HM.out
    generalize ng t = tn at *
    generalize ng first = fn at *
    generalize ng step = sn at *
    generalize ng many = mn at *
    have hlx : (xs.length = n) := HL.out
    go_wp2_with (at_builtin; refine app_row el_byte rfl _ _ rfl wc.heap.size (.slice none 0 0) [] rfl (Own.nil _ _ _ _) xs (by exact HV3.out) (by rw [hlx]; omega) (by simp; omega) (Nat.le_refl _) ?_; rw [hlx]; simp only [List.length_nil, Nat.zero_add, List.nil_append]; intro g1 cap1 w4 hown hgrow hat; have hb4 := grow_below (v := .slice none 0 0) (Below.refl wc.heap.size wc) (Nat.le_refl _) hgrow (by simp [Value.ownBlock]); have hoe := hown.ow (by rw [hlx]; omega); rw [hlx] at hoe; obtain ⟨g', c', he, hg1, ho1⟩ := hoe; cases he; have HO1 := hid ho1; have HB4 := hid hb4; have HG1 := hid hg1; clear hown hgrow hat ho1 hb4 hg1)
    have hMz : mn % ((T : Int) + 1) = (M : Int) := by rw [← hM]; rfl
    rw [hMz]
    obtain ⟨N, hN⟩ : ∃ N, 8 * n = N := ⟨_, rfl⟩
    have hNz : 8 * (n : Int) = (N : Int) := by omega
    rw [hNz]
    have HN := hid hN
    have hN1 : 1 ≤ N := by omega
    have hN2 : N ≤ 1600 := by omega
    have hf0 : ∃ f0 : Nat, fn % (N : Int) = (f0 : Int) ∧ f0 < N := by
      have h5 := Int.emod_nonneg fn (show (N : Int) ≠ 0 by omega)
      have h6 := Int.emod_lt_of_pos fn (show (0 : Int) < (N : Int) by omega)
      exact ⟨(fn % (N : Int)).toNat, by omega, by omega⟩
    have hs0 : ∃ s0 : Nat, sn % (N : Int) = (s0 : Int) ∧ s0 < N := by
      have h5 := Int.emod_nonneg sn (show (N : Int) ≠ 0 by omega)
      have h6 := Int.emod_lt_of_pos sn (show (0 : Int) < (N : Int) by omega)
      exact ⟨(sn % (N : Int)).toNat, by omega, by omega⟩
    obtain ⟨f0, hf0, hf1⟩ := hf0
    obtain ⟨s0, hs0, hs1⟩ := hs0
    obtain ⟨B, hB⟩ : ∃ B, w4.heap.size = B := ⟨_, rfl⟩
    have hgB : g1 < B := by rw [← hB]; exact HO1.out.lt
    have hmade : (w4.alloc (.map #[] 0)).ownsMap Try.prog 3 (plainElem (H := Unit) Try.prog 3) B 0 (.map []) := by rw [← hB]; exact World.ownsMap_made _ _ _ _
    have hbB : wc.heap.size ≤ B := by rw [← hB]; exact HB4.out.size
    obtain ⟨W5, hW5⟩ : ∃ W5, w4.alloc (.map #[] 0) = W5 := ⟨_, rfl⟩
    rw [hW5] at hmade
    have ho5 : Ow .u8 5 W5 g1 n cap1 (xs.getD · 0) := by rw [← hW5]; exact HO1.out.same (alloc_old HO1.out.lt)
    have hb5 : Below wc.heap.size wc W5 := by rw [← hW5]; exact HB4.out.alloc HB4.out.size _
    rw [hW5, hB]
    have HMADE := hid hmade
    have HO5 := hid ho5
    have HB5 := hid hb5
    have HBB := hid hbB
    have HGB := hid hgB
    have HXF : Hid (∀ j, (fun x => xs.getD x 0) j < 256) := hid fun j => Gf.getD_lt (m := 8) HX.out j
    clear hN hNz hMz hM hT2 HT2 HM HN1 HN2 HN3 HN4 d1 d2 d7 d8 HO1 HB4 hW5 hB hmade ho5 hb5 hbB hgB hmm hlx
    go_loopg [19] M (fun gk i wr => ∃ (I : Nat) (F : Nat → Nat) (D : DataW Unit), I + gk = M ∧ i = .int .i64 I ∧ wr.ownsMap Try.prog 3 (plainElem Try.prog 3) B I D ∧ Ow .u8 5 wr g1 n cap1 F ∧ (∀ j, F j < 256) ∧ Turned n (xs.getD · 0) F D ∧ Maps.size D ≤ I ∧ Below wc.heap.size wc wr)
    case atStart =>
      exact ⟨0, _, _, by omega, rfl, HMADE.out, HO5.out, HXF.out, ⟨fun k _ => by simp [Maps.has], by rw [ub_self]; rfl⟩, Nat.le_refl _, HB5.out⟩
    case round =>
      clear HMADE HO5 HB5 HXF
      obtain ⟨I, F, D, hI, rfl, hown, ho, hf, htu, hsz, hbx⟩ := hrel
      have HOWN := hid hown
      have HO := hid ho
      have HF := hid hf
      have HTU := hid htu
      have HSZ := hid hsz
      have HBX := hid hbx
      clear hown ho hf htu hsz hbx
      by_cases hlt : I < M
      · go_wp2_with fail
        go_quiet (fail)
        obtain ⟨kk, hkk, hkN⟩ := place_of f0 s0 I N hf1 hs1 (by omega) hN2 hN1
        rw [hkk]
        obtain ⟨wq, hwq⟩ : ∃ wq, wr.drewN nq = wq := ⟨_, rfl⟩
        have hbq : Below wr.heap.size wr wq := by rw [← hwq]; exact (Below.refl _ _).drewN nq
        have hownq : wq.ownsMap Try.prog 3 (plainElem Try.prog 3) B I D := by rw [← hwq]; exact HOWN.out
        have hoq : Ow .u8 5 wq g1 n cap1 F := by rw [← hwq]; exact HO.out
        rw [hwq]
        have HBQ := hid (HBX.out.comp hbq)
        have HKN := hid hkN
        have hk8 : kk < 8 * n := by have := HN.out; omega
        have hkey : keyOf Try.prog 3 (.int .i64 (kk : Int)) = some (.int .i64 (kk : Int)) := keyOf_int_mk Try.underlying3 (WalkArith.wf_i64 (by omega))
        have HK8 := hid hk8
        have HOQ := hid hoq
        have HOWNQ := hid hownq
        clear hkk hwq hbq hoq hownq hkN hk8
        cases hh : Maps.has D (.int .i64 (kk : Nat)) with
        | true =>
          go_wp2_with (at_lookup; refine wpList_lookup_own_ok_int _ rfl _ _ 54 rfl 3 3 .i64 law_int Try.underlying54 Try.underlying3 (zero_int _) B I D rfl HOWNQ.out _ _ rfl hkey ?_; intro cc hat hwc)
          go_roundg (gk - 1)
          case measure => omega
          case rel =>
            exact ⟨I + 1, F, D, by omega, by go_num, HOWNQ.out.mono (by omega), HOQ.out, HF.out, HTU.out, by have := HSZ.out; omega, HBQ.out⟩
        | false =>
          have hd8 : (kk : Int) / 8 < (n : Int) := by have := HK8.out; omega
          have hxl := xor_lob (F (kk / 8)) kk (HF.out _)
          have HXL := hid hxl
          clear hxl
          go_wp2_with (first
            | (at_lookup; refine wpList_lookup_own_ok_int _ rfl _ _ 54 rfl 3 3 .i64 law_int Try.underlying54 Try.underlying3 (zero_int _) B I D rfl HOWNQ.out _ _ rfl hkey ?_; intro cc hat hwc)
            | (at_mapUpdate; refine wpList_mapUpdate_own _ rfl _ _ _ 54 rfl 3 3 law_int Try.underlying54 _ B I D rfl HOWNQ.out (by unfold maxLen; omega) _ _ _ rfl rfl hkey _ [] (plainElem_int Try.underlying3 (WalkArith.wf_i64 (by omega))) ?_; intro w5 hown1 hgrow1; have ho5 := HOQ.out.same (hgrow1.block g1 HOQ.out.lt (by have := HGB.out; simp; omega)); have c1 : w5.cell? ⟨g1, kk / 8, none⟩ = some (.int .u8 ((F (kk / 8) : Nat) : Int)) := ho5.cell (by have := HK8.out; omega); have f1 : w5.frozen? ⟨g1, kk / 8, none⟩ = false := ho5.free _; have HO5 := hid ho5; have HOWN5 := hid hown1; have HB5 := hid (HBQ.out.grown hgrow1 HBQ.out.size (fun j hj => by cases hj; exact HBB.out)); clear ho5 hown1 hgrow1))
          go_roundg (gk - 1)
          case measure => omega
          case rel =>
            have hg1 := HG1.out
            have hnew := HTU.out.new (HOWNQ.out.tidy law_int) kk HK8.out hh (.lit (.int .i64 1))
            refine ⟨I + 1, tb F (lob kk), _, by omega, by go_num, HOWN5.out.setCell (by have := HGB.out; simp; omega) _, ?_, tb_lt HF.out _, hnew, ?_, HB5.out.setCell hg1 _⟩
            · rw [HXL.out, tb_lob]
              exact HO5.out.set _ _
            · rw [size_put (HOWNQ.out.tidy law_int), hh]
              have := HSZ.out
              simp; omega
      · obtain rfl : I = M := by omega
        go_wp2_with fail
        have hdl : ∀ y ∈ (List.range n).map F, y < 256 := fun y hy => by obtain ⟨j, _, rfl⟩ := List.mem_map.1 hy; exact HF.out j
        have hql : ∀ y ∈ (List.range P).map (par m T xs), y < 256 := fun y hy => by obtain ⟨j, _, rfl⟩ := List.mem_map.1 hy; exact par_lt _ _ _ j
        have hpr := Rd.of_fa ((HBX.out.block _ (lt_at HPC.out)).trans HPC.out) P P (Nat.le_refl _) (Nat.le_refl _) (by unfold maxLen; omega)
        refine (decode_any c n T m P _ _ _ _ _ HP.out (HC3.out.below HBX.out) HO.out.rd hpr hdl hql (by simp) HPE.out (by simp)).mono ?_
        rintro e w6 ⟨hdr, hb6⟩
        have hu1 : ub (((List.range n).map F).getD · 0) (xs.getD · 0) n = Maps.size D := by
          rw [HTU.out.2]; exact ub_congr (fun j hj => rg_getD _ _ _ hj) (fun _ _ => rfl)
        have hu2 : ub (((List.range P).map (par m T xs)).getD · 0) (par m T xs) P = 0 := by
          rw [ub_congr (f' := par m T xs) (g' := par m T xs) (fun j hj => rg_getD _ _ _ hj) (fun _ _ => rfl), ub_self]
        have hu3 : Gf.cs (fun i => bitAt (((List.range P).map (par m T xs)).getD · 0) i ^^ bitAt (par m T xs) i) (rr m T) = 0 := by
          have := (dst_ub (bytes := n) (P := P) (xs.getD · 0) (((List.range P).map (par m T xs)).getD · 0) (xs.getD · 0) (par m T xs) (show rr m T ≤ 8 * P by have := HPE.out; omega)).2
          omega
        obtain ⟨g3, cc3, g4, cc4, rfl, hx3, hx4⟩ := dec_known HP.out HPE.out xs HL.out HX.out (by rw [hu1, hu2]; have := HSZ.out; omega) hdr
        rw [hu1, hu3, Nat.add_zero]
        have HB6 := hid (HB3.out.comp (HBX.out.comp hb6))
        have hlen := (HOWN.out.kept (hb6.toGrown none) (by simp)).len Try.underlying54 3
        have k1 : (convert 35 9 (.slice (some ⟨g3, 0, none⟩) n cc3)).run Try.prog w6 = .ok (.string (sv xs)) w6 := conv_rd hx3
        have k2 : (convert 35 9 (.slice a n cap)).run Try.prog w6 = .ok (.string (sv xs)) w6 := conv_rd (HV.out.below HB6.out)
        generalize Maps.size D = S at *
        generalize sv xs = str1 at *
        clear hdr hb6 hx3 hx4 hu1 hu2 hu3 hpr hdl hql
        go_wp2_with fail
        go_ret
        exact ⟨by simp, HB6.out⟩
end Go.Proofs.Ytjompiihdnaogaa
