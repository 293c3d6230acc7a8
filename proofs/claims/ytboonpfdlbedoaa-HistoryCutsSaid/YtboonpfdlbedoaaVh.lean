/- Walks over firkinlaw19: HistoryCuts. -/
import Derived.Test.YtboonpfdlbedoaaVg
namespace Go.Proofs.Ytboonpfdlbedoaa.Qv
open Go Go.RowKit Go.Mem Go.Hs Go.Proofs Go.Proofs.Ytboonpfdlbedoaa
set_option linter.unusedVariables false

theorem tkn : TKn Try.prog 48 31 3 := ⟨Try.underlying48, Try.underlying31, Try.underlying3, fun w => by kernel_rfl⟩
abbrev KAt (w : World) (b : Nat) (S : List Nat) : Prop := KnAt Try.prog 31 3 w b S
/-- What is known behind I calls. -/
def knf (l : List HOp) : Nat → List Nat
  | 0 => [0]
  | I + 1 => ins (l.getD I HOp.zero).value (knf l I)
theorem knf_len (l : List HOp) : ∀ I, (knf l I).length ≤ I + 1
  | 0 => Nat.le_refl _
  | I + 1 => Nat.le_trans (ins_len _ _) (Nat.succ_le_succ (knf_len l I))
theorem knf_zero (l : List HOp) : ∀ I, 0 ∈ knf l I
  | 0 => by simp [knf]
  | I + 1 => mem_ins.2 (.inr (knf_zero l I))
theorem knf_in (l : List HOp) : ∀ {I j : Nat}, j < I → (l.getD j HOp.zero).value ∈ knf l I
  | 0, j, h => by omega
  | I + 1, j, h => by
    by_cases e : j = I
    · subst e; exact mem_ins.2 (.inl rfl)
    · exact mem_ins.2 (.inr (knf_in l (by omega)))
/-- Not nothing, and all of it known. -/
def ckP (S0 : List Nat) : Nat → List Nat → Prop := fun _ S => S ≠ [] ∧ ∀ x ∈ S, x ∈ S0
theorem ck_nx {S0 : List Nat} {i v : Nat} (h : v ∈ S0) : Nx (ckP S0) i v :=
  ⟨⟨by simp, fun x hx => by simp at hx; exact hx ▸ h⟩, fun S hS => show ins v S ≠ [] ∧ ∀ x ∈ ins v S, x ∈ S0 from ⟨fun e => absurd (show v ∈ ins v S from mem_ins.2 (.inl rfl)) (by rw [e]; simp), fun x hx => by rcases mem_ins.1 hx with rfl | hx; exact h; exact hS.2 x hx⟩⟩
theorem rising_lt {l : List Nat} (h : Rising l) {i : Nat} (hi : i + 1 < l.length) : l.getD i 0 < l.getD (i + 1) 0 := by
  rw [List.getD_eq_getElem?_getD, List.getD_eq_getElem?_getD, List.getElem?_eq_getElem (show i < l.length by omega), List.getElem?_eq_getElem hi]
  exact List.pairwise_iff_getElem.1 h i (i + 1) (by omega) hi (by omega)

theorem map_getD (S : List Nat) : (List.range S.length).map (S.getD · 0) = S := by
  apply List.ext_getElem?
  intro j
  rw [List.getElem?_map]
  by_cases hj : j < S.length
  · rw [List.getElem?_range hj, List.getElem?_eq_getElem hj]; simp [hj]
  · rw [List.getElem?_eq_none (by simpa using hj), List.getElem?_eq_none (by omega)]; rfl
set_option maxRecDepth 100000 in
set_option maxHeartbeats 12800000 in
theorem cuts_any (a : Option Addr) (len cap : Nat) (l : List HOp) (cuts : Int) (w : World) (h : OpR w a len cap l) (hC : (Lit.int .i64 cuts).wf = true) :
    Calls Try.prog 6 #[.slice a len cap, .int .i64 cuts] w fun e w' => e = .returned (.bool true) ∧ Below w.heap.size w w' := by
  have l0 : (len : Int) ≤ 9223372036854775807 := by have := h.2.1; have := h.2.2.1; unfold maxLen at this; omega
  have l1 : (len : Int) ≤ (cap : Int) := by have := h.2.1; omega
  have l2 : (cap : Int) ≤ 9223372036854775807 := by have := h.2.2.1; unfold maxLen at this; omega
  have HR := Lib.hid h
  have HFC := Lib.hid hC
  have hle1 := absH_le hC
  obtain ⟨ca, hca⟩ : ∃ ca, absH cuts = ca := ⟨_, rfl⟩
  rw [hca] at hle1
  have HCA := Lib.hid hca
  clear h hC hca
  have hmm := @run_makeMap Try.prog
  go_enter Try.func6, Try.ntmps6
  go_wp2_with fail
  refine (awakeH_any _).mono ?_
  rintro e w1 ⟨rfl, b1⟩
  have B1 := Lib.hid b1
  have hb1 : w.heap.size ≤ w1.heap.size := b1.size
  clear b1
  go_wp2_with fail
  refine (new_any 4 w1 (by omega) (by omega)).mono ?_
  rintro e w2 ⟨rfl, ⟨gl, gcap, bv, br, m2⟩, b2⟩
  obtain ⟨p, hp⟩ : ∃ p, w1.heap.size = p := ⟨_, rfl⟩
  rw [hp] at m2 b2 hb1 ⊢
  have M2 := Lib.hid m2
  have B2 := Lib.hid b2
  have HP := Lib.hid hp
  have hpb : p < w2.heap.size := lt_at m2.hp
  obtain ⟨es, c, r1, s1⟩ := kn_one tkn w2 (show 0 < 18446744073709551616 by omega)
  have r1' : (Instr.mapUpdate 48 (.map (some w2.heap.size)) (.int .u64 0) (.int .i64 1)).run Try.prog (w2.alloc (.map #[] 0)) = .ok () (w2.alloc (.map es c)) := r1
  have b3 : Below w2.heap.size w2 (w2.alloc (.map es c)) := (Below.refl _ _).alloc (Nat.le_refl _) _
  have S1 := Lib.hid s1
  have B3 := Lib.hid b3
  clear m2 b2 hp r1 s1 b3
  go_upto_block 0 with fail
  obtain ⟨b, hbE⟩ : ∃ b, w2.heap.size = b := ⟨_, rfl⟩
  obtain ⟨W3, hW3⟩ : ∃ W, w2.alloc (.map es c) = W := ⟨_, rfl⟩
  rw [hbE] at S1 B3 hpb ⊢
  rw [hW3] at S1 B3 ⊢
  have HBE := Lib.hid hbE
  have BW := Lib.hid (B1.out.trans ((B2.out.mono hb1).trans (B3.out.mono (show w.heap.size ≤ b by omega))))
  clear hbE hW3 r1' hmm
  obtain ⟨M, hM⟩ : ∃ M, min len 60 = M := ⟨_, rfl⟩
  have hM1 : M ≤ len ∧ M ≤ 60 ∧ (M = len ∨ M = 60) := by omega
  have HM1 := Lib.hid hM1
  clear hM hM1
  go_cut [] from 31 to 46 (fun wx => KAt wx b (knf l M) ∧ Below b W3 wx)
  case first =>
    go_wp2_with fail
    go_loopg [9] 60 (fun gk vi wr => ∃ I, I + gk = 60 ∧ I ≤ M ∧ vi = .int .i64 (I : Nat) ∧ KAt wr b (knf l I) ∧ Below b W3 wr)
    case atStart => exact ⟨0, rfl, Nat.zero_le _, rfl, S1.out, Below.refl _ _⟩
    case round =>
      obtain ⟨I, hI, hIM, rfl, hk, hb⟩ := hrel
      have HK := Lib.hid hk
      have HB := Lib.hid hb
      clear hk hb
      by_cases hlt : I < len ∧ I < 60
      · obtain ⟨hl1, hl2⟩ := hlt
        have i1 : (I : Int) < (len : Int) := by omega
        have i2 : (I : Int) < 60 := by omega
        have i0 : (0 : Int) ≤ (I : Int) := by omega
        obtain ⟨g, o, rfl, x1, x2, x3⟩ := ((HR.out.below (BW.out.trans (HB.out.mono (show w.heap.size ≤ b by omega)))).2.2.2.2 I hl1)
        have hfv := (fitR HR.out hl1).2.2
        obtain ⟨v0, hv0⟩ : ∃ v, (l.getD I HOp.zero).value = v := ⟨_, rfl⟩
        rw [hv0] at x3 hfv
        obtain ⟨es', c', u1, u2, u3⟩ := HK.out.upd tkn hfv (by have := knf_len l I; unfold maxLen; omega)
        obtain ⟨W4, hW4⟩ : ∃ W, ChangeMaps.setBlock wr b (.map es' c') = W := ⟨_, rfl⟩
        rw [hW4] at u1 u2 u3
        have U2 := Lib.hid (show KAt W4 b (knf l (I + 1)) from by unfold knf; rw [hv0]; exact u2)
        have U3 := Lib.hid (HB.out.trans (below_of_grown u3 (Nat.le_refl b) (Nat.le_of_lt HK.out.lt)))
        have HIM := Lib.hid (show I + 1 ≤ M from by have := HM1.out; omega)
        clear hW4 u2 u3 hv0 x1 x2
        go_wp2_with fail
        go_roundg (gk - 1)
        case measure => omega
        case rel => exact ⟨I + 1, by omega, HIM.out, by go_num, U2.out, U3.out⟩
      · have HIM := Lib.hid (show I = M from by have := HM1.out; omega)
        have hd : ¬ I < 60 ∨ ¬ I < len := by omega
        rcases hd with hd | hd
        · have i2 : ¬ (I : Int) < 60 := by omega
          by_cases hd2 : I < len
          · have i3 : (I : Int) < (len : Int) := by omega
            go_wp2_with (fail)
            go_meet
            exact ⟨HIM.out ▸ HK.out, HB.out⟩
          · have i3 : ¬ (I : Int) < (len : Int) := by omega
            go_wp2_with (fail)
            go_meet
            exact ⟨HIM.out ▸ HK.out, HB.out⟩
        · have i3 : ¬ (I : Int) < (len : Int) := by omega
          go_wp2_with (fail)
          go_meet
          exact ⟨HIM.out ▸ HK.out, HB.out⟩
  case rest =>
    obtain ⟨hk, hb⟩ := hcut
    obtain ⟨w3, rfl⟩ : ∃ W, W = wc := ⟨_, rfl⟩
    obtain ⟨K0, hK0⟩ : ∃ K, knf l M = K := ⟨_, rfl⟩
    have HKN := Lib.hid (show ∀ j, j < len → j < 60 → (l.getD j HOp.zero).value ∈ K0 from fun j h1 h2 => hK0 ▸ knf_in l (by have := HM1.out; omega))
    have H0K := Lib.hid (show 0 ∈ K0 from hK0 ▸ knf_zero l M)
    rw [hK0] at hk
    have HK := Lib.hid hk
    have hbs : b < w3.heap.size := hk.lt
    have HB3 := Lib.hid (B3.out.trans hb)
    have BW3 := Lib.hid (BW.out.trans (hb.mono (show w.heap.size ≤ b by omega)))
    obtain ⟨Q, hQ⟩ : ∃ Q : Nat → Prop, Q = fun j => p ≤ j ∧ j ≠ b := ⟨_, rfl⟩
    have HQN := Lib.hid (show ∀ j, j < p → ¬ Q j from fun j hj h => by rw [hQ] at h; have := h.1; omega)
    have HQB := Lib.hid (show ¬ Q b from fun h => by rw [hQ] at h; exact h.2 rfl)
    have m3 : MdAt Q w3 p 4 1 gl gcap bv br (fun _ => [0]) (fun _ => [0]) := MdAt.ofOld M2.out (by rw [HBE.out]; exact HB3.out) (fun j h1 h2 => by rw [HBE.out] at h2; rw [hQ]; exact ⟨h1, by omega⟩) (fun j h => by rw [hQ]; exact ⟨by omega, by omega⟩)
    have MP := Lib.hid (show MdP (ckP K0) Q w3 p 4 1 from ⟨_, _, _, _, _, _, m3, fun i hi => ⟨⟨by simp, fun x hx => by simp at hx; exact hx ▸ H0K.out⟩, ⟨by simp, fun x hx => by simp at hx; exact hx ▸ H0K.out⟩⟩⟩)
    clear hk hb m3 hQ hK0 M2
    go_wp2_with fail
    refine (run_any (P := ckP K0) a len cap l (-1) w w3 HR.out BW3.out (fun j hj => HQN.out j (by omega)) MP.out (by omega) (by omega) (fun i _ _ j hj1 hj2 => ck_nx (HKN.out j hj1 hj2))).mono ?_
    rintro e w4 ⟨rfl, m4, b4⟩
    have M4 := Lib.hid m4
    have B4 := Lib.hid b4
    clear m4 b4
    go_wp2_with fail
    refine (CutS.of (ckP K0) M4.out).mono ?_
    rintro e w5 ⟨rfl, ⟨R, m5, hR⟩, b5⟩
    have M5 := Lib.hid m5
    have B5 := Lib.hid (B4.out.trans b5)
    have HRR := Lib.hid hR
    clear m5 b5 hR
    obtain ⟨c4, hc4⟩ : ∃ c4 : Nat, (ca : Int) % 4 = (c4 : Nat) := ⟨ca % 4, by omega⟩
    have hc44 : c4 < 4 := by omega
    go_wp2_with fail
    go_loopg [10] 4 (fun gk vi wr => ∃ I, I + gk = 4 ∧ vi = .int .i64 (I : Nat) ∧ CutS Q wr p 61 R ∧ Off Q w3 wr)
    case atStart => exact ⟨0, rfl, rfl, M5.out, B5.out⟩
    case round =>
      clear M5 B5 M4 B4 MP
      obtain ⟨I, hI, rfl, hm, ho⟩ := hrel
      have HM := Lib.hid hm
      have HO := Lib.hid ho
      clear hm ho
      obtain ⟨V, rfl⟩ : ∃ V, V = gk := ⟨_, rfl⟩
      obtain ⟨wo, rfl⟩ : ∃ wo : World, wo = wr := ⟨_, rfl⟩
      by_cases hlt : I < 4
      · have i1 : (I : Int) < 4 := by omega
        obtain ⟨S, hS⟩ : ∃ S, R I = S := ⟨_, rfl⟩
        have hne : S ≠ [] := hS ▸ (HRR.out I hlt).1
        have HIN := Lib.hid (show ∀ x ∈ S, x ∈ K0 from hS ▸ (HRR.out I hlt).2)
        obtain ⟨q1, q2, q3⟩ := HM.out.sets hlt
        rw [hS] at q1 q2 q3
        have HSS := Lib.hid (And.intro q1 q2)
        have hn1 : 1 ≤ S.length := List.length_pos_iff.2 hne
        have MAY := Lib.hid (fun (Qx : Nat → Prop) wx (hx : CutS Qx wx p 61 R) => hx.may hlt (by rw [hS]; exact hne) (by omega))
        rw [hS] at MAY
        obtain ⟨n0, hn0⟩ : ∃ n, S.length = n := ⟨_, rfl⟩
        rw [hn0] at MAY hn1 q3
        have HN0 := Lib.hid hn0
        clear hS hne q1 q2 hn0
        go_wp2_with fail
        refine (MAY.out _ _ HM.out).mono ?_
        rintro e w6 ⟨g, cp, rfl, hg, how, hb6⟩
        obtain ⟨Q', hQ'⟩ : ∃ Q' : Nat → Prop, Q' = fun j => Q j ∧ j ≠ g := ⟨_, rfl⟩
        have hgl : g < w6.heap.size := how.lt
        have M6 := Lib.hid (show CutS Q' w6 p 61 R from HM.out.imp hb6 (fun j h1 h2 => by rw [hQ']; exact ⟨h2, by omega⟩) (fun j hj => by rw [hQ']; exact ⟨HM.out.up j (by have := hb6.size; omega), by omega⟩))
        have HOW := Lib.hid how
        have HQ' := Lib.hid (show (∀ j, Q' j → Q j) ∧ ¬ Q' g from ⟨fun j h => by rw [hQ'] at h; exact h.1, fun h => by rw [hQ'] at h; exact h.2 rfl⟩)
        have O6 := Lib.hid (HO.out.trans (Off.of_below hb6))
        have HUP := Lib.hid (show ∀ j, w6.heap.size ≤ j → Q j from fun j hj => HM.out.up j (by have := hb6.size; omega))
        have hcp : n0 ≤ cp ∧ cp ≤ maxLen := by obtain ⟨_, _, _, h1, h2, _⟩ := how; exact ⟨h1, h2⟩
        have k1 : (n0 : Int) ≤ (cp : Int) := by omega
        have k2 : (cp : Int) ≤ 9223372036854775807 := by have := hcp.2; unfold maxLen at this; omega
        clear how hb6 hg hQ' hcp HO HM
        go_upto_block 4 with fail
        go_cut [] from 59 to 67 (fun wx => CutS Q' wx p 61 R ∧ Off Q' w6 wx)
        case first =>
          go_wp2_with fail
          go_loopg [12] c4 (fun gk vi wr => ∃ J, J + gk = c4 ∧ vi = .int .i64 (J : Nat) ∧ CutS Q' wr p 61 R ∧ Off Q' w6 wr)
          case atStart => exact ⟨0, by omega, rfl, M6.out, Off.refl _ _⟩
          case round =>
            obtain ⟨J, hJ, rfl, hm, ho⟩ := hrel
            have HM := Lib.hid hm
            have HO := Lib.hid ho
            clear hm ho
            go_wp2_with fail
            refine (absH_any cuts wr HFC.out).mono ?_
            rintro e wq ⟨rfl, rfl⟩
            rw [HCA.out]
            by_cases hJc : J < c4
            · have j1 : (J : Int) < (c4 : Int) := by omega
              go_wp2_with fail
              refine (HM.out.cut).mono ?_
              rintro e w7 ⟨rfl, m7, o7⟩
              have M7 := Lib.hid m7
              have O7 := Lib.hid (HO.out.trans o7)
              clear m7 o7
              go_wp2_with fail
              go_roundg (gk - 1)
              case measure => omega
              case rel => exact ⟨J + 1, by omega, by go_num, M7.out, O7.out⟩
            · have j1 : ¬ (J : Int) < (c4 : Int) := by omega
              go_wp2_with fail
              go_meet
              exact ⟨HM.out, HO.out⟩
        case rest =>
          obtain ⟨m7, o7⟩ := hcut
          obtain ⟨w7, rfl⟩ : ∃ W, W = wc := ⟨_, rfl⟩
          have M7 := Lib.hid m7
          have OW7 := Lib.hid (HOW.out.same (o7.block g hgl HQ'.out.2))
          have O7 := Lib.hid (O6.out.trans (o7.imp (fun j _ h => HQ'.out.1 j h)))
          have hs67 := o7.size
          clear m7 o7 M6 HOW O6
          go_wp2_with fail
          refine (MAY.out _ _ M7.out).mono ?_
          rintro e w8 ⟨g2, cp2, rfl, hg2, how2, hb8⟩
          have HOW1 := Lib.hid (OW7.out.same (hb8.block g OW7.out.lt))
          have HOW2 := Lib.hid how2
          have B78 := Lib.hid hb8
          have hcp2 : n0 ≤ cp2 ∧ cp2 ≤ maxLen := by obtain ⟨_, _, _, h1, h2, _⟩ := how2; exact ⟨h1, h2⟩
          have k3 : (n0 : Int) ≤ (cp2 : Int) := by omega
          have k4 : (cp2 : Int) ≤ 9223372036854775807 := by have := hcp2.2; unfold maxLen at this; omega
          have rd1 := HOW1.out.rd
          have rd2 := how2.rd
          rw [← HN0.out, map_getD, HN0.out] at rd1 rd2
          have RD := Lib.hid (And.intro rd1 rd2)
          clear rd1 rd2 how2 hb8 hg2 hcp2
          go_wp2_with fail
          refine (rows_same _ _ S w8 RD.out.1 RD.out.2).mono ?_
          rintro e w9 ⟨rfl, hb9⟩
          have OW9 := Lib.hid (HOW2.out.same (hb9.block g2 HOW2.out.lt))
          have B79 := Lib.hid (B78.out.trans (hb9.mono B78.out.size))
          have O9 := Lib.hid (O7.out.trans (Off.of_below B79.out))
          have e0 : ((n0 : Int) == 0) = false := beq_eq_false_iff_ne.2 (by omega)
          clear hb9
          go_wp2_with fail
          go_loopg [15] n0 (fun gk vi wr => ∃ k, k + gk = n0 ∧ vi = .int .i64 (k : Nat) ∧ Below w9.heap.size w9 wr)
          case atStart => exact ⟨0, by omega, rfl, Below.refl _ _⟩
          case round =>
            obtain ⟨k, hk, rfl, hb⟩ := hrel
            have HB := Lib.hid hb
            by_cases hkn : k < n0
            · have y1 : (k : Int) < (n0 : Int) := by omega
              have y0 : (0 : Int) ≤ (k : Int) := by omega
              have hwr := OW9.out.same (hb.block g2 OW9.out.lt)
              have x1 := hwr.cell (j := k) hkn
              obtain ⟨x, hx⟩ : ∃ x, S.getD k 0 = x := ⟨_, rfl⟩
              have hxS : x ∈ S := by rw [← hx]; exact getD_mem (by rw [HN0.out]; exact hkn)
              have hx64 := HSS.out.2 x hxS
              have hkat : KAt wr b K0 := (HK.out.same ((hb.block b (Nat.lt_of_lt_of_le hbs O9.out.size)).trans (O9.out.block b hbs HQB.out)))
              have lk := fun n => (show KAt (wr.drewN n) b K0 from hkat.same rfl).look tkn hx64
              rw [if_pos (HIN.out x hxS)] at lk
              rw [hx] at x1
              clear hxS hkat hb
              by_cases hk0 : k = 0
              · clear hwr hx
                subst hk0
                rw [show ((0 : Nat) : Int) = 0 from rfl]
                go_wp2_with fail
                go_quiet (fail)
                go_wp2_with fail
                go_roundg (gk - 1)
                case measure => omega
                case rel => exact ⟨0 + 1, by omega, by go_num, HB.out.drewN _⟩
              · have y2 : (0 : Int) < (k : Int) := by omega
                have y5 : 0 < k := by omega
                obtain ⟨k1, hk1⟩ : ∃ k1, k - 1 = k1 := ⟨_, rfl⟩
                have hk1i : (k : Int) - 1 = (k1 : Nat) := by omega
                have hk1n : (k1 : Int) < (n0 : Int) := by omega
                have x2 := hwr.cell (j := k1) (by omega)
                obtain ⟨y, hy⟩ : ∃ y, S.getD k1 0 = y := ⟨_, rfl⟩
                have hyx : y < x := by
                  have := rising_lt HSS.out.1 (i := k1) (by rw [HN0.out]; omega)
                  rw [show k1 + 1 = k by omega, hx, hy] at this
                  exact this
                have y3 : ¬ (x : Int) ≤ (y : Int) := by omega
                rw [hy] at x2
                clear hwr hx hy hyx hk0 hk1
                go_wp2_with fail
                go_quiet (fail)
                go_wp2_with fail
                go_roundg (gk - 1)
                case measure => omega
                case rel => exact ⟨k + 1, by omega, by go_num, HB.out.drewN _⟩
            · have y1 : ¬ (k : Int) < (n0 : Int) := by omega
              have B7r := Lib.hid (B79.out.trans (hb.mono B79.out.size))
              have ORR := Lib.hid (O7.out.trans (Off.of_below B7r.out))
              clear hb
              go_wp2_with fail
              go_roundg (V - 1)
              case measure => omega
              case rel => exact ⟨I + 1, by omega, by go_num, M7.out.imp B7r.out (fun j _ h => HQ'.out.1 j h) (fun j hj => HUP.out j (by have := B7r.out.size; omega)), ORR.out⟩
      · have i1 : ¬ (I : Int) < 4 := by omega
        go_wp2_with fail
        go_ret
        exact ⟨rfl, BW3.out.trans (HO.out.below (by have := BW3.out.size; omega) (fun j hj => HQN.out j (by omega)))⟩
end Go.Proofs.Ytboonpfdlbedoaa.Qv
