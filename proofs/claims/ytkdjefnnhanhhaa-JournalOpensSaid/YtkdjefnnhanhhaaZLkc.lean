/- Walks over the journal's laws: JournalOpens. -/
import Derived.Test.YtkdjefnnhanhhaaZLkb
import Derived.Test.YtkdjefnnhanhhaaUy
set_option linter.unusedVariables false
namespace Go.Proofs.Ytkdjefnnhanhhaa
open Go Go.RowKit Go.Mem Go.Jn
set_option linter.unusedVariables false

section
variable {Q : Nat → Prop} {w : World} {T K S ck cs : Nat} {t : Tp} {ka sa : Option Addr} {kv sv : Nat → Value}
/-- A byte of a block that is kept turns. -/
theorem RwQ.poke {v : Value} {xs : List Nat} (h : RwQ Q w v xs) {g k y : Nat} {cur : Array Value} (hg : w.heap[g]? = some (.cells cur 5 (0, 0))) (hy : y < 256) (hx : ∀ z ∈ xs, z < 256) : ∃ ys, RwQ Q (w.setCell ⟨g, k, none⟩ (.int .u8 (y : Nat))) v ys ∧ ys.length = xs.length ∧ ∀ z ∈ ys, z < 256 := by
  obtain ⟨g', cap, cur', h1, h2, h3, h4, h5, h6⟩ := h
  by_cases e : g' = g
  · subst e
    rw [hg] at h3
    cases h3
    refine ⟨xs.set k y, ⟨g', cap, _, by rw [List.length_set]; exact h1, h2, set_at hg k _, by rw [List.length_set]; exact h4, h5, fun j hj => ?_⟩, List.length_set, fun z hz => ?_⟩
    · rw [List.length_set] at hj
      rw [Array.getElem?_setIfInBounds]
      by_cases ek : k = j
      · subst ek
        have := h6 k hj
        rw [if_pos rfl, if_pos (Array.getElem?_eq_some_iff.1 this).1]
        simp [List.getD, hj]
      · rw [if_neg ek, h6 j hj]
        simp [List.getD, ek]
    · rcases List.mem_or_eq_of_mem_set hz with h | h
      · exact hx z h
      · rw [h]; exact hy
  · exact ⟨xs, ⟨g', cap, cur', h1, h2, (set_other (a := ⟨g, k, none⟩) e).trans h3, h4, h5, h6⟩, rfl, hx⟩
theorem TpC.poke (h : TpC Q w T t ka sa K S ck cs kv sv) (hc : Clean t) {g k y : Nat} {cur : Array Value} (hg : w.heap[g]? = some (.cells cur 5 (0, 0))) (hy : y < 256) :
    ∃ t', TpC Q (w.setCell ⟨g, k, none⟩ (.int .u8 (y : Nat))) T t' ka sa K S ck cs kv sv ∧ Clean t' ∧ t'.nb = t.nb ∧ t'.size = t.size ∧ t'.ops = t.ops ∧ t'.off = t.off ∧ t'.cut = t.cut := by
  have keep : ∀ (j : Nat) (cu : Array Value) (tt : TypeId) (fz : Nat × Nat), w.heap[j]? = some (Obj.cells cu tt fz) → tt ≠ 5 → (w.setCell ⟨g, k, none⟩ (.int .u8 (y : Nat))).heap[j]? = some (Obj.cells cu tt fz) := fun j cu tt fz hj hne => (set_other (a := ⟨g, k, none⟩) (ty_ne hj hg hne)).trans hj
  have each : ∀ i, ∃ ys, i < t.nb → RwQ Q (w.setCell ⟨g, k, none⟩ (.int .u8 (y : Nat))) (kv i) ys ∧ ys.length = t.size ∧ ∀ z ∈ ys, z < 256 := fun i => by
    by_cases hi : i < t.nb
    · obtain ⟨ys, k1, k2, k3⟩ := (h.rk i hi).poke (k := k) hg hy (h.fk i hi).2
      exact ⟨ys, fun _ => ⟨k1, k2.trans (h.fk i hi).1, k3⟩⟩
    · exact ⟨[], fun h' => absurd h' hi⟩
  refine ⟨{ t with kept := fun i => Classical.choose (each i) }, ?_, hc, rfl, rfl, rfl, rfl, rfl⟩
  exact {
    hp := keep _ _ _ _ h.hp (by decide)
    ha := h.ha
    hc := h.hc
    hk := fun h0 => by obtain ⟨cur, h1, h2⟩ := h.hk h0; exact ⟨cur, keep _ _ _ _ h1 (by decide), h2⟩
    hs := fun h0 => by obtain ⟨cur, h1, h2⟩ := h.hs h0; exact ⟨cur, keep _ _ _ _ h1 (by decide), h2⟩
    rk := fun i hi => (Classical.choose_spec (each i) hi).1
    rs := fun i hi => by
      have he : t.since i = [] := hc i hi
      obtain ⟨vs, h1, h2, h3⟩ := h.rs i hi
      refine ⟨vs, orow_same h1 (fun j cu _ hh => keep j _ _ _ hh (by decide)), h2, fun j hj => ?_⟩
      rw [show ({ t with kept := fun i => Classical.choose (each i) } : Tp).since i = t.since i from rfl, he] at hj
      simp at hj
    dj := h.dj
    q := h.q
    ln := h.ln
    up := fun j hj => h.up j (by simpa using hj)
    fk := fun i hi => (Classical.choose_spec (each i) hi).2
    fs := h.fs }
end
theorem TpC.at {Q : Nat → Prop} {w : World} {T K S ck cs : Nat} {t : Tp} {ka sa : Option Addr} {kv sv : Nat → Value} (h : TpC Q w T t ka sa K S ck cs kv sv) : TapeAt Q w T t := ⟨ka, sa, K, S, ck, cs, kv, sv, h⟩
theorem mem_getD {α : Type} (l : List α) (d : α) {j : Nat} (h : j < l.length) : l.getD j d ∈ l := by
  rw [List.getD, List.getElem?_eq_getElem h]; simp
structure Op3 (w wr : World) (T nb sz : Nat) (ka sa : Option Addr) (K S ck cs : Nat) (kv sv : Nat → Value) : Prop where
  mk' ::
  h : ∃ t : Tp, TpC (fun j => T ≤ j) wr T t ka sa K S ck cs kv sv ∧ Clean t ∧ t.nb = nb ∧ t.size = sz ∧ t.ops = 0 ∧ t.off = false ∧ t.cut = -1
  b : Below w.heap.size w wr
theorem Op3.mk {w wr : World} {T nb sz : Nat} {ka sa : Option Addr} {K S ck cs : Nat} {kv sv : Nat → Value} (t : Tp) (h : TpC (fun j => T ≤ j) wr T t ka sa K S ck cs kv sv) (hc : Clean t) (h1 : t.nb = nb) (h2 : t.size = sz) (h3 : t.ops = 0) (h4 : t.off = false) (h5 : t.cut = -1) (hb : Below w.heap.size w wr) : Op3 w wr T nb sz ka sa K S ck cs kv sv :=
  ⟨⟨t, h, hc, h1, h2, h3, h4, h5⟩, hb⟩
theorem Op3.poke {w wr : World} {T nb sz : Nat} {ka sa : Option Addr} {K S ck cs : Nat} {kv sv : Nat → Value} (h : Op3 w wr T nb sz ka sa K S ck cs kv sv) (hT : w.heap.size ≤ T) {g k y : Nat} {cur : Array Value} (hg : wr.heap[g]? = some (.cells cur 5 (0, 0))) (hy : y < 256) (hq : T ≤ g) : Op3 w (wr.setCell ⟨g, k, none⟩ (.int .u8 (y : Nat))) T nb sz ka sa K S ck cs kv sv := by
  obtain ⟨⟨t, k1, k2, k3, k4, k5, k6, k7⟩, hb⟩ := h
  obtain ⟨t', z1, z2, z3, z4, z5, z6, z7⟩ := k1.poke k2 (k := k) hg hy
  exact ⟨⟨t', z1, z2, z3.trans k3, z4.trans k4, z5.trans k5, z6.trans k6, z7.trans k7⟩, hb.setCell (p := ⟨g, k, none⟩) (by show _ ≤ g; omega) _⟩
theorem Op3.drew {w wr : World} {T nb sz : Nat} {ka sa : Option Addr} {K S ck cs : Nat} {kv sv : Nat → Value} {g k : Nat} {v : Value} (h : Op3 w (wr.setCell ⟨g, k, none⟩ v) T nb sz ka sa K S ck cs kv sv) (n : Nat) : Op3 w ((wr.drewN n).setCell ⟨g, k, none⟩ v) T nb sz ka sa K S ck cs kv sv := by
  obtain ⟨⟨t, k1, k2⟩, hb⟩ := h
  exact ⟨⟨t, k1.below (Below.drewN (Below.refl _ _) n), k2⟩, Below.drewN hb n⟩
set_option maxRecDepth 100000 in
set_option maxHeartbeats 6400000 in
theorem journalOpens_walk (rv : Value) (rows : List (List Nat)) (nz bz : Int) (w : World) (hr : RB w rv rows) (hrx : ∀ r ∈ rows, ∀ y ∈ r, y < 256) (h1 : (Lit.int .i64 nz).wf = true) (h2 : (Lit.int .i64 bz).wf = true) :
    Calls Try.prog 3 #[rv, .int .i64 nz, .int .i64 bz] w fun e w' => e = .returned (.bool true) ∧ Below w.heap.size w w' := by
  have HR := hid hr
  have HRX := hid hrx
  obtain ⟨ar, cr, rfl, hr1, hr2, _⟩ := hr
  have q1 : (rows.length : Int) ≤ (cr : Int) := by omega
  have q2 : (cr : Int) ≤ 9223372036854775807 := by unfold maxLen at hr2; omega
  obtain ⟨rn, hrn⟩ : ∃ n, rows.length = n := ⟨_, rfl⟩
  have HRN := hid hrn
  rw [hrn] at q1 HR ⊢
  have A1 := hid (labs_any nz · h1)
  have A2 := hid (labs_any bz · h2)
  obtain ⟨n0, hn0⟩ : ∃ n, absN' nz = n := ⟨_, rfl⟩
  obtain ⟨b0, hb0⟩ : ∃ n, absN' bz = n := ⟨_, rfl⟩
  rw [hn0] at A1
  rw [hb0] at A2
  obtain ⟨nb, hnb⟩ : ∃ n, n0 % 14 = n := ⟨_, rfl⟩
  obtain ⟨sz, hsz⟩ : ∃ n, b0 % 260 = n := ⟨_, rfl⟩
  have m1 : (n0 : Int) % 14 = (nb : Int) := by omega
  have m2 : (b0 : Int) % 260 = (sz : Int) := by omega
  have m1' : (n0 : Int).tmod 14 = (nb : Int) := by rw [← hnb]; rfl
  have m2' : (b0 : Int).tmod 260 = (sz : Int) := by rw [← hsz]; rfl
  have hnbl : nb < 14 := by omega
  have hszl : sz < 260 := by omega
  clear hr1 hr2 h1 h2 hrn hn0 hb0 hnb hsz hrx
  go_enter Try.func3, Try.ntmps3
  go_wp2_with fail
  refine (jawake_any w).mono ?_
  rintro e w1 ⟨rfl, hb1⟩
  have HB1 := hid hb1
  clear hb1
  go_wp2_with fail
  refine (A1.out w1).mono ?_
  rintro e w2 ⟨rfl, rfl⟩
  go_wp2_with fail
  refine (A2.out w1).mono ?_
  rintro e w2 ⟨rfl, rfl⟩
  go_wp2_with fail
  refine (tnew_any nb sz (by omega) (by omega) w1).mono ?_
  rintro e w2 ⟨rfl, hT, hb2⟩
  obtain ⟨T, hTe⟩ : ∃ T, w1.heap.size = T := ⟨_, rfl⟩
  have HB2 := hid (HB1.out.trans (hb2.mono HB1.out.size))
  have hTw : w.heap.size ≤ T := by rw [← hTe]; exact HB1.out.size
  rw [hTe] at hT ⊢
  obtain ⟨ka, sa, K, S, ck, cs, kv, sv, hTC⟩ := hT
  have HTC := hid hTC
  clear hTC hb2
  have H0 := hid (Op3.mk (tp0 nb sz) HTC.out (fun i _ => rfl) rfl rfl rfl rfl rfl HB2.out : Op3 w w2 T nb sz ka sa K S ck cs kv sv)
  have HTW := hid hTw
  clear HTC HB1 HB2 hTe hTw
  go_wp2_with fail
  go_loopg [11] nb (fun gk vi wr => ∃ I : Nat, I + gk = nb ∧ vi = .int .i64 (I : Nat) ∧ Op3 w wr T nb sz ka sa K S ck cs kv sv)
  case atStart => exact ⟨0, by omega, rfl, H0.out⟩
  case round =>
    obtain ⟨I, hI, rfl, h1⟩ := hrel
    have H1 := hid h1
    clear h1 H0
    by_cases hlt : I < nb ∧ I < rn
    · have i1 : (I : Int) < (nb : Int) := by omega
      have i2 : (I : Int) < (rn : Int) := by omega
      obtain ⟨gO, rfl⟩ : ∃ g, g = gk := ⟨_, rfl⟩
      obtain ⟨wO, rfl⟩ : ∃ g, g = wr := ⟨_, rfl⟩
      obtain ⟨zl, hzl⟩ : ∃ n, (rows.getD I []).length = n := ⟨_, rfl⟩
      have HZL := hid hzl
      go_wp2_with fail
      go_loopg [12] sz (fun gk vk wr => ∃ k : Nat, k + gk = sz ∧ vk = .int .i64 (k : Nat) ∧ Op3 w wr T nb sz ka sa K S ck cs kv sv)
      case atStart => exact ⟨0, by omega, rfl, H1.out⟩
      case round =>
        obtain ⟨k, hk, rfl, h1⟩ := hrel
        have H2 := hid h1
        clear h1 H1
        obtain ⟨_, _, e9, _, _, hce⟩ := HR.out.below H2.out.b
        obtain ⟨g9, o9, u9, e8, hcz, hu⟩ := hce I (by rw [HRN.out]; exact hlt.2)
        simp only [Value.slice.injEq] at e9
        obtain ⟨rfl, hdrop, rfl⟩ := e9
        clear hdrop
        subst e8
        obtain ⟨au, cu, rfl, hu1, hu2, hu3⟩ := hu
        rw [HZL.out] at hcz hu1 hu3
        have hzb : (zl : Int) ≤ 9223372036854775807 := by unfold maxLen at hu2; omega
        clear hce hu2
        by_cases hkl : k < sz ∧ k < zl
        · obtain ⟨ga, oa, rfl, hcy⟩ := hu3 k hkl.2
          obtain ⟨t, hTC, hCl, hn, hz, ho, hoff, hcut⟩ := H2.out.h
          have hTI : I < t.nb := by rw [hn]; exact hlt.1
          obtain ⟨rfl, rfl⟩ : ka = some ⟨K, 0, none⟩ ∧ sa = some ⟨S, 0, none⟩ := by
            rcases hTC.ha with h | h
            · omega
            · exact h
          have c1 := hTC.c1
          rw [hn] at c1
          have kc := hTC.kc hTI
          obtain ⟨gk9, ck9, cur9, hv9, hq9, hh9, hl9, _, hat9⟩ := hTC.rk I hTI
          rw [hv9, (hTC.fk I hTI).1, hz] at kc
          have hf9 := free_at hh9 k
          have hcc9 := (cell_at hh9 k).trans (hat9 k (by rw [(hTC.fk I hTI).1, hz]; exact hkl.1))
          obtain ⟨y9, hy9⟩ : ∃ y, (t.kept I).getD k 0 = y := ⟨_, rfl⟩
          rw [hy9] at hcc9
          obtain ⟨y, hy⟩ : ∃ y, (rows.getD I []).getD k 0 = y := ⟨_, rfl⟩
          rw [hy] at hcy
          have hyb : y < 256 := by
            rw [← hy]
            exact HRX.out _ (mem_getD _ _ (by rw [HRN.out]; exact hlt.2)) _ (mem_getD _ _ (by rw [HZL.out]; exact hkl.2))
          have k1 : (k : Int) < (sz : Int) := by omega
          have k2 : (k : Int) < (zl : Int) := by omega
          have HP := hid (H2.out.poke (k := k) HTW.out hh9 hyb hq9)
          have w1 : IntKind.i64.wrap ((k : Int) + 1) = (k : Int) + 1 := IntWalk.i64_in _ ⟨by omega, by omega⟩
          clear hu3 hTC hCl hn hz ho hoff hcut hv9 hq9 hh9 hl9 hTI hy hat9 hy9
          go_upto_region 13 with (fail)
          refine wp_region_quiet_tail 16 (by kernel_rfl) (by kernel_rfl) ?_
          simp only [List.take_succ_cons, List.take_zero, List.drop_succ_cons, List.drop_zero]
          repeat (go_big_quiet_step (fail))
          refine wpQuiet_nil ?_
          intro _ hw'
          obtain ⟨nq, hw''⟩ := hw'
          subst hw''
          go_wp2_with fail
          go_roundg (gk - 1)
          case measure => omega
          case rel => exact ⟨k + 1, by omega, by go_num, HP.out.drew nq⟩
        · have fin : k = sz ∨ ¬ (k : Int) < (zl : Int) := by omega
          have w1 : IntKind.i64.wrap ((I : Int) + 1) = (I : Int) + 1 := IntWalk.i64_in _ ⟨by omega, by omega⟩
          clear hu3
          by_cases hks : k < sz
          · have k1 : (k : Int) < (sz : Int) := by omega
            have k2 : ¬ (k : Int) < (zl : Int) := by omega
            go_wp2_with fail
            go_roundg (gO - 1)
            case measure => omega
            case rel => exact ⟨I + 1, by omega, by go_num, H2.out⟩
          · have k1 : ¬ (k : Int) < (sz : Int) := by omega
            go_wp2_with fail
            go_roundg (gO - 1)
            case measure => omega
            case rel => exact ⟨I + 1, by omega, by go_num, H2.out⟩
    · have hh : (¬ (I : Int) < (nb : Int)) ∨ ((I : Int) < (nb : Int) ∧ ¬ (I : Int) < (rn : Int)) := by omega
      obtain ⟨t, hTC, hCl, hn, hz, ho, hoff, hcut⟩ := H1.out.h
      obtain ⟨wA, rfl⟩ : ∃ V, V = wr := ⟨_, rfl⟩
      by_cases hsm : nb < 8 ∨ sz < 128
      · have HOS := hid (open_small hTC.at (by rw [hn, hz]; exact hsm) (by omega) (by omega))
        unfold ifT at HOS
        have hh2 : ((nb : Int) < 8) ∨ (¬ (nb : Int) < 8 ∧ (sz : Int) < 128) := by omega
        clear hTC
        rcases hh with hh | ⟨hh, hh3⟩
        all_goals (
          rcases hh2 with hh2 | ⟨hh2, hh4⟩
          all_goals (
            go_wp2_with fail
            refine HOS.out.mono ?_
            rintro e w4 ⟨rfl, rfl⟩
            go_wp2_with fail
            go_ret
            exact ⟨rfl, H1.out.b⟩))
      · have HOP := hid (open_any hTC.at ⟨by omega, by omega, by omega, by omega⟩ (by omega) hoff hcut)
        unfold ifT at HOP
        have hh2 : ¬ (nb : Int) < 8 := by omega
        have hh4 : ¬ (sz : Int) < 128 := by omega
        have HCL := hid hCl
        have HN := hid hn
        have hTl := lt_at hTC.hp
        have hwA : w.heap.size ≤ wA.heap.size := H1.out.b.size
        clear hTC hCl hn hz ho hoff hcut
        rcases hh with hh | ⟨hh, hh3⟩
        all_goals (
          go_wp2_with fail
          refine HOP.out.mono ?_
          rintro e w4 ⟨J, rfl, hJ, ⟨hT4, _⟩, hF⟩
          obtain ⟨ka4, sa4, K4, S4, ck4, cs4, kv4, sv4, hC4⟩ := hT4
          have HC4 := hid hC4
          have HB4 := hid (H1.out.b.trans (hF.below (B := w.heap.size) hwA (fun j hj h => by have := HTW.out; omega)))
          have c2 := hC4.c2
          rw [show (t.stepN t.nb).nb = nb from HN.out] at c2
          clear hC4 hF hJ H1
          go_wp2_with fail
          go_loopg [15] nb (fun gk vi wr => ∃ I : Nat, I + gk = nb ∧ vi = .int .i64 (I : Nat) ∧ wr = w4)
          case atStart => exact ⟨0, by omega, rfl, rfl⟩
          case round =>
            obtain ⟨M, hM, rfl, rfl⟩ := hrel
            by_cases hlt : M < nb
            · have i1 : (M : Int) < (nb : Int) := by omega
              have hMt : M < (t.stepN t.nb).nb := by show M < t.nb; rw [HN.out]; exact hlt
              obtain ⟨rfl, rfl⟩ : ka4 = some ⟨K4, 0, none⟩ ∧ sa4 = some ⟨S4, 0, none⟩ := by
                rcases HC4.out.ha with h | h
                · omega
                · exact h
              have sc := HC4.out.sc hMt
              obtain ⟨asv, caps, hsv, _, _⟩ := (HC4.out.rs M hMt).form
              rw [hsv, show (t.stepN t.nb).since M = [] from HCL.out M (by rw [HN.out]; exact hlt)] at sc
              rw [List.length_nil] at sc
              have w1 : IntKind.i64.wrap ((M : Int) + 1) = (M : Int) + 1 := IntWalk.i64_in _ ⟨by omega, by omega⟩
              clear hsv
              go_wp2_with fail
              go_roundg (gk - 1)
              case measure => omega
              case rel => exact ⟨M + 1, by omega, by go_num, rfl⟩
            · have i1 : ¬ (M : Int) < (nb : Int) := by omega
              go_wp2_with fail
              refine (open_nil _).mono ?_
              rintro e w5 ⟨rfl, rfl⟩
              go_wp2_with fail
              go_ret
              exact ⟨rfl, HB4.out⟩)
end Go.Proofs.Ytkdjefnnhanhhaa
