/- Walks over slices: breakPatternsOrdered at numbers: some other order of the same numbers. -/
import Derived.Test.YtkdjefnnhanhhaaUl
import Derived.Test.YtkdjefnnhanhhaaZSm
import Derived.Sort.AssemblyPlain
set_option linter.unusedVariables false
namespace Go.Proofs.Ytkdjefnnhanhhaa
open Go Go.RowKit Go.Mem Go.Sort
set_option linter.unusedVariables false

theorem grow_box {w w1 w2 : World} {g q : Nat} (h1 : w.grownBy w1 (some g)) (h2 : w1.grownBy w2 (some q)) (hq : w.heap.size ≤ q) : w.grownBy w2 (some g) :=
  ⟨h2.os.trans h1.os, h2.tape.trans h1.tape, h2.output.trans h1.output, Nat.le_trans h1.size h2.size, fun j hj hne => (h2.block j (Nat.lt_of_lt_of_le hj h1.size) (fun e => by cases e; omega)).trans (h1.block j hj hne)⟩
set_option maxRecDepth 1000000 in
set_option maxHeartbeats 12800000 in
theorem bp_any (g cap a b : Nat) (d : Array Nat) (w : World) (h : RwU w g cap d) (hab : a + 8 ≤ b) (hb : b ≤ d.size) (hsz : d.size ≤ 60000) :
    Calls Try.prog 63 #[.slice (some ⟨g, 0, none⟩) d.size cap, .int .i64 (a : Nat), .int .i64 (b : Nat)] w fun e w' => e = .returned (.tuple #[]) ∧ ∃ d', RwU w' g cap d' ∧ PermIn a b d d' ∧ w.grownBy w' (some g) := by
  obtain ⟨N, hN⟩ : ∃ N, d.size = N := ⟨_, rfl⟩
  have hca : N ≤ cap ∧ cap ≤ maxLen := by obtain ⟨_, _, _, h1, h2, _⟩ := h; exact ⟨by omega, h2⟩
  have hc1 : (N : Int) ≤ (cap : Int) := by omega
  have hc2 : (cap : Int) ≤ 9223372036854775807 := by have := hca.2; unfold maxLen at this; omega
  have HGL := Lib.hid h.lt
  have HN := Lib.hid hN
  rw [hN] at hb hsz ⊢
  have HBN := Lib.hid hb
  obtain ⟨L, hL⟩ : ∃ L, b - a = L := ⟨_, rfl⟩
  have hL3 : (b : Int) - (a : Int) = (L : Nat) := by omega
  have hL8 : (8 : Int) ≤ (L : Int) := by omega
  obtain ⟨t, ht⟩ : ∃ t, L / 4 = t := ⟨_, rfl⟩
  have ht1 : (L : Int) / 4 = (t : Nat) := by omega
  obtain ⟨j, hj⟩ : ∃ j, a + t * 2 = j := ⟨_, rfl⟩
  have hj1 : (a : Int) + (t : Int) * 2 = (j : Nat) := by omega
  obtain ⟨I0, hI0⟩ : ∃ I0, j - 1 = I0 := ⟨_, rfl⟩
  have hI1 : (j : Int) - 1 = (I0 : Nat) := by omega
  obtain ⟨T2, hT2⟩ : ∃ T2, I0 + 3 = T2 := ⟨_, rfl⟩
  obtain ⟨M, hM⟩ : ∃ M, 1 <<< bitsLen L = M := ⟨_, rfl⟩
  have hM1 : 1 ≤ M := by rw [← hM, Nat.one_shiftLeft]; exact Nat.two_pow_pos _
  have hM2 : M ≤ 2 * L := by rw [← hM, Nat.one_shiftLeft]; exact two_pow_bitsLen_le (by omega)
  have NP := Lib.hid (fun w => nextPow_any L w (by omega))
  rw [hM] at NP
  have hbox : (w.alloc (.cells #[.int .u64 (L : Nat)] 123)).heap[w.heap.size]? = some (.cells #[.int .u64 (L : Nat)] 123 (0, 0)) := alloc_new w _
  have hr : RwU (w.alloc (.cells #[.int .u64 (L : Nat)] 123)) g cap d := Ow.same h (((Below.refl w.heap.size w).alloc (Nat.le_refl _) _).block g h.lt)
  have HBX := Lib.hid hbox
  have HR := Lib.hid hr
  have HGR := Lib.hid (show w.grownBy (w.alloc (.cells #[.int .u64 (L : Nat)] 123)) (some g) from (((Below.refl w.heap.size w).alloc (Nat.le_refl _) _)).toGrown _)
  have wL : IntKind.u64.wrap (L : Int) = (L : Int) := by rw [IntKind.wrap_u64]; omega
  clear hbox hr h hN hM hca
  go_enter Try.func63, Try.ntmps63
  go_wp2_with fail
  refine (NP.out _).mono ?_
  rintro e w1 ⟨rfl, rfl⟩
  obtain ⟨W0, hW0⟩ : ∃ W0, w.alloc (.cells #[.int .u64 (L : Nat)] 123) = W0 := ⟨_, rfl⟩
  rw [hW0] at HBX HR HGR ⊢
  clear hW0
  go_wp2_with fail
  go_loopg [9] 3 (fun gk vi wr => ∃ (i X : Nat) (dk : Array Nat), gk = T2 - i ∧ I0 ≤ i ∧ i ≤ T2 ∧ vi = .int .i64 (i : Nat) ∧ X < 18446744073709551616 ∧ wr.heap[w.heap.size]? = some (.cells #[.int .u64 (X : Nat)] 123 (0, 0)) ∧ dk.size = N ∧ RwU wr g cap dk ∧ w.grownBy wr (some g) ∧ PermIn a b d dk)
  case atStart => exact ⟨I0, L, d, by omega, Nat.le_refl _, by omega, rfl, by omega, HBX.out, HN.out, HR.out, HGR.out, permIn_refl d a b⟩
  case round =>
    obtain ⟨i, X, dk, rfl, hi1, hi2, rfl, hX, hx, hsk, hrk, hgk, hp⟩ := hrel
    have HSK := Lib.hid hsk
    have HRK := Lib.hid hrk
    have HGK := Lib.hid hgk
    have HP := Lib.hid hp
    have HX := Lib.hid hx
    obtain ⟨Y, hY⟩ : ∃ Y, xorNextN X = Y := ⟨_, rfl⟩
    have hY2 : Y < 18446744073709551616 := by rw [← hY]; exact xorNextN_lt X hX
    have NX := Lib.hid (next_any w.heap.size X wr hX hx)
    rw [hY] at NX
    have HY := Lib.hid hY2
    clear hsk hrk hgk hp hx hY hX
    by_cases hlt : i < T2
    · have i1 : (i : Int) ≤ (j : Int) + 1 := by omega
      obtain ⟨O, hO⟩ : ∃ O : Nat, O = Y &&& (M - 1) := ⟨_, rfl⟩
      have lO : O ≤ M - 1 := by rw [hO]; exact Nat.and_le_right
      have eAnd : bits .and .u64 (Y : Int) ((M : Int) - 1) = (O : Int) := by
        rw [show ((M : Int) - 1) = ((M - 1 : Nat) : Int) by omega, bits_and_u64_nat _ _ hY2 (by omega), hO]
      clear hO
      by_cases hOL : L ≤ O
      · have o1 : (L : Int) ≤ (O : Int) := by omega
        obtain ⟨o, ho⟩ : ∃ o, O - L = o := ⟨_, rfl⟩
        have o2 : (O : Int) - (L : Int) = (o : Nat) := by omega
        go_wp2_with fail
        refine NX.out.mono ?_
        rintro e w2 ⟨rfl, rfl⟩
        obtain ⟨W2, hW2⟩ : ∃ W2, (wr.setCell ⟨w.heap.size, 0, none⟩ (.int .u64 (Y : Nat))).drewN 3 = W2 := ⟨_, rfl⟩
        have gbx : wr.grownBy W2 (some w.heap.size) := hW2 ▸ grow_tr (grown_set wr w.heap.size 0 _) (grow_drewN _ 3 _)
        have HG2 := Lib.hid (grow_box HGK.out gbx (Nat.le_refl _))
        have HR2 := Lib.hid (show RwU W2 g cap dk from HRK.out.grown gbx (fun e => by have := HGL.out; omega))
        have HX2 := Lib.hid (show W2.heap[w.heap.size]? = some (.cells #[.int .u64 (Y : Nat)] 123 (0, 0)) from hW2 ▸ set_at HX.out 0 _)
        rw [hW2]
        clear hW2 gbx NX
        go_wp2_with fail
        obtain ⟨e1, he1⟩ : ∃ e1, a + o = e1 := ⟨_, rfl⟩
        have q1 : (a : Int) + (o : Int) = (e1 : Nat) := by omega
        have l1 : (e1 : Int) < (N : Int) := by omega
        have l0 : (i : Int) < (N : Int) := by omega
        have m1 : e1 < dk.size := by rw [HSK.out]; omega
        have m0 : i < dk.size := by rw [HSK.out]; omega
        have M01 := Lib.hid (And.intro m0 m1)
        have c1 := HR2.out.cell (j := e1) m1
        have c2 := HR2.out.cell (j := i) m0
        have z1 := HR2.out.free e1
        have z2 := HR2.out.free i
        have HB := Lib.hid (show (a ≤ i ∧ i < b) ∧ (a ≤ e1 ∧ e1 < b) from by omega)
        clear m0 m1
        have fin : ∀ w3 : World, w3 = ((W2.setCell ⟨g, i, none⟩ (.int .u64 (dk[e1]! : Nat))).setCell ⟨g, e1, none⟩ (.int .u64 (dk[i]! : Nat))).drew → ∃ (i' X' : Nat) (d' : Array Nat), T2 - (i + 1) = T2 - i' ∧ I0 ≤ i' ∧ i' ≤ T2 ∧ Value.int .i64 ((i : Int) + 1) = .int .i64 (i' : Nat) ∧ X' < 18446744073709551616 ∧ w3.heap[w.heap.size]? = some (.cells #[.int .u64 (X' : Nat)] 123 (0, 0)) ∧ d'.size = N ∧ RwU w3 g cap d' ∧ w.grownBy w3 (some g) ∧ PermIn a b d d' := by
          rintro w3 rfl
          refine ⟨i + 1, Y, swp dk i e1, rfl, by omega, by omega, by go_num, HY.out, ?_, by rw [swp_size]; exact HSK.out, HR2.out.swap (j := i) (k := e1) M01.out.1 M01.out.2, grow_tr HG2.out (grow_tr (grow_swap _ g i e1 _ _) (grow_drewN _ 1 _)), permIn_trans _ _ _ a b HP.out (swp_permIn dk a b i e1 HB.out.1.1 HB.out.1.2 HB.out.2.1 HB.out.2.2 (by rw [HSK.out]; exact HBN.out))⟩
          exact ((grow_swap _ g i e1 _ _).block w.heap.size (by have := lt_at HX2.out; exact this) (fun e => by have := HGL.out; have := Option.some.inj e; omega)).trans HX2.out
        have FIN := Lib.hid fin
        clear fin
        obtain ⟨x, hx⟩ : ∃ x, dk[i]! = x := ⟨_, rfl⟩
        obtain ⟨y, hy⟩ : ∃ y, dk[e1]! = y := ⟨_, rfl⟩
        rw [hx] at c2
        rw [hy] at c1
        rw [hx, hy] at FIN
        have HXY := Lib.hid (show i = e1 → x = y from fun h => by rw [← hx, ← hy, h])
        clear hx hy he1
        by_cases heq : i = e1
        · subst heq
          obtain rfl := HXY.out rfl
          clear c1 z1 l1
          go_wp2_with fail
          go_region
          all_goals
            go_wp2_with fail
            go_roundg (T2 - (i + 1))
            case measure => omega
            case rel => exact FIN.out _ rfl
        · have hj3 : ¬ i = e1 := heq
          have hj4 : ¬ e1 = i := by omega
          go_wp2_with fail
          go_region
          all_goals
            go_wp2_with fail
            go_roundg (T2 - (i + 1))
            case measure => omega
            case rel => exact FIN.out _ rfl
      · have o1 : ¬ (L : Int) ≤ (O : Int) := by omega
        obtain ⟨o, rfl⟩ : ∃ o, o = O := ⟨_, rfl⟩
        go_wp2_with fail
        refine NX.out.mono ?_
        rintro e w2 ⟨rfl, rfl⟩
        obtain ⟨W2, hW2⟩ : ∃ W2, (wr.setCell ⟨w.heap.size, 0, none⟩ (.int .u64 (Y : Nat))).drewN 3 = W2 := ⟨_, rfl⟩
        have gbx : wr.grownBy W2 (some w.heap.size) := hW2 ▸ grow_tr (grown_set wr w.heap.size 0 _) (grow_drewN _ 3 _)
        have HG2 := Lib.hid (grow_box HGK.out gbx (Nat.le_refl _))
        have HR2 := Lib.hid (show RwU W2 g cap dk from HRK.out.grown gbx (fun e => by have := HGL.out; omega))
        have HX2 := Lib.hid (show W2.heap[w.heap.size]? = some (.cells #[.int .u64 (Y : Nat)] 123 (0, 0)) from hW2 ▸ set_at HX.out 0 _)
        rw [hW2]
        clear hW2 gbx NX
        go_wp2_with fail
        obtain ⟨e1, he1⟩ : ∃ e1, a + o = e1 := ⟨_, rfl⟩
        have q1 : (a : Int) + (o : Int) = (e1 : Nat) := by omega
        have l1 : (e1 : Int) < (N : Int) := by omega
        have l0 : (i : Int) < (N : Int) := by omega
        have m1 : e1 < dk.size := by rw [HSK.out]; omega
        have m0 : i < dk.size := by rw [HSK.out]; omega
        have M01 := Lib.hid (And.intro m0 m1)
        have c1 := HR2.out.cell (j := e1) m1
        have c2 := HR2.out.cell (j := i) m0
        have z1 := HR2.out.free e1
        have z2 := HR2.out.free i
        have HB := Lib.hid (show (a ≤ i ∧ i < b) ∧ (a ≤ e1 ∧ e1 < b) from by omega)
        clear m0 m1
        have fin : ∀ w3 : World, w3 = ((W2.setCell ⟨g, i, none⟩ (.int .u64 (dk[e1]! : Nat))).setCell ⟨g, e1, none⟩ (.int .u64 (dk[i]! : Nat))).drew → ∃ (i' X' : Nat) (d' : Array Nat), T2 - (i + 1) = T2 - i' ∧ I0 ≤ i' ∧ i' ≤ T2 ∧ Value.int .i64 ((i : Int) + 1) = .int .i64 (i' : Nat) ∧ X' < 18446744073709551616 ∧ w3.heap[w.heap.size]? = some (.cells #[.int .u64 (X' : Nat)] 123 (0, 0)) ∧ d'.size = N ∧ RwU w3 g cap d' ∧ w.grownBy w3 (some g) ∧ PermIn a b d d' := by
          rintro w3 rfl
          refine ⟨i + 1, Y, swp dk i e1, rfl, by omega, by omega, by go_num, HY.out, ?_, by rw [swp_size]; exact HSK.out, HR2.out.swap (j := i) (k := e1) M01.out.1 M01.out.2, grow_tr HG2.out (grow_tr (grow_swap _ g i e1 _ _) (grow_drewN _ 1 _)), permIn_trans _ _ _ a b HP.out (swp_permIn dk a b i e1 HB.out.1.1 HB.out.1.2 HB.out.2.1 HB.out.2.2 (by rw [HSK.out]; exact HBN.out))⟩
          exact ((grow_swap _ g i e1 _ _).block w.heap.size (by have := lt_at HX2.out; exact this) (fun e => by have := HGL.out; have := Option.some.inj e; omega)).trans HX2.out
        have FIN := Lib.hid fin
        clear fin
        obtain ⟨x, hx⟩ : ∃ x, dk[i]! = x := ⟨_, rfl⟩
        obtain ⟨y, hy⟩ : ∃ y, dk[e1]! = y := ⟨_, rfl⟩
        rw [hx] at c2
        rw [hy] at c1
        rw [hx, hy] at FIN
        have HXY := Lib.hid (show i = e1 → x = y from fun h => by rw [← hx, ← hy, h])
        clear hx hy he1
        by_cases heq : i = e1
        · subst heq
          obtain rfl := HXY.out rfl
          clear c1 z1 l1
          go_wp2_with fail
          go_region
          all_goals
            go_wp2_with fail
            go_roundg (T2 - (i + 1))
            case measure => omega
            case rel => exact FIN.out _ rfl
        · have hj3 : ¬ i = e1 := heq
          have hj4 : ¬ e1 = i := by omega
          go_wp2_with fail
          go_region
          all_goals
            go_wp2_with fail
            go_roundg (T2 - (i + 1))
            case measure => omega
            case rel => exact FIN.out _ rfl
    · have i1 : ¬ (i : Int) ≤ (j : Int) + 1 := by omega
      go_wp2_with fail
      go_end0
      exact ⟨rfl, dk, HRK.out, HP.out, HGK.out⟩
end Go.Proofs.Ytkdjefnnhanhhaa
