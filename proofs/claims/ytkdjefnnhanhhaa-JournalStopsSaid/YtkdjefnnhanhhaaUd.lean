/- Walks over slices and crc: Clone, Clip, Seal. -/
import Derived.Test.YtkdjefnnhanhhaaUc
import Derived.Lib.SliceRun
import Derived.Lib.QuietBelow
import Derived.BigQuiet
set_option linter.unusedVariables false
namespace Go.Proofs.Ytkdjefnnhanhhaa
open Go Go.RowKit Go.Mem Go.Pg
set_option linter.unusedVariables false

theorem own_empty (w : World) (e : TypeId) : Own .u8 e w.heap.size (w.alloc (.cells #[] e)) (.slice (some ⟨w.heap.size, 0, none⟩) 0 0) [] :=
  ⟨rfl, .inr ⟨w.heap.size, 0, #[], rfl, Nat.le_refl _, alloc_new w _, Nat.le_refl _, by unfold maxLen; omega, rfl, rfl⟩⟩
set_option maxRecDepth 100000 in
set_option maxHeartbeats 1600000 in
theorem clone_any (v : Value) (xs : List Nat) (w : World) (hv : Rd .u8 w v xs) (h1 : 1 ≤ xs.length) (hl : xs.length ≤ 1000000) :
    Calls Try.prog 49 #[v] w fun e w' => (∃ g cap, e = .returned (.slice (some ⟨g, 0, none⟩) xs.length cap) ∧ Own .u8 5 w.heap.size w' (.slice (some ⟨g, 0, none⟩) xs.length cap) xs) ∧ Below w.heap.size w w' := by
  obtain ⟨a, cap, rfl, x1, x2, x3⟩ := hv
  obtain ⟨g, o, rfl, _⟩ := x3 0 h1
  have HV := hid (show Rd .u8 w (.slice (some ⟨g, o, none⟩) xs.length cap) xs from ⟨_, cap, rfl, x1, x2, x3⟩)
  have HL := hid hl
  have H1 := hid h1
  obtain ⟨N, hN⟩ : ∃ N, xs.length = N := ⟨_, rfl⟩
  have HN := hid hN
  rw [hN]
  rw [hN] at HV
  clear x1 x2 x3 h1 hl hN
  have HO := hid (own_empty w 5)
  have hq := fun w => Lib.run_eql_slice_nil (P := Try.prog) w 27 5 (some ⟨g, o, none⟩) N cap 0 0 Try.underlying27
  go_enter Try.func49, Try.ntmps49
  go_wp2_with (at_builtin; refine app_row el_b8 rfl _ _ rfl w.heap.size _ [] rfl HO.out xs (HV.out.below ((Below.refl _ _).alloc (Nat.le_refl _) _)) H1.out (by have := HL.out; simp; omega) (by simp) ?_; intro g2 cap2 w3 hown hgrow hat)
  have HE := hid (show (([] : List Nat).length + xs.length) = N from by rw [HN.out]; simp)
  rw [HE.out] at hown
  rw [HN.out]
  go_ret
  exact ⟨⟨g2, cap2, rfl, hown⟩, grow_below ((Below.refl _ _).alloc (Nat.le_refl _) _) (by simp) hgrow (fun q hq => by
    have e : w.heap.size = q := Option.some.inj hq
    omega)⟩
set_option maxRecDepth 100000 in
set_option maxHeartbeats 800000 in
theorem clip_any (a : Option Addr) (N cap : Nat) (w : World) (h : N ≤ cap) (h2 : cap ≤ maxLen) :
    Calls Try.prog 54 #[.slice a N cap] w fun e w' => e = .returned (.slice a N N) ∧ w = w' := by
  have l1 : (N : Int) ≤ (cap : Int) := by omega
  have l2 : (cap : Int) ≤ 9223372036854775807 := by unfold maxLen at h2; omega
  go_enter Try.func54, Try.ntmps54
  go_wp2_with fail
  go_ret
  exact ⟨rfl, rfl⟩
/-- A number's bytes behind a slice that has no room: the first I of them. -/
def FulA (B : Nat) (wr : World) (u v0 : Value) (xs : List Nat) (n I : Nat) : Prop := (I = 0 ∧ u = v0) ∨ (1 ≤ I ∧ Own .u8 5 B wr u (xs ++ low n I))
theorem own_bytes {B : Nat} {w : World} {v : Value} {xs : List Nat} (y : Nat) (h : w.ownsRow B 5 1 v (xs.length + 1) (xs.map (fun x => Value.int .u8 (x : Nat)) ++ [.int .u8 (y : Nat)])) : Own .u8 5 B w v (xs ++ [y]) := by
  unfold Own
  simpa using h
theorem add_lit (g o j : Nat) : (⟨g, o, none⟩ : Addr).add j = ⟨g, o + j, none⟩ := by unfold Addr.add; split <;> simp_all
theorem rd_holds {w : World} {g o n cap : Nat} {xs : List Nat} (h : Rd .u8 w (.slice (some ⟨g, o, none⟩) n cap) xs) : ∀ b, some (⟨g, o, none⟩ : Addr) = some b → ∀ j u, (xs.map (fun x => Value.int .u8 (x : Nat)))[j]? = some u → w.cell? (b.add j) = some u := by
  intro b hb j u hj
  cases hb
  obtain ⟨a, c, e, _, _, h3⟩ := h
  have hjl : j < xs.length := by
    by_cases hlt : j < xs.length
    · exact hlt
    · rw [List.getElem?_eq_none (by simpa using hlt)] at hj; cases hj
  obtain ⟨g', o', e', x⟩ := h3 j hjl
  have e1 : (some (⟨g, o, none⟩ : Addr)) = a := by injection e
  rw [← e1] at e'
  cases e'
  rw [add_lit, x]
  rw [List.getElem?_map, List.getElem?_eq_getElem hjl] at hj
  simp only [Option.map_some, Option.some.injEq] at hj
  rw [← hj]
  simp [List.getD, hjl]
theorem new_holds (w : World) (x y : Int) (t : TypeId) (h : x = y) : ∀ j u, [Value.int .u8 y][j]? = some u → (w.alloc (.cells #[.int .u8 x] t)).cell? ((⟨w.heap.size, 0, none⟩ : Addr).add j) = some u := by
  intro j u hj
  cases j with
  | zero => simp at hj; subst hj; rw [add_lit, h]; exact new_cell _ _ _
  | succ j => simp at hj
theorem info_u8 : (Try.prog.info? 5).map (fun i => (i.zero, i.size, i.bytes)) = some (some (.int .u8 0), 1, 1) := by kernel_rfl
set_option maxRecDepth 100000 in
set_option maxHeartbeats 3200000 in
theorem lowAppendF_any (g o : Nat) (xs : List Nat) (n many : Nat) (w : World) (hrd : Rd .u8 w (.slice (some ⟨g, o, none⟩) xs.length xs.length) xs) (hl : xs.length ≤ 1000000) (hn : n < 18446744073709551616) (hm0 : 1 ≤ many) (hm : many ≤ 1000) :
    Calls Try.prog 53 #[.slice (some ⟨g, o, none⟩) xs.length xs.length, .int .u64 n, .int .i64 many] w fun e w' => (∃ v, e = .returned v ∧ Own .u8 5 w.heap.size w' v (xs ++ low n many)) ∧ Below w.heap.size w w' := by
  obtain ⟨i0, hi, hz0, hz1, hz2⟩ := info_parts info_u8
  obtain ⟨B, hB⟩ : ∃ B, w.heap.size = B := ⟨_, rfl⟩
  have HBE := hid hB
  rw [hB]
  have HRD := hid hrd
  obtain ⟨N, hN⟩ : ∃ N, xs.length = N := ⟨_, rfl⟩
  have HN := hid hN
  have HL := hid hl
  rw [hN] at hrd ⊢
  clear hrd hN hB hl
  go_enter Try.func53, Try.ntmps53
  go_wp2
  go_loopg [0, 1, 8] many (fun gk u q i wr => ∃ I : Nat, I + gk = many ∧ i = .int .i64 I ∧ q = .int .u64 ((n / 256 ^ I : Nat) : Int) ∧ FulA B wr u (.slice (some ⟨g, o, none⟩) N N) xs n I ∧ Below B w wr)
  case atStart => exact ⟨0, by omega, rfl, by simp, .inl ⟨rfl, rfl⟩, Below.refl _ _⟩
  case round =>
    obtain ⟨I, hI, rfl, rfl, ho, hg⟩ := hrel
    have HG := hid hg
    have HS := hid (show B ≤ wr.heap.size from by rw [← HBE.out]; exact hg.size)
    by_cases hlt : I < many
    · obtain ⟨y, hy⟩ : ∃ y, n / 256 ^ I = y := ⟨_, rfl⟩
      have hyn : y < 18446744073709551616 := by rw [← hy]; exact Nat.lt_of_le_of_lt (Nat.div_le_self _ _) hn
      have HY := hid hy
      rw [hy]
      have HLOW := hid (show low n (I + 1) = low n I ++ [y % 256] from by rw [low_snoc, hy])
      have HDV := hid (show n / 256 ^ (I + 1) = y / 256 from by rw [Nat.pow_succ, ← Nat.div_div_eq_div_mul, hy])
      clear hy
      rcases ho with ⟨rfl, rfl⟩ | ⟨hI1, ho⟩
      · have HR2 := hid (HRD.out.below (HBE.out ▸ hg))
        rw [HN.out] at HR2
        rw [show ((0 : Nat) : Int) = 0 from rfl]
        have HLN := hid (show N + 1 ≤ 1000001 from by have := HL.out; have := HN.out; omega)
        clear hg
        go_wp2_with (at_builtin; refine wpList_append_grows _ rfl _ _ 27 rfl 5 i0 (.int .u8 0) 1 1 Try.underlying27 hi hz0 hz1 hz2 rfl (by decide) (some ⟨g, o, none⟩) N N (xs.map (fun x => Value.int .u8 (x : Nat))) rfl (fun h => by cases h) (by simp [HN.out]) (rd_holds (HR2.out.below ((Below.refl _ _).alloc (Nat.le_refl _) _))) ⟨wr.heap.size, 0, none⟩ 1 1 [.int .u8 ((y % 256 : Nat) : Int)] rfl rfl (new_holds _ _ _ _ (by simp)) (fun u hu => by simp at hu; subst hu; rfl) (by omega) (by have := HLN.out; unfold maxLen; omega) (by have := HLN.out; omega) ?_; intro v' w3 hown hgrow)
        go_roundg (gk - 1)
        case measure => omega
        case rel =>
          rw [← HN.out] at hown
          refine ⟨1, by omega, by go_num, by rw [HDV.out]; simp, .inr ⟨Nat.le_refl _, ?_⟩, grow_below (v := .slice none 0 0) (HG.out.alloc HS.out _) (by have := HS.out; simp; omega) hgrow (fun q hq => by cases hq)⟩
          have h9 := own_bytes _ hown
          rw [HLOW.out]
          exact Own.mono h9 (by have := HS.out; simp; omega)
      · clear hg
        go_wp2_with (at_builtin; refine app_one el_b8 rfl _ _ rfl B _ (xs ++ low n I) rfl (ho.alloc _) ⟨wr.heap.size, 0, none⟩ 1 (y % 256) rfl (by rw [new_cell]; simp) (by have := HL.out; simp [low_len]; omega) (by have := HS.out; simp; omega) ?_; intro g2 cap2 w3 hown hgrow hat)
        go_roundg (gk - 1)
        case measure => omega
        case rel =>
          refine ⟨I + 1, by omega, by go_num, by rw [HDV.out]; simp, .inr ⟨by omega, ?_⟩, grow_below (HG.out.alloc HS.out _) (by have := HS.out; simp; omega) hgrow (fun q hq => (ho.blk q hq).1)⟩
          rw [HLOW.out, ← List.append_assoc]
          rw [List.length_append] at hown
          simpa using hown
    · obtain rfl : I = many := by omega
      rcases ho with ⟨rfl, _⟩ | ⟨_, ho⟩
      · omega
      · go_wp2_with fail
        go_ret
        exact ⟨⟨_, rfl, ho⟩, HG.out⟩
end Go.Proofs.Ytkdjefnnhanhhaa
/- Walks over crc: Seal, Open. -/
namespace Go.Proofs.Ytkdjefnnhanhhaa
open Go Go.RowKit Go.Mem Go.Pg
set_option linter.unusedVariables false

/-- Bytes with their sum behind them. -/
def sealB (xs : List Nat) : List Nat := xs ++ Pg.low (sum xs) 4
/-- What was sealed: all but the last four, where these are the sum. -/
def openB (l : List Nat) : Option (List Nat) := if num (l.drop (l.length - 4)) = sum (l.take (l.length - 4)) then some (l.take (l.length - 4)) else none
theorem rd_clip {w : World} {a : Option Addr} {n c : Nat} {xs : List Nat} (h : Rd .u8 w (.slice a n c) xs) : Rd .u8 w (.slice a xs.length xs.length) xs := by
  obtain ⟨a', c', e, h1, h2, h3⟩ := h
  cases e
  exact ⟨_, _, rfl, Nat.le_refl _, Nat.le_trans h1 h2, h3⟩
set_option maxRecDepth 100000 in
set_option maxHeartbeats 800000 in
theorem append32F_any (g o : Nat) (xs : List Nat) (n : Nat) (w : World) (hrd : Rd .u8 w (.slice (some ⟨g, o, none⟩) xs.length xs.length) xs) (hl : xs.length ≤ 1000000) (hn : n < 4294967296) :
    Calls Try.prog 40 #[.slice (some ⟨g, o, none⟩) xs.length xs.length, .int .u32 n] w fun e w' => (∃ v, e = .returned v ∧ Own .u8 5 w.heap.size w' v (xs ++ Pg.low n 4)) ∧ Below w.heap.size w w' := by
  have hw : IntKind.u64.wrap (n : Int) = n := by rw [IntKind.wrap_u64]; omega
  have HA := hid (lowAppendF_any g o xs n 4 w hrd hl (by omega) (by decide) (by decide))
  clear hrd
  obtain ⟨N, hN⟩ : ∃ N, xs.length = N := ⟨_, rfl⟩
  rw [hN] at HA ⊢
  clear hN hl
  go_enter Try.func40, Try.ntmps40
  go_wp2_with fail
  refine HA.out.mono ?_
  rintro e w' ⟨⟨v', rfl, h1⟩, h2⟩
  have H1 := hid h1
  have H2 := hid h2
  clear h1 h2
  go_wp2_with fail
  go_ret
  exact ⟨⟨v', rfl, H1.out⟩, H2.out⟩
set_option maxRecDepth 100000 in
set_option maxHeartbeats 1600000 in
theorem seal_any (v : Value) (xs : List Nat) (w : World) (hv : Rd .u8 w v xs) (hx : ∀ y ∈ xs, y < 256) (h1 : 1 ≤ xs.length) (hl : xs.length ≤ 1000000) :
    Calls Try.prog 43 #[v] w fun e w' => (∃ v', e = .returned v' ∧ Own .u8 5 w.heap.size w' v' (sealB xs)) ∧ Below w.heap.size w w' := by
  have HV := hid hv
  have HX := hid hx
  have HL := hid hl
  have HC := hid (clone_any v xs w hv h1 hl)
  clear hv hx h1 hl
  go_enter Try.func43, Try.ntmps43
  go_wp2_with fail
  refine HC.out.mono ?_
  rintro e w1 ⟨⟨g, cap, rfl, ho⟩, hb⟩
  have HO := hid ho.rd
  have HB := hid hb
  have hcp : xs.length ≤ cap ∧ cap ≤ maxLen := by obtain ⟨a', c', e, h1, h2, _⟩ := ho.rd; cases e; exact ⟨h1, h2⟩
  have HCP := hid hcp
  clear ho hb hcp
  go_wp2_with fail
  refine (clip_any _ _ _ _ HCP.out.1 HCP.out.2).mono ?_
  rintro e w2 ⟨rfl, rfl⟩
  go_wp2_with fail
  refine (crcSum_any v xs _ (HV.out.below HB.out) HX.out).mono ?_
  rintro e w3 ⟨rfl, hb3⟩
  have HB3 := hid (HB.out.trans (hb3.mono HB.out.size))
  have HR3 := hid (rd_clip (HO.out.below hb3))
  clear hb3
  go_wp2_with fail
  refine (append32F_any g 0 xs (sum xs) w3 HR3.out HL.out (sum_lt HX.out)).mono ?_
  rintro e w4 ⟨⟨v4, rfl, h4⟩, hb4⟩
  have H4 := hid h4
  have HB4 := hid hb4
  clear h4 hb4
  go_wp2_with fail
  go_ret
  exact ⟨⟨_, rfl, Own.mono H4.out HB3.out.size⟩, HB3.out.trans (HB4.out.mono HB3.out.size)⟩
theorem rd_drop {w : World} {g o n cap : Nat} {xs : List Nat} (h : Rd .u8 w (.slice (some ⟨g, o, none⟩) n cap) xs) (k : Nat) (hk : k ≤ xs.length) : Rd .u8 w (.slice (some ⟨g, o + k, none⟩) (xs.length - k) (cap - k)) (xs.drop k) := by
  obtain ⟨a, c, e, h1, h2, h3⟩ := h
  cases e
  refine ⟨_, _, by rw [List.length_drop], by rw [List.length_drop]; omega, by omega, fun j hj => ?_⟩
  rw [List.length_drop] at hj
  obtain ⟨g', o', e', x⟩ := h3 (k + j) (by omega)
  cases e'
  refine ⟨g, o + k, rfl, ?_⟩
  rw [Nat.add_assoc, x]
  simp [List.getD]
theorem rd_take {w : World} {a : Option Addr} {n cap : Nat} {xs : List Nat} (h : Rd .u8 w (.slice a n cap) xs) (k : Nat) (hk : k ≤ xs.length) : Rd .u8 w (.slice a k cap) (xs.take k) := by
  obtain ⟨a', c, e, h1, h2, h3⟩ := h
  cases e
  refine ⟨_, _, by rw [List.length_take, Nat.min_eq_left hk], by rw [List.length_take]; omega, h2, fun j hj => ?_⟩
  rw [List.length_take] at hj
  obtain ⟨g', o', e', x⟩ := h3 j (by omega)
  refine ⟨g', o', e', ?_⟩
  rw [x]
  simp [List.getD, show j < k by omega]
set_option maxRecDepth 100000 in
set_option maxHeartbeats 3200000 in
theorem crcOpen_any (v : Value) (xs : List Nat) (w : World) (hv : Rd .u8 w v xs) (hx : ∀ y ∈ xs, y < 256) (h1 : 5 ≤ xs.length) (hl : xs.length ≤ 1000000) :
    Calls Try.prog 34 #[v] w fun e w' => ((∃ l g cap, openB xs = some l ∧ l = xs.take (xs.length - 4) ∧ e = .returned (.tuple #[.slice (some ⟨g, 0, none⟩) (xs.length - 4) cap, .int .i64 0]) ∧ Own .u8 5 w.heap.size w' (.slice (some ⟨g, 0, none⟩) (xs.length - 4) cap) l) ∨ (openB xs = none ∧ e = .returned (.tuple #[.slice none 0 0, .int .i64 30]))) ∧ Below w.heap.size w w' := by
  obtain ⟨a, cap, rfl, x1, x2, x3⟩ := hv
  obtain ⟨g, o, rfl, _⟩ := x3 0 (by omega)
  have hv : Rd .u8 w (.slice (some ⟨g, o, none⟩) xs.length cap) xs := ⟨_, cap, rfl, x1, x2, x3⟩
  obtain ⟨N, hN⟩ : ∃ N, xs.length = N := ⟨_, rfl⟩
  obtain ⟨n, hn⟩ : ∃ n, N - 4 = n := ⟨_, rfl⟩
  have hni : (N : Int) - 4 = (n : Nat) := by omega
  have hd := rd_drop hv n (by omega)
  have ht := rd_take hv n (by omega)
  have htl : (xs.take n).length = n := by rw [List.length_take]; omega
  have hdl : (xs.drop n).length = 4 := by rw [List.length_drop]; omega
  have HU := hid (fun W (hW : Below w.heap.size w W) => uint32_any _ (xs.drop n) W (hd.below hW) (fun y hy => hx y (List.mem_of_mem_drop hy)) (by omega))
  rw [show (xs.drop n).take 4 = xs.drop n from by rw [List.take_of_length_le (by omega)]] at HU
  have HSM := hid (fun W (hW : Below w.heap.size w W) => crcSum_any _ (xs.take n) W (ht.below hW) (fun y hy => hx y (List.mem_of_mem_take hy)))
  have HCL := hid (fun W (hW : Below w.heap.size w W) => clone_any _ (xs.take n) W (ht.below hW) (by omega) (by omega))
  rw [htl] at HCL
  have hOE : openB xs = if num (xs.drop n) = sum (xs.take n) then some (xs.take n) else none := by unfold openB; rw [hN, hn]
  rw [hN, hn]
  have HOE := hid hOE
  rw [hN] at HU x1 h1 hl
  have k1 : (N : Int) ≤ (cap : Int) := by omega
  have k2 : (cap : Int) ≤ 9223372036854775807 := by unfold maxLen at x2; omega
  have k3 : (n : Int) ≤ (N : Int) := by omega
  have k4 : ¬ cap = n := by omega
  have k5 : (0 : Int) ≤ (n : Int) := by omega
  have k6 : decide ((n : Int) < 0) = false := decide_eq_false (by omega)
  have k7 : (n : Int) ≤ (cap : Int) := by omega
  obtain ⟨su, hsu⟩ : ∃ s, sum (xs.take n) = s := ⟨_, rfl⟩
  obtain ⟨nu, hnu⟩ : ∃ s, num (xs.drop n) = s := ⟨_, rfl⟩
  rw [hsu] at HSM HOE
  rw [hnu] at HU HOE
  clear hv hd ht htl hdl x3 hx hOE hN hsu hnu
  go_enter Try.func34, Try.ntmps34
  go_wp2_with fail
  refine wp_region_quiet_below (by kernel_rfl) (by kernel_rfl) ?_
  repeat (go_big_quiet_step ((first | (go_at_call 48; exact Calls.regrown_of (HSM.out _ (below_regrown _ _ _))) | (go_at_call 35; exact Calls.regrown_of ((HU.out _ (below_regrown _ _ _)).mono (fun _ _ ⟨h1, h2⟩ => ⟨h1, h2 ▸ Below.refl _ _⟩))))))
  refine wpQuiet_nil ?_
  intro _ hw'
  obtain ⟨⟨dq, osq⟩, hw''⟩ := hw'
  subst hw''
  have HBQ := hid (below_regrown w dq osq)
  by_cases he : nu = su
  · have e1 : ((nu : Int) != (su : Int)) = false := bne_eq_false_iff_eq.2 (by rw [he])
    have HOE2 := hid (HOE.out.trans (if_pos he))
    clear he
    go_wp2_with fail
    refine (HCL.out _ HBQ.out).mono ?_
    rintro e w3 ⟨⟨g3, c3, rfl, h3⟩, hb3⟩
    have H3 := hid h3
    have HB3 := hid hb3
    clear h3 hb3
    go_wp2_with fail
    go_ret2
    exact ⟨.inl ⟨_, g3, c3, HOE2.out, rfl, rfl, Own.mono H3.out HBQ.out.size⟩, HBQ.out.trans (HB3.out.mono HBQ.out.size)⟩
  · have e1 : ((nu : Int) != (su : Int)) = true := bne_iff_ne.2 (by omega)
    have HOE2 := hid (HOE.out.trans (if_neg he))
    clear he
    go_wp2_with fail
    go_ret2
    exact ⟨.inr ⟨HOE2.out, rfl⟩, HBQ.out⟩
end Go.Proofs.Ytkdjefnnhanhhaa
