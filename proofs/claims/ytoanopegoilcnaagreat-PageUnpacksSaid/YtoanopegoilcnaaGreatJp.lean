/- Walks over page: a framer's numbers; a slot's bytes. -/
import Derived.Test.YtoanopegoilcnaaGreatJo
import Derived.Test.YtoanopegoilcnaaGreatJf
import Derived.Test.YtoanopegoilcnaaGreatJn
import Derived.Lib.BitFns
set_option linter.unusedVariables false
namespace Go.Proofs.YtoanopegoilcnaaGreat
open Go.RowKit Go.Mem Go.Pg

def pcn' (m t : Nat) : Nat := (rr m t + 7) / 8
/-- A framer. -/
def FrAt (w : World) (f S N T mw mh : Nat) : Prop :=
  ∃ cw ch, w.heap[f]? = some (.cells #[.int .i64 S, .int .i64 N, .int .i64 T, .pointer (some ⟨cw, 0, none⟩), .pointer (some ⟨ch, 0, none⟩)] 67 (0, 0)) ∧ CodeAt w cw (S + 4) T mw ∧ CodeAt w ch (9 + 11 * N + 4) T mh
theorem FrAt.below {w w' : World} {f S N T mw mh : Nat} (h : FrAt w f S N T mw mh) (hb : Below w.heap.size w w') : FrAt w' f S N T mw mh := by
  obtain ⟨cw, ch, h1, h2, h3⟩ := h
  exact ⟨cw, ch, by rw [hb.block f (lt_at h1)]; exact h1, h2.below hb, h3.below hb⟩
theorem FrAt.drewN {w : World} {f S N T mw mh : Nat} (h : FrAt w f S N T mw mh) (n : Nat) : FrAt (w.drewN n) f S N T mw mh := h
theorem FrAt.cells {w : World} {f S N T mw mh : Nat} (h : FrAt w f S N T mw mh) : w.cell? ⟨f, 0, none⟩ = some (.int .i64 S) ∧ w.cell? ⟨f, 1, none⟩ = some (.int .i64 N) ∧ w.cell? ⟨f, 2, none⟩ = some (.int .i64 T) := by
  obtain ⟨cw, ch, h1, h2, h3⟩ := h
  exact ⟨cell_at h1 0, cell_at h1 1, cell_at h1 2⟩
theorem FrAt.codes {w : World} {f S N T mw mh : Nat} (h : FrAt w f S N T mw mh) : ∃ cw ch, w.cell? ⟨f, 3, none⟩ = some (.pointer (some ⟨cw, 0, none⟩)) ∧ w.cell? ⟨f, 4, none⟩ = some (.pointer (some ⟨ch, 0, none⟩)) ∧ CodeAt w cw (S + 4) T mw ∧ CodeAt w ch (9 + 11 * N + 4) T mh := by
  obtain ⟨cw, ch, h1, h2, h3⟩ := h
  exact ⟨cw, ch, cell_at h1 3, cell_at h1 4, h2, h3⟩

set_option maxRecDepth 100000 in
set_option maxHeartbeats 400000 in
theorem end_any (f S N T mw mh : Nat) (w : World) (h : FrAt w f S N T mw mh) (ht : T ≤ 8) :
    Calls Tryz.prog 24 #[.pointer (some ⟨f, 0, none⟩)] w fun e w' => e = .returned (.int .i64 ((T / 4 + 1 : Nat) : Int)) ∧ w = w' := by
  obtain ⟨c0, c1, c2⟩ := h.cells
  clear h c0 c1
  go_enter Tryz.func24, Tryz.ntmps24
  go_wp2
  go_ret
  exact ⟨by simp, rfl⟩

/-- The bytes of a page. -/
def byB (S N T mw mh : Nat) : Nat := N * (S + 4 + (rr mw T + 7) / 8) + (9 + 11 * N + 4 + (rr mh T + 7) / 8) + (T / 4 + 1)
set_option maxRecDepth 100000 in
set_option maxHeartbeats 800000 in
theorem bytes_any (f S N T mw mh : Nat) (w : World) (h : FrAt w f S N T mw mh) (hw : Par (S + 4) T mw) (hh : Par (9 + 11 * N + 4) T mh) (hS : S ≤ 256) (hN : N ≤ 8) :
    Calls Tryz.prog 16 #[.pointer (some ⟨f, 0, none⟩)] w fun e w' => e = .returned (.int .i64 (byB S N T mw mh : Nat)) ∧ ∃ n, w' = w.drewN n := by
  obtain ⟨c0, c1, c2⟩ := h.cells
  obtain ⟨cw, ch, c3, c4, h3, h4⟩ := h.codes
  have r1 := hw.r.2.2.2.1
  have r2 := hh.r.2.2.2.1
  have t8 := hw.t8
  have HH := hid h
  have P1 := hid (fun w => codeParity_any cw (S + 4) T mw w)
  have P2 := hid (fun w => codeParity_any ch (9 + 11 * N + 4) T mh w)
  have HW := hid hw
  have HHH := hid hh
  have H3 := hid h3
  have H4 := hid h4
  obtain ⟨p, hp⟩ : ∃ p, (rr mw T + 7) / 8 = p := ⟨_, rfl⟩
  obtain ⟨q, hq⟩ : ∃ q, (rr mh T + 7) / 8 = q := ⟨_, rfl⟩
  have hp14 : p ≤ 14 := by omega
  have hq14 : q ≤ 14 := by omega
  have hfin : byB S N T mw mh = N * (S + 4 + p) + (9 + 11 * N + 4 + q) + (T / 4 + 1) := by unfold byB; rw [hp, hq]
  rw [hfin, ]
  have hmul : N * (S + 4 + p) ≤ 8 * (S + 4 + p) := Nat.mul_le_mul_right _ hN
  obtain ⟨K, hK⟩ : ∃ K, N * (S + 4 + p) = K := ⟨_, rfl⟩
  have hKi : (N : Int) * ((S : Int) + 4 + (p : Int)) = (K : Int) := by rw [← hK]; simp
  rw [hK] at hmul ⊢
  have HP := hid hp
  have HQ := hid hq
  have hPW : Hid (∀ W, CodeAt W cw (S + 4) T mw → Calls Tryz.prog 34 #[.pointer (some ⟨cw, 0, none⟩)] W fun e w' => e = .returned (.int .i64 (p : Nat)) ∧ W = w') := hid fun W hc => by rw [← HP.out]; exact P1.out W hc HW.out
  have hPH : Hid (∀ W, CodeAt W ch (9 + 11 * N + 4) T mh → Calls Tryz.prog 34 #[.pointer (some ⟨ch, 0, none⟩)] W fun e w' => e = .returned (.int .i64 (q : Nat)) ∧ W = w') := hid fun W hc => by rw [← HQ.out]; exact P2.out W hc HHH.out
  have hneq : cw ≠ ch ∨ cw = ch := by omega
  clear h h3 h4 hw hh hp hq hK hfin P1 P2 hneq
  go_enter Tryz.func16, Tryz.ntmps16
  go_wp2
  go_quiet ((first | (go_at_call 34; with_reducible exact quiet_eq (hPW.out _ (H3.out.drewN _))) | (go_at_call 34; with_reducible exact quiet_eq (hPH.out _ (H4.out.drewN _))) | (go_at_call 24; exact quiet_eq (end_any f S N T mw mh _ (HH.out.drewN _) t8))))
  go_wp2
  go_ret
  refine ⟨?_, _, rfl⟩
  exact congrArg (fun z : Int => Ending.returned (.int .i64 z)) (show ((K : Int) + 9 + 11 * (N : Int) + 4 + (q : Int) + ((T : Int) / 4 + 1)) = ((K + (9 + 11 * N + 4 + q) + (T / 4 + 1) : Nat) : Int) by omega)
theorem none_bytes (w : World) : Calls Tryz.prog 16 #[.pointer none] w fun e w' => e = .returned (.int .i64 0) ∧ w = w' := by
  go_enter Tryz.func16, Tryz.ntmps16
  go_wp2
  go_ret
  exact ⟨rfl, rfl⟩
theorem onesCount_pc : ∀ c, c < 256 → Lib.onesCount c = pc c := by decide +kernel
set_option maxRecDepth 100000 in
set_option maxHeartbeats 800000 in
theorem onesCount_any (c : Nat) (w : World) (hc : c < 256) :
    Calls Tryz.prog 53 #[.int .u8 c] w fun e w' => e = .returned (.int .i64 (pc c : Nat)) ∧ w = w' := by
  have hp : Lib.pop8 (c : Int) = ((pc c : Nat) : Int) := by rw [← onesCount_pc c hc]; exact Lib.pop8_eq ⟨c, hc⟩
  have h8 := pc_le c
  have hw : wrap64 (Lib.pop8 (c : Int)) = ((pc c : Nat) : Int) := by rw [hp]; unfold wrap64; omega
  have h0 : (0 : Int) ≤ (c : Int) := by omega
  have h1 : (c : Int) ≤ 255 := by omega
  have HW := hid hw
  clear hp hw
  go_enter Tryz.func53, Tryz.ntmps53
  go_wp2
  go_ret
  refine ⟨?_, rfl⟩
  rw [← HW.out]
  rfl
end Go.Proofs.YtoanopegoilcnaaGreat
/- Walks over page: bits that are 1; a slot's bytes. -/
namespace Go.Proofs.YtoanopegoilcnaaGreat
open Go.RowKit Go.Mem Go.Pg

theorem ones_take (xs : List Nat) (I : Nat) (h : I < xs.length) : ones (xs.take (I + 1)) = ones (xs.take I) + pc (xs.getD I 0) := by
  rw [List.take_succ_eq_append_getElem h, ones_app, List.getD_eq_getElem?_getD, List.getElem?_eq_getElem h]; simp [ones]
set_option maxRecDepth 100000 in
set_option maxHeartbeats 800000 in
theorem ones_any (v : Value) (xs : List Nat) (w : World) (hv : Rd .u8 w v xs) (hx : ∀ y ∈ xs, y < 256) (hl : xs.length ≤ 1000000000) :
    Calls Tryz.prog 32 #[v] w fun e w' => e = .returned (.int .i64 (ones xs : Nat)) ∧ w = w' := by
  have HX := hid hx
  obtain ⟨a, cap, rfl, x1, x2, x3⟩ := hv
  have HX3 := hid x3
  clear x3 hx x2
  go_enter Tryz.func32, Tryz.ntmps32
  go_wp2
  go_loop [2, 7] (fun n i => ∃ I : Nat, I ≤ xs.length ∧ i = .int .i64 I ∧ n = .int .i64 (ones (xs.take I) : Nat)) (fun _ i => xs.length - (intOf i).toNat)
  case atStart => exact ⟨0, by omega, rfl, rfl⟩
  case round =>
    obtain ⟨I, hI, rfl, rfl⟩ := hrel
    by_cases hlt : I < xs.length
    · obtain ⟨g, o, rfl, hc⟩ := HX3.out I hlt
      have hst := ones_take xs I hlt
      have hle := ones_le (xs.take I)
      rw [List.length_take, show min I xs.length = I by omega] at hle
      obtain ⟨c, hcx⟩ : ∃ c, xs.getD I 0 = c := ⟨_, rfl⟩
      have hc256 : c < 256 := by rw [← hcx]; exact HX.out _ (getD_mem hlt)
      have h8 := pc_le c
      rw [hcx] at hc hst
      obtain ⟨n, hn⟩ : ∃ n, ones (xs.take I) = n := ⟨_, rfl⟩
      rw [hn] at hst hle ⊢
      have HST := hid hst
      clear hst hn hcx
      go_wp2_with (go_at_call 53; refine (onesCount_any c _ hc256).mono ?_; rintro e w' ⟨rfl, rfl⟩)
      go_round
      case rel => exact ⟨I + 1, by omega, by go_num, by rw [HST.out]; go_num⟩
      case measure => simp [intOf]; omega
    · obtain rfl : I = xs.length := by omega
      go_wp2
      go_ret
      exact ⟨rfl, rfl⟩

theorem _root_.Go.Mem.Own.trunc {k : IntKind} {e : TypeId} {B : Nat} {w : World} {g n cap : Nat} {xs : List Nat} (h : Own k e B w (.slice (some ⟨g, 0, none⟩) n cap) xs) (m : Nat) (hm : m ≤ xs.length) : Own k e B w (.slice (some ⟨g, 0, none⟩) m cap) (xs.take m) := by
  obtain ⟨h1, h2 | ⟨g', cap', cur, hv, hg, h3, h4, h5, h6, h7⟩⟩ := h
  · cases h2.1
  · cases hv
    have hl : (xs.take m).length = m := by rw [List.length_take]; omega
    refine ⟨by simp, .inr ⟨g, cap, cur, by rw [hl], hg, h3, by omega, h5, h6, ?_⟩⟩
    rw [hl, Nat.mul_one]
    rw [Nat.mul_one] at h7
    rw [List.map_take, ← h7, List.take_take]
    congr 1
    omega
theorem _root_.Go.Mem.Own.caps {k : IntKind} {e : TypeId} {B : Nat} {w : World} {g n cap : Nat} {xs : List Nat} (h : Own k e B w (.slice (some ⟨g, 0, none⟩) n cap) xs) : n = xs.length ∧ xs.length ≤ cap ∧ cap ≤ maxLen := by
  obtain ⟨h1, h2 | ⟨g', cap', cur, hv, hg, h3, h4, h5, h6, h7⟩⟩ := h
  · cases h2.1
  · simp only [Value.slice.injEq] at hv
    obtain ⟨_, rfl, rfl⟩ := hv
    exact ⟨rfl, h4, h5⟩
theorem slotB_take (xs : List Nat) (s : Slot) : (xs ++ low s.key 4 ++ [s.st.toNat] ++ low s.seq 8).take (xs.length + 11) = xs ++ slotB s := by
  rw [show (8 : Nat) = 6 + 2 from rfl]
  have : low s.seq (6 + 2) = low s.seq 6 ++ low (s.seq / 256 ^ 6) 2 := by
    unfold low
    rw [List.range_add, List.map_append, List.map_map]
    congr 1
    apply List.map_congr_left
    intro i _
    simp only [Function.comp]
    rw [Nat.div_div_eq_div_mul, Nat.pow_add]
  rw [this]
  have e : xs ++ low s.key 4 ++ [s.st.toNat] ++ (low s.seq 6 ++ low (s.seq / 256 ^ 6) 2) = (xs ++ slotB s) ++ low (s.seq / 256 ^ 6) 2 := by simp [slotB]
  rw [e]
  exact List.take_left' (by rw [List.length_append, slotB_len])
def slotV (s : Slot) : Value := .agg #[.int .u32 (s.key : Nat), .int .i64 s.st, .int .u64 (s.seq : Nat)]
set_option maxRecDepth 100000 in
set_option maxHeartbeats 1600000 in
theorem slot_any (B : Nat) (v : Value) (xs : List Nat) (s : Slot) (w : World) (hown : Own .u8 5 B w v xs) (hB : B ≤ w.heap.size) (hl : xs.length ≤ 100000) (hs : s.Ok) (hk : s.key < 4294967296) :
    Calls Tryz.prog 22 #[v, .agg #[.int .u32 (s.key : Nat), .int .i64 s.st, .int .u64 (s.seq : Nat)]] w fun e w' => Grows B w w' v (xs ++ slotB s) e := by
  obtain ⟨s1, s2, s3⟩ := hs
  have hw8 : IntKind.u8.wrap s.st = s.st := by simp [IntKind.wrap, IntKind.bits, IntKind.signed]; omega
  obtain ⟨t, ht⟩ : ∃ t : Nat, s.st = t := ⟨s.st.toNat, by omega⟩
  have htt : s.st.toNat = t := by omega
  have hfin := slotB_take xs s
  rw [htt] at hfin
  obtain ⟨key, hkey⟩ : ∃ key, s.key = key := ⟨_, rfl⟩
  obtain ⟨seq, hseq⟩ : ∃ seq, s.seq = seq := ⟨_, rfl⟩
  rw [hkey, hseq] at hfin
  rw [ht, hkey, hseq]
  rw [hkey] at hk
  rw [hseq] at s3
  have ht3 : t ≤ 3 := by omega
  have HF := hid hfin
  have HO := hid hown
  have HBB := hid hB
  obtain ⟨b0, hb0⟩ : ∃ b0, w.heap.size = b0 := ⟨_, rfl⟩
  clear hfin hown ht htt hw8 s1 s2 hkey hseq hB
  go_enter Tryz.func22, Tryz.ntmps22
  go_wp2_with fail
  obtain ⟨W, hW⟩ : ∃ W, w.alloc (.cells #[.int .u32 key, .int .i64 t, .int .u64 seq] 61) = W := ⟨_, rfl⟩
  rw [hW]
  have hbx : W.heap[b0]? = some (.cells #[.int .u32 key, .int .i64 t, .int .u64 seq] 61 (0, 0)) := by rw [← hW, ← hb0]; exact alloc_new w _
  have hsz : W.heap.size = b0 + 1 := by rw [← hW, ← hb0]; simp
  have hgW : w.grownBy W v.ownBlock := by rw [← hW]; exact grow_alloc (grow_refl _ _) _
  have hoW : Own .u8 5 B W v xs := by rw [← hW]; exact HO.out.alloc _
  have hvb : v.ownBlock ≠ some b0 := fun e => by have := (HO.out.blk _ e).2; omega
  have hBW : B ≤ W.heap.size := by have := HBB.out; omega
  have HSZ := hid hsz
  have HGW := hid hgW
  have HBX := hid hbx
  clear hW hbx hsz hgW
  refine (append32_any B v xs key W hoW hBW (by omega) hk).mono ?_
  rintro e w1 ⟨v1, rfl, h1, h2, h3⟩
  have hbx1 : w1.heap[b0]? = _ := (h2.block b0 (by have := HSZ.out; omega) (fun e => hvb e.symm)).trans HBX.out
  have q1 : w1.cell? ⟨b0, 1, none⟩ = some (.int .i64 t) := cell_at hbx1 1
  have hv1 : v1.ownBlock ≠ some b0 := fun e => by
    rcases h3 _ e with h | h
    · exact hvb h
    · have := HSZ.out; omega
  have hlt1 : b0 < w1.heap.size := lt_at hbx1
  have hB1 : B ≤ w1.heap.size := by have := h2.size; omega
  have HB0 := hid hb0
  clear hb0
  have H1 := hid h1
  have H2 := hid h2
  have H3 := hid h3
  have HBX1 := hid hbx1
  clear h1 h2 h3 hbx1 hoW
  go_wp2_with (at_builtin; refine app_one el_b8 rfl _ _ rfl B v1 (xs ++ low key 4) (by rfl) (H1.out.alloc _) ⟨w1.heap.size, 0, none⟩ 1 t rfl (by rw [new_cell]) (by simp [low_len]; omega) (by simp; omega) ?_; intro g2 cap2 w2 hown hgrow hat; have hbx2 := (hgrow.block b0 (by simp; omega) (fun e => hv1 e.symm)).trans ((alloc_old hlt1).trans HBX1.out); have q2 : w2.cell? ⟨b0, 2, none⟩ = some (.int .u64 seq) := cell_at hbx2 2; have HOWN := hid hown; have HGR := hid hgrow; have HAT := hid hat; clear hown hgrow hat hbx2)
  have ho2 := HOWN.out
  rw [List.length_append] at ho2
  refine (append64_any B _ (xs ++ low key 4 ++ [t]) seq w2 ho2 (by have := HGR.out.size; simp at this; omega) (by simp [low_len]; omega) (by omega)).mono ?_
  rintro e w3 ⟨v3, rfl, h4, h5, h6⟩
  obtain ⟨g3, cap3, rfl, hg3, _⟩ := h4.ow (by simp [low_len])
  have hlen : (xs ++ low key 4 ++ [t] ++ low seq 8).length = xs.length + 13 := by simp [low_len]
  have hl4 : (low key 4).length = 4 := low_len _ _
  have hcaps := h4.caps
  unfold maxLen at hcaps
  rw [hlen] at h4 hcaps ⊢
  rw [hl4] at h5 h6 ⊢
  have htr := h4.trunc (xs.length + 11) (by rw [hlen]; omega)
  rw [HF.out] at htr
  have HTR := hid htr
  have H5 := hid h5
  have H6 := hid h6
  have HAT2 : Hid (∀ g, (some g2 : Option Nat) = some g → v.ownBlock = some g ∨ W.heap.size ≤ g) := hid fun g hg => by
    cases hg
    rcases HAT.out with h | h
    · exact H3.out _ h
    · right; have := H2.out.size; simp at h; omega
  have HG : Hid (w.grownBy w3 v.ownBlock) := hid (by
    have g1 := grow_row HGW.out H2.out (fun g hg => .inl hg)
    have g2' := grow_row (grow_alloc g1 _) HGR.out (fun g hg => by
      rcases H3.out g hg with h | h
      · exact .inl h
      · right; have := HGW.out.size; omega)
    exact grow_row g2' H5.out (fun g hg => by
      rcases HAT2.out g hg with h | h
      · exact .inl h
      · right; have := HGW.out.size; omega))
  have HOB : Hid (∀ g, (some g3 : Option Nat) = some g → v.ownBlock = some g ∨ w.heap.size ≤ g) := hid fun g hg => by
    rcases H6.out g hg with h | h
    · rcases HAT2.out g h with h | h
      · exact .inl h
      · right; have := HGW.out.size; omega
    · right
      have := HGW.out.size
      have := H2.out.size
      have := HGR.out.size
      simp at this
      omega
  clear h4 h5 h6 hlen hl4 htr ho2 hg3
  have hc1 : ((xs.length : Int) + 4 + 1 + 6) ≤ (cap3 : Int) := by omega
  have hc2 : (0 : Int) ≤ (xs.length : Int) + 4 + 1 + 6 := by omega
  have hc3 : (cap3 : Int) ≤ 9223372036854775807 := by omega
  clear hcaps
  go_wp2
  go_ret
  exact ⟨_, rfl, HTR.out, HG.out, HOB.out⟩
end Go.Proofs.YtoanopegoilcnaaGreat
