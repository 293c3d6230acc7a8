/- A page whose sectors are packed with one head and whose rest with another, plain. -/
import Derived.Test.YtoanopegoilcnaaZPrt
set_option linter.unusedVariables false
namespace Go.Proofs.Ytoanopegoilcnaa
open Go.RowKit Go.Mem Go.Pg

/-- A slot with another key and another number. -/
def bndS (key seq : Nat) (s : Slot) : Slot := ⟨s.key ^^^ key, s.st, (s.seq ^^^ seq) % 281474976710656⟩
/-- A head whose first slot is turned so. -/
def bndH (key seq : Nat) (h : Head) : Head := { h with slots := h.slots.set 0 (bndS key seq (h.slots.getD 0 Slot.zero)) }
theorem bndS_ok {key seq : Nat} {s : Slot} (h : s.Ok) : (bndS key seq s).Ok := ⟨h.1, h.2.1, Nat.mod_lt _ (by decide)⟩
theorem bndS_key {key seq : Nat} {s : Slot} (h : s.key < 4294967296) (hk : key < 4294967296) : (bndS key seq s).key < 4294967296 := Nat.xor_lt_two_pow (n := 32) h hk
theorem set_zero_mem {l : List Slot} {x y : Slot} (h : y ∈ l.set 0 x) : y ∈ l ∨ y = x := by
  rcases List.mem_or_eq_of_mem_set h with h | h
  · exact .inl h
  · exact .inr h
theorem bndH_may {N key seq : Nat} {h : Head} (hN : 1 ≤ N) (hm : h.May N) : (bndH key seq h).May N := by
  obtain ⟨⟨k1, k2, r1, r2, p1, p2, w1, w2, hl⟩, hs⟩ := hm
  refine ⟨⟨k1, k2, r1, r2, p1, p2, w1, w2, by unfold bndH; simpa using hl⟩, fun s h1 => ?_⟩
  rcases set_zero_mem h1 with h2 | h2
  · exact hs s h2
  · subst h2
    refine bndS_ok (hs _ ?_)
    rw [List.getD_eq_getElem?_getD, List.getElem?_eq_getElem (by omega)]; exact List.getElem_mem _
theorem bndH_keys {N key seq : Nat} {h : Head} (hN : 1 ≤ N) (hm : h.May N) (hk : key < 4294967296) (hf : ∀ s ∈ h.slots, s.key < 4294967296) : ∀ s ∈ (bndH key seq h).slots, s.key < 4294967296 := by
  intro s h1
  rcases set_zero_mem h1 with h2 | h2
  · exact hf s h2
  · subst h2
    refine bndS_key (hf _ ?_) hk
    have := hm.1.2.2.2.2.2.2.2.2
    rw [List.getD_eq_getElem?_getD, List.getElem?_eq_getElem (by omega)]; exact List.getElem_mem _
theorem bndH_fit {N key seq : Nat} {h : Head} (hN : 1 ≤ N) (hm : h.May N) (hk : key < 4294967296) (hf : h.Fit) : (bndH key seq h).Fit := ⟨hf.1, bndH_keys hN hm hk hf.2⟩
theorem bndH_can {S N key seq : Nat} {h : Head} {xs : List (List Nat)} (hN : 1 ≤ N) (hc : CanB S N h xs) : CanB S N (bndH key seq h) xs := ⟨bndH_may hN hc.1, hc.2⟩
theorem bndH_slot {N key seq : Nat} {h : Head} (hN : 1 ≤ N) (hm : h.May N) : (bndH key seq h).slots.getD 0 Slot.zero = bndS key seq (h.slots.getD 0 Slot.zero) := by
  have := hm.1.2.2.2.2.2.2.2.2
  unfold bndH
  simp only
  rw [List.getD_eq_getElem?_getD, List.getElem?_set_self (by omega)]; rfl

theorem bndS_fit {key seq : Nat} {s : Slot} (h : s.Fit) (hk : key < 4294967296) : (bndS key seq s).Fit := ⟨bndS_key h.1 hk, h.2.1, Nat.lt_trans (Nat.mod_lt _ (by decide)) (by decide)⟩
theorem bndH_wf {N key seq : Nat} {h : Head} (hN : 1 ≤ N) (hm : h.May N) (hk : key < 4294967296) (hw : h.Wf) : (bndH key seq h).Wf := by
  refine ⟨hw.1, fun s h1 => ?_⟩
  rcases set_zero_mem h1 with h2 | h2
  · exact hw.2 s h2
  · subst h2
    refine bndS_fit (hw.2 _ ?_) hk
    have := hm.1.2.2.2.2.2.2.2.2
    rw [List.getD_eq_getElem?_getD, List.getElem?_eq_getElem (by omega)]; exact List.getElem_mem _
theorem set0_get {l : List Slot} (h : 0 < l.length) (x : Slot) : (l.set 0 x).getD 0 Slot.zero = x := by
  rw [List.getD_eq_getElem?_getD, List.getElem?_set_self h]; rfl
theorem xor_u64 (a b : Nat) (ha : a < 18446744073709551616) (hb : b < 18446744073709551616) : bits .xor .u64 (a : Int) (b : Int) = ((a ^^^ b : Nat) : Int) := by
  exact bits_xor_nat .u64 64 (by decide) (fun n h0 h1 => by rw [IntKind.wrap_u64]; exact Int.emod_eq_of_lt h0 (by simpa using h1)) a b ha hb
/-- What a mixed page says. -/
theorem opn_mixed {S N T mw mh : Nat} {h g : Head} {xs : List (List Nat)} (hL : Lay S N T mw mh) (hc : CanB S N h xs) (hc2 : CanB S N g xs) (hf2 : g.Fit) (hx : ∀ x ∈ xs, ∀ y ∈ x, y < 256) {l : List Nat}
    (hl : l = (packB S N T mw mh h xs).take (N * wdB S T mw) ++ (packB S N T mw mh g xs).drop (N * wdB S T mw)) :
    l.length = pageB S N T mw mh ∧ (∀ y ∈ l, y < 256) ∧ ∃ W R fl, opn S N T mw mh l = ⟨false, 1, some g, W, R, fl⟩ ∧ W.length = N ∧ (sumB (h.slots.getD 0 Slot.zero) (secB S (xs.getD 0 [])) ≠ sumB (g.slots.getD 0 Slot.zero) (secB S (xs.getD 0 [])) → W.getD 0 0 = 3) := by
  have t1 : (packB S N T mw mh h xs).take (N * wdB S T mw) = secsB S T mw h xs N := by
    unfold packB
    rw [List.append_assoc]
    exact List.take_left' (secsB_len hc N)
  have t2 : (packB S N T mw mh g xs).drop (N * wdB S T mw) = sealB mh T (headB g) (sum (headB g)) ++ List.replicate (T / 4 + 1) 0 := by
    unfold packB
    rw [List.append_assoc]
    exact List.drop_left' (secsB_len hc2 N)
  rw [t1, t2] at hl
  have hlen : l.length = pageB S N T mw mh := by
    rw [hl]
    simp only [List.length_append, secsB_len hc, sealB_len, headB_len hc2.1, List.length_replicate]
    unfold pageB lastB; omega
  have hlt : ∀ y ∈ l, y < 256 := by
    intro y hy
    rw [hl] at hy
    simp only [List.mem_append] at hy
    rcases hy with hy | hy | hy
    · exact packB_lt (T := T) (mw := mw) (mh := mh) hc hx y (by unfold packB; simp [hy])
    · exact sealB_lt _ (headB_lt hc2.1) y hy
    · have := List.eq_of_mem_replicate hy; omega
  refine ⟨hlen, hlt, ?_⟩
  have hhd : cut l (N * wdB S T mw) (9 + 11 * N + 4 + pcn mh T) = sealB mh T (headB g) (sum (headB g)) := by
    rw [hl]
    exact cut_mid (secsB_len hc N) (by rw [sealB_len, headB_len hc2.1])
  have hend : ones (l.drop (lastB S N T mw mh)) ≤ T := by
    have e : l.drop (lastB S N T mw mh) = List.replicate (T / 4 + 1) 0 := by
      rw [hl, ← List.append_assoc]
      unfold lastB
      exact List.drop_left' (by rw [List.length_append, secsB_len hc, sealB_len, headB_len hc2.1])
    rw [e, ones_rep]; omega
  have he := ones_end hlen hend
  have hk : hdO S N T mw mh l = some (g, 0) := by
    unfold hdO
    rw [hhd, opn_seal hL.ph (headB_lt hc2.1) (headB_len hc2.1) (sum_lt (headB_lt hc2.1))]
    simp only [headP_headB hc2.1 hf2]
    rw [if_pos ⟨trivial, hend, hc2.1⟩]
  refine ⟨_, _, _, opn_good he hk, by simp, fun hne => ?_⟩
  have e0 : ((List.range N).map (fun i => vdO (scO S T mw l g i))).getD 0 0 = vdO (scO S T mw l g 0) := by
    rw [List.getD_eq_getElem?_getD, List.getElem?_map, List.getElem?_range hL.n1]; rfl
  rw [e0]
  have hsc : cut l (0 * wdB S T mw) (wdB S T mw) = sectB S T mw h xs 0 := by
    obtain ⟨r, hr⟩ := secsB_split (S := S) (T := T) (mw := mw) (h := h) (xs := xs) (i := 0) (I := N) hL.n1
    rw [hl, hr, List.append_assoc, List.append_assoc]
    exact cut_mid (secsB_len hc 0) (sectB_len hc 0)
  have : scO S T mw l g 0 = none := by
    unfold scO
    rw [hsc]
    unfold sectB
    rw [opn_seal hL.pw (secB_lt (S := S) hx 0) (secB_len hc 0) (sumB_lt (hc.1.2 _ (slot_at hc.1 hL.n1)) (secB_lt (S := S) hx 0))]
    simp only
    rw [if_neg (fun e => hne e.symm)]
  rw [this]; rfl
theorem xor_self_iff {a k : Nat} (h : a ^^^ k = a) : k = 0 := by
  have := congrArg (a ^^^ ·) h
  simp only [Nat.xor_self] at this
  rwa [← Nat.xor_assoc, Nat.xor_self, Nat.zero_xor] at this
/-- Where the sums are the same, key and number are turned, or both halves of the number. -/
theorem bound_plain {N key seq : Nat} {h : Head} {x : List Nat} (hN : 1 ≤ N) (hm : h.May N) (hf : h.Fit) (hk : key < 4294967296) (hx : ∀ y ∈ x, y < 256) (hne : h ≠ bndH key seq h)
    (hs : sumB (h.slots.getD 0 Slot.zero) x = sumB ((bndH key seq h).slots.getD 0 Slot.zero) x) :
    (key ≠ 0 ∧ seq % 281474976710656 ≠ 0) ∨ (seq / 4294967296 % 65536 ≠ 0 ∧ seq % 4294967296 ≠ 0) := by
  rw [bndH_slot hN hm] at hs
  have hlen := hm.1.2.2.2.2.2.2.2.2
  have hmem : h.slots.getD 0 Slot.zero ∈ h.slots := by rw [List.getD_eq_getElem?_getD, List.getElem?_eq_getElem (by omega)]; exact List.getElem_mem _
  have hne2 : h.slots.getD 0 Slot.zero ≠ bndS key seq (h.slots.getD 0 Slot.zero) := fun e => hne (by
    unfold bndH
    rw [← e]
    have : h.slots.set 0 (h.slots.getD 0 Slot.zero) = h.slots := by
      rw [List.getD_eq_getElem?_getD, List.getElem?_eq_getElem (by omega)]
      exact List.set_getElem_self _
    rw [this])
  have hok := hm.2 _ hmem
  have hkey := hf.2 _ hmem
  generalize h.slots.getD 0 Slot.zero = s at *
  clear hlen hmem hne hm hf
  have hap := fun q => sumB_apart (s := s) (u := bndS key seq s) (x := x) hok (bndS_ok hok) rfl hkey (bndS_key hkey hk) hx q hs
  have hsq : (s.seq ^^^ seq) % 281474976710656 = s.seq ^^^ (seq % 281474976710656) := by
    have := @Nat.xor_mod_two_pow s.seq seq 48
    rw [show (2 : Nat) ^ 48 = 281474976710656 from rfl] at this
    rw [this, Nat.mod_eq_of_lt hok.2.2]
  have k1 : key = 0 → s.key ^^^ key = s.key := fun e => by rw [e, Nat.xor_zero]
  have k2 : seq % 281474976710656 = 0 → (s.seq ^^^ seq) % 281474976710656 = s.seq := fun e => by rw [hsq, e, Nat.xor_zero]
  by_cases e1 : key = 0
  · by_cases e2 : seq % 281474976710656 = 0
    · exact absurd (show s = bndS key seq s from by unfold bndS; rw [k1 e1, k2 e2]) hne2
    · right
      have n2 : s.seq ≠ (bndS key seq s).seq := fun e => e2 (xor_self_iff (a := s.seq) (by
        have h1 : s.seq = (s.seq ^^^ seq) % 281474976710656 := e
        rw [hsq] at h1; exact h1.symm))
      have n3 : ¬ (s.seq / 4294967296 = (bndS key seq s).seq / 4294967296 ∨ s.seq % 4294967296 = (bndS key seq s).seq % 4294967296) := fun q => hap (.inr ⟨(k1 e1).symm, n2, q⟩)
      have d1 : (bndS key seq s).seq / 4294967296 = s.seq / 4294967296 ^^^ seq % 281474976710656 / 4294967296 := by
        show (s.seq ^^^ seq) % 281474976710656 / 4294967296 = _
        rw [hsq]
        exact @Nat.xor_div_two_pow s.seq (seq % 281474976710656) 32
      have d2 : (bndS key seq s).seq % 4294967296 = s.seq % 4294967296 ^^^ seq % 281474976710656 % 4294967296 := by
        show (s.seq ^^^ seq) % 281474976710656 % 4294967296 = _
        rw [hsq]
        exact @Nat.xor_mod_two_pow s.seq (seq % 281474976710656) 32
      rw [d1, d2] at n3
      refine ⟨fun e => n3 (.inl ?_), fun e => n3 (.inr ?_)⟩
      · rw [show seq % 281474976710656 / 4294967296 = seq / 4294967296 % 65536 by omega, e, Nat.xor_zero]
      · rw [show seq % 281474976710656 % 4294967296 = seq % 4294967296 by omega, e, Nat.xor_zero]
  · by_cases e2 : seq % 281474976710656 = 0
    · exact absurd rfl (fun _ : (0 : Nat) = 0 => hap (.inl ⟨fun e => e1 (xor_self_iff (a := s.key) (show s.key ^^^ key = s.key from e.symm)), (k2 e2).symm⟩))
    · exact .inl ⟨e1, e2⟩
/-- What is told of a mixed page, in memory. -/
theorem opv_mixed {w : World} {v : Value} {h : Head} {N fl : Nat} {W : List Nat} {R : List (Option (List Nat))} (hw : W.length = N) (hv : OpV w v ⟨false, 1, some h, W, R, fl⟩) :
    ∃ sa sc wa wc ra rl rc, v = .agg #[.bool false, .int .i64 1, .int .i64 h.kind, .int .u32 (h.id : Nat), .int .i64 h.row, .int .i64 h.place, .int .i64 h.width, .slice sa h.slots.length sc, .slice wa N wc, .slice ra rl rc, .int .i64 (fl : Nat)] ∧ Rd .i64 w (.slice wa N wc) W := by
  obtain ⟨sa, sc, wa, wc, ra, rc, e, h1, h2, h3⟩ := hv.out
  refine ⟨sa, sc, wa, wc, ra, R.length, rc, ?_, ?_⟩
  · rw [e]
    show Value.agg #[_, _, _, _, _, _, _, _, .slice wa W.length wc, _, _] = _
    rw [hw]; rfl
  · have h4 : Rd .i64 w (.slice wa W.length wc) W := h2
    rwa [hw] at h4
theorem cut_zero (l : List Nat) (n : Nat) : cut l 0 n = l.take n := by unfold cut; rw [List.drop_zero]
theorem cut_rest {l : List Nat} {a n : Nat} (h : l.length = a + n) : cut l a n = l.drop a := by
  unfold cut
  exact List.take_of_length_le (by rw [List.length_drop]; omega)
end Go.Proofs.Ytoanopegoilcnaa
