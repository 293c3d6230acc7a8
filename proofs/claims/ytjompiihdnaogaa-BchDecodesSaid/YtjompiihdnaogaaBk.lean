/- Words in bytes: bits turned, the encoder's word, what a decoder may answer. -/
import Derived.Test.YtjompiihdnaogaaBce
import Derived.Test.YtjompiihdnaogaaBcc
import Derived.Test.YtjompiihdnaogaaBh
namespace Go.Proofs.Ytjompiihdnaogaa
open Go.RowKit Go.Mem

/-- One bit turned. -/
def tb (f : Nat → Nat) (i : Nat) : Nat → Nat := upd f (i / 8) (f (i / 8) ^^^ (128 >>> (i % 8)))
theorem shr_bit (a b : Nat) (ha : a < 8) (hb : b < 8) : (128 >>> a).testBit (7 - b) = decide (a = b) := by
  have : ∀ a : Fin 8, ∀ b : Fin 8, (128 >>> a.val).testBit (7 - b.val) = decide (a.val = b.val) := by decide
  exact this ⟨a, ha⟩ ⟨b, hb⟩
theorem shr_lt (a : Nat) : 128 >>> a < 256 := by rw [Nat.shiftRight_eq_div_pow]; exact Nat.lt_of_le_of_lt (Nat.div_le_self _ _) (by decide)
theorem tb_lt {f : Nat → Nat} (hf : ∀ j, f j < 256) (i : Nat) : ∀ j, tb f i j < 256 := fun j => by
  unfold tb upd
  split
  · exact Nat.xor_lt_two_pow (n := 8) (hf _) (shr_lt _)
  · exact hf j
theorem bitAt_tb (f : Nat → Nat) (i j : Nat) : bitAt (tb f i) j = (bitAt f j ^^ decide (i = j)) := by
  unfold bitAt tb upd
  by_cases h : j / 8 = i / 8
  · rw [if_pos h, Nat.testBit_xor, shr_bit _ _ (Nat.mod_lt _ (by decide)) (Nat.mod_lt _ (by decide)), h]
    congr 1
    have : (i % 8 = j % 8) ↔ (i = j) := by omega
    exact decide_eq_decide.2 this
  · rw [if_neg h, decide_eq_false (show ¬ i = j from fun e => h (by rw [e]))]
    simp

/-- The bits of data and parity by their powers. -/
def wd (n r : Nat) (d p : Nat → Nat) (k : Nat) : Bool := if k < r then bitAt p (r - 1 - k) else bitAt d (n + r - 1 - k)
theorem wd_lo {n r : Nat} {d p : Nat → Nat} {k : Nat} (h : k < r) : wd n r d p k = bitAt p (r - 1 - k) := if_pos h
theorem wd_hi {n r : Nat} {d p : Nat → Nat} {k : Nat} (h : r ≤ k) : wd n r d p k = bitAt d (n + r - 1 - k) := if_neg (by omega)

theorem synf_syn (m n r : Nat) (d p : Nat → Nat) (k : Nat) : synf m n r d p n r k = Gf.syn m (wd n r d p) (n + r) (k + 1) := by
  unfold synf sy1 Gf.syn
  rw [Nat.add_comm n r, Gf.sx_add, Nat.xor_comm]
  congr 1
  · rw [← Gf.sx_rev (fun q => if wd n r d p q then Gf.pw m (q * (k+1)) else 0)]
    refine Gf.sx_congr _ (fun i hi => ?_)
    simp only [wd_lo (n := n) (d := d) (p := p) (show r - 1 - i < r by omega), show r - 1 - (r - 1 - i) = i by omega]
  · rw [← Gf.sx_rev (fun i => if wd n r d p (r + i) then Gf.pw m ((r + i) * (k+1)) else 0)]
    refine Gf.sx_congr _ (fun i hi => ?_)
    simp only [wd_hi (n := n) (d := d) (p := p) (show r ≤ r + (n - 1 - i) by omega), show n + r - 1 - (r + (n - 1 - i)) = i by omega]
    rw [show r + (n - 1 - i) = r + n - 1 - i by omega]

theorem bitAt_zero (i : Nat) : bitAt (fun _ => 0) i = false := by simp [bitAt]
theorem bitAt_pbI (r X I i : Nat) : bitAt (pbI r X I) i = (decide (i < I) && X.testBit (r - 1 - i)) := by
  induction I with
  | zero => simp [pbI, bitAt_zero]
  | succ I ih =>
    unfold pbI
    by_cases hb : X.testBit (r - 1 - I) = true
    · rw [if_pos hb]
      show bitAt (tb _ I) i = _
      rw [bitAt_tb, ih]
      by_cases e : I = i
      · subst e; simp [hb]
      · rw [decide_eq_false e, Bool.xor_false]
        congr 1
        exact decide_eq_decide.2 (by omega)
    · rw [if_neg hb, ih]
      by_cases e : I = i
      · subst e; simp [hb]
      · congr 1
        exact decide_eq_decide.2 (by omega)

/-- Encoded data are a word. -/
theorem par_cw {bytes t m : Nat} (hp : Par bytes t m) (xs : List Nat) (hl : xs.length = bytes) : Gf.Cw m t (wd (8 * bytes) (rr m t) (xs.getD · 0) (par m t xs)) (8 * bytes + rr m t) := by
  subst hl
  have hr := hp.r
  refine Gf.word_cw hp.ok hr.1 hr.2.1 (by omega) (xs.getD · 0) xs.length (bitAt (xs.getD · 0)) (fun i => rfl) _ (fun k hk => ?_) (fun k hk => ?_)
  · rw [wd_lo hk]
    unfold par
    rw [bitAt_pbI, decide_eq_true (show rr m t - 1 - k < rr m t by omega), Bool.true_and, show rr m t - 1 - (rr m t - 1 - k) = k by omega]
    rfl
  · rw [wd_hi (by omega)]
    congr 1; omega
theorem par_pad (m t : Nat) (xs : List Nat) (i : Nat) (h : rr m t ≤ i) : bitAt (par m t xs) i = false := by
  unfold par
  rw [bitAt_pbI, decide_eq_false (by omega), Bool.false_and]
theorem par_lt (m t : Nat) (xs : List Nat) : ∀ j, par m t xs j < 256 := pbI_lt _ _ _

/-- Is a power one of a root's? -/
def rtB (m : Nat) (l : List Nat) (K : Nat) : Bool := decide (Gf.ev m l (Gf.yv m K) = 0)
def dfl (n r m : Nat) (l : List Nat) (d : Nat → Nat) : Nat → Nat → Nat
  | 0 => d
  | K+1 => if rtB m l K && decide (r ≤ K) then tb (dfl n r m l d K) (n + r - 1 - K) else dfl n r m l d K
def pfl (r m : Nat) (l : List Nat) (p : Nat → Nat) : Nat → Nat → Nat
  | 0 => p
  | K+1 => if rtB m l K && decide (K < r) then tb (pfl r m l p K) (r - 1 - K) else pfl r m l p K
def cnt (m : Nat) (l : List Nat) : Nat → Nat
  | 0 => 0
  | K+1 => cnt m l K + (rtB m l K).toNat

theorem dfl_lt {n r m : Nat} {l : List Nat} {d : Nat → Nat} (hd : ∀ j, d j < 256) (K : Nat) : ∀ j, dfl n r m l d K j < 256 := by
  induction K with
  | zero => exact hd
  | succ K ih => intro j; unfold dfl; split; exact tb_lt ih _ j; exact ih j
theorem pfl_lt {r m : Nat} {l : List Nat} {p : Nat → Nat} (hp : ∀ j, p j < 256) (K : Nat) : ∀ j, pfl r m l p K j < 256 := by
  induction K with
  | zero => exact hp
  | succ K ih => intro j; unfold pfl; split; exact tb_lt ih _ j; exact ih j
theorem pfl_pad {r m : Nat} {l : List Nat} {p : Nat → Nat} (K i : Nat) (hi : r ≤ i) : bitAt (pfl r m l p K) i = bitAt p i := by
  induction K with
  | zero => rfl
  | succ K ih =>
    unfold pfl
    split
    · rename_i h
      simp only [Bool.and_eq_true, decide_eq_true_eq] at h
      rw [bitAt_tb, ih, decide_eq_false (by omega), Bool.xor_false]
    · exact ih

theorem wd_fl (n r m : Nat) (l : List Nat) (d p : Nat → Nat) (K : Nat) (hK : K ≤ n + r) (k : Nat) (hk : k < n + r) : wd n r (dfl n r m l d K) (pfl r m l p K) k = (wd n r d p k ^^ (decide (k < K) && rtB m l k)) := by
  induction K with
  | zero => simp [dfl, pfl]
  | succ K ih =>
    have ih := ih (by omega)
    cases hb : rtB m l K with
    | false =>
      have e1 : dfl n r m l d (K+1) = dfl n r m l d K := by rw [dfl, hb]; rfl
      have e2 : pfl r m l p (K+1) = pfl r m l p K := by rw [pfl, hb]; rfl
      rw [e1, e2, ih]
      congr 1
      by_cases e : k = K
      · subst e; simp [hb]
      · congr 1; exact decide_eq_decide.2 (by omega)
    | true =>
      by_cases hr : K < r
      · have e1 : dfl n r m l d (K+1) = dfl n r m l d K := by rw [dfl, hb, decide_eq_false (by omega)]; rfl
        have e2 : pfl r m l p (K+1) = tb (pfl r m l p K) (r - 1 - K) := by rw [pfl, hb, decide_eq_true hr]; rfl
        rw [e1, e2]
        by_cases hkr : k < r
        · rw [wd_lo hkr] at ih ⊢
          rw [bitAt_tb, ih]
          by_cases e : k = K
          · subst e; simp [hb]
          · rw [decide_eq_false (show ¬ r - 1 - K = r - 1 - k by omega), Bool.xor_false]
            congr 2; exact decide_eq_decide.2 (by omega)
        · rw [wd_hi (by omega)] at ih ⊢
          rw [ih]
          congr 2; exact decide_eq_decide.2 (by omega)
      · have e1 : dfl n r m l d (K+1) = tb (dfl n r m l d K) (n + r - 1 - K) := by rw [dfl, hb, decide_eq_true (by omega)]; rfl
        have e2 : pfl r m l p (K+1) = pfl r m l p K := by rw [pfl, hb, decide_eq_false hr]; rfl
        rw [e1, e2]
        by_cases hkr : k < r
        · rw [wd_lo hkr] at ih ⊢
          rw [ih]
          congr 2; exact decide_eq_decide.2 (by omega)
        · rw [wd_hi (by omega)] at ih ⊢
          rw [bitAt_tb, ih]
          by_cases e : k = K
          · subst e; simp [hb]
          · rw [decide_eq_false (show ¬ n + r - 1 - K = n + r - 1 - k by omega), Bool.xor_false]
            congr 2; exact decide_eq_decide.2 (by omega)

theorem cnt_supp (m : Nat) (l : List Nat) (K : Nat) : cnt m l K = (Gf.supp (rtB m l) K).length := by
  induction K with
  | zero => rfl
  | succ K ih => rw [cnt, Gf.supp_succ, List.length_append, ih]; cases rtB m l K <;> simp
theorem supp_cut (f : Nat → Bool) (K L : Nat) (h : K ≤ L) : (Gf.supp (fun k => decide (k < K) && f k) L).length = (Gf.supp f K).length := by
  induction L with
  | zero => obtain rfl : K = 0 := by omega
            rfl
  | succ L ih =>
    by_cases e : K = L + 1
    · subst e
      rw [Gf.supp_congr (fun p hp => ?_)]
      rw [decide_eq_true hp, Bool.true_and]
    · rw [Gf.supp_succ, List.length_append, ih (by omega), decide_eq_false (by omega)]; simp
theorem cnt_mono (m : Nat) (l : List Nat) : ∀ a b, a ≤ b → cnt m l a ≤ cnt m l b := fun a b hab => by
  induction b with
  | zero => obtain rfl : a = 0 := by omega
            exact Nat.le_refl _
  | succ b ih =>
    by_cases e : a = b + 1
    · rw [e]; exact Nat.le_refl _
    · have := ih (by omega); rw [cnt]; omega
theorem cnt_flat (m : Nat) (l : List Nat) (K L : Nat) (_h : K ≤ L) (he : cnt m l L ≤ cnt m l K) : ∀ k, K ≤ k → k < L → rtB m l k = false := by
  intro k h1 h2
  have a1 := cnt_mono m l K k h1
  have a2 := cnt_mono m l (k+1) L (by omega)
  rw [cnt] at a2
  cases hb : rtB m l k
  · rfl
  · rw [hb] at a2; simp at a2; omega

/-- Where there is a word within t bits the locator's roots lead to it. -/
theorem dec_plain {bytes t m : Nat} (hp : Par bytes t m) (w c : Nat → Bool) (s : List Nat) (hlen : s.length = 2 * t) (hs : ∀ y ∈ s, y < 2^m)
    (hsy : ∀ k, k < 2 * t → s.getD k 0 = Gf.syn m w (8 * bytes + rr m t) (k+1)) (K : Nat) (hK : K ≤ 8 * bytes + rr m t) (hend : K = 8 * bytes + rr m t ∨ cnt m (Gf.locator m s) K + 1 = (Gf.locator m s).length)
    (hc : Gf.Cw m t c (8 * bytes + rr m t)) (hd : Gf.dst w c (8 * bytes + rr m t) ≤ t) :
    (∀ k, k < 8 * bytes + rr m t → (w k ^^ (decide (k < K) && rtB m (Gf.locator m s) k)) = c k) ∧ cnt m (Gf.locator m s) K ≤ t := by
  have hr := hp.r
  have hL := hr.2.2.2.2
  generalize 8 * bytes + rr m t = L at *
  obtain ⟨hl, hroot⟩ := Gf.locator_spec hp.ok (fun k => w k ^^ c k) L t hL s hlen hs (fun k hk => by
    rw [hsy k hk, Gf.syn_xor, hc (k+1) (by omega) (by omega), Nat.xor_zero]) hd
  generalize Gf.locator m s = l at *
  have hrt : ∀ k, k < L → rtB m l k = (w k ^^ c k) := fun k hk => by
    unfold rtB
    rw [Bool.eq_iff_iff, decide_eq_true_eq]
    exact hroot k hk
  have hcl : cnt m l L = Gf.dst w c L := by
    rw [cnt_supp]; unfold Gf.dst
    rw [Gf.supp_congr hrt]
  have hflat : ∀ k, K ≤ k → k < L → rtB m l k = false := by
    rcases hend with rfl | hend
    · intro k h1 h2; omega
    · refine cnt_flat m l K L hK ?_
      unfold Gf.dst at hcl
      omega
  refine ⟨fun k hk => ?_, ?_⟩
  · by_cases hkK : k < K
    · rw [decide_eq_true hkK, Bool.true_and, hrt k hk]
      cases w k <;> cases c k <;> rfl
    · have h1 := hflat k (by omega) hk
      rw [decide_eq_false hkK, Bool.false_and, Bool.xor_false]
      rw [hrt k hk] at h1
      revert h1
      cases w k <;> cases c k <;> simp
  · have := cnt_mono m l K L hK
    omega

/-- What is answered where there is a word within t bits. -/
def DecGood (m t n r P : Nat) (d p d' p' : Nat → Nat) (k : Nat) : Prop :=
  Gf.Cw m t (wd n r d' p') (n + r) ∧ Gf.dst (wd n r d p) (wd n r d' p') (n + r) = k ∧ k ≤ t ∧ ∀ i, r ≤ i → i < 8 * P → bitAt p' i = false
/-- There is none. -/
def DecBad (m t n r : Nat) (d p : Nat → Nat) : Prop := ∀ c, Gf.Cw m t c (n + r) → t < Gf.dst (wd n r d p) c (n + r)

theorem byte_ext {a b : Nat} (ha : a < 256) (hb : b < 256) (h : ∀ i, i < 8 → a.testBit i = b.testBit i) : a = b := by
  apply Nat.eq_of_testBit_eq
  intro i
  by_cases hi : i < 8
  · exact h i hi
  · rw [Nat.testBit_lt_two_pow (Nat.lt_of_lt_of_le ha (Nat.pow_le_pow_right (n := 2) (i := 8) (by decide) (by omega))), Nat.testBit_lt_two_pow (Nat.lt_of_lt_of_le hb (Nat.pow_le_pow_right (n := 2) (i := 8) (by decide) (by omega)))]
theorem bytes_ext {f g : Nat → Nat} {n : Nat} (hf : ∀ j, f j < 256) (hg : ∀ j, g j < 256) (h : ∀ i, i < 8 * n → bitAt f i = bitAt g i) : ∀ j, j < n → f j = g j := fun j hj => by
  refine byte_ext (hf j) (hg j) (fun i hi => ?_)
  have := h (8 * j + (7 - i)) (by omega)
  unfold bitAt at this
  rwa [show (8 * j + (7 - i)) / 8 = j by omega, show 7 - (8 * j + (7 - i)) % 8 = i by omega] at this

theorem cw_near {bytes t m : Nat} (hp : Par bytes t m) {w c : Nat → Bool} (h1 : Gf.Cw m t w (8 * bytes + rr m t)) (h2 : Gf.Cw m t c (8 * bytes + rr m t)) (hd : Gf.dst w c (8 * bytes + rr m t) ≤ 2 * t) : ∀ k, k < 8 * bytes + rr m t → w k = c k := fun k hk => by
  have := Gf.word_zero hp.ok (fun k => w k ^^ c k) _ t hp.r.2.2.2.2 hd (h1.xor h2) k hk
  revert this
  cases w k <;> cases c k <;> simp

theorem wd_bytes {bytes r P : Nat} {d1 p1 d2 p2 : Nat → Nat} (_hr : r ≤ 8 * P) (hd1 : ∀ j, d1 j < 256) (hp1 : ∀ j, p1 j < 256) (hd2 : ∀ j, d2 j < 256) (hp2 : ∀ j, p2 j < 256)
    (h : ∀ k, k < 8 * bytes + r → wd (8 * bytes) r d1 p1 k = wd (8 * bytes) r d2 p2 k) (hz : ∀ i, r ≤ i → i < 8 * P → bitAt p1 i = bitAt p2 i) : (∀ j, j < bytes → d1 j = d2 j) ∧ ∀ j, j < P → p1 j = p2 j := by
  constructor
  · refine bytes_ext hd1 hd2 (fun i hi => ?_)
    have := h (8 * bytes + r - 1 - i) (by omega)
    rwa [wd_hi (by omega), wd_hi (by omega), show 8 * bytes + r - 1 - (8 * bytes + r - 1 - i) = i by omega] at this
  · refine bytes_ext hp1 hp2 (fun i hi => ?_)
    by_cases hir : i < r
    · have := h (r - 1 - i) (by omega)
      rwa [wd_lo (by omega), wd_lo (by omega), show r - 1 - (r - 1 - i) = i by omega] at this
    · exact hz i (by omega) hi

theorem DecGood.uniq {bytes t m P : Nat} (hp : Par bytes t m) (hP : P = (rr m t + 7) / 8) {d p d1 p1 d2 p2 : Nat → Nat} {k1 k2 : Nat} (h1 : DecGood m t (8 * bytes) (rr m t) P d p d1 p1 k1) (h2 : DecGood m t (8 * bytes) (rr m t) P d p d2 p2 k2)
    (hd1 : ∀ j, d1 j < 256) (hp1 : ∀ j, p1 j < 256) (hd2 : ∀ j, d2 j < 256) (hp2 : ∀ j, p2 j < 256) : (∀ j, j < bytes → d1 j = d2 j) ∧ (∀ j, j < P → p1 j = p2 j) ∧ k1 = k2 := by
  obtain ⟨a1, a2, a3, a4⟩ := h1
  obtain ⟨b1, b2, b3, b4⟩ := h2
  have hd : Gf.dst (wd (8 * bytes) (rr m t) d1 p1) (wd (8 * bytes) (rr m t) d2 p2) (8 * bytes + rr m t) ≤ 2 * t := by
    refine Nat.le_trans (Gf.dst_tri _ (wd (8 * bytes) (rr m t) d p) _ _) ?_
    rw [Gf.dst_comm, a2, b2]; omega
  have hs := cw_near hp a1 b1 hd
  obtain ⟨c1, c2⟩ := wd_bytes (P := P) (by omega) hd1 hp1 hd2 hp2 hs (fun i h1 h2 => by rw [a4 i h1 h2, b4 i h1 h2])
  refine ⟨c1, c2, ?_⟩
  rw [← a2, ← b2]
  exact Gf.dst_congr (fun _ _ => rfl) hs
theorem DecBad.not {m t n r P : Nat} {d p d1 p1 : Nat → Nat} {k1 : Nat} (h : DecBad m t n r d p) (h1 : DecGood m t n r P d p d1 p1 k1) : False := by
  have := h _ h1.1
  rw [h1.2.1] at this
  have := h1.2.2.1
  omega

/-- The parity with its last byte's other bits away. -/
def pm (r P : Nat) (p : Nat → Nat) : Nat → Nat := if r % 8 = 0 then p else upd p (P - 1) (p (P - 1) &&& ((255 <<< (8 - r % 8)) % 256))
theorem pm_lt {r P : Nat} {p : Nat → Nat} (hp : ∀ j, p j < 256) : ∀ j, pm r P p j < 256 := fun j => by
  unfold pm
  split
  · exact hp j
  · unfold upd
    split
    · exact Nat.lt_of_le_of_lt Nat.and_le_left (hp _)
    · exact hp j
theorem mask_bit (k b : Nat) (hk : k < 8) (hb : b < 8) (h0 : k ≠ 0) : ((255 <<< (8 - k)) % 256).testBit (7 - b) = decide (b < k) := by
  have : ∀ k : Fin 8, ∀ b : Fin 8, k.val ≠ 0 → ((255 <<< (8 - k.val)) % 256).testBit (7 - b.val) = decide (b.val < k.val) := by decide
  exact this ⟨k, hk⟩ ⟨b, hb⟩ h0
theorem bitAt_pm {r P : Nat} (p : Nat → Nat) (hP : P = (r + 7) / 8) (i : Nat) (hi : i < 8 * P) : bitAt (pm r P p) i = (bitAt p i && decide (i < r)) := by
  unfold pm
  split
  · rw [decide_eq_true (by omega), Bool.and_true]
  · rename_i h0
    unfold bitAt upd
    by_cases e : i / 8 = P - 1
    · rw [if_pos e, Nat.testBit_and, mask_bit _ _ (Nat.mod_lt _ (by decide)) (Nat.mod_lt _ (by decide)) h0, e]
      congr 1
      exact decide_eq_decide.2 (by omega)
    · rw [if_neg e, decide_eq_true (by omega), Bool.and_true]
theorem wd_pm {n r P : Nat} (d p : Nat → Nat) (hP : P = (r + 7) / 8) (k : Nat) : wd n r d (pm r P p) k = wd n r d p k := by
  by_cases h : k < r
  · rw [wd_lo h, wd_lo h, bitAt_pm p hP _ (by omega), decide_eq_true (by omega), Bool.and_true]
  · rw [wd_hi (by omega), wd_hi (by omega)]
theorem wd_congr {n r P : Nat} {d p d' p' : Nat → Nat} (hP : r ≤ 8 * P) (hd : ∀ j, j < n / 8 → d j = d' j) (hn : n % 8 = 0) (hp : ∀ j, j < P → p j = p' j) (k : Nat) (hk : k < n + r) : wd n r d p k = wd n r d' p' k := by
  by_cases h : k < r
  · rw [wd_lo h, wd_lo h]; unfold bitAt; rw [hp _ (by omega)]
  · rw [wd_hi (by omega), wd_hi (by omega)]; unfold bitAt; rw [hd _ (by omega)]
end Go.Proofs.Ytjompiihdnaogaa
