/- Plain facts on code words: sums of words, words that are small, the register of the encoder. No program in sight. -/
import Derived.Test.YtjompiihdnaogaaBg
import Derived.Test.YtjompiihdnaogaaBr
namespace Gf

theorem sx_add (f : Nat → Nat) (a n : Nat) : sx f (a + n) = sx f a ^^^ sx (fun i => f (a + i)) n := by
  induction n with
  | zero => simp [sx]
  | succ n ih => rw [← Nat.add_assoc, sx, ih, sx, Nat.xor_assoc]
theorem sx_rev (f : Nat → Nat) (n : Nat) : sx (fun i => f (n - 1 - i)) n = sx f n := by
  induction n with
  | zero => rfl
  | succ n ih =>
    rw [sx_head, sx, ← ih, Nat.xor_comm]
    congr 1
    exact sx_congr _ (fun i _ => by congr 1; omega)
theorem ite_xor (a b : Bool) (x : Nat) : (if (a ^^ b) then x else 0) = (if a then x else 0) ^^^ (if b then x else 0) := by
  cases a <;> cases b <;> simp

/-- A word: its sums at the first 2 t powers are 0. -/
def Cw (m t : Nat) (w : Nat → Bool) (L : Nat) : Prop := ∀ k, 1 ≤ k → k ≤ 2 * t → syn m w L k = 0
/-- In how many places two words differ. -/
def dst (w c : Nat → Bool) (L : Nat) : Nat := (supp (fun k => w k ^^ c k) L).length

theorem syn_congr {m : Nat} {w c : Nat → Bool} {L : Nat} (k : Nat) (hw : ∀ p, p < L → w p = c p) : syn m w L k = syn m c L k :=
  sx_congr _ (fun p hp => by rw [hw p hp])
theorem Cw.congr {m t : Nat} {w c : Nat → Bool} {L : Nat} (h : Cw m t w L) (hw : ∀ p, p < L → w p = c p) : Cw m t c L := fun k h1 h2 => by
  rw [← syn_congr k hw]; exact h k h1 h2
theorem syn_xor (m : Nat) (w c : Nat → Bool) (L k : Nat) : syn m (fun p => w p ^^ c p) L k = syn m w L k ^^^ syn m c L k := by
  unfold syn
  rw [← sx_xor]
  exact sx_congr _ (fun p _ => ite_xor _ _ _)
theorem Cw.xor {m t : Nat} {w c : Nat → Bool} {L : Nat} (h1 : Cw m t w L) (h2 : Cw m t c L) : Cw m t (fun p => w p ^^ c p) L := fun k a b => by
  rw [syn_xor, h1 k a b, h2 k a b]; rfl
theorem supp_congr {w c : Nat → Bool} {L : Nat} (h : ∀ p, p < L → w p = c p) : supp w L = supp c L := by
  unfold supp
  apply List.filter_congr
  intro p hp
  exact h p (by simpa using hp)
theorem dst_congr {w c w' c' : Nat → Bool} {L : Nat} (h : ∀ p, p < L → w p = w' p) (h2 : ∀ p, p < L → c p = c' p) : dst w c L = dst w' c' L := by
  unfold dst
  rw [supp_congr (fun p hp => by rw [h p hp, h2 p hp])]
theorem dst_comm (w c : Nat → Bool) (L : Nat) : dst w c L = dst c w L := by
  unfold dst
  rw [supp_congr (fun p _ => Bool.xor_comm _ _)]
theorem dst_self (w : Nat → Bool) (L : Nat) : dst w w L = 0 := by
  unfold dst supp
  simp
/-- A word out of two differs nowhere that neither does. -/
theorem supp_tri (u v : Nat → Bool) (L : Nat) : (supp (fun k => u k ^^ v k) L).length ≤ (supp u L).length + (supp v L).length := by
  induction L with
  | zero => simp [supp]
  | succ L ih =>
    rw [supp_succ, supp_succ, supp_succ]
    simp only [List.length_append]
    cases u L <;> cases v L <;> simp <;> omega
theorem dst_tri (a b c : Nat → Bool) (L : Nat) : dst a c L ≤ dst a b L + dst b c L := by
  unfold dst
  refine Nat.le_trans (Nat.le_of_eq ?_) (supp_tri (fun k => a k ^^ b k) (fun k => b k ^^ c k) L)
  rw [supp_congr (fun p _ => ?_)]
  cases a p <;> cases b p <;> cases c p <;> rfl

section
variable {m : Nat} (h : Ok m)
include h

theorem syn_lt (w : Nat → Bool) (L k : Nat) : syn m w L k < 2^m := sx_lt _ _ fun p _ => by
  split
  · exact pw_lt h _
  · exact Nat.two_pow_pos m

theorem syn_dbl (w : Nat → Bool) (L k : Nat) : syn m w L (2 * k) = mul m (syn m w L k) (syn m w L k) := by
  induction L with
  | zero => show 0 = mul m 0 0; rw [mul_zero]
  | succ L ih =>
    have e : ∀ j, syn m w (L+1) j = syn m w L j ^^^ (if w L then pw m (L * j) else 0) := fun j => rfl
    rw [e, e, ih, sq_xor h (syn_lt h _ _ _)]
    · congr 1
      cases w L
      · simp [mul_zero]
      · simp only [if_true]; rw [mul_pw h]; congr 1; rw [Nat.mul_left_comm]; omega
    · split
      · exact pw_lt h _
      · exact Nat.two_pow_pos m

theorem syn_mod (w : Nat → Bool) (L a b : Nat) (e : a % sz m = b % sz m) : syn m w L a = syn m w L b := by
  refine sx_congr _ (fun p _ => ?_)
  split
  · exact (pw_eq_iff h _ _).2 (mul_mod_congr p (sz m) e)
  · rfl

theorem cw_exs {t : Nat} {w : Nat → Bool} {L : Nat} (hc : Cw m t w L) (e : Nat) (he : e ∈ exs m t) : syn m w L e = 0 := by
  obtain ⟨k, j, h1, h2, rfl⟩ := exs_from t e he
  rw [syn_mod h w L _ (2^j * k) (Nat.mod_mod _ _)]
  induction j with
  | zero => rw [Nat.pow_zero, Nat.one_mul]; exact hc k h1 h2
  | succ j ih =>
    have hz : syn m w L (2^j * k) = 0 := by
      by_cases hm : (2^j * k) % sz m ∈ exs m t
      · exact ih hm
      · have hk := gen_powers h t k h1 h2
        have := exs_doubles h t _ j hk
        rw [Nat.mul_mod_mod] at this
        exact absurd this hm
    rw [Nat.pow_succ, Nat.mul_comm (2^j) 2, Nat.mul_assoc, syn_dbl h, hz, mul_zero]
theorem cw_of_exs {t : Nat} {w : Nat → Bool} {L : Nat} (hz : ∀ e ∈ exs m t, syn m w L e = 0) : Cw m t w L := fun k h1 h2 => by
  rw [syn_mod h w L k (k % sz m) (Nat.mod_mod _ _).symm]
  exact hz _ (gen_powers h t k h1 h2)

/-- A word of fewer powers than the generator's degree is 0. -/
theorem small_zero {t r : Nat} {w : Nat → Bool} (hr : (gen m t).length = r + 1) (hz : ∀ e ∈ exs m t, syn m w r e = 0) : ∀ p, p < r → w p = false := by
  have hl : (exs m t).length = r := by have := (exs_nodup h t).2; omega
  have hp : ∀ y ∈ (List.range r).map (fun i => if w i then 1 else 0), y < 2^m := by
    intro y hy
    obtain ⟨i, _, rfl⟩ := List.mem_map.1 hy
    have := one_lt m h
    split <;> omega
  have hg : ∀ i, i < r → ((List.range r).map (fun i => if w i then 1 else 0)).getD i 0 = if w i then 1 else 0 := fun i hi => by simp [List.getD, hi]
  have key := roots_zero h r ((List.range r).map fun i => if w i then 1 else 0) ((exs m t).map (pw m)) (by simp) (by simpa using hl) (by
    refine List.Pairwise.map _ (S := fun a b => a ≠ b) (R := fun a b => a ≠ b ∧ a < sz m ∧ b < sz m) ?_ ?_
    · intro a b ⟨hab, ha, hb⟩ e
      exact hab (pw_inj h ha hb e)
    · exact List.Pairwise.imp_of_mem (fun ha hb hab => ⟨hab, exs_lt h t _ ha, exs_lt h t _ hb⟩) (exs_nodup h t).1) hp (by
    intro x hx
    obtain ⟨e, he, rfl⟩ := List.mem_map.1 hx
    refine ⟨pw_lt h e, ?_⟩
    rw [ev_sx h _ _ r (pw_lt h e) hp (fun i hi => getD_ge (by simpa using hi))]
    refine Eq.trans ?_ (hz e he)
    refine sx_congr _ (fun i hi => ?_)
    rw [hg i hi, xp_pw h, Nat.mul_comm e i]
    cases w i
    · simp [zero_mul]
    · simp only [if_true]; rw [one_mul h (pw_lt h _)])
  intro p hp'
  have := key (if w p then 1 else 0) (List.mem_map.2 ⟨p, by simpa using hp', rfl⟩)
  cases hw : w p
  · rfl
  · rw [hw] at this; simp at this

/-- Two words whose higher powers are one are one. -/
theorem cw_same {t r L : Nat} {w c : Nat → Bool} (hr : (gen m t).length = r + 1) (hL : r ≤ L) (hw : Cw m t w L) (hc : Cw m t c L) (hh : ∀ p, r ≤ p → p < L → w p = c p) : ∀ p, p < L → w p = c p := by
  have hx : Cw m t (fun p => w p ^^ c p) L := hw.xor hc
  have hs := small_zero h (w := fun p => w p ^^ c p) hr (fun e he => by
    have := cw_exs h hx e he
    rw [← this]
    exact (sx_more _ _ _ hL (fun i h1 h2 => by simp only [hh i h1 h2]; simp)).symm)
  intro p hp
  by_cases hpr : p < r
  · have := hs p hpr
    revert this
    cases w p <;> cases c p <;> simp
  · exact hh p (by omega) hp

/-- The generator's lower powers are its highest one. -/
theorem gen_syn {t r : Nat} (hr : (gen m t).length = r + 1) (e : Nat) (he : e ∈ exs m t) : syn m (fun i => (gn (fun i => (gen m t).getD i 0) r).testBit i) r e = pw m (r * e) := by
  have hb := gen_bin h t
  have hle : ∀ i, (gen m t).getD i 0 ≤ 1 := fun i => by rcases bin_getD hb i with e | e <;> rw [e] <;> omega
  have hlt := gen_lt h t
  have h0 : ev m (gen m t) (pw m e) = 0 := (gen_root h t e).2 (by rw [Nat.mod_eq_of_lt (exs_lt h t e he)]; exact he)
  rw [ev_sx h _ _ (r+1) (pw_lt h e) hlt (fun i hi => getD_ge (by omega)), sx] at h0
  have htop : (gen m t).getD r 0 = 1 := by have := (gen_mon h t).1.2; rwa [hr] at this
  rw [htop, xp_pw h, one_mul h (pw_lt h _)] at h0
  have := xor_zero h0
  rw [Nat.mul_comm r e, ← this]
  refine sx_congr _ (fun i hi => ?_)
  simp only [gn_bit hle]
  rw [xp_pw h, Nat.mul_comm i e]
  rcases bin_getD hb i with e1 | e1 <;> rw [e1]
  · simp [zero_mul]
  · simp [hi, one_mul h (pw_lt h _)]

/-- One bit more in the register. -/
theorem zstep_syn {t r : Nat} (hr : (gen m t).length = r + 1) (r1 : 1 ≤ r) (r128 : r ≤ 128) (Z : Nat) (b : Bool) (e : Nat) (he : e ∈ exs m t) :
    syn m (fun i => (zstep r (gn (fun i => (gen m t).getD i 0) r) Z b).testBit i) r e = mul m (pw m e) (syn m (fun i => Z.testBit i) r e) ^^^ (if b then pw m (r * e) else 0) := by
  have hg := gen_syn h hr e he
  generalize gn (fun i => (gen m t).getD i 0) r = G at *
  obtain ⟨q, rfl⟩ : ∃ q, r = q + 1 := ⟨r - 1, by omega⟩
  have e1 : syn m (fun i => (zstep (q+1) G Z b).testBit i) (q+1) e = syn m (fun i => (((2 * Z) % 2^128).testBit i) ^^ ((Z.testBit q ^^ b) && G.testBit i)) (q+1) e := by
    refine syn_congr e (fun p _ => ?_)
    unfold zstep
    rw [Nat.testBit_xor, show q + 1 - 1 = q by omega]
    congr 1
    cases (Z.testBit q ^^ b) <;> simp
  have e2 : syn m (fun i => ((2 * Z) % 2^128).testBit i) (q+1) e = mul m (pw m e) (syn m (fun i => Z.testBit i) q e) := by
    unfold syn
    rw [sx_head, sx_mul h _ (pw_lt h e) _ _ (fun i _ => by split; exact pw_lt h _; exact Nat.two_pow_pos m)]
    have z0 : ((2 * Z) % 2^128).testBit 0 = false := by
      rw [Nat.testBit_mod_two_pow, Nat.testBit_zero]; simp
    simp only [z0]
    simp only [Bool.false_eq_true, if_false, Nat.zero_xor]
    refine sx_congr _ (fun i hi => ?_)
    have zi : ((2 * Z) % 2^128).testBit (i+1) = Z.testBit i := by
      rw [Nat.testBit_mod_two_pow, decide_eq_true (show i + 1 < 128 by omega), Nat.testBit_succ, Bool.true_and]
      congr 1; omega
    simp only [zi]
    by_cases hzi : Z.testBit i = true
    rotate_left
    · simp [hzi, mul_zero]
    · simp only [hzi, if_true]; rw [mul_pw h]; congr 1; rw [Nat.add_mul, Nat.add_comm, Nat.one_mul]
  have e3 : syn m (fun i => (Z.testBit q ^^ b) && G.testBit i) (q+1) e = if (Z.testBit q ^^ b) then pw m ((q+1) * e) else 0 := by
    cases (Z.testBit q ^^ b)
    · simp only [Bool.false_and, Bool.false_eq_true, if_false]; exact sx_zero _
    · simp only [Bool.true_and, if_true]; exact hg
  have e4 : syn m (fun i => Z.testBit i) (q+1) e = syn m (fun i => Z.testBit i) q e ^^^ (if Z.testBit q then pw m (q * e) else 0) := rfl
  rw [e1, syn_xor, e2, e3, e4, mul_xor h (syn_lt h _ _ _) (by split; exact pw_lt h _; exact Nat.two_pow_pos m) _ (pw_lt h e), ite_xor, Nat.xor_assoc]
  congr 2
  cases Z.testBit q
  · simp [mul_zero]
  · simp only [if_true]; rw [mul_pw h]; congr 1; rw [Nat.add_mul, Nat.add_comm, Nat.one_mul]

/-- The register behind I bits. -/
def dsum (m r e : Nat) (b : Nat → Bool) (I : Nat) : Nat := sx (fun i => if b i then pw m ((I - 1 - i + r) * e) else 0) I
theorem dsum_succ (r e : Nat) (b : Nat → Bool) (I : Nat) : dsum m r e b (I+1) = mul m (pw m e) (dsum m r e b I) ^^^ (if b I then pw m (r * e) else 0) := by
  unfold dsum
  rw [sx, sx_mul h _ (pw_lt h e) _ _ (fun i _ => by split; exact pw_lt h _; exact Nat.two_pow_pos m)]
  congr 1
  · refine sx_congr _ (fun i hi => ?_)
    cases b i
    · simp [mul_zero]
    · simp only [if_true]; rw [mul_pw h]; congr 1
      rw [show I + 1 - 1 - i + r = (I - 1 - i + r) + 1 by omega, Nat.add_mul, Nat.add_comm, Nat.one_mul]
  · rw [show I + 1 - 1 - I + r = r by omega]

theorem zb_syn {t r : Nat} (hr : (gen m t).length = r + 1) (r1 : 1 ≤ r) (r128 : r ≤ 128) (Z x e : Nat) (b : Nat → Bool) (I : Nat) (he : e ∈ exs m t)
    (hZ : syn m (fun i => Z.testBit i) r e = dsum m r e b I) (hb : ∀ i, i < 8 → b (I + i) = x.testBit (7 - i)) :
    ∀ i, i ≤ 8 → syn m (fun j => (zb r (gn (fun i => (gen m t).getD i 0) r) Z x i).testBit j) r e = dsum m r e b (I + i) := by
  intro i
  induction i with
  | zero => intro _; exact hZ
  | succ i ih =>
    intro hi
    rw [zb, zstep_syn h hr r1 r128 _ _ e he, ih (by omega), ← Nat.add_assoc, dsum_succ h, hb i (by omega)]

theorem zd_syn {t r : Nat} (hr : (gen m t).length = r + 1) (r1 : 1 ≤ r) (r128 : r ≤ 128) (f : Nat → Nat) (e : Nat) (b : Nat → Bool) (he : e ∈ exs m t)
    (hb : ∀ i, b i = (f (i / 8)).testBit (7 - i % 8)) (j : Nat) :
    syn m (fun i => (zd r (gn (fun i => (gen m t).getD i 0) r) f j).testBit i) r e = dsum m r e b (8 * j) := by
  induction j with
  | zero => show syn m (fun i => (0 : Nat).testBit i) r e = 0; simp only [Nat.zero_testBit]; exact sx_zero _
  | succ j ih =>
    have := zb_syn h hr r1 r128 _ (f j) e b (8 * j) he ih (fun i hi => by rw [hb, show (8 * j + i) / 8 = j by omega, show (8 * j + i) % 8 = i by omega]) 8 (Nat.le_refl _)
    exact this

/-- Data and the register are a word. -/
theorem word_cw {t r : Nat} (hr : (gen m t).length = r + 1) (r1 : 1 ≤ r) (r128 : r ≤ 128) (f : Nat → Nat) (j : Nat) (b : Nat → Bool) (hb : ∀ i, b i = (f (i / 8)).testBit (7 - i % 8)) (w : Nat → Bool)
    (h1 : ∀ k, k < r → w k = (zd r (gn (fun i => (gen m t).getD i 0) r) f j).testBit k) (h2 : ∀ k, k < 8 * j → w (r + k) = b (8 * j - 1 - k)) : Cw m t w (8 * j + r) := by
  refine cw_of_exs h fun e he => ?_
  rw [Nat.add_comm]
  show sx _ (r + 8 * j) = 0
  rw [sx_add]
  have e1 : sx (fun p => if w p then pw m (p * e) else 0) r = dsum m r e b (8 * j) := by
    rw [← zd_syn h hr r1 r128 f e b he hb j]
    exact sx_congr _ (fun p hp => by simp only [h1 p hp])
  have e2 : sx (fun i => if w (r + i) then pw m ((r + i) * e) else 0) (8 * j) = dsum m r e b (8 * j) := by
    unfold dsum
    rw [← sx_rev]
    refine sx_congr _ (fun i hi => ?_)
    rw [h2 _ (by omega), show 8 * j - 1 - (8 * j - 1 - i) = i by omega, Nat.add_comm r]
  rw [e1, e2, Nat.xor_self]
end
end Gf
