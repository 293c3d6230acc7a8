/- Plain: a generator as a number; the register that leaves the rest, bit by bit. No program in sight. -/
import Derived.Test.YtjompiihdnaogaaBg
namespace Gf

/-- The number whose bits are the first I coefficients. -/
def gn (g : Nat → Nat) : Nat → Nat
  | 0 => 0
  | I+1 => gn g I + g I * 2^I

theorem gn_lt {g : Nat → Nat} (hg : ∀ i, g i ≤ 1) (I : Nat) : gn g I < 2^I := by
  induction I with
  | zero => exact Nat.one_pos
  | succ I ih =>
    have h1 : g I * 2^I ≤ 1 * 2^I := Nat.mul_le_mul_right _ (hg I)
    rw [gn, Nat.pow_succ]; omega

theorem gn_or {g : Nat → Nat} (hg : ∀ i, g i ≤ 1) (I : Nat) : gn g (I+1) = gn g I ||| (g I * 2^I) := by
  rw [gn]
  rcases (show g I = 0 ∨ g I = 1 by have := hg I; omega) with h | h
  · rw [h]; simp
  · rw [h, Nat.one_mul, Nat.add_comm, Nat.or_comm]
    have := Nat.two_pow_add_eq_or_of_lt (gn_lt hg I) 1
    rwa [Nat.mul_one] at this

theorem gn_bit {g : Nat → Nat} (hg : ∀ i, g i ≤ 1) (I i : Nat) : (gn g I).testBit i = decide (i < I ∧ g i = 1) := by
  induction I with
  | zero => simp [gn]
  | succ I ih =>
    rw [gn_or hg, Nat.testBit_or, ih]
    rcases (show g I = 0 ∨ g I = 1 by have := hg I; omega) with h | h
    · rw [h, Nat.zero_mul, Nat.zero_testBit, Bool.or_false]
      by_cases e : i = I
      · subst e; simp [h]
      · congr 1; simp; intro _; omega
    · rw [h, Nat.one_mul, Nat.testBit_two_pow]
      by_cases e : i = I
      · subst e; simp [h]
      · have e2 : ¬ I = i := fun x => e x.symm
        simp only [e2, decide_false, Bool.or_false]
        congr 1; simp; intro _; omega

/-- One bit more, in a register of 128 bits. -/
def zstep (r G Z : Nat) (b : Bool) : Nat := ((2 * Z) % 2^128) ^^^ (if (Z.testBit (r - 1) ^^ b) then G else 0)
/-- Behind i bits of a byte, the highest first. -/
def zb (r G Z x : Nat) : Nat → Nat
  | 0 => Z
  | i+1 => zstep r G (zb r G Z x i) (x.testBit (7 - i))
/-- Behind j bytes. -/
def zd (r G : Nat) (f : Nat → Nat) : Nat → Nat
  | 0 => 0
  | j+1 => zb r G (zd r G f j) (f j) 8

theorem zstep_lt {r G Z : Nat} (b : Bool) (hG : G < 2^128) : zstep r G Z b < 2^128 := by
  unfold zstep
  refine Nat.xor_lt_two_pow (Nat.mod_lt _ (Nat.two_pow_pos 128)) ?_
  split
  · exact hG
  · exact Nat.two_pow_pos 128
theorem zb_lt {r G Z x : Nat} (hG : G < 2^128) (hZ : Z < 2^128) (i : Nat) : zb r G Z x i < 2^128 := by
  cases i with
  | zero => exact hZ
  | succ i => exact zstep_lt _ hG
theorem zd_lt {r G : Nat} (f : Nat → Nat) (hG : G < 2^128) (j : Nat) : zd r G f j < 2^128 := by
  cases j with
  | zero => exact Nat.two_pow_pos 128
  | succ j => exact zb_lt hG (zd_lt f hG j) 8

/-- The two halves of a number of 128 bits. -/
def hi64 (Z : Nat) : Nat := Z / 2^64
def lo64 (Z : Nat) : Nat := Z % 2^64
theorem lo64_lt (Z : Nat) : lo64 Z < 2^64 := Nat.mod_lt _ (Nat.two_pow_pos 64)
theorem hi64_lt {Z : Nat} (h : Z < 2^128) : hi64 Z < 2^64 := by
  unfold hi64
  rw [Nat.div_lt_iff_lt_mul (Nat.two_pow_pos 64), ← Nat.pow_add]; exact h
theorem lo64_zero : lo64 0 = 0 := rfl
theorem hi64_zero : hi64 0 = 0 := rfl
theorem bit_halves (Z i : Nat) : Z.testBit i = if i < 64 then (lo64 Z).testBit i else (hi64 Z).testBit (i - 64) := by
  unfold lo64 hi64
  split
  · rename_i h; rw [Nat.testBit_mod_two_pow]; simp [h]
  · rename_i h; rw [Nat.testBit_div_two_pow]; congr 1; omega

theorem gn_lo {g : Nat → Nat} (hg : ∀ i, g i ≤ 1) (I : Nat) (hI : I < 64) : hi64 (gn g (I+1)) = hi64 (gn g I) ∧ lo64 (gn g (I+1)) = lo64 (gn g I) ||| (g I * 2^I) := by
  have h1 := gn_lt hg (I+1)
  have h2 := gn_lt hg I
  have h3 : 2^(I+1) ≤ 2^64 := Nat.pow_le_pow_right (by decide) (by omega)
  have h4 : 2^I ≤ 2^64 := Nat.pow_le_pow_right (by decide) (by omega)
  unfold hi64 lo64
  rw [Nat.div_eq_of_lt (by omega), Nat.div_eq_of_lt (by omega), Nat.mod_eq_of_lt (by omega), Nat.mod_eq_of_lt (by omega)]
  exact ⟨rfl, gn_or hg I⟩

theorem gn_hi {g : Nat → Nat} (hg : ∀ i, g i ≤ 1) (I : Nat) (hI : 64 ≤ I) : hi64 (gn g (I+1)) = hi64 (gn g I) ||| (g I * 2^(I - 64)) ∧ lo64 (gn g (I+1)) = lo64 (gn g I) := by
  have e : 2^I = 2^(I-64) * 2^64 := by rw [← Nat.pow_add]; congr 1; omega
  unfold hi64 lo64
  rw [gn_or hg, Nat.or_div_two_pow, Nat.or_mod_two_pow, e, ← Nat.mul_assoc, Nat.mul_div_cancel _ (Nat.two_pow_pos 64), Nat.mul_mod_left, Nat.or_zero]
  exact ⟨rfl, rfl⟩

theorem hi64_xor (A B : Nat) : hi64 (A ^^^ B) = hi64 A ^^^ hi64 B := Nat.xor_div_two_pow
theorem lo64_xor (A B : Nat) : lo64 (A ^^^ B) = lo64 A ^^^ lo64 B := Nat.xor_mod_two_pow

/-- Twice a number, by its halves. -/
theorem twice_halves (Z : Nat) : hi64 ((2 * Z) % 2^128) = ((hi64 Z * 2) % 2^64) ||| (lo64 Z / 2^63) ∧ lo64 ((2 * Z) % 2^128) = (lo64 Z * 2) % 2^64 := by
  constructor
  · have h1 : (hi64 Z * 2) % 2^64 = 2 * (hi64 Z % 2^63) := by omega
    have h2 : lo64 Z / 2^63 < 2^1 := by unfold lo64; omega
    have h3 : hi64 ((2 * Z) % 2^128) = 2 * (hi64 Z % 2^63) + lo64 Z / 2^63 := by unfold hi64 lo64; omega
    have h4 := Nat.two_pow_add_eq_or_of_lt h2 (hi64 Z % 2^63)
    rw [h1, h3]
    simpa using h4
  · unfold lo64; omega

/-- What the step adds, by the mask of a bit. -/
theorem and_mask (g tp : Nat) (hg : g < 2^64) (_ht : tp ≤ 1) : g &&& (if tp = 1 then 2^64 - 1 else 0) = if tp = 1 then g else 0 := by
  split
  · rw [Nat.and_two_pow_sub_one_eq_mod, Nat.mod_eq_of_lt hg]
  · simp

theorem zstep_halves (r G Z : Nat) (b : Bool) (zh zl gh gl tv bv tp h2 l2 ah al : Nat) (e1 : hi64 Z = zh) (e2 : lo64 Z = zl) (e3 : hi64 G = gh) (e4 : lo64 G = gl)
    (e5 : (Z.testBit (r - 1)).toNat = tv) (e6 : b.toNat = bv) (e7 : tv ^^^ bv = tp) (e8 : ((zh * 2) % 2^64) ||| (zl / 2^63) = h2) (e9 : (zl * 2) % 2^64 = l2)
    (e10 : (if tp = 1 then gh else 0 : Nat) = ah) (e11 : (if tp = 1 then gl else 0 : Nat) = al) :
    hi64 (zstep r G Z b) = h2 ^^^ ah ∧ lo64 (zstep r G Z b) = l2 ^^^ al := by
  have ht : (Z.testBit (r - 1) ^^ b) = decide (tp = 1) := by
    rw [← e7, ← e5, ← e6]
    cases Z.testBit (r - 1) <;> cases b <;> rfl
  have h := twice_halves Z
  unfold zstep
  rw [hi64_xor, lo64_xor, h.1, h.2, e1, e2, e8, e9, ht, ← e10, ← e11]
  by_cases hc : tp = 1
  · rw [if_pos (by simp [hc]), if_pos hc, if_pos hc, e3, e4]; exact ⟨rfl, rfl⟩
  · rw [if_neg (by simp [hc]), if_neg hc, if_neg hc, hi64_zero, lo64_zero]; exact ⟨rfl, rfl⟩
end Gf
