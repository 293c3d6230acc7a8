/- Plain facts on the fields: products bit by bit, values term by term, inverses by powers. No program in sight. -/
import Derived.Test.YtjompiihdnaogaaGf
namespace Gf

/-- The product, of the second factor's lowest i bits. -/
def bs (m a b : Nat) : Nat → Nat
  | 0 => 0
  | i+1 => bs m a b i ^^^ (if b.testBit i then it m i a else 0)

theorem pw_small {m : Nat} (i : Nat) (hi : i < m) : pw m i = 2^i := by
  induction i with
  | zero => rfl
  | succ i ih =>
    rw [pw_succ, ih (by omega), mx, if_pos]
    · rw [Nat.pow_succ]; omega
    · rw [← Nat.pow_succ']; exact Nat.pow_lt_pow_right (by omega) hi

theorem mod_succ_xor (b i : Nat) : b % 2^(i+1) = (b % 2^i) ^^^ (if b.testBit i then 2^i else 0) := by
  apply Nat.eq_of_testBit_eq
  intro j
  rw [Nat.testBit_xor, Nat.testBit_mod_two_pow, Nat.testBit_mod_two_pow]
  by_cases hb : b.testBit i
  · rw [if_pos hb, Nat.testBit_two_pow]
    by_cases e : j = i
    · subst e; simp [hb]
    · by_cases h : j < i
      · simp [h, show j < i + 1 by omega, show ¬ i = j by omega]
      · simp [h, show ¬ j < i + 1 by omega, show ¬ i = j by omega]
  · rw [if_neg hb]
    by_cases e : j = i
    · subst e; simp [hb]
    · by_cases h : j < i
      · simp [h, show j < i + 1 by omega]
      · simp [h, show ¬ j < i + 1 by omega]

theorem bs_eq {m : Nat} (h : Ok m) {a : Nat} (b : Nat) (ha : a < 2^m) (i : Nat) (hi : i ≤ m) : bs m a b i = mul m a (b % 2^i) := by
  induction i with
  | zero => simp [bs, Nat.mod_one, mul_zero]
  | succ i ih =>
    have him : i ≤ m := by omega
    have h1 : b % 2^i < 2^m := Nat.lt_of_lt_of_le (Nat.mod_lt _ (Nat.two_pow_pos i)) (Nat.pow_le_pow_right (by decide) him)
    rw [bs, ih him, mod_succ_xor]
    by_cases hb : b.testBit i
    · rw [if_pos hb, if_pos hb]
      have h2 : 2^i < 2^m := Nat.pow_lt_pow_right (by decide) hi
      rw [mul_xor h h1 h2 a ha, ← pw_small (m := m) i (by omega), mul_pw_it h ha]
    · rw [if_neg hb, if_neg hb, Nat.xor_zero, Nat.xor_zero]

theorem bs_full {m : Nat} (h : Ok m) {a b : Nat} (ha : a < 2^m) (hb : b < 2^m) : bs m a b m = mul m a b := by
  rw [bs_eq h b ha m (Nat.le_refl _), Nat.mod_eq_of_lt hb]

theorem bs_lt {m : Nat} (h : Ok m) {a : Nat} (b : Nat) (ha : a < 2^m) (i : Nat) : bs m a b i < 2^m := by
  induction i with
  | zero => exact Nat.two_pow_pos m
  | succ i ih =>
    rw [bs]
    refine Nat.xor_lt_two_pow ih ?_
    split
    · exact it_lt h _ ha
    · exact Nat.two_pow_pos m

theorem mul_two {m : Nat} (h : Ok m) {a : Nat} (ha : a < 2^m) : mul m a 2 = mx m a := by
  have := mul_pw_it h ha 1
  rw [pw_small 1 (by unfold Ok at h; omega)] at this
  exact this

/-- A power of an element. -/
def xp (m x : Nat) : Nat → Nat
  | 0 => 1
  | i+1 => mul m (xp m x i) x

theorem xp_lt {m : Nat} (h : Ok m) (x i : Nat) : xp m x i < 2^m := by
  cases i with
  | zero => exact one_lt m h
  | succ i => exact mul_lt h _ _

theorem xp_pw {m : Nat} (h : Ok m) (k i : Nat) : xp m (pw m k) i = pw m (k * i) := by
  induction i with
  | zero => rfl
  | succ i ih => rw [xp, ih, mul_pw h, Nat.mul_succ]

/-- The value of the first i terms. -/
def eu (m : Nat) (p : List Nat) (x : Nat) : Nat → Nat
  | 0 => 0
  | i+1 => eu m p x i ^^^ mul m (p.getD i 0) (xp m x i)

theorem eu_lt {m : Nat} (h : Ok m) (p : List Nat) (x i : Nat) : eu m p x i < 2^m := by
  induction i with
  | zero => exact Nat.two_pow_pos m
  | succ i ih => exact Nat.xor_lt_two_pow ih (mul_lt h _ _)

theorem eu_cons {m : Nat} (h : Ok m) (c : Nat) (p : List Nat) (x n : Nat) (hc : c < 2^m) (hx : x < 2^m) (hp : ∀ j, p.getD j 0 < 2^m) :
    eu m (c :: p) x (n+1) = mul m (eu m p x n) x ^^^ c := by
  induction n with
  | zero => simp [eu, xp, mul_one h hc, zero_mul]
  | succ n ih =>
    rw [eu, ih]
    simp only [eu, List.getD_cons_succ, xp]
    rw [xor_mul h (eu_lt h _ _ _) (mul_lt h _ _) x hx, mul_assoc h (hp n) (xp_lt h _ _) hx]
    rw [Nat.xor_assoc, Nat.xor_comm c, ← Nat.xor_assoc]

theorem eu_full {m : Nat} (h : Ok m) (p : List Nat) (x : Nat) (hx : x < 2^m) (hp : ∀ y ∈ p, y < 2^m) : eu m p x p.length = ev m p x := by
  induction p with
  | nil => rfl
  | cons c p ih =>
    rw [List.length_cons, eu_cons h c p x _ (hp c (by simp)) hx, ih (fun y hy => hp y (by simp [hy])), ev_cons]
    intro j
    rcases Nat.lt_or_ge j p.length with hj | hj
    · have : p.getD j 0 = p[j] := by simp [List.getD, hj]
      rw [this]; exact hp _ (by simp)
    · have : p.getD j 0 = 0 := by simp [List.getD, hj]
      rw [this]; exact Nat.two_pow_pos m

/-- The inverse by powers: behind i rounds. -/
theorem inv_pow {m : Nat} (h : Ok m) (k : Nat) (hk : k < sz m) : pw m (k * (2^m - 2)) = pw m (sz m - k) := by
  have s0 := sz_pos h
  have hs : 2^m - 2 = sz m - 1 := by unfold sz; omega
  rw [hs, pw_eq_iff h]
  have e : k * (sz m - 1) + k = k * sz m := by
    have : sz m = (sz m - 1) + 1 := by omega
    conv => rhs; rw [this, Nat.mul_add, Nat.mul_one]
  have h1 : (k * (sz m - 1) + k) % sz m = ((sz m - k) + k) % sz m := by
    rw [e, Nat.mul_mod_left, show sz m - k + k = sz m by omega, Nat.mod_self]
  have h2 : ∀ x y, (x + k) % sz m = (y + k) % sz m → x % sz m = y % sz m := fun x y hxy => by
    have h3 : (x + k + (sz m - k)) % sz m = (y + k + (sz m - k)) % sz m := by rw [Nat.add_mod, hxy, ← Nat.add_mod]
    rwa [show x + k + (sz m - k) = x + sz m by omega, show y + k + (sz m - k) = y + sz m by omega, Nat.add_mod_right, Nat.add_mod_right] at h3
  exact h2 _ _ h1

theorem prod_long (m : Nat) (p q : List Nat) (hp : p ≠ []) (hq : q ≠ []) : trim ((List.range (p.length + q.length)).map (cf m p q p.length)) = times m p q := by
  have hpl := List.length_pos_iff.2 hp
  have hql := List.length_pos_iff.2 hq
  unfold times prod
  rw [if_neg (by simp [hp, hq])]
  conv => lhs; rw [show p.length + q.length = (p.length + q.length - 1) + 1 by omega, List.range_succ, List.map_append]
  simp only [List.map_cons, List.map_nil]
  rw [cf_high m p q _ _ (by omega), trim_snoc_zero]

/-- The generator by all powers, behind i of them. -/
def genr (m : Nat) : Nat → List Nat
  | 0 => [1]
  | i+1 => if ev m (genr m i) (pw m (i+1)) ≠ 0 then times m (genr m i) (minimal m (i+1)) else genr m i

theorem genr_lt {m : Nat} (h : Ok m) (i : Nat) : ∀ y ∈ genr m i, y < 2^m := by
  induction i with
  | zero => intro y hy; simp [genr] at hy; subst hy; exact one_lt m h
  | succ i ih =>
    unfold genr; split
    · exact times_lt h _ _
    · exact ih

theorem genr_mon {m : Nat} (h : Ok m) (i : Nat) : Mon (genr m i) ∧ (genr m i).length ≤ i * m + 1 := by
  induction i with
  | zero => exact ⟨mon_one, by simp [genr]⟩
  | succ i ih =>
    have e : (i+1) * m = i * m + m := Nat.succ_mul i m
    unfold genr
    split
    · have h1 := minimal_mon h (i+1)
      have := times_mon h ih.1 h1.1
      rw [this.1]
      refine ⟨this.2, ?_⟩
      have h2 := (cyc_spec h (i+1)).1
      rw [prod_length, h1.2, e]; omega
    · exact ⟨ih.1, by rw [e]; omega⟩
end Gf
