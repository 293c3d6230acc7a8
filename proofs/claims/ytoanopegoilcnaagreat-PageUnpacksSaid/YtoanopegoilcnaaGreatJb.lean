/- Plain facts on the fields of 2^m elements: powers of the root, products, sums. No program in sight. -/
set_option linter.unusedVariables false
namespace Gf

def poly (m : Nat) : Nat := [0,0,7,11,19,37,67,137,285,529,1033,2053,4179,8219].getD m 0
def mx (m a : Nat) : Nat := if 2*a < 2^m then 2*a else (2*a) ^^^ poly m
def it (m : Nat) : Nat → Nat → Nat
  | 0, x => x
  | n+1, x => it m n (mx m x)
/-- The root's powers. -/
def pw (m n : Nat) : Nat := it m n 1
/-- How many elements there are beside 0. -/
def sz (m : Nat) : Nat := 2^m - 1

def chk (m : Nat) : Nat → Nat → Nat → Bool
  | 0, x, acc => x == 1 && acc == 2^(2^m) - 2
  | n+1, x, acc => !acc.testBit x && chk m n (mx m x) (acc ||| 1 <<< x)

def Ok (m : Nat) : Prop := 2 ≤ m ∧ m ≤ 13

theorem Ok.cases {m : Nat} (h : Ok m) : m = 2 ∨ m = 3 ∨ m = 4 ∨ m = 5 ∨ m = 6 ∨ m = 7 ∨ m = 8 ∨ m = 9 ∨ m = 10 ∨ m = 11 ∨ m = 12 ∨ m = 13 := by
  unfold Ok at h; omega

set_option maxRecDepth 100000 in
theorem chk_all {m : Nat} (h : Ok m) : chk m (sz m) 1 0 = true := by
  rcases h.cases with rfl | rfl | rfl | rfl | rfl | rfl | rfl | rfl | rfl | rfl | rfl | rfl <;> decide +kernel

theorem poly_bit {m : Nat} (h : Ok m) : 2^m ≤ poly m ∧ poly m < 2^(m+1) ∧ poly m % 2 = 1 := by
  rcases h.cases with rfl | rfl | rfl | rfl | rfl | rfl | rfl | rfl | rfl | rfl | rfl | rfl <;> decide +kernel

theorem it_succ (m n x : Nat) : it m (n+1) x = mx m (it m n x) := by
  induction n generalizing x with
  | zero => rfl
  | succ n ih => rw [it, ih (mx m x)]; rfl

theorem it_add (m i j x : Nat) : it m (i + j) x = it m i (it m j x) := by
  induction j generalizing x with
  | zero => rfl
  | succ j ih => rw [← Nat.add_assoc, it, ih]; rfl

theorem lt_of_top {m x : Nat} (hx : x < 2^(m+1)) (hb : x.testBit m = false) : x < 2^m := by
  apply Nat.lt_pow_two_of_testBit
  intro i hi
  rcases Nat.lt_or_ge m i with h | h
  · exact Nat.testBit_lt_two_pow (Nat.lt_of_lt_of_le hx (Nat.pow_le_pow_right (by omega) h))
  · have : i = m := by omega
    subst this; exact hb

theorem top_of_ge {m x : Nat} (hx : x < 2^(m+1)) (hg : 2^m ≤ x) : x.testBit m = true := by
  cases h : x.testBit m with
  | true => rfl
  | false => have := lt_of_top hx h; omega

theorem mx_lt {m a : Nat} (h : Ok m) (ha : a < 2^m) : mx m a < 2^m := by
  unfold mx
  split
  · assumption
  · obtain ⟨p1, p2, _⟩ := poly_bit h
    have h2 : 2 * a < 2^(m+1) := by rw [Nat.pow_succ]; omega
    apply lt_of_top (Nat.xor_lt_two_pow h2 p2)
    rw [Nat.testBit_xor, top_of_ge h2 (by omega), top_of_ge p2 p1]; rfl

theorem mx_eq {m a : Nat} (h : Ok m) (ha : a < 2^m) : mx m a = (2 * a) ^^^ (if a.testBit (m-1) then poly m else 0) := by
  have hm : m = (m-1)+1 := by unfold Ok at h; omega
  have hp : 2^m = 2 * 2^(m-1) := by conv => lhs; rw [hm, Nat.pow_succ]
                                    omega
  have ht : a.testBit (m-1) = decide (2^(m-1) ≤ a) := by
    cases hb : a.testBit (m-1) with
    | true => simpa using Nat.ge_two_pow_of_testBit hb
    | false =>
      have := lt_of_top (m := m-1) (by rw [← hm]; exact ha) hb
      simp; omega
  unfold mx
  rw [ht]
  by_cases hc : 2 * a < 2^m
  · rw [if_pos hc, if_neg (by simp; omega)]; simp
  · rw [if_neg hc, if_pos (by simp; omega)]

theorem two_mul_xor (a b : Nat) : 2 * (a ^^^ b) = (2 * a) ^^^ (2 * b) := by
  apply Nat.eq_of_testBit_eq
  intro i
  rw [Nat.testBit_xor]
  cases i with
  | zero => simp
  | succ i => simp [Nat.testBit_succ]

theorem mx_xor {m a b : Nat} (h : Ok m) (ha : a < 2^m) (hb : b < 2^m) : mx m (a ^^^ b) = mx m a ^^^ mx m b := by
  rw [mx_eq h ha, mx_eq h hb, mx_eq h (Nat.xor_lt_two_pow ha hb), two_mul_xor, Nat.testBit_xor]
  cases a.testBit (m-1) <;> cases b.testBit (m-1) <;> simp [Nat.xor_assoc]
  · rw [Nat.xor_comm (poly m) (2*b)]
  · rw [← Nat.xor_assoc (poly m), Nat.xor_comm (poly m) (2*b), Nat.xor_assoc, Nat.xor_self, Nat.xor_zero]

theorem xor_zero {a b : Nat} (h : a ^^^ b = 0) : a = b := by
  have : (a ^^^ b) ^^^ b = b := by rw [h, Nat.zero_xor]
  rwa [Nat.xor_assoc, Nat.xor_self, Nat.xor_zero] at this

theorem mx_zero (m : Nat) : mx m 0 = 0 := by
  unfold mx; rw [if_pos (by have := Nat.two_pow_pos m; omega)]

theorem mx_eq_zero {m a : Nat} (h : Ok m) (h0 : mx m a = 0) : a = 0 := by
  obtain ⟨_, _, p3⟩ := poly_bit h
  unfold mx at h0
  split at h0
  · omega
  · have h1 : ((2*a) ^^^ poly m).testBit 0 = true := by
      rw [Nat.testBit_xor]; simp [Nat.testBit_zero, p3]
    rw [h0] at h1; simp at h1

theorem it_lt {m x : Nat} (h : Ok m) (n : Nat) (hx : x < 2^m) : it m n x < 2^m := by
  induction n generalizing x with
  | zero => exact hx
  | succ n ih => exact ih (mx_lt h hx)

theorem it_xor {m a b : Nat} (h : Ok m) (n : Nat) (ha : a < 2^m) (hb : b < 2^m) : it m n (a ^^^ b) = it m n a ^^^ it m n b := by
  induction n generalizing a b with
  | zero => rfl
  | succ n ih => rw [it, mx_xor h ha hb, ih (mx_lt h ha) (mx_lt h hb)]; rfl

theorem it_zero (m n : Nat) : it m n 0 = 0 := by
  induction n with
  | zero => rfl
  | succ n ih => rw [it, mx_zero, ih]

theorem it_eq_zero {m x : Nat} (h : Ok m) (n : Nat) (h0 : it m n x = 0) : x = 0 := by
  induction n generalizing x with
  | zero => exact h0
  | succ n ih => exact mx_eq_zero h (ih h0)

theorem one_lt (m : Nat) (h : Ok m) : 1 < 2^m := by
  have : 2^1 ≤ 2^m := Nat.pow_le_pow_right (by omega) (by unfold Ok at h; omega)
  omega

theorem sz_pos {m : Nat} (h : Ok m) : 0 < sz m := by have := one_lt m h; unfold sz; omega

theorem pw_lt {m : Nat} (h : Ok m) (n : Nat) : pw m n < 2^m := it_lt h n (one_lt m h)
theorem pw_ne {m : Nat} (h : Ok m) (n : Nat) : pw m n ≠ 0 := fun h0 => by have := it_eq_zero h n h0; omega

theorem chk_spec {m : Nat} : ∀ (n x acc : Nat), chk m n x acc = true →
    it m n x = 1 ∧ (∀ i, i < n → acc.testBit (it m i x) = false) ∧ (∀ i j, i < j → j < n → it m i x ≠ it m j x) ∧
      (∀ y, (2^(2^m) - 2).testBit y = true → acc.testBit y = true ∨ ∃ i, i < n ∧ it m i x = y)
  | 0, x, acc, h => by
    simp [chk] at h
    obtain ⟨h1, h2⟩ := h
    refine ⟨h1, fun i hi => by omega, fun i j _ hj => by omega, fun y hy => .inl (by rw [h2]; exact hy)⟩
  | n+1, x, acc, h => by
    simp only [chk, Bool.and_eq_true, Bool.not_eq_true'] at h
    obtain ⟨h1, h2⟩ := h
    obtain ⟨a1, a2, a3, a4⟩ := chk_spec n _ _ h2
    have key : ∀ i, i < n → acc.testBit (it m i (mx m x)) = false ∧ it m i (mx m x) ≠ x := fun i hi => by
      have := a2 i hi
      rw [Nat.testBit_or, Bool.or_eq_false_iff] at this
      refine ⟨this.1, fun he => ?_⟩
      have h3 := this.2
      rw [he, Nat.shiftLeft_eq, Nat.one_mul, Nat.testBit_two_pow_self] at h3
      cases h3
    refine ⟨a1, ?_, ?_, ?_⟩
    · intro i hi
      cases i with
      | zero => exact h1
      | succ i => exact (key i (by omega)).1
    · intro i j hij hj
      cases j with
      | zero => omega
      | succ j =>
        cases i with
        | zero => exact fun he => (key j (by omega)).2 he.symm
        | succ i => exact a3 i j (by omega) (by omega)
    · intro y hy
      rcases a4 y hy with hb | ⟨i, hi, he⟩
      · rw [Nat.testBit_or, Bool.or_eq_true] at hb
        rcases hb with hb | hb
        · exact .inl hb
        · rw [Nat.shiftLeft_eq, Nat.one_mul, Nat.testBit_two_pow] at hb
          exact .inr ⟨0, by omega, by simpa [it] using hb⟩
      · exact .inr ⟨i+1, by omega, he⟩

theorem pw_sz {m : Nat} (h : Ok m) : pw m (sz m) = 1 := (chk_spec _ _ _ (chk_all h)).1

theorem pw_inj {m i j : Nat} (h : Ok m) (hi : i < sz m) (hj : j < sz m) (he : pw m i = pw m j) : i = j := by
  have a3 := (chk_spec _ _ _ (chk_all h)).2.2.1
  rcases Nat.lt_trichotomy i j with h' | h' | h'
  · exact absurd he (a3 i j h' hj)
  · exact h'
  · exact absurd he.symm (a3 j i h' hi)

theorem pw_surj {m a : Nat} (h : Ok m) (ha : a < 2^m) (h0 : a ≠ 0) : ∃ i, i < sz m ∧ pw m i = a := by
  have a4 := (chk_spec _ _ _ (chk_all h)).2.2.2
  have hb : (2^(2^m) - 2).testBit a = true := by
    have h1 : 1 < 2^(2^m) := Nat.one_lt_two_pow (by have := Nat.two_pow_pos m; omega)
    have := Nat.testBit_two_pow_sub_succ h1 a
    rw [show 1 + 1 = 2 from rfl] at this
    rw [this]
    have h2 : Nat.testBit 1 a = false := by
      cases a with
      | zero => exact absurd rfl h0
      | succ a => simp [Nat.testBit_succ]
    simp [ha, h2]
  rcases a4 a hb with hb | hb
  · simp at hb
  · exact hb

theorem pw_add (m i j : Nat) : pw m (i + j) = it m i (pw m j) := it_add m i j 1

theorem pw_succ (m n : Nat) : pw m (n+1) = mx m (pw m n) := it_succ m n 1

theorem pw_add_sz {m : Nat} (h : Ok m) (n : Nat) : pw m (n + sz m) = pw m n := by
  rw [pw_add, pw_sz h]; rfl

theorem pw_mod {m : Nat} (h : Ok m) (n : Nat) : pw m (n % sz m) = pw m n := by
  have hp := sz_pos h
  have : ∀ k r, pw m (r + k * sz m) = pw m r := fun k r => by
    induction k with
    | zero => simp
    | succ k ih => rw [Nat.succ_mul, ← Nat.add_assoc, pw_add_sz h, ih]
  have e := this (n / sz m) (n % sz m)
  rw [Nat.mul_comm, Nat.mod_add_div] at e
  exact e.symm

theorem pw_eq_iff {m : Nat} (h : Ok m) (i j : Nat) : pw m i = pw m j ↔ i % sz m = j % sz m := by
  constructor
  · intro he
    have hp := sz_pos h
    exact pw_inj h (Nat.mod_lt _ hp) (Nat.mod_lt _ hp) (by rw [pw_mod h, pw_mod h]; exact he)
  · intro he
    rw [← pw_mod h i, ← pw_mod h j, he]

/-- The logarithm; 0 of what has none. -/
def lg (m a : Nat) : Nat := ((List.range (sz m)).find? (fun i => pw m i == a)).getD 0

theorem lg_zero {m : Nat} (h : Ok m) : lg m 0 = 0 := by
  unfold lg
  have : (List.range (sz m)).find? (fun i => pw m i == 0) = none := by
    rw [List.find?_eq_none]
    intro i _
    simpa using pw_ne h i
  rw [this]; rfl

theorem lg_lt {m : Nat} (h : Ok m) (a : Nat) : lg m a < sz m := by
  unfold lg
  cases hf : (List.range (sz m)).find? (fun i => pw m i == a) with
  | none => exact sz_pos h
  | some i => have := List.mem_of_find?_eq_some hf; simpa using this

theorem pw_lg {m a : Nat} (h : Ok m) (ha : a < 2^m) (h0 : a ≠ 0) : pw m (lg m a) = a := by
  obtain ⟨i, hi, he⟩ := pw_surj h ha h0
  unfold lg
  cases hf : (List.range (sz m)).find? (fun i => pw m i == a) with
  | none =>
    rw [List.find?_eq_none] at hf
    have := hf i (by simpa using hi)
    simp [he] at this
  | some j => have := List.find?_some hf; simpa using this

theorem lg_pw {m : Nat} (h : Ok m) (n : Nat) : lg m (pw m n) = n % sz m := by
  have := pw_lg h (pw_lt h n) (pw_ne h n)
  rw [pw_eq_iff h, Nat.mod_eq_of_lt (lg_lt h _)] at this
  exact this

/-- The product of two elements. -/
def mul (m a b : Nat) : Nat := if a = 0 ∨ b = 0 then 0 else pw m (lg m a + lg m b)
def inv (m a : Nat) : Nat := if a = 0 then 0 else pw m (sz m - lg m a)

section
variable {m : Nat} (h : Ok m)
include h

theorem mul_lt (a b : Nat) : mul m a b < 2^m := by
  unfold mul; split
  · exact Nat.two_pow_pos m
  · exact pw_lt h _

omit h in
theorem mul_comm (a b : Nat) : mul m a b = mul m b a := by
  unfold mul
  by_cases ha : a = 0 <;> by_cases hb : b = 0 <;> simp [ha, hb, Nat.add_comm]

omit h in
theorem mul_zero (a : Nat) : mul m a 0 = 0 := by simp [mul]
omit h in
theorem zero_mul (a : Nat) : mul m 0 a = 0 := by simp [mul]

theorem mul_eq_zero {a b : Nat} : mul m a b = 0 ↔ a = 0 ∨ b = 0 := by
  unfold mul
  constructor
  · intro e
    by_cases hc : a = 0 ∨ b = 0
    · exact hc
    · rw [if_neg hc] at e; exact absurd e (pw_ne h _)
  · intro hc; rw [if_pos hc]

theorem mul_pw (i j : Nat) : mul m (pw m i) (pw m j) = pw m (i + j) := by
  unfold mul
  rw [if_neg (by simp [pw_ne h]), pw_eq_iff h, lg_pw h, lg_pw h, ← Nat.add_mod]

theorem mul_pw_it {a : Nat} (ha : a < 2^m) (j : Nat) : mul m a (pw m j) = it m j a := by
  by_cases h0 : a = 0
  · subst h0; rw [zero_mul, it_zero]
  · have e := pw_lg h ha h0
    conv => lhs; rw [← e]
    rw [mul_pw h, Nat.add_comm, pw_add, e]

theorem mul_assoc {a b c : Nat} (ha : a < 2^m) (hb : b < 2^m) (hc : c < 2^m) : mul m (mul m a b) c = mul m a (mul m b c) := by
  by_cases a0 : a = 0
  · subst a0; simp [zero_mul]
  by_cases b0 : b = 0
  · subst b0; simp [zero_mul, mul_zero]
  by_cases c0 : c = 0
  · subst c0; simp [mul_zero]
  rw [← pw_lg h ha a0, ← pw_lg h hb b0, ← pw_lg h hc c0, mul_pw h, mul_pw h, mul_pw h, mul_pw h, Nat.add_assoc]

theorem mul_one {a : Nat} (ha : a < 2^m) : mul m a 1 = a := by
  have := mul_pw_it h ha 0
  exact this

theorem one_mul {a : Nat} (ha : a < 2^m) : mul m 1 a = a := by rw [mul_comm, mul_one h ha]

theorem xor_mul {a b : Nat} (ha : a < 2^m) (hb : b < 2^m) (c : Nat) (hc : c < 2^m) : mul m (a ^^^ b) c = mul m a c ^^^ mul m b c := by
  by_cases c0 : c = 0
  · subst c0; simp [mul_zero]
  · rw [← pw_lg h hc c0, mul_pw_it h (Nat.xor_lt_two_pow ha hb), mul_pw_it h ha, mul_pw_it h hb, it_xor h _ ha hb]

theorem mul_xor {a b : Nat} (ha : a < 2^m) (hb : b < 2^m) (c : Nat) (hc : c < 2^m) : mul m c (a ^^^ b) = mul m c a ^^^ mul m c b := by
  rw [mul_comm c, xor_mul h ha hb c hc, mul_comm a, mul_comm b]

theorem inv_lt (a : Nat) : inv m a < 2^m := by
  unfold inv; split
  · exact Nat.two_pow_pos m
  · exact pw_lt h _

theorem mul_inv {a : Nat} (ha : a < 2^m) (h0 : a ≠ 0) : mul m a (inv m a) = 1 := by
  unfold inv
  rw [if_neg h0]
  conv => lhs; arg 2; rw [← pw_lg h ha h0]
  rw [mul_pw h]
  have := lg_lt h a
  rw [show lg m a + (sz m - lg m a) = sz m by omega, pw_sz h]

theorem inv_ne {a : Nat} (h0 : a ≠ 0) : inv m a ≠ 0 := by
  unfold inv; rw [if_neg h0]; exact pw_ne h _

theorem mul_left_cancel {a b c : Nat} (ha : a < 2^m) (hb : b < 2^m) (hc : c < 2^m) (h0 : a ≠ 0) (e : mul m a b = mul m a c) : b = c := by
  have k : ∀ x, x < 2^m → mul m (inv m a) (mul m a x) = x := fun x hx => by
    rw [← mul_assoc h (inv_lt h a) ha hx, mul_comm (inv m a), mul_inv h ha h0, one_mul h hx]
  rw [← k b hb, ← k c hc, e]

theorem sq_xor {a b : Nat} (ha : a < 2^m) (hb : b < 2^m) : mul m (a ^^^ b) (a ^^^ b) = mul m a a ^^^ mul m b b := by
  rw [xor_mul h ha hb _ (Nat.xor_lt_two_pow ha hb), mul_xor h ha hb a ha, mul_xor h ha hb b hb, mul_comm b a]
  rw [Nat.xor_assoc, ← Nat.xor_assoc (mul m a b), Nat.xor_self, Nat.zero_xor]

theorem sq_eq_self {a : Nat} (ha : a < 2^m) (e : mul m a a = a) : a = 0 ∨ a = 1 := by
  by_cases h0 : a = 0
  · exact .inl h0
  · refine .inr (mul_left_cancel h ha ha (one_lt m h) h0 ?_)
    rw [e, mul_one h ha]

theorem sq_inj {a b : Nat} (ha : a < 2^m) (hb : b < 2^m) (e : mul m a a = mul m b b) : a = b := by
  have : mul m (a ^^^ b) (a ^^^ b) = 0 := by rw [sq_xor h ha hb, e, Nat.xor_self]
  rw [mul_eq_zero h] at this
  have h1 : a ^^^ b = 0 := by omega
  exact xor_zero h1
end

/-- A polynomial's value; the lowest coefficient first. -/
def ev (m : Nat) (p : List Nat) (x : Nat) : Nat := p.foldr (fun c y => mul m y x ^^^ c) 0

theorem ev_cons (m c : Nat) (p : List Nat) (x : Nat) : ev m (c :: p) x = mul m (ev m p x) x ^^^ c := rfl

theorem ev_lt {m : Nat} (h : Ok m) (p : List Nat) (x : Nat) (hp : ∀ y ∈ p, y < 2^m) : ev m p x < 2^m := by
  induction p with
  | nil => exact Nat.two_pow_pos m
  | cons c p ih =>
    rw [ev_cons]
    exact Nat.xor_lt_two_pow (mul_lt h _ _) (hp c (by simp))

theorem ev_drop (m : Nat) (p : List Nat) (x k : Nat) (hk : k < p.length) : ev m (p.drop k) x = mul m (ev m (p.drop (k+1)) x) x ^^^ p.getD k 0 := by
  rw [List.drop_eq_getElem_cons hk, ev_cons]
  simp [List.getD, hk]

/-- Without noughts at the end. -/
def trim : List Nat → List Nat
  | [] => []
  | c :: p => if trim p = [] ∧ c = 0 then [] else c :: trim p

theorem trim_snoc_zero (p : List Nat) : trim (p ++ [0]) = trim p := by
  induction p with
  | nil => simp [trim]
  | cons c p ih => simp only [List.cons_append, trim, ih]

theorem trim_snoc (p : List Nat) (c : Nat) (h : c ≠ 0) : trim (p ++ [c]) = p ++ [c] := by
  induction p with
  | nil => simp [trim, h]
  | cons d p ih => simp [trim, ih]

theorem trim_take_succ (p : List Nat) (k : Nat) (hk : k < p.length) (h : p.getD k 0 = 0) : trim (p.take (k+1)) = trim (p.take k) := by
  rw [List.take_succ_eq_append_getElem hk]
  have : p[k] = 0 := by simpa [List.getD, hk] using h
  rw [this, trim_snoc_zero]

theorem trim_take_self (p : List Nat) (k : Nat) (hk : k < p.length) (h : p.getD k 0 ≠ 0) : trim (p.take (k+1)) = p.take (k+1) := by
  rw [List.take_succ_eq_append_getElem hk]
  have : p[k] ≠ 0 := by simpa [List.getD, hk] using h
  rw [trim_snoc _ _ this]

/-- The coefficient j of the product of p's first I coefficients with q. -/
def cf (m : Nat) (p q : List Nat) : Nat → Nat → Nat
  | 0, _ => 0
  | I+1, j => cf m p q I j ^^^ (if I ≤ j ∧ j - I < q.length then mul m (p.getD I 0) (q.getD (j - I) 0) else 0)

/-- .. and of the next one with q's first K. -/
def cfk (m : Nat) (p q : List Nat) (I K j : Nat) : Nat :=
  cf m p q I j ^^^ (if I ≤ j ∧ j - I < K then mul m (p.getD I 0) (q.getD (j - I) 0) else 0)

def prod (m : Nat) (p q : List Nat) : List Nat := (List.range (p.length + q.length - 1)).map (cf m p q p.length)
def times (m : Nat) (p q : List Nat) : List Nat := if p = [] ∨ q = [] then [] else trim (prod m p q)

theorem cfk_zero (m : Nat) (p q : List Nat) (I : Nat) : cfk m p q I 0 = cf m p q I := by
  funext j; simp [cfk]
theorem cfk_full (m : Nat) (p q : List Nat) (I : Nat) : cfk m p q I q.length = cf m p q (I+1) := rfl
theorem cfk_at (m : Nat) (p q : List Nat) (I K : Nat) : cfk m p q I K (I + K) = cf m p q I (I + K) := by
  simp [cfk]
theorem cfk_succ (m : Nat) (p q : List Nat) (I K j : Nat) : cfk m p q I (K+1) j = if j = I + K then cfk m p q I K j ^^^ mul m (p.getD I 0) (q.getD K 0) else cfk m p q I K j := by
  unfold cfk
  by_cases e : j = I + K
  · subst e
    simp
  · rw [if_neg e]
    by_cases h1 : I ≤ j
    · by_cases h2 : j - I < K
      · simp [h1, h2, show j - I < K + 1 by omega]
      · simp [h1, h2, show ¬ j - I < K + 1 by omega]
    · simp [h1]

theorem cf_lt {m : Nat} (h : Ok m) (p q : List Nat) (I j : Nat) : cf m p q I j < 2^m := by
  induction I with
  | zero => exact Nat.two_pow_pos m
  | succ I ih =>
    unfold cf
    refine Nat.xor_lt_two_pow ih ?_
    split
    · exact mul_lt h _ _
    · exact Nat.two_pow_pos m

theorem cfk_lt {m : Nat} (h : Ok m) (p q : List Nat) (I K j : Nat) : cfk m p q I K j < 2^m := by
  unfold cfk
  refine Nat.xor_lt_two_pow (cf_lt h _ _ _ _) ?_
  split
  · exact mul_lt h _ _
  · exact Nat.two_pow_pos m

theorem trim_mem {p : List Nat} {x : Nat} (h : x ∈ trim p) : x ∈ p := by
  induction p with
  | nil => simp [trim] at h
  | cons c p ih =>
    unfold trim at h
    split at h
    · simp at h
    · rcases List.mem_cons.1 h with rfl | h
      · simp
      · exact List.mem_cons_of_mem _ (ih h)

theorem times_lt {m : Nat} (h : Ok m) (p q : List Nat) : ∀ y ∈ times m p q, y < 2^m := by
  intro y hy
  unfold times at hy
  split at hy
  · simp at hy
  · have := trim_mem hy
    unfold prod at this
    simp only [List.mem_map] at this
    obtain ⟨j, _, rfl⟩ := this
    exact cf_lt h _ _ _ _

theorem trim_length (p : List Nat) : (trim p).length ≤ p.length := by
  induction p with
  | nil => simp [trim]
  | cons c p ih => unfold trim; split <;> simp <;> omega

theorem times_length (m : Nat) (p q : List Nat) : (times m p q).length ≤ p.length + q.length - 1 := by
  unfold times
  split
  · simp
  · refine Nat.le_trans (trim_length _) ?_
    simp [prod]

/-- How many steps of doubling bring a power back. -/
def cyc (m n : Nat) : Nat := ((List.range m).find? (fun i => (2^(i+1) * n) % sz m == n % sz m)).getD 0 + 1
/-- The product of the first i factors of the least polynomial. -/
def mins (m n : Nat) : Nat → List Nat
  | 0 => [1]
  | i+1 => times m (mins m n i) [pw m ((2^i * n) % sz m), 1]
def minimal (m n : Nat) : List Nat := mins m n (cyc m n)
/-- The generator behind i rounds. -/
def gen (m : Nat) : Nat → List Nat
  | 0 => [1]
  | i+1 => if ev m (gen m i) (pw m (2*i+1)) ≠ 0 then times m (gen m i) (minimal m (2*i+1)) else gen m i

theorem mins_lt {m : Nat} (h : Ok m) (n i : Nat) : ∀ y ∈ mins m n i, y < 2^m := by
  cases i with
  | zero => intro y hy; simp [mins] at hy; subst hy; exact one_lt m h
  | succ i => exact times_lt h _ _
theorem gen_lt {m : Nat} (h : Ok m) (i : Nat) : ∀ y ∈ gen m i, y < 2^m := by
  induction i with
  | zero => intro y hy; simp [gen] at hy; subst hy; exact one_lt m h
  | succ i ih =>
    unfold gen; split
    · exact times_lt h _ _
    · exact ih
theorem mins_length (m n i : Nat) : (mins m n i).length ≤ i + 1 := by
  induction i with
  | zero => simp [mins]
  | succ i ih =>
    have := times_length m (mins m n i) [pw m ((2^i * n) % sz m), 1]
    simp only [List.length_cons, List.length_nil] at this
    show (times m (mins m n i) _).length ≤ _
    omega

theorem two_pow_mod {m : Nat} (_h : Ok m) (n : Nat) : (2^m * n) % sz m = n % sz m := by
  have e : 2^m = sz m + 1 := by have := Nat.two_pow_pos m; unfold sz; omega
  rw [e, Nat.add_mul, Nat.one_mul, Nat.add_comm, Nat.add_mul_mod_self_left]

theorem cyc_spec {m : Nat} (h : Ok m) (n : Nat) : cyc m n ≤ m ∧ 1 ≤ cyc m n ∧ (2^(cyc m n) * n) % sz m = n % sz m ∧ ∀ i, 1 ≤ i → i < cyc m n → (2^i * n) % sz m ≠ n % sz m := by
  unfold cyc
  cases hf : (List.range m).find? (fun i => (2^(i+1) * n) % sz m == n % sz m) with
  | none =>
    rw [List.find?_eq_none] at hf
    have := hf (m-1) (by unfold Ok at h; simp; omega)
    rw [show m - 1 + 1 = m by unfold Ok at h; omega] at this
    simp [two_pow_mod h n] at this
  | some i =>
    have h1 := List.mem_of_find?_eq_some hf
    have h2 := List.find?_some hf
    have h3 : i < m := by simpa using h1
    refine ⟨by simp; omega, by simp, by simpa using h2, fun j hj1 hj2 he => ?_⟩
    simp only [Option.getD_some] at hj2
    rw [List.find?_range_eq_some] at hf
    have := hf.2.2 (j-1) (by omega)
    rw [show j - 1 + 1 = j by omega] at this
    simp [he] at this

/-! ### Polynomials whose highest coefficient is 1 -/
def Mon (p : List Nat) : Prop := p ≠ [] ∧ p.getD (p.length - 1) 0 = 1

theorem trim_self (p : List Nat) (h0 : p ≠ []) (h : p.getD (p.length - 1) 0 ≠ 0) : trim p = p := by
  have hl := List.length_pos_iff.2 h0
  have := trim_take_self p (p.length - 1) (by omega) h
  rwa [show p.length - 1 + 1 = p.length by omega, List.take_length] at this

theorem cf_high (m : Nat) (p q : List Nat) (I j : Nat) (h : I + q.length ≤ j + 1) : cf m p q I j = 0 := by
  induction I with
  | zero => rfl
  | succ I ih =>
    unfold cf
    rw [ih (by omega), if_neg (by omega)]; rfl

theorem cf_top (m : Nat) (p q : List Nat) (hp : p ≠ []) (hq : q ≠ []) :
    cf m p q p.length (p.length + q.length - 2) = mul m (p.getD (p.length - 1) 0) (q.getD (q.length - 1) 0) := by
  have hpl := List.length_pos_iff.2 hp
  have hql := List.length_pos_iff.2 hq
  conv => lhs; arg 4; rw [show p.length = (p.length - 1) + 1 by omega]
  unfold cf
  rw [cf_high _ _ _ _ _ (by omega), if_pos (by omega), Nat.zero_xor, show p.length + q.length - 2 - (p.length - 1) = q.length - 1 by omega]

theorem prod_length (m : Nat) (p q : List Nat) : (prod m p q).length = p.length + q.length - 1 := by simp [prod]
theorem prod_getD (m : Nat) (p q : List Nat) (j : Nat) (h : j < p.length + q.length - 1) : (prod m p q).getD j 0 = cf m p q p.length j := by
  simp [prod, List.getD, h]

theorem times_mon {m : Nat} (h : Ok m) {p q : List Nat} (hp : Mon p) (hq : Mon q) : times m p q = prod m p q ∧ Mon (prod m p q) := by
  have hpl := List.length_pos_iff.2 hp.1
  have hql := List.length_pos_iff.2 hq.1
  have hne : prod m p q ≠ [] := List.length_pos_iff.1 (by rw [prod_length]; omega)
  have htop : (prod m p q).getD ((prod m p q).length - 1) 0 = 1 := by
    rw [prod_length, prod_getD _ _ _ _ (by omega), show p.length + q.length - 1 - 1 = p.length + q.length - 2 by omega, cf_top m p q hp.1 hq.1, hp.2, hq.2, mul_one h (one_lt m h)]
  refine ⟨?_, hne, htop⟩
  unfold times
  rw [if_neg (by simp [hp.1, hq.1]), trim_self _ hne (by rw [htop]; decide)]

theorem mon_one : Mon [1] := ⟨by simp, rfl⟩
theorem mon_lin (r : Nat) : Mon [r, 1] := ⟨by simp, rfl⟩

theorem mins_mon {m : Nat} (h : Ok m) (n i : Nat) : Mon (mins m n i) ∧ (mins m n i).length = i + 1 := by
  induction i with
  | zero => exact ⟨mon_one, rfl⟩
  | succ i ih =>
    have := times_mon h ih.1 (mon_lin (pw m ((2^i * n) % sz m)))
    unfold mins
    rw [this.1]
    refine ⟨this.2, ?_⟩
    rw [prod_length, ih.2]; simp

theorem minimal_mon {m : Nat} (h : Ok m) (n : Nat) : Mon (minimal m n) ∧ (minimal m n).length = cyc m n + 1 := mins_mon h n _

theorem gen_mon {m : Nat} (h : Ok m) (i : Nat) : Mon (gen m i) ∧ (gen m i).length ≤ i * m + 1 := by
  induction i with
  | zero => exact ⟨mon_one, by simp [gen]⟩
  | succ i ih =>
    unfold gen
    split
    · have h1 := minimal_mon h (2*i+1)
      have := times_mon h ih.1 h1.1
      rw [this.1]
      refine ⟨this.2, ?_⟩
      have h2 := (cyc_spec h (2*i+1)).1
      have e : (i+1) * m = i * m + m := Nat.succ_mul i m
      rw [prod_length, h1.2, e]; omega
    · have e : (i+1) * m = i * m + m := Nat.succ_mul i m
      exact ⟨ih.1, by rw [e]; omega⟩
end Gf
/- Plain facts on the fields: products bit by bit, values term by term, inverses by powers. No program in sight. -/
namespace Gf

/-- The product, of the second factor's lowest i bits. -/
def bs (m a b : Nat) : Nat → Nat
  | 0 => 0
  | i+1 => bs m a b i ^^^ (if b.testBit i then it m i a else 0)

theorem pw_small {m : Nat} (i : Nat) (hi : i < m) : pw m i = 2^i := by
  induction i with
  | zero => rfl
  | succ i ih =>
    rw [pw_succ, ih (by omega), mx, if_pos]
    · rw [Nat.pow_succ]; omega
    · rw [← Nat.pow_succ']; exact Nat.pow_lt_pow_right (by omega) hi

theorem mod_succ_xor (b i : Nat) : b % 2^(i+1) = (b % 2^i) ^^^ (if b.testBit i then 2^i else 0) := by
  apply Nat.eq_of_testBit_eq
  intro j
  rw [Nat.testBit_xor, Nat.testBit_mod_two_pow, Nat.testBit_mod_two_pow]
  by_cases hb : b.testBit i
  · rw [if_pos hb, Nat.testBit_two_pow]
    by_cases e : j = i
    · subst e; simp [hb]
    · by_cases h : j < i
      · simp [h, show j < i + 1 by omega, show ¬ i = j by omega]
      · simp [h, show ¬ j < i + 1 by omega, show ¬ i = j by omega]
  · rw [if_neg hb]
    by_cases e : j = i
    · subst e; simp [hb]
    · by_cases h : j < i
      · simp [h, show j < i + 1 by omega]
      · simp [h, show ¬ j < i + 1 by omega]

theorem bs_eq {m : Nat} (h : Ok m) {a : Nat} (b : Nat) (ha : a < 2^m) (i : Nat) (hi : i ≤ m) : bs m a b i = mul m a (b % 2^i) := by
  induction i with
  | zero => simp [bs, Nat.mod_one, mul_zero]
  | succ i ih =>
    have him : i ≤ m := by omega
    have h1 : b % 2^i < 2^m := Nat.lt_of_lt_of_le (Nat.mod_lt _ (Nat.two_pow_pos i)) (Nat.pow_le_pow_right (by decide) him)
    rw [bs, ih him, mod_succ_xor]
    by_cases hb : b.testBit i
    · rw [if_pos hb, if_pos hb]
      have h2 : 2^i < 2^m := Nat.pow_lt_pow_right (by decide) hi
      rw [mul_xor h h1 h2 a ha, ← pw_small (m := m) i (by omega), mul_pw_it h ha]
    · rw [if_neg hb, if_neg hb, Nat.xor_zero, Nat.xor_zero]

theorem bs_full {m : Nat} (h : Ok m) {a b : Nat} (ha : a < 2^m) (hb : b < 2^m) : bs m a b m = mul m a b := by
  rw [bs_eq h b ha m (Nat.le_refl _), Nat.mod_eq_of_lt hb]

theorem bs_lt {m : Nat} (h : Ok m) {a : Nat} (b : Nat) (ha : a < 2^m) (i : Nat) : bs m a b i < 2^m := by
  induction i with
  | zero => exact Nat.two_pow_pos m
  | succ i ih =>
    rw [bs]
    refine Nat.xor_lt_two_pow ih ?_
    split
    · exact it_lt h _ ha
    · exact Nat.two_pow_pos m

theorem mul_two {m : Nat} (h : Ok m) {a : Nat} (ha : a < 2^m) : mul m a 2 = mx m a := by
  have := mul_pw_it h ha 1
  rw [pw_small 1 (by unfold Ok at h; omega)] at this
  exact this

/-- A power of an element. -/
def xp (m x : Nat) : Nat → Nat
  | 0 => 1
  | i+1 => mul m (xp m x i) x

theorem xp_lt {m : Nat} (h : Ok m) (x i : Nat) : xp m x i < 2^m := by
  cases i with
  | zero => exact one_lt m h
  | succ i => exact mul_lt h _ _

theorem xp_pw {m : Nat} (h : Ok m) (k i : Nat) : xp m (pw m k) i = pw m (k * i) := by
  induction i with
  | zero => rfl
  | succ i ih => rw [xp, ih, mul_pw h, Nat.mul_succ]

/-- The value of the first i terms. -/
def eu (m : Nat) (p : List Nat) (x : Nat) : Nat → Nat
  | 0 => 0
  | i+1 => eu m p x i ^^^ mul m (p.getD i 0) (xp m x i)

theorem eu_lt {m : Nat} (h : Ok m) (p : List Nat) (x i : Nat) : eu m p x i < 2^m := by
  induction i with
  | zero => exact Nat.two_pow_pos m
  | succ i ih => exact Nat.xor_lt_two_pow ih (mul_lt h _ _)

theorem eu_cons {m : Nat} (h : Ok m) (c : Nat) (p : List Nat) (x n : Nat) (hc : c < 2^m) (hx : x < 2^m) (hp : ∀ j, p.getD j 0 < 2^m) :
    eu m (c :: p) x (n+1) = mul m (eu m p x n) x ^^^ c := by
  induction n with
  | zero => simp [eu, xp, mul_one h hc, zero_mul]
  | succ n ih =>
    rw [eu, ih]
    simp only [eu, List.getD_cons_succ, xp]
    rw [xor_mul h (eu_lt h _ _ _) (mul_lt h _ _) x hx, mul_assoc h (hp n) (xp_lt h _ _) hx]
    rw [Nat.xor_assoc, Nat.xor_comm c, ← Nat.xor_assoc]

theorem eu_full {m : Nat} (h : Ok m) (p : List Nat) (x : Nat) (hx : x < 2^m) (hp : ∀ y ∈ p, y < 2^m) : eu m p x p.length = ev m p x := by
  induction p with
  | nil => rfl
  | cons c p ih =>
    rw [List.length_cons, eu_cons h c p x _ (hp c (by simp)) hx, ih (fun y hy => hp y (by simp [hy])), ev_cons]
    intro j
    rcases Nat.lt_or_ge j p.length with hj | hj
    · have : p.getD j 0 = p[j] := by simp [List.getD, hj]
      rw [this]; exact hp _ (by simp)
    · have : p.getD j 0 = 0 := by simp [List.getD, hj]
      rw [this]; exact Nat.two_pow_pos m

/-- The inverse by powers: behind i rounds. -/
theorem inv_pow {m : Nat} (h : Ok m) (k : Nat) (hk : k < sz m) : pw m (k * (2^m - 2)) = pw m (sz m - k) := by
  have s0 := sz_pos h
  have hs : 2^m - 2 = sz m - 1 := by unfold sz; omega
  rw [hs, pw_eq_iff h]
  have e : k * (sz m - 1) + k = k * sz m := by
    have : sz m = (sz m - 1) + 1 := by omega
    conv => rhs; rw [this, Nat.mul_add, Nat.mul_one]
  have h1 : (k * (sz m - 1) + k) % sz m = ((sz m - k) + k) % sz m := by
    rw [e, Nat.mul_mod_left, show sz m - k + k = sz m by omega, Nat.mod_self]
  have h2 : ∀ x y, (x + k) % sz m = (y + k) % sz m → x % sz m = y % sz m := fun x y hxy => by
    have h3 : (x + k + (sz m - k)) % sz m = (y + k + (sz m - k)) % sz m := by rw [Nat.add_mod, hxy, ← Nat.add_mod]
    rwa [show x + k + (sz m - k) = x + sz m by omega, show y + k + (sz m - k) = y + sz m by omega, Nat.add_mod_right, Nat.add_mod_right] at h3
  exact h2 _ _ h1

theorem prod_long (m : Nat) (p q : List Nat) (hp : p ≠ []) (hq : q ≠ []) : trim ((List.range (p.length + q.length)).map (cf m p q p.length)) = times m p q := by
  have hpl := List.length_pos_iff.2 hp
  have hql := List.length_pos_iff.2 hq
  unfold times prod
  rw [if_neg (by simp [hp, hq])]
  conv => lhs; rw [show p.length + q.length = (p.length + q.length - 1) + 1 by omega, List.range_succ, List.map_append]
  simp only [List.map_cons, List.map_nil]
  rw [cf_high m p q _ _ (by omega), trim_snoc_zero]

/-- The generator by all powers, behind i of them. -/
def genr (m : Nat) : Nat → List Nat
  | 0 => [1]
  | i+1 => if ev m (genr m i) (pw m (i+1)) ≠ 0 then times m (genr m i) (minimal m (i+1)) else genr m i

theorem genr_lt {m : Nat} (h : Ok m) (i : Nat) : ∀ y ∈ genr m i, y < 2^m := by
  induction i with
  | zero => intro y hy; simp [genr] at hy; subst hy; exact one_lt m h
  | succ i ih =>
    unfold genr; split
    · exact times_lt h _ _
    · exact ih

theorem genr_mon {m : Nat} (h : Ok m) (i : Nat) : Mon (genr m i) ∧ (genr m i).length ≤ i * m + 1 := by
  induction i with
  | zero => exact ⟨mon_one, by simp [genr]⟩
  | succ i ih =>
    have e : (i+1) * m = i * m + m := Nat.succ_mul i m
    unfold genr
    split
    · have h1 := minimal_mon h (i+1)
      have := times_mon h ih.1 h1.1
      rw [this.1]
      refine ⟨this.2, ?_⟩
      have h2 := (cyc_spec h (i+1)).1
      rw [prod_length, h1.2, e]; omega
    · exact ⟨ih.1, by rw [e]; omega⟩
end Gf
/- Plain facts on polynomials over the fields: roots, sums of powers, generators. No program in sight. -/
namespace Gf

/-! ### Roots -/
section
variable {m : Nat} (h : Ok m)
include h

/-- What is left when a polynomial is divided by x + a: the quotient. -/
def sd (m a : Nat) : List Nat → List Nat
  | [] => []
  | _ :: p => if p = [] then [] else ev m p a :: sd m a p

omit h in
theorem sd_length (a : Nat) (p : List Nat) : (sd m a p).length = p.length - 1 := by
  induction p with
  | nil => rfl
  | cons c p ih =>
    unfold sd
    split
    · rename_i hp; simp [hp]
    · rename_i hp
      have := List.length_pos_iff.2 hp
      simp [ih]; omega

theorem sd_lt (a : Nat) (p : List Nat) (hp : ∀ y ∈ p, y < 2^m) : ∀ y ∈ sd m a p, y < 2^m := by
  induction p with
  | nil => intro y hy; simp [sd] at hy
  | cons c p ih =>
    intro y hy
    unfold sd at hy
    split at hy
    · simp at hy
    · rcases List.mem_cons.1 hy with rfl | hy
      · exact ev_lt h p a (fun y hy => hp y (by simp [hy]))
      · exact ih (fun y hy => hp y (by simp [hy])) y hy

theorem ev_sd {a x : Nat} (ha : a < 2^m) (hx : x < 2^m) (p : List Nat) (hp : ∀ y ∈ p, y < 2^m) :
    ev m p x = mul m (ev m (sd m a p) x) (x ^^^ a) ^^^ ev m p a := by
  induction p with
  | nil => simp [sd, ev, zero_mul]
  | cons c p ih =>
    have hp' : ∀ y ∈ p, y < 2^m := fun y hy => hp y (by simp [hy])
    have hc : c < 2^m := hp c (by simp)
    rw [ev_cons, ev_cons]
    unfold sd
    split
    · rename_i hp0
      subst hp0
      simp [ev, zero_mul]
    · have ih' := ih hp'
      have hxa : x ^^^ a < 2^m := Nat.xor_lt_two_pow hx ha
      have hq := ev_lt h (sd m a p) x (sd_lt h a p hp')
      have hpa := ev_lt h p a hp'
      have hpx := ev_lt h p x hp'
      rw [ev_cons]
      generalize ev m (sd m a p) x = Q at *
      generalize ev m p a = A at *
      -- (Q (x+a) + A) x + c = (Q x + A)(x + a) + (A a + c)
      rw [ih', xor_mul h (mul_lt h _ _) hpa x hx, xor_mul h (mul_lt h _ _) hpa (x ^^^ a) hxa]
      rw [mul_xor h hx ha A hpa, mul_assoc h hq hxa hx, mul_assoc h hq hx hxa, mul_comm (x ^^^ a) x]
      simp only [Nat.xor_assoc]
      congr 2
      rw [← Nat.xor_assoc (mul m A a) (mul m A a), Nat.xor_self, Nat.zero_xor]

/-- A polynomial of n coefficients with n roots is 0. -/
theorem roots_zero : ∀ (n : Nat) (p : List Nat) (xs : List Nat), p.length ≤ n → xs.length = n → xs.Nodup → (∀ y ∈ p, y < 2^m) → (∀ x ∈ xs, x < 2^m ∧ ev m p x = 0) → ∀ y ∈ p, y = 0
  | 0, p, xs, hl, _, _, _, _ => by
    have : p = [] := List.length_eq_zero_iff.1 (by omega)
    subst this; intro y hy; simp at hy
  | n+1, p, [], _, hx, _, _, _ => by simp at hx
  | n+1, p, a :: xs, hl, hx, hn, hp, he => by
    have ha := he a (by simp)
    have hn' := List.nodup_cons.1 hn
    have hq : ∀ y ∈ sd m a p, y = 0 := by
      refine roots_zero n (sd m a p) xs (by rw [sd_length]; omega) (by simpa using hx) hn'.2 (sd_lt h a p hp) (fun x hxm => ⟨(he x (by simp [hxm])).1, ?_⟩)
      have hxx := he x (by simp [hxm])
      have e := ev_sd h ha.1 hxx.1 p hp
      rw [hxx.2, ha.2, Nat.xor_zero] at e
      rcases (mul_eq_zero h).1 e.symm with e1 | e1
      · exact e1
      · exact absurd (xor_zero e1) (fun e2 => hn'.1 (e2 ▸ hxm))
    -- p(x) = p(a) = 0 for all x; so the quotient is 0, coefficient by coefficient
    have key : ∀ (p : List Nat), ev m p a = 0 → (∀ y ∈ p, y < 2^m) → (∀ y ∈ sd m a p, y = 0) → ∀ y ∈ p, y = 0 := by
      intro p
      induction p with
      | nil => intro _ _ _ y hy; simp at hy
      | cons c p ih =>
        intro h0 hlt hs y hy
        unfold sd at hs
        split at hs
        · rename_i hp0
          subst hp0
          have hc : c = 0 := by simpa [ev, zero_mul] using h0
          have : y = c := by simpa using hy
          rw [this, hc]
        · have h1 : ev m p a = 0 := hs _ (by simp)
          have h2 := ih h1 (fun y hy => hlt y (by simp [hy])) (fun y hy => hs y (by simp [hy]))
          rw [ev_cons, h1, zero_mul, Nat.zero_xor] at h0
          rcases List.mem_cons.1 hy with rfl | hy
          · exact h0
          · exact h2 y hy
    exact key p ha.2 hp hq

/-! ### Sums of powers -/
/-- The sum of c X^i over pairs (c, X). -/
def ps (m : Nat) (l : List (Nat × Nat)) (i : Nat) : Nat := l.foldr (fun q s => mul m q.1 (xp m q.2 i) ^^^ s) 0

theorem ps_lt (l : List (Nat × Nat)) (i : Nat) : ps m l i < 2^m := by
  induction l with
  | nil => exact Nat.two_pow_pos m
  | cons q l ih => exact Nat.xor_lt_two_pow (mul_lt h _ _) ih

theorem ps_shift (a : Nat) (ha : a < 2^m) (l : List (Nat × Nat)) (hl : ∀ q ∈ l, q.1 < 2^m ∧ q.2 < 2^m) (i : Nat) :
    ps m (l.map fun q => (mul m q.1 (q.2 ^^^ a), q.2)) i = ps m l (i+1) ^^^ mul m a (ps m l i) := by
  induction l with
  | nil => simp [ps, mul_zero]
  | cons q l ih =>
    have hq := hl q (by simp)
    have ih' := ih (fun q hq => hl q (by simp [hq]))
    show mul m (mul m q.1 (q.2 ^^^ a)) (xp m q.2 i) ^^^ ps m _ i = (mul m q.1 (mul m (xp m q.2 i) q.2) ^^^ ps m l (i+1)) ^^^ mul m a (mul m q.1 (xp m q.2 i) ^^^ ps m l i)
    rw [ih', mul_xor h (mul_lt h _ _) (ps_lt h l i) a ha]
    have hx := xp_lt h q.2 i
    rw [mul_xor h hq.2 ha q.1 hq.1, xor_mul h (mul_lt h _ _) (mul_lt h _ _) _ hx, mul_assoc h hq.1 hq.2 hx, mul_comm q.2 (xp m q.2 i)]
    rw [mul_comm q.1 a, mul_assoc h ha hq.1 hx]
    simp only [Nat.xor_assoc]
    congr 1
    rw [← Nat.xor_assoc (mul m a _), Nat.xor_comm (mul m a (mul m q.1 (xp m q.2 i))), Nat.xor_assoc]

/-- Unlike X with as many sums that are 0: all c are 0 (Vandermonde). -/
theorem ps_zero_n : ∀ (n : Nat) (l : List (Nat × Nat)), l.length = n → (l.map Prod.snd).Nodup → (∀ q ∈ l, q.1 < 2^m ∧ q.2 < 2^m) → (∀ i, i < l.length → ps m l i = 0) → ∀ q ∈ l, q.1 = 0
  | _, [], _, _, _, _ => by intro q hq; simp at hq
  | 0, q0 :: l, hlen, _, _, _ => by simp at hlen
  | n+1, q0 :: l, hlen, hn, hb, hz => by
    have hn' := List.nodup_cons.1 (by simpa using hn : (q0.2 :: l.map Prod.snd).Nodup)
    have hb0 := hb q0 (by simp)
    have hbl : ∀ q ∈ l, q.1 < 2^m ∧ q.2 < 2^m := fun q hq => hb q (by simp [hq])
    have hl' : ∀ q ∈ l.map (fun q => (mul m q.1 (q.2 ^^^ q0.2), q.2)), q.1 = 0 := by
      refine ps_zero_n n (l.map fun q => (mul m q.1 (q.2 ^^^ q0.2), q.2)) (by simpa using hlen) (by rw [List.map_map]; exact hn'.2) ?_ ?_
      · intro q hq
        obtain ⟨q', hq', rfl⟩ := List.mem_map.1 hq
        exact ⟨mul_lt h _ _, (hbl q' hq').2⟩
      · intro i hi
        have hi' : i < l.length := by simpa using hi
        have h1 := hz i (by simp; omega)
        have h2 := hz (i+1) (by simp; omega)
        have e := ps_shift h q0.2 hb0.2 (q0 :: l) hb i
        rw [h1, h2, mul_zero, Nat.xor_zero] at e
        have e2 : ps m ((q0 :: l).map fun q => (mul m q.1 (q.2 ^^^ q0.2), q.2)) i = mul m (mul m q0.1 (q0.2 ^^^ q0.2)) (xp m q0.2 i) ^^^ ps m (l.map fun q => (mul m q.1 (q.2 ^^^ q0.2), q.2)) i := rfl
        rw [e2, Nat.xor_self, mul_zero, zero_mul, Nat.zero_xor] at e
        exact e
    have hl0 : ∀ q ∈ l, q.1 = 0 := by
      intro q hq
      have h1 := hl' (mul m q.1 (q.2 ^^^ q0.2), q.2) (List.mem_map.2 ⟨q, hq, rfl⟩)
      rcases (mul_eq_zero h).1 h1 with h2 | h2
      · exact h2
      · exact absurd (xor_zero h2) (fun e => hn'.1 (e ▸ List.mem_map.2 ⟨q, hq, rfl⟩))
    have hs0 : ∀ (l : List (Nat × Nat)), (∀ q ∈ l, q.1 = 0) → ps m l 0 = 0 := by
      intro l
      induction l with
      | nil => intro _; rfl
      | cons q l ih =>
        intro hl
        show mul m q.1 _ ^^^ ps m l 0 = 0
        rw [hl q (by simp), zero_mul, ih (fun q hq => hl q (by simp [hq]))]; rfl
    have h0 := hz 0 (by simp)
    have e2 : ps m (q0 :: l) 0 = mul m q0.1 1 ^^^ ps m l 0 := rfl
    rw [e2, hs0 l hl0, Nat.xor_zero, mul_one h hb0.1] at h0
    intro q hq
    rcases List.mem_cons.1 hq with rfl | hq
    · exact h0
    · exact hl0 q hq

theorem ps_zero (l : List (Nat × Nat)) (hn : (l.map Prod.snd).Nodup) (hb : ∀ q ∈ l, q.1 < 2^m ∧ q.2 < 2^m) (hz : ∀ i, i < l.length → ps m l i = 0) : ∀ q ∈ l, q.1 = 0 :=
  ps_zero_n h _ l rfl hn hb hz
end
end Gf
/- Plain facts on words: sums at powers, distance; the shortest register (Berlekamp, Massey). No program in sight. -/
namespace Gf

/-- The sum of f 0 .. f (n-1). -/
def sx (f : Nat → Nat) : Nat → Nat
  | 0 => 0
  | n+1 => sx f n ^^^ f n

theorem sx_congr {f g : Nat → Nat} (n : Nat) (h : ∀ i, i < n → f i = g i) : sx f n = sx g n := by
  induction n with
  | zero => rfl
  | succ n ih => rw [sx, sx, ih (fun i hi => h i (by omega)), h n (by omega)]

theorem sx_zero (n : Nat) : sx (fun _ => 0) n = 0 := by
  induction n with
  | zero => rfl
  | succ n ih => rw [sx, ih]; rfl

theorem sx_xor (f g : Nat → Nat) (n : Nat) : sx (fun i => f i ^^^ g i) n = sx f n ^^^ sx g n := by
  induction n with
  | zero => simp [sx]
  | succ n ih =>
    rw [sx, sx, sx, ih]
    simp only [Nat.xor_assoc]
    congr 1
    rw [← Nat.xor_assoc (sx g n), Nat.xor_comm (sx g n), Nat.xor_assoc]

theorem sx_lt {m : Nat} (f : Nat → Nat) (n : Nat) (h : ∀ i, i < n → f i < 2^m) : sx f n < 2^m := by
  induction n with
  | zero => exact Nat.two_pow_pos m
  | succ n ih => exact Nat.xor_lt_two_pow (ih fun i hi => h i (by omega)) (h n (by omega))

theorem sx_more (f : Nat → Nat) (a b : Nat) (hab : a ≤ b) (h : ∀ i, a ≤ i → i < b → f i = 0) : sx f b = sx f a := by
  induction b with
  | zero => have : a = 0 := by omega
            subst this; rfl
  | succ b ih =>
    by_cases e : a = b + 1
    · subst e; rfl
    · rw [sx, ih (by omega) (fun i h1 h2 => h i h1 (by omega)), h b (by omega) (by omega), Nat.xor_zero]

theorem sx_head (f : Nat → Nat) (n : Nat) : sx f (n+1) = f 0 ^^^ sx (fun i => f (i+1)) n := by
  induction n with
  | zero => simp [sx]
  | succ n ih => rw [sx, ih, sx, Nat.xor_assoc]

theorem sx_shift (f : Nat → Nat) (a n : Nat) (h : ∀ i, i < a → f i = 0) : sx f (a + n) = sx (fun i => f (a + i)) n := by
  induction n with
  | zero => exact (sx_more f 0 a (by omega) (fun i _ hi => h i hi))
  | succ n ih => rw [← Nat.add_assoc, sx, ih, sx]

theorem sx_comm (f : Nat → Nat → Nat) (a b : Nat) : sx (fun i => sx (fun j => f i j) b) a = sx (fun j => sx (fun i => f i j) a) b := by
  induction a with
  | zero => simp only [sx]; rw [sx_zero]
  | succ a ih =>
    rw [sx, ih, ← sx_xor]
    exact sx_congr _ (fun j _ => rfl)

section
variable {m : Nat} (h : Ok m)
include h

theorem sx_mul (c : Nat) (hc : c < 2^m) (f : Nat → Nat) (n : Nat) (hf : ∀ i, i < n → f i < 2^m) : mul m c (sx f n) = sx (fun i => mul m c (f i)) n := by
  induction n with
  | zero => simp [sx, mul_zero]
  | succ n ih => rw [sx, sx, mul_xor h (sx_lt f n fun i hi => hf i (by omega)) (hf n (by omega)) c hc, ih (fun i hi => hf i (by omega))]

omit h in
theorem eu_sx (p : List Nat) (x n : Nat) : eu m p x n = sx (fun i => mul m (p.getD i 0) (xp m x i)) n := by
  induction n with
  | zero => rfl
  | succ n ih => rw [eu, sx, ih]

omit h in
theorem getD_lt {p : List Nat} (hp : ∀ y ∈ p, y < 2^m) (j : Nat) : p.getD j 0 < 2^m := by
  rcases Nat.lt_or_ge j p.length with hj | hj
  · have : p.getD j 0 = p[j] := by simp [List.getD, hj]
    rw [this]; exact hp _ (by simp)
  · have : p.getD j 0 = 0 := by simp [List.getD, hj]
    rw [this]; exact Nat.two_pow_pos m
omit h in
theorem getD_ge {p : List Nat} {j : Nat} (hj : p.length ≤ j) : p.getD j 0 = 0 := by simp [List.getD, hj]

/-- A value as a sum, over at least all coefficients. -/
theorem ev_sx (p : List Nat) (x n : Nat) (hx : x < 2^m) (hp : ∀ y ∈ p, y < 2^m) (hn : ∀ i, n ≤ i → p.getD i 0 = 0) : ev m p x = sx (fun i => mul m (p.getD i 0) (xp m x i)) n := by
  rw [← eu_full h p x hx hp, eu_sx]
  rcases Nat.le_total p.length n with hl | hl
  · exact (sx_more _ _ _ hl (fun i h1 _ => by rw [getD_ge h1, zero_mul])).symm
  · exact sx_more _ _ _ hl (fun i h1 _ => by rw [hn i h1, zero_mul])

/-! ### Words -/
/-- The sum of a word's powers of the root, each multiplied k times. -/
def syn (m : Nat) (w : Nat → Bool) (L k : Nat) : Nat := sx (fun p => if w p then pw m (p * k) else 0) L
def supp (w : Nat → Bool) (L : Nat) : List Nat := (List.range L).filter w

omit h in
theorem supp_succ (w : Nat → Bool) (L : Nat) : supp w (L+1) = supp w L ++ (if w L then [L] else []) := by
  unfold supp
  rw [List.range_succ, List.filter_append]
  congr 1
  cases hw : w L <;> simp [hw]

omit h in
theorem mem_supp {w : Nat → Bool} {L p : Nat} : p ∈ supp w L ↔ p < L ∧ w p = true := by
  unfold supp; simp

omit h in
theorem supp_nodup (w : Nat → Bool) (L : Nat) : (supp w L).Nodup := List.Pairwise.filter _ List.nodup_range

omit h in
theorem ps_append (l1 l2 : List (Nat × Nat)) (i : Nat) : ps m (l1 ++ l2) i = ps m l1 i ^^^ ps m l2 i := by
  induction l1 with
  | nil => simp [ps]
  | cons q l ih =>
    show mul m q.1 _ ^^^ ps m (l ++ l2) i = (mul m q.1 _ ^^^ ps m l i) ^^^ ps m l2 i
    rw [ih, Nat.xor_assoc]

omit h in
theorem ps_supp (w : Nat → Bool) (L : Nat) (c X : Nat → Nat) (i : Nat) :
    ps m ((supp w L).map fun p => (c p, X p)) i = sx (fun p => if w p then mul m (c p) (xp m (X p) i) else 0) L := by
  induction L with
  | zero => rfl
  | succ L ih =>
    rw [supp_succ, List.map_append, ps_append, ih, sx]
    congr 1
    cases hw : w L <;> simp [ps]

/-- A word that has few bits, and whose sums are 0, is 0. -/
theorem word_zero (w : Nat → Bool) (L t : Nat) (hL : L ≤ sz m) (hn : (supp w L).length ≤ 2 * t) (hs : ∀ k, 1 ≤ k → k ≤ 2 * t → syn m w L k = 0) : ∀ p, p < L → w p = false := by
  intro p hp
  cases hw : w p with
  | false => rfl
  | true =>
    have hz := ps_zero h ((supp w L).map fun p => (pw m p, pw m p)) ?_ ?_ ?_ (pw m p, pw m p) (List.mem_map.2 ⟨p, mem_supp.2 ⟨hp, hw⟩, rfl⟩)
    · exact absurd hz (pw_ne h p)
    · rw [List.map_map]
      refine List.Pairwise.map _ (S := fun a b => a ≠ b) (R := fun a b => a ≠ b ∧ a < sz m ∧ b < sz m) ?_ ?_
      · intro a b ⟨hab, ha, hb⟩ e
        exact hab (pw_inj h ha hb e)
      · have h1 := supp_nodup w L
        have h2 : ∀ a ∈ supp w L, a < sz m := fun a ha => Nat.lt_of_lt_of_le (mem_supp.1 ha).1 hL
        exact List.Pairwise.imp_of_mem (fun ha hb hab => ⟨hab, h2 _ ha, h2 _ hb⟩) h1
    · intro q hq
      obtain ⟨p', _, rfl⟩ := List.mem_map.1 hq
      exact ⟨pw_lt h _, pw_lt h _⟩
    · intro i hi
      have hi' : i < (supp w L).length := by simpa using hi
      refine (ps_supp _ _ _ _ _).trans (Eq.trans ?_ (hs (i+1) (by omega) (by omega)))
      unfold syn
      refine sx_congr _ (fun p _ => ?_)
      cases w p
      · rfl
      · simp only [if_true]
        rw [xp_pw h, mul_pw h, Nat.mul_succ, Nat.add_comm]

/-! ### The shortest register -/
/-- The sum of C i s (k - i). -/
def cv (m : Nat) (s C : List Nat) (k : Nat) : Nat := sx (fun i => mul m (C.getD i 0) (s.getD (k - i) 0)) (k+1)

/-- The inverse of a power. -/
def yv (m p : Nat) : Nat := pw m (sz m - p)
theorem yv_lt (p : Nat) : yv m p < 2^m := pw_lt h _
theorem pw_yv {p : Nat} (hp : p ≤ sz m) : mul m (pw m p) (yv m p) = 1 := by
  unfold yv; rw [mul_pw h, show p + (sz m - p) = sz m by omega, pw_sz h]

theorem pw_back {p : Nat} (hp : p ≤ sz m) (a i : Nat) (hi : i ≤ a) : pw m (p * (a - i)) = mul m (pw m (p * a)) (xp m (yv m p) i) := by
  unfold yv
  rw [xp_pw h, mul_pw h, pw_eq_iff h]
  have e : p * a + (sz m - p) * i = p * (a - i) + sz m * i := by
    have h1 : p * a = p * (a - i) + p * i := by rw [← Nat.mul_add]; congr 1; omega
    have h2 : (sz m - p) * i + p * i = sz m * i := by rw [← Nat.add_mul]; congr 1; omega
    omega
  rw [e, Nat.add_mul_mod_self_left]

theorem cv_words (w : Nat → Bool) (L T : Nat) (hL : L ≤ sz m) (s C : List Nat) (hC : ∀ y ∈ C, y < 2^m) (hs : ∀ k, k < T → s.getD k 0 = syn m w L (k+1)) (k : Nat) (hk : k < T) (hCk : ∀ i, k < i → C.getD i 0 = 0) :
    cv m s C k = sx (fun p => if w p then mul m (mul m (pw m p) (ev m C (yv m p))) (xp m (pw m p) k) else 0) L := by
  have e1 : cv m s C k = sx (fun i => sx (fun p => if w p then mul m (C.getD i 0) (pw m (p * (k + 1 - i))) else 0) L) (k+1) := by
    unfold cv
    refine sx_congr _ (fun i hi => ?_)
    rw [hs (k - i) (by omega)]
    unfold syn
    rw [sx_mul h _ (getD_lt hC i) _ _ (fun p _ => by split; exact pw_lt h _; exact Nat.two_pow_pos m)]
    refine sx_congr _ (fun p _ => ?_)
    rw [show k - i + 1 = k + 1 - i by omega]
    cases w p
    · simp [mul_zero]
    · rfl
  rw [e1, sx_comm]
  refine sx_congr _ (fun p hp => ?_)
  cases w p
  · simp only [Bool.false_eq_true, if_false]; exact sx_zero _
  · simp only [if_true]
    rw [ev_sx h C (yv m p) (k+1) (yv_lt h p) hC (fun i hi => hCk i (by omega))]
    have hb : ∀ i, i < k + 1 → mul m (C.getD i 0) (xp m (yv m p) i) < 2^m := fun i _ => mul_lt h _ _
    rw [mul_comm (mul m (pw m p) _), ← mul_assoc h (xp_lt h _ _) (pw_lt h p) (sx_lt _ _ hb), xp_pw h, mul_pw h, show p * k + p = p * (k + 1) by rw [Nat.mul_succ], sx_mul h _ (pw_lt h _) _ _ hb]
    refine sx_congr _ (fun i hi => ?_)
    rw [pw_back h (by omega) (k+1) i (by omega), ← mul_assoc h (getD_lt hC i) (pw_lt h _) (xp_lt h _ _), mul_comm (C.getD i 0), mul_assoc h (pw_lt h _) (getD_lt hC i) (xp_lt h _ _)]

/-- As many values 0 as there are bits, one behind another: C is 0 at all inverses. -/
theorem cv_all (w : Nat → Bool) (L T : Nat) (hL : L ≤ sz m) (s C : List Nat) (hC : ∀ y ∈ C, y < 2^m) (hs : ∀ k, k < T → s.getD k 0 = syn m w L (k+1)) (a : Nat)
    (ha : a + (supp w L).length ≤ T) (hCa : ∀ i, a < i → C.getD i 0 = 0) (hz : ∀ k, a ≤ k → k < a + (supp w L).length → cv m s C k = 0) : ∀ p, p < L → w p = true → ev m C (yv m p) = 0 := by
  intro p hp hw
  have hz' := ps_zero h ((supp w L).map fun p => (mul m (mul m (pw m p) (ev m C (yv m p))) (xp m (pw m p) a), pw m p)) ?_ ?_ ?_ _ (List.mem_map.2 ⟨p, mem_supp.2 ⟨hp, hw⟩, rfl⟩)
  · rcases (mul_eq_zero h).1 hz' with h1 | h1
    · rcases (mul_eq_zero h).1 h1 with h2 | h2
      · exact absurd h2 (pw_ne h _)
      · exact h2
    · rw [xp_pw h] at h1; exact absurd h1 (pw_ne h _)
  · rw [List.map_map]
    refine List.Pairwise.map _ (S := fun a b => a ≠ b) (R := fun a b => a ≠ b ∧ a < sz m ∧ b < sz m) ?_ ?_
    · intro a b ⟨hab, ha, hb⟩ e
      exact hab (pw_inj h ha hb e)
    · have h1 := supp_nodup w L
      have h2 : ∀ a ∈ supp w L, a < sz m := fun a ha => Nat.lt_of_lt_of_le (mem_supp.1 ha).1 hL
      exact List.Pairwise.imp_of_mem (fun ha hb hab => ⟨hab, h2 _ ha, h2 _ hb⟩) h1
  · intro q hq
    obtain ⟨p', _, rfl⟩ := List.mem_map.1 hq
    exact ⟨mul_lt h _ _, pw_lt h _⟩
  · intro i hi
    have hi' : i < (supp w L).length := by simpa using hi
    refine (ps_supp _ _ _ _ _).trans (Eq.trans ?_ (hz (a + i) (by omega) (by omega)))
    rw [cv_words h w L T hL s C hC hs (a + i) (by omega) (fun j hj => hCa j (by omega))]
    refine sx_congr _ (fun p _ => ?_)
    cases w p
    · rfl
    · simp only [if_true]
      have hc := mul_lt h (pw m p) (ev m C (yv m p))
      rw [mul_assoc h hc (xp_lt h _ _) (xp_lt h _ _), xp_pw h, xp_pw h, xp_pw h, mul_pw h, Nat.mul_add]
end
end Gf
/- The shortest register, step by step (Berlekamp, Massey): what it finds. No program in sight. -/
namespace Gf

structure Bms where
  now : List Nat
  was : List Nat
  len : Nat
  gap : Nat
  last : Nat

/-- What the register tells wrongly of s n. -/
def disc (m : Nat) (s : List Nat) (now : List Nat) (L n : Nat) : Nat :=
  s.getD n 0 ^^^ sx (fun i => mul m (now.getD (i+1) 0) (s.getD (n - (i+1)) 0)) (min L (now.length - 1))
/-- .. the first I terms of it. -/
def disci (m : Nat) (s : List Nat) (now : List Nat) (n I : Nat) : Nat :=
  s.getD n 0 ^^^ sx (fun i => mul m (now.getD (i+1) 0) (s.getD (n - (i+1)) 0)) I

def nxf (m : Nat) (now was : List Nat) (gap by' : Nat) (j : Nat) : Nat := now.getD j 0 ^^^ (if gap ≤ j then mul m by' (was.getD (j - gap) 0) else 0)
def nextP (m : Nat) (now was : List Nat) (gap by' : Nat) : List Nat := (List.range (max now.length (was.length + gap))).map (nxf m now was gap by')

def bmStep (m : Nat) (s : List Nat) (n : Nat) (b : Bms) : Bms :=
  if disc m s b.now b.len n = 0 then { b with gap := b.gap + 1 }
  else if 2 * b.len ≤ n then ⟨nextP m b.now b.was b.gap (mul m (disc m s b.now b.len n) (inv m b.last)), b.now, n + 1 - b.len, 1, disc m s b.now b.len n⟩
  else ⟨nextP m b.now b.was b.gap (mul m (disc m s b.now b.len n) (inv m b.last)), b.was, b.len, b.gap + 1, b.last⟩

def bms (m : Nat) (s : List Nat) : Nat → Bms
  | 0 => ⟨[1], [1], 0, 1, 1⟩
  | n+1 => bmStep m s n (bms m s n)

/-- Without noughts at its end, but of one coefficient at least. -/
def trim1 : List Nat → List Nat
  | [] => []
  | c :: p => c :: trim p

def locator (m : Nat) (s : List Nat) : List Nat := trim1 (bms m s s.length).now

theorem nextP_getD (m : Nat) (now was : List Nat) (gap by' j : Nat) : (nextP m now was gap by').getD j 0 = nxf m now was gap by' j := by
  unfold nextP
  rcases Nat.lt_or_ge j (max now.length (was.length + gap)) with hj | hj
  · simp [List.getD, hj]
  · have h1 : now.length ≤ j := by omega
    have h2 : was.length + gap ≤ j := by omega
    have e : nxf m now was gap by' j = 0 := by
      unfold nxf
      rw [getD_ge h1, getD_ge (show was.length ≤ j - gap by omega), mul_zero]
      split <;> rfl
    rw [e]
    exact getD_ge (by simp; omega)

section
variable {m : Nat} (h : Ok m)
include h

theorem nextP_lt {now was : List Nat} {gap by' : Nat} (hn : ∀ y ∈ now, y < 2^m) : ∀ y ∈ nextP m now was gap by', y < 2^m := by
  intro y hy
  unfold nextP at hy
  obtain ⟨j, _, rfl⟩ := List.mem_map.1 hy
  unfold nxf
  refine Nat.xor_lt_two_pow (getD_lt hn j) ?_
  split
  · exact mul_lt h _ _
  · exact Nat.two_pow_pos m

theorem cv_next (s now was : List Nat) (gap by' k : Nat) (hs : ∀ y ∈ s, y < 2^m) (hn : ∀ y ∈ now, y < 2^m) (hw : ∀ y ∈ was, y < 2^m) (hb : by' < 2^m) :
    cv m s (nextP m now was gap by') k = cv m s now k ^^^ (if gap ≤ k then mul m by' (cv m s was (k - gap)) else 0) := by
  have e : cv m s (nextP m now was gap by') k = cv m s now k ^^^ sx (fun i => mul m (if gap ≤ i then mul m by' (was.getD (i - gap) 0) else 0) (s.getD (k - i) 0)) (k+1) := by
    unfold cv
    rw [← sx_xor]
    refine sx_congr _ (fun i _ => ?_)
    rw [nextP_getD, nxf, xor_mul h (getD_lt hn i) (by split; exact mul_lt h _ _; exact Nat.two_pow_pos m) _ (getD_lt hs _)]
  rw [e]
  congr 1
  by_cases hk : gap ≤ k
  · rw [if_pos hk]
    have e2 : k + 1 = gap + (k - gap + 1) := by omega
    rw [e2, sx_shift _ _ _ (fun i hi => by rw [if_neg (by omega), zero_mul])]
    unfold cv
    rw [sx_mul h _ hb _ _ (fun i _ => mul_lt h _ _)]
    refine sx_congr _ (fun i hi => ?_)
    rw [if_pos (by omega), show gap + i - gap = i by omega, show k - (gap + i) = k - gap - i by omega, mul_assoc h hb (getD_lt hw i) (getD_lt hs _)]
  · rw [if_neg hk]
    rw [sx_congr (g := fun _ => 0) _ (fun i hi => by rw [if_neg (by omega), zero_mul]), sx_zero]

/-- What holds ahead of step n. -/
structure BmInv (m : Nat) (s : List Nat) (n : Nat) (b : Bms) : Prop where
  one : b.now.getD 0 0 = 1
  nl : ∀ y ∈ b.now, y < 2^m
  wl : ∀ y ∈ b.was, y < 2^m
  ln : b.len ≤ n
  deg : ∀ i, b.len < i → b.now.getD i 0 = 0
  zero : ∀ k, b.len ≤ k → k < n → cv m s b.now k = 0
  g1 : 1 ≤ b.gap
  sum : b.gap + b.len ≤ n + 1
  wdeg : ∀ i, n + 1 - b.gap - b.len < i → b.was.getD i 0 = 0
  wzero : ∀ k, n + 1 - b.gap - b.len ≤ k → k + b.gap < n → cv m s b.was k = 0
  wlast : b.gap ≤ n → cv m s b.was (n - b.gap) = b.last
  l0 : b.last ≠ 0
  ll : b.last < 2^m
  first : n < b.gap → b.len = 0

theorem disc_cv (s now : List Nat) (L n : Nat) (hs : ∀ y ∈ s, y < 2^m) (h1 : now.getD 0 0 = 1) (hL : L ≤ n) (hd : ∀ i, L < i → now.getD i 0 = 0) : disc m s now L n = cv m s now n := by
  unfold disc cv
  rw [sx_head, h1, one_mul h (getD_lt hs _), Nat.sub_zero]
  congr 1
  refine (sx_more _ _ _ (by omega) (fun i h1 h2 => ?_)).symm
  rcases Nat.lt_or_ge i L with hi | hi
  · rw [getD_ge (show now.length ≤ i + 1 by omega), zero_mul]
  · rw [hd (i+1) (by omega), zero_mul]

theorem inv_zero (s : List Nat) : BmInv m s 0 (bms m s 0) where
  one := rfl
  nl := by intro y hy; have : y = 1 := by simpa [bms] using hy
           subst this; exact one_lt m h
  wl := by intro y hy; have : y = 1 := by simpa [bms] using hy
           subst this; exact one_lt m h
  ln := Nat.le_refl _
  deg := fun i hi => getD_ge (by simp [bms] at hi ⊢; omega)
  zero := fun k _ hk => by omega
  g1 := Nat.le_refl _
  sum := by simp [bms]
  wdeg := fun i hi => getD_ge (by simp [bms] at hi ⊢; omega)
  wzero := fun k _ hk => by omega
  wlast := fun hg => by simp [bms] at hg
  l0 := by simp [bms]
  ll := one_lt m h
  first := fun _ => rfl

theorem inv_step (s : List Nat) (hs : ∀ y ∈ s, y < 2^m) (n : Nat) (b : Bms) (I : BmInv m s n b) : BmInv m s (n+1) (bmStep m s n b) := by
  have hd := disc_cv h s b.now b.len n hs I.one I.ln I.deg
  unfold bmStep
  by_cases h0 : disc m s b.now b.len n = 0
  · rw [if_pos h0]
    have hz : cv m s b.now n = 0 := by rw [← hd]; exact h0
    exact {
      one := I.one, nl := I.nl, wl := I.wl, deg := I.deg, l0 := I.l0, ll := I.ll
      ln := Nat.le_succ_of_le I.ln
      zero := fun k h1 h2 => by
        rcases Nat.lt_or_ge k n with h3 | h3
        · exact I.zero k h1 h3
        · have : k = n := by omega
          rw [this]; exact hz
      g1 := by have := I.g1; simp
      sum := by have := I.sum; show b.gap + 1 + b.len ≤ _; omega
      wdeg := fun i hi => I.wdeg i (by
        have hi' : n + 1 + 1 - (b.gap + 1) - b.len < i := hi
        omega)
      wzero := fun k h1 h2 => by
        have h1' : n + 1 + 1 - (b.gap + 1) - b.len ≤ k := h1
        have h2' : k + (b.gap + 1) < n + 1 := h2
        exact I.wzero k (by omega) (by omega)
      wlast := fun hg => by
        have hg' : b.gap + 1 ≤ n + 1 := hg
        show cv m s b.was (n + 1 - (b.gap + 1)) = b.last
        rw [show n + 1 - (b.gap + 1) = n - b.gap by omega]
        exact I.wlast (by omega)
      first := fun hg => by
        have hg' : n + 1 < b.gap + 1 := hg
        exact I.first (by omega) }
  · rw [if_neg h0]
    have hdl : disc m s b.now b.len n < 2^m := by
      rw [hd]; exact sx_lt _ _ (fun i _ => mul_lt h _ _)
    generalize hD : disc m s b.now b.len n = D at *
    have hby := mul_lt h D (inv m b.last)
    have hkill : mul m (mul m D (inv m b.last)) b.last = D := by
      rw [mul_assoc h hdl (inv_lt h _) I.ll, mul_comm (inv m b.last), mul_inv h I.ll I.l0, mul_one h hdl]
    generalize hB : mul m D (inv m b.last) = B at *
    have e1 : (nextP m b.now b.was b.gap B).getD 0 0 = 1 := by
      rw [nextP_getD, nxf, I.one, if_neg (by have := I.g1; omega)]; rfl
    have hnl := nextP_lt h (now := b.now) (was := b.was) (gap := b.gap) (by' := B) I.nl
    -- the values of the new register
    have hzero : ∀ k, b.len ≤ k → n + 1 - b.len ≤ k → k < n + 1 → cv m s (nextP m b.now b.was b.gap B) k = 0 := fun k h1 h2 h3 => by
      rw [cv_next h s b.now b.was b.gap B k hs I.nl I.wl hby]
      have hg := I.sum
      by_cases hkn : k < n
      · rw [I.zero k h1 hkn, if_pos (by omega), I.wzero (k - b.gap) (by omega) (by omega), mul_zero]; rfl
      · have hk : k = n := by omega
        subst hk
        by_cases hf : k < b.gap
        · have := I.first hf; omega
        · rw [if_pos (by omega), I.wlast (by omega), hkill, ← hd, Nat.xor_self]
    have hdeg : ∀ i, b.len < i → n + 1 - b.len < i → (nextP m b.now b.was b.gap B).getD i 0 = 0 := fun i h1 h2 => by
      have hg := I.sum
      rw [nextP_getD, nxf, I.deg i h1]
      split
      · rw [I.wdeg (i - b.gap) (by omega), mul_zero]; rfl
      · rfl
    by_cases h2 : 2 * b.len ≤ n
    · rw [if_pos h2]
      exact {
        one := e1, nl := hnl, wl := I.nl
        ln := by show n + 1 - b.len ≤ n + 1; omega
        deg := fun i hi => by
          have hi' : n + 1 - b.len < i := hi
          exact hdeg i (by omega) hi'
        zero := fun k h3 h4 => by
          have h3' : n + 1 - b.len ≤ k := h3
          exact hzero k (by omega) h3' h4
        g1 := Nat.le_refl _
        sum := by show 1 + (n + 1 - b.len) ≤ n + 1 + 1; omega
        wdeg := fun i hi => by
          have hi' : n + 1 + 1 - 1 - (n + 1 - b.len) < i := hi
          exact I.deg i (by omega)
        wzero := fun k h3 h4 => by
          have h3' : n + 1 + 1 - 1 - (n + 1 - b.len) ≤ k := h3
          have h4' : k + 1 < n + 1 := h4
          exact I.zero k (by omega) (by omega)
        wlast := fun _ => by
          show cv m s b.now (n + 1 - 1) = D
          rw [show n + 1 - 1 = n by omega, ← hd]
        l0 := h0
        ll := hdl
        first := fun hg => by
          have hg' : n + 1 < 1 := hg
          omega }
    · rw [if_neg h2]
      exact {
        one := e1, nl := hnl, wl := I.wl
        ln := Nat.le_succ_of_le I.ln
        deg := fun i hi => by
          have hi' : b.len < i := hi
          exact hdeg i hi' (by omega)
        zero := fun k h3 h4 => by
          have h3' : b.len ≤ k := h3
          exact hzero k h3' (by omega) h4
        g1 := by have := I.g1; simp
        sum := by have := I.sum; show b.gap + 1 + b.len ≤ _; omega
        wdeg := fun i hi => I.wdeg i (by
          have hi' : n + 1 + 1 - (b.gap + 1) - b.len < i := hi
          omega)
        wzero := fun k h1 h2 => by
          have h1' : n + 1 + 1 - (b.gap + 1) - b.len ≤ k := h1
          have h2' : k + (b.gap + 1) < n + 1 := h2
          exact I.wzero k (by omega) (by omega)
        wlast := fun hg => by
          have hg' : b.gap + 1 ≤ n + 1 := hg
          show cv m s b.was (n + 1 - (b.gap + 1)) = b.last
          rw [show n + 1 - (b.gap + 1) = n - b.gap by omega]
          exact I.wlast (by omega)
        l0 := I.l0
        ll := I.ll
        first := fun hg => by
          have hg' : n + 1 < b.gap + 1 := hg
          exact I.first (by omega) }

theorem inv_all (s : List Nat) (hs : ∀ y ∈ s, y < 2^m) (n : Nat) : BmInv m s n (bms m s n) := by
  induction n with
  | zero => exact inv_zero h s
  | succ n ih => exact inv_step h s hs n _ ih

/-- The register is no longer than there are bits. -/
theorem len_le (w : Nat → Bool) (L T : Nat) (hL : L ≤ sz m) (s : List Nat) (hs : ∀ y ∈ s, y < 2^m) (hsy : ∀ k, k < T → s.getD k 0 = syn m w L (k+1)) (n : Nat) (hn : n ≤ T) : (bms m s n).len ≤ (supp w L).length := by
  induction n with
  | zero => exact Nat.zero_le _
  | succ n ih =>
    have ih' := ih (by omega)
    have I := inv_all h s hs n
    show (bmStep m s n (bms m s n)).len ≤ _
    generalize bms m s n = b at *
    have hd := disc_cv h s b.now b.len n hs I.one I.ln I.deg
    unfold bmStep
    by_cases h0 : disc m s b.now b.len n = 0
    · rw [if_pos h0]; exact ih'
    · rw [if_neg h0]
      by_cases h2 : 2 * b.len ≤ n
      · rw [if_pos h2]
        show n + 1 - b.len ≤ _
        rcases Nat.lt_or_ge (supp w L).length (n + 1 - b.len) with hlt | hge
        · exfalso
          have hln := I.ln
          have hall := cv_all h w L T hL s b.now I.nl hsy b.len (by omega) I.deg (fun k h3 h4 => I.zero k h3 (by omega))
          apply h0
          rw [hd, cv_words h w L T hL s b.now I.nl hsy n (by omega) (fun i hi => I.deg i (by omega))]
          rw [sx_congr (g := fun _ => 0) _ (fun p hp => ?_), sx_zero]
          cases hw : w p with
          | false => rfl
          | true => rw [if_pos rfl, hall p hp hw, mul_zero, zero_mul]
        · exact hge
      · rw [if_neg h2]; exact ih'

omit h in
theorem trim1_spec (p : List Nat) (hp : p ≠ []) : trim1 p ≠ [] ∧ (∀ i, (trim1 p).getD i 0 = p.getD i 0) ∧ (trim1 p).length ≤ p.length ∧ (1 < (trim1 p).length → (trim1 p).getD ((trim1 p).length - 1) 0 ≠ 0) := by
  have hT : ∀ p : List Nat, (∀ i, (trim p).getD i 0 = p.getD i 0) ∧ (trim p ≠ [] → (trim p).getD ((trim p).length - 1) 0 ≠ 0) := by
    intro p
    induction p with
    | nil => exact ⟨fun i => rfl, fun h => absurd rfl h⟩
    | cons c p ih =>
      unfold trim
      split
      · rename_i hc
        refine ⟨fun i => ?_, fun h => absurd rfl h⟩
        cases i with
        | zero => simp [hc.2]
        | succ i =>
          have := ih.1 i
          rw [hc.1] at this
          simpa using this
      · rename_i hc
        refine ⟨fun i => ?_, fun _ => ?_⟩
        · cases i with
          | zero => rfl
          | succ i => simpa using ih.1 i
        · by_cases ht : trim p = []
          · simp only [ht, List.length_cons, List.length_nil]
            exact fun e => hc ⟨ht, by simpa using e⟩
          · have h1 := ih.2 ht
            have h2 := List.length_pos_iff.2 ht
            rw [List.length_cons, show (trim p).length + 1 - 1 = ((trim p).length - 1) + 1 by omega]
            simpa using h1
  cases p with
  | nil => exact absurd rfl hp
  | cons c p =>
    refine ⟨by simp [trim1], fun i => ?_, ?_, ?_⟩
    · cases i with
      | zero => rfl
      | succ i => simpa [trim1] using (hT p).1 i
    · simp only [trim1, List.length_cons]
      have := trim_length p
      omega
    · intro hl
      simp only [trim1, List.length_cons] at hl ⊢
      have ht : trim p ≠ [] := fun e => by rw [e] at hl; simp at hl
      have h1 := (hT p).2 ht
      have h2 := List.length_pos_iff.2 ht
      rw [show (trim p).length + 1 - 1 = ((trim p).length - 1) + 1 by omega]
      simpa using h1

/-- The locator of at most t bits out of 2 t sums: as many coefficients as bits, and one more; 0 at just the bits' inverses. -/
theorem locator_spec (w : Nat → Bool) (L t : Nat) (hL : L ≤ sz m) (s : List Nat) (hlen : s.length = 2 * t) (hs : ∀ y ∈ s, y < 2^m) (hsy : ∀ k, k < 2 * t → s.getD k 0 = syn m w L (k+1)) (hw : (supp w L).length ≤ t) :
    (locator m s).length = (supp w L).length + 1 ∧ ∀ p, p < L → (ev m (locator m s) (yv m p) = 0 ↔ w p = true) := by
  have I := inv_all h s hs (2 * t)
  have hle := len_le h w L (2*t) hL s hs hsy (2*t) (Nat.le_refl _)
  have hall := cv_all h w L (2*t) hL s _ I.nl hsy _ (by omega) I.deg (fun k h3 h4 => I.zero k h3 (by omega))
  unfold locator
  rw [hlen]
  generalize bms m s (2*t) = b at *
  have hne : b.now ≠ [] := fun e => by have := I.one; rw [e] at this; simp at this
  obtain ⟨t1, t2, t3, t4⟩ := trim1_spec b.now hne
  have hlt : ∀ y ∈ trim1 b.now, y < 2^m := by
    intro y hy
    obtain ⟨i, hi, rfl⟩ := List.mem_iff_getElem.1 hy
    have := t2 i
    rw [show (trim1 b.now).getD i 0 = (trim1 b.now)[i] by simp [List.getD, hi]] at this
    rw [this]; exact getD_lt I.nl i
  have hev : ∀ x, x < 2^m → ev m (trim1 b.now) x = ev m b.now x := fun x hx => by
    rw [ev_sx h _ x (max (trim1 b.now).length b.now.length) hx hlt (fun i hi => getD_ge (by omega)), ev_sx h b.now x (max (trim1 b.now).length b.now.length) hx I.nl (fun i hi => getD_ge (by omega))]
    exact sx_congr _ (fun i _ => by rw [t2])
  have hroot : ∀ p, p < L → w p = true → ev m (trim1 b.now) (yv m p) = 0 := fun p hp hwp => by rw [hev _ (yv_lt h p)]; exact hall p hp hwp
  have hone : (trim1 b.now).getD 0 0 = 1 := by rw [t2]; exact I.one
  -- at most as long as there are bits, and one more
  have hl1 : (trim1 b.now).length ≤ (supp w L).length + 1 := by
    rcases Nat.lt_or_ge ((supp w L).length + 1) (trim1 b.now).length with hgt | hle'
    · exfalso
      have := t4 (by omega)
      rw [t2] at this
      exact this (I.deg _ (by omega))
    · exact hle'
  have yinj : ∀ p q, p < L → q < L → yv m p = yv m q → p = q := fun p q hp hq e => by
    have h1 := pw_yv h (show p ≤ sz m by omega)
    have h2 := pw_yv h (show q ≤ sz m by omega)
    rw [← e] at h2
    have h3 := mul_left_cancel h (yv_lt h p) (pw_lt h p) (pw_lt h q) (pw_ne h _) (by rw [mul_comm, h1, mul_comm, h2])
    exact pw_inj h (by omega) (by omega) h3
  have hnd : ∀ l : List Nat, l.Nodup → (∀ p ∈ l, p < L) → (l.map (yv m)).Nodup := fun l hl hb => by
    refine List.Pairwise.map _ (S := fun a b => a ≠ b) (R := fun a b => a ≠ b ∧ a < L ∧ b < L) ?_ ?_
    · intro a b ⟨hab, ha, hb⟩ e
      exact hab (yinj a b ha hb e)
    · exact List.Pairwise.imp_of_mem (fun ha hb' hab => ⟨hab, hb _ ha, hb _ hb'⟩) hl
  have hcontra : ∀ l : List Nat, l.Nodup → (∀ p ∈ l, p < L ∧ ev m (trim1 b.now) (yv m p) = 0) → (trim1 b.now).length ≤ l.length → False := fun l hl hb hlen' => by
    have := roots_zero h l.length (trim1 b.now) (l.map (yv m)) hlen' (by simp) (hnd l hl fun p hp => (hb p hp).1) hlt (by
      intro x hx
      obtain ⟨p, hp, rfl⟩ := List.mem_map.1 hx
      exact ⟨yv_lt h p, (hb p hp).2⟩)
    have hpos := List.length_pos_iff.2 t1
    have h0 := this ((trim1 b.now).getD 0 0) (by simp [List.getD, hpos])
    rw [hone] at h0; omega
  have hsup : ∀ p ∈ supp w L, p < L ∧ ev m (trim1 b.now) (yv m p) = 0 := fun p hp => ⟨(mem_supp.1 hp).1, hroot p (mem_supp.1 hp).1 (mem_supp.1 hp).2⟩
  have hl2 : (supp w L).length < (trim1 b.now).length := by
    rcases Nat.lt_or_ge (supp w L).length (trim1 b.now).length with hgt | hle'
    · exact hgt
    · exact absurd (hcontra _ (supp_nodup w L) hsup hle') id
  refine ⟨by omega, fun p hp => ⟨fun he => ?_, fun hwp => hroot p hp hwp⟩⟩
  cases hwp : w p with
  | true => rfl
  | false =>
    exfalso
    refine hcontra (p :: supp w L) (List.nodup_cons.2 ⟨fun hm => ?_, supp_nodup w L⟩) ?_ (by simp; omega)
    · have := (mem_supp.1 hm).2; rw [hwp] at this; cases this
    · intro q hq
      rcases List.mem_cons.1 hq with rfl | hq
      · exact ⟨hp, he⟩
      · exact hsup q hq
end
end Gf
/- Plain facts on generators: their coefficients, their roots. No program in sight. -/
namespace Gf
section
variable {m : Nat} (h : Ok m)
include h

theorem xp_add {x : Nat} (hx : x < 2^m) (a b : Nat) : xp m x (a + b) = mul m (xp m x a) (xp m x b) := by
  induction b with
  | zero => rw [Nat.add_zero, xp, mul_one h (xp_lt h _ _)]
  | succ b ih => rw [← Nat.add_assoc, xp, ih, xp, mul_assoc h (xp_lt h _ _) (xp_lt h _ _) hx]

omit h in
theorem cf_sx (p q : List Nat) (I j : Nat) : cf m p q I j = sx (fun i => if i ≤ j ∧ j - i < q.length then mul m (p.getD i 0) (q.getD (j - i) 0) else 0) I := by
  induction I with
  | zero => rfl
  | succ I ih => rw [cf, sx, ih]

omit h in
theorem trim_getD (p : List Nat) (i : Nat) : (trim p).getD i 0 = p.getD i 0 := by
  have := (trim1_spec (0 :: p) (by simp)).2.1 (i+1)
  simpa [trim1] using this

omit h in
theorem trim_lt {p : List Nat} (hp : ∀ y ∈ p, y < 2^m) : ∀ y ∈ trim p, y < 2^m := fun y hy => hp y (trim_mem hy)

theorem ev_trim (p : List Nat) (x : Nat) (hx : x < 2^m) (hp : ∀ y ∈ p, y < 2^m) : ev m (trim p) x = ev m p x := by
  have := trim_length p
  rw [ev_sx h (trim p) x p.length hx (trim_lt hp) (fun i hi => getD_ge (by omega)), ev_sx h p x p.length hx hp (fun i hi => getD_ge hi)]
  exact sx_congr _ (fun i _ => by rw [trim_getD])

theorem prod_lt (p q : List Nat) : ∀ y ∈ prod m p q, y < 2^m := by
  intro y hy
  obtain ⟨j, _, rfl⟩ := List.mem_map.1 hy
  exact cf_lt h _ _ _ _

theorem ev_prod (p q : List Nat) (x : Nat) (hx : x < 2^m) (hp : ∀ y ∈ p, y < 2^m) (hq : ∀ y ∈ q, y < 2^m) (p0 : p ≠ []) (q0 : q ≠ []) : ev m (prod m p q) x = mul m (ev m p x) (ev m q x) := by
  have hpl := List.length_pos_iff.2 p0
  have hql := List.length_pos_iff.2 q0
  have hb : ∀ i k, mul m (mul m (p.getD i 0) (q.getD k 0)) (xp m x (i + k)) < 2^m := fun _ _ => mul_lt h _ _
  rw [ev_sx h (prod m p q) x (p.length + q.length - 1) hx (prod_lt h p q) (fun i hi => getD_ge (by rw [prod_length]; exact hi))]
  have e1 : sx (fun j => mul m ((prod m p q).getD j 0) (xp m x j)) (p.length + q.length - 1) = sx (fun j => sx (fun i => if i ≤ j ∧ j - i < q.length then mul m (mul m (p.getD i 0) (q.getD (j - i) 0)) (xp m x j) else 0) p.length) (p.length + q.length - 1) := by
    refine sx_congr _ (fun j hj => ?_)
    rw [prod_getD _ _ _ _ hj, cf_sx, mul_comm, sx_mul h _ (xp_lt h _ _) _ _ (fun i _ => by split; exact mul_lt h _ _; exact Nat.two_pow_pos m)]
    refine sx_congr _ (fun i _ => ?_)
    split
    · rw [mul_comm]
    · rw [mul_zero]
  rw [e1, sx_comm]
  have hevp := ev_lt h p x hp
  rw [mul_comm (ev m p x), ev_sx h p x p.length hx hp (fun i hi => getD_ge hi), sx_mul h _ (ev_lt h q x hq) _ _ (fun i _ => mul_lt h _ _)]
  refine sx_congr _ (fun i hi => ?_)
  have e2 : p.length + q.length - 1 = i + (q.length + (p.length - 1 - i)) := by omega
  rw [e2, sx_shift _ _ _ (fun j hj => if_neg (by omega))]
  rw [sx_more _ q.length _ (by omega) (fun j hj _ => if_neg (by omega))]
  rw [mul_comm (ev m q x), ev_sx h q x q.length hx hq (fun i hi => getD_ge hi), sx_mul h _ (mul_lt h _ _) _ _ (fun i _ => mul_lt h _ _)]
  refine sx_congr _ (fun k hk => ?_)
  rw [if_pos (by omega), show i + k - i = k by omega, xp_add h hx]
  have a1 := getD_lt hp i
  have a2 := getD_lt hq k
  have a3 := xp_lt h x i
  have a4 := xp_lt h x k
  generalize p.getD i 0 = A at *
  generalize q.getD k 0 = B at *
  generalize xp m x i = X at *
  generalize xp m x k = Y at *
  rw [mul_assoc h a1 a2 (mul_lt h _ _), ← mul_assoc h a2 a3 a4, mul_comm B X, mul_assoc h a3 a2 a4, ← mul_assoc h a1 a3 (mul_lt h _ _)]

theorem ev_times (p q : List Nat) (x : Nat) (hx : x < 2^m) (hp : ∀ y ∈ p, y < 2^m) (hq : ∀ y ∈ q, y < 2^m) (p0 : p ≠ []) (q0 : q ≠ []) : ev m (times m p q) x = mul m (ev m p x) (ev m q x) := by
  unfold times
  rw [if_neg (by simp [p0, q0]), ev_trim h _ _ hx (prod_lt h p q), ev_prod h p q x hx hp hq p0 q0]

theorem ev_lin (r x : Nat) (hx : x < 2^m) : ev m [r, 1] x = x ^^^ r := by
  simp only [ev, List.foldr_cons, List.foldr_nil, zero_mul, Nat.zero_xor]
  rw [one_mul h hx]

theorem lin_lt (k : Nat) : ∀ y ∈ [pw m k, 1], y < 2^m := by
  intro y hy
  simp only [List.mem_cons, List.not_mem_nil, or_false] at hy
  rcases hy with rfl | rfl
  · exact pw_lt h _
  · exact one_lt m h

/-- The product of x + the powers 2^j n. -/
def pe (m n : Nat) : Nat → Nat → Nat
  | 0, _ => 1
  | i+1, x => mul m (pe m n i x) (x ^^^ pw m (2^i * n))

theorem pe_lt (n i x : Nat) : pe m n i x < 2^m := by
  cases i with
  | zero => exact one_lt m h
  | succ i => exact mul_lt h _ _

theorem ev_mins (n i x : Nat) (hx : x < 2^m) : ev m (mins m n i) x = pe m n i x := by
  induction i with
  | zero => simp [mins, pe, ev, zero_mul]
  | succ i ih =>
    unfold mins pe
    rw [ev_times h _ _ x hx (mins_lt h n i) (lin_lt h _) (mins_mon h n i).1.1 (by simp), ih, ev_lin h _ x hx, pw_mod h]

theorem pe_head (n i x : Nat) (hx : x < 2^m) : pe m n (i+1) x = mul m (x ^^^ pw m n) (pe m (2 * n) i x) := by
  have hl : ∀ k, x ^^^ pw m k < 2^m := fun k => Nat.xor_lt_two_pow hx (pw_lt h k)
  induction i with
  | zero => simp only [pe, Nat.pow_zero, Nat.one_mul]; rw [one_mul h (hl _), mul_one h (hl _)]
  | succ i ih =>
    rw [pe, ih, pe, mul_assoc h (hl _) (pe_lt h _ _ _) (hl _), Nat.pow_succ, Nat.mul_assoc]

theorem pe_sq (n i x : Nat) (hx : x < 2^m) : mul m (pe m n i x) (pe m n i x) = pe m (2 * n) i (mul m x x) := by
  induction i with
  | zero => simp only [pe]; exact mul_one h (one_lt m h)
  | succ i ih =>
    have hl := Nat.xor_lt_two_pow hx (pw_lt h (2^i * n))
    have hp := pe_lt h n i x
    rw [pe, pe, ← ih]
    have e : mul m x x ^^^ pw m (2^i * (2 * n)) = mul m (x ^^^ pw m (2^i * n)) (x ^^^ pw m (2^i * n)) := by
      rw [sq_xor h hx (pw_lt h _), mul_pw h]
      congr 2
      rw [Nat.mul_left_comm]; omega
    rw [e]
    generalize pe m n i x = A at *
    generalize x ^^^ pw m (2^i * n) = B at *
    rw [mul_assoc h hp hl (mul_lt h _ _), ← mul_assoc h hl hp hl, mul_comm B A, mul_assoc h hp hl hl, ← mul_assoc h hp hp (mul_lt h _ _)]

theorem pe_turn (n d x : Nat) (hd : 1 ≤ d) (hx : x < 2^m) (hc : pw m (2^d * n) = pw m n) : pe m (2 * n) d x = pe m n d x := by
  obtain ⟨i, rfl⟩ : ∃ i, d = i + 1 := ⟨d - 1, by omega⟩
  rw [pe_head h n i x hx, pe, show 2^i * (2 * n) = 2^(i+1) * n by rw [Nat.pow_succ, Nat.mul_assoc], hc, mul_comm]

theorem ev_map_xor (f g : Nat → Nat) (hf : ∀ c, f c < 2^m) (hg : ∀ c, g c < 2^m) (p : List Nat) (x : Nat) (hx : x < 2^m) : ev m (p.map fun c => f c ^^^ g c) x = ev m (p.map f) x ^^^ ev m (p.map g) x := by
  induction p with
  | nil => simp [ev]
  | cons c p ih =>
    simp only [List.map_cons, ev_cons]
    have h1 := ev_lt h (p.map f) x (fun y hy => by obtain ⟨c, _, rfl⟩ := List.mem_map.1 hy; exact hf c)
    have h2 := ev_lt h (p.map g) x (fun y hy => by obtain ⟨c, _, rfl⟩ := List.mem_map.1 hy; exact hg c)
    rw [ih, xor_mul h h1 h2 x hx]
    simp only [Nat.xor_assoc]
    congr 1
    rw [← Nat.xor_assoc (mul m (ev m (p.map g) x) x), Nat.xor_comm (mul m (ev m (p.map g) x) x), Nat.xor_assoc]

theorem ev_map_sq (p : List Nat) (x : Nat) (hx : x < 2^m) (hp : ∀ y ∈ p, y < 2^m) : ev m (p.map fun c => mul m c c) (mul m x x) = mul m (ev m p x) (ev m p x) := by
  induction p with
  | nil => simp [ev, zero_mul]
  | cons c p ih =>
    have hp' : ∀ y ∈ p, y < 2^m := fun y hy => hp y (by simp [hy])
    have he := ev_lt h p x hp'
    simp only [List.map_cons, ev_cons]
    rw [ih hp', sq_xor h (mul_lt h _ _) (hp c (by simp))]
    congr 1
    generalize ev m p x = A at *
    rw [mul_assoc h he he (mul_lt h _ _), mul_assoc h he hx (mul_lt h _ _), ← mul_assoc h hx he hx, mul_comm x A, mul_assoc h he hx hx]

/-- Coefficients 0 and 1 alone. -/
def Bin (p : List Nat) : Prop := ∀ y ∈ p, y = 0 ∨ y = 1

theorem root_of (k : Nat) : pw m k = mul m (pw m (2^(m-1) * k)) (pw m (2^(m-1) * k)) := by
  rw [mul_pw h, pw_eq_iff h]
  have e : 2^(m-1) * k + 2^(m-1) * k = 2^m * k := by
    rw [← Nat.add_mul]
    congr 1
    have : 2^m = 2^(m-1) * 2 := by rw [← Nat.pow_succ]; congr 1; unfold Ok at h; omega
    omega
  rw [e, two_pow_mod h]

theorem minimal_bin (n : Nat) : Bin (minimal m n) := by
  have hc := cyc_spec h n
  have hlt : ∀ y ∈ minimal m n, y < 2^m := mins_lt h n (cyc m n)
  have hpw : pw m (2^(cyc m n) * n) = pw m n := (pw_eq_iff h _ _).2 hc.2.2.1
  have hlen := (mins_mon h n (cyc m n)).2
  have hz := roots_zero h (sz m) ((minimal m n).map fun c => mul m c c ^^^ (if c < 2^m then c else 0)) ((List.range (sz m)).map (pw m)) ?_ (by simp) ?_ ?_ ?_
  · intro y hy
    have hy2 := hlt y hy
    have := hz _ (List.mem_map.2 ⟨y, hy, rfl⟩)
    rw [if_pos hy2] at this
    exact sq_eq_self h hy2 (xor_zero this)
  · rw [List.length_map]
    show (mins m n (cyc m n)).length ≤ sz m
    rw [hlen]
    have h1 := hc.1
    have : m + 1 ≤ sz m := by
      rcases h.cases with rfl | rfl | rfl | rfl | rfl | rfl | rfl | rfl | rfl | rfl | rfl | rfl <;> decide +kernel
    omega
  · refine List.Pairwise.map _ (S := fun a b => a ≠ b) (R := fun a b => a ≠ b ∧ a < sz m ∧ b < sz m) ?_ ?_
    · intro a b ⟨hab, ha, hb⟩ e
      exact hab (pw_inj h ha hb e)
    · exact List.Pairwise.imp_of_mem (fun ha hb hab => ⟨hab, by simpa using ha, by simpa using hb⟩) List.nodup_range
  · intro y hy
    obtain ⟨c, _, rfl⟩ := List.mem_map.1 hy
    refine Nat.xor_lt_two_pow (mul_lt h _ _) ?_
    split
    · assumption
    · exact Nat.two_pow_pos m
  · intro y hy
    obtain ⟨k, _, rfl⟩ := List.mem_map.1 hy
    refine ⟨pw_lt h k, ?_⟩
    rw [ev_map_xor h _ _ (fun c => mul_lt h _ _) (fun c => by split; assumption; exact Nat.two_pow_pos m) _ _ (pw_lt h k)]
    have e1 : (minimal m n).map (fun c => if c < 2^m then c else 0) = minimal m n := by
      conv => rhs; rw [← List.map_id (minimal m n)]
      exact List.map_congr_left fun c hc => by rw [if_pos (hlt c hc)]; rfl
    rw [e1]
    have hx := pw_lt h (2^(m-1) * k)
    rw [root_of h k, ev_map_sq h _ _ hx hlt]
    show mul m (ev m (mins m n (cyc m n)) _) (ev m (mins m n (cyc m n)) _) ^^^ ev m (mins m n (cyc m n)) _ = 0
    rw [ev_mins h _ _ _ hx, ev_mins h _ _ _ (mul_lt h _ _), pe_sq h _ _ _ hx, pe_turn h _ _ _ hc.2.1 (mul_lt h _ _) hpw, Nat.xor_self]

omit h in
theorem bin_getD {p : List Nat} (hp : Bin p) (i : Nat) : p.getD i 0 = 0 ∨ p.getD i 0 = 1 := by
  rcases Nat.lt_or_ge i p.length with hi | hi
  · have : p.getD i 0 = p[i] := by simp [List.getD, hi]
    rw [this]; exact hp _ (by simp)
  · exact .inl (getD_ge hi)

theorem times_bin (p q : List Nat) (hp : Bin p) (hq : Bin q) : Bin (times m p q) := by
  have hc : ∀ I j, cf m p q I j = 0 ∨ cf m p q I j = 1 := fun I j => by
    induction I with
    | zero => exact .inl rfl
    | succ I ih =>
      have e : (if I ≤ j ∧ j - I < q.length then mul m (p.getD I 0) (q.getD (j - I) 0) else 0) = 0 ∨ (if I ≤ j ∧ j - I < q.length then mul m (p.getD I 0) (q.getD (j - I) 0) else 0) = 1 := by
        split
        · rcases bin_getD hp I with h1 | h1 <;> rcases bin_getD hq (j - I) with h2 | h2 <;> rw [h1, h2] <;> simp [zero_mul, mul_zero, mul_one h (one_lt m h)]
        · exact .inl rfl
      unfold cf
      rcases ih with h1 | h1 <;> rcases e with h2 | h2 <;> rw [h1, h2] <;> decide
  intro y hy
  unfold times at hy
  split at hy
  · simp at hy
  · obtain ⟨j, _, rfl⟩ := List.mem_map.1 (trim_mem hy)
    exact hc _ _

theorem gen_bin (i : Nat) : Bin (gen m i) := by
  induction i with
  | zero => intro y hy; simp [gen] at hy; exact .inr hy
  | succ i ih =>
    unfold gen; split
    · exact times_bin h _ _ ih (minimal_bin h _)
    · exact ih

/-- The exponents of a generator's roots. -/
def coset (m n : Nat) : List Nat := (List.range (cyc m n)).map fun j => (2^j * n) % sz m
def exs (m : Nat) : Nat → List Nat
  | 0 => []
  | i+1 => if ev m (gen m i) (pw m (2*i+1)) ≠ 0 then exs m i ++ coset m (2*i+1) else exs m i

theorem pe_zero (n i x : Nat) (_hx : x < 2^m) : pe m n i x = 0 ↔ ∃ j, j < i ∧ x = pw m (2^j * n) := by
  induction i with
  | zero => simp [pe]
  | succ i ih =>
    rw [pe, mul_eq_zero h, ih]
    constructor
    · rintro (⟨j, hj, e⟩ | e)
      · exact ⟨j, by omega, e⟩
      · exact ⟨i, by omega, xor_zero e⟩
    · rintro ⟨j, hj, e⟩
      by_cases hji : j = i
      · subst hji; right; rw [e, Nat.xor_self]
      · exact .inl ⟨j, by omega, e⟩

theorem gen_root (i e : Nat) : ev m (gen m i) (pw m e) = 0 ↔ e % sz m ∈ exs m i := by
  induction i with
  | zero =>
    simp only [gen, exs, ev, List.foldr_cons, List.foldr_nil, zero_mul, Nat.zero_xor]
    simp
  | succ i ih =>
    unfold gen exs
    split
    · rw [ev_times h _ _ _ (pw_lt h e) (gen_lt h i) (show ∀ y ∈ minimal m (2*i+1), y < 2^m from mins_lt h _ _) (gen_mon h i).1.1 (minimal_mon h _).1.1, mul_eq_zero h, ih, List.mem_append]
      have : ev m (minimal m (2*i+1)) (pw m e) = 0 ↔ e % sz m ∈ coset m (2*i+1) := by
        show ev m (mins m _ _) _ = 0 ↔ _
        rw [ev_mins h _ _ _ (pw_lt h e), pe_zero h _ _ _ (pw_lt h e)]
        unfold coset
        rw [List.mem_map]
        constructor
        · rintro ⟨j, hj, he⟩
          exact ⟨j, by simpa using hj, ((pw_eq_iff h _ _).1 he).symm⟩
        · rintro ⟨j, hj, he⟩
          exact ⟨j, by simpa using hj, (pw_eq_iff h _ _).2 he.symm⟩
      rw [this]
    · exact ih

omit h in
theorem mul_mod_congr {a b : Nat} (c : Nat) (s : Nat) (e : a % s = b % s) : (c * a) % s = (c * b) % s := by
  rw [Nat.mul_mod, e, ← Nat.mul_mod]

theorem exs_double (i e : Nat) (he : e ∈ exs m i) : (2 * e) % sz m ∈ exs m i := by
  induction i with
  | zero => simp [exs] at he
  | succ i ih =>
    unfold exs at he ⊢
    split at he
    · rename_i hn
      rw [if_pos hn, List.mem_append]
      rcases List.mem_append.1 he with he | he
      · exact .inl (ih he)
      · right
        unfold coset at he ⊢
        obtain ⟨j, hj, rfl⟩ := List.mem_map.1 he
        have hj' : j < cyc m (2*i+1) := by simpa using hj
        rw [List.mem_map]
        have hcs := cyc_spec h (2*i+1)
        by_cases hlast : j + 1 < cyc m (2*i+1)
        · refine ⟨j+1, by simpa using hlast, ?_⟩
          rw [Nat.mul_mod_mod, Nat.pow_succ, Nat.mul_comm (2^j) 2, Nat.mul_assoc]
        · refine ⟨0, by simp; omega, ?_⟩
          rw [Nat.mul_mod_mod, ← Nat.mul_assoc, Nat.mul_comm 2 (2^j), ← Nat.pow_succ, show j.succ = cyc m (2*i+1) by omega, hcs.2.2.1, Nat.pow_zero, Nat.one_mul]
    · rename_i hn
      rw [if_neg hn]; exact ih he

theorem exs_lt (i e : Nat) (he : e ∈ exs m i) : e < sz m := by
  induction i with
  | zero => simp [exs] at he
  | succ i ih =>
    unfold exs at he
    split at he
    · rcases List.mem_append.1 he with he | he
      · exact ih he
      · obtain ⟨j, _, rfl⟩ := List.mem_map.1 he
        exact Nat.mod_lt _ (sz_pos h)
    · exact ih he

theorem exs_doubles (i e k : Nat) (he : e ∈ exs m i) : (2^k * e) % sz m ∈ exs m i := by
  induction k with
  | zero => rw [Nat.pow_zero, Nat.one_mul, Nat.mod_eq_of_lt (exs_lt h i e he)]; exact he
  | succ k ih =>
    have := exs_double h i _ ih
    rw [Nat.mul_mod_mod] at this
    rwa [Nat.pow_succ, Nat.mul_comm (2^k) 2, Nat.mul_assoc]

omit h in
theorem exs_mono (i e : Nat) (he : e ∈ exs m i) : e ∈ exs m (i+1) := by
  unfold exs; split
  · exact List.mem_append.2 (.inl he)
  · exact he

theorem coset_nodup (n : Nat) : (coset m n).Nodup := by
  have hcs := cyc_spec h n
  unfold coset
  refine List.Pairwise.map _ (S := fun a b => a ≠ b) (R := fun a b => a < b ∧ b < cyc m n) ?_ ?_
  · intro a b ⟨hab, hb⟩ e
    have e2 := mul_mod_congr (2^(m-a)) (sz m) e
    rw [← Nat.mul_assoc, ← Nat.mul_assoc, ← Nat.pow_add, ← Nat.pow_add, show m - a + a = m by omega, show m - a + b = m + (b - a) by omega, Nat.pow_add, Nat.mul_assoc, two_pow_mod h, two_pow_mod h] at e2
    exact hcs.2.2.2 (b - a) (by omega) (by omega) e2.symm
  · refine List.Pairwise.imp_of_mem (fun ha hb hab => ⟨hab, by simpa using hb⟩) (List.pairwise_lt_range)

theorem exs_nodup (i : Nat) : (exs m i).Nodup ∧ (exs m i).length + 1 = (gen m i).length := by
  induction i with
  | zero => exact ⟨List.nodup_nil, rfl⟩
  | succ i ih =>
    have e1 : exs m (i+1) = if ev m (gen m i) (pw m (2*i+1)) ≠ 0 then exs m i ++ coset m (2*i+1) else exs m i := rfl
    have e2 : gen m (i+1) = if ev m (gen m i) (pw m (2*i+1)) ≠ 0 then times m (gen m i) (minimal m (2*i+1)) else gen m i := rfl
    rw [e1, e2]
    split
    · rename_i hn
      refine ⟨List.nodup_append.2 ⟨ih.1, coset_nodup h _, fun a ha b hb e => ?_⟩, ?_⟩
      · subst e
        obtain ⟨j, hj, rfl⟩ := List.mem_map.1 hb
        have hj' : j < cyc m (2*i+1) := by simpa using hj
        have hcs := cyc_spec h (2*i+1)
        have := exs_doubles h i _ (m - j) ha
        rw [Nat.mul_mod_mod, ← Nat.mul_assoc, ← Nat.pow_add, show m - j + j = m by omega, two_pow_mod h] at this
        exact hn ((gen_root h i _).2 this)
      · rw [(times_mon h (gen_mon h i).1 (minimal_mon h _).1).1, prod_length, (minimal_mon h _).2, List.length_append]
        have : (coset m (2*i+1)).length = cyc m (2*i+1) := by simp [coset]
        have hg := List.length_pos_iff.2 (gen_mon h i).1.1
        omega
    · exact ih

theorem gen_odd (i : Nat) : (2*i+1) % sz m ∈ exs m (i+1) := by
  unfold exs
  split
  · refine List.mem_append.2 (.inr (List.mem_map.2 ⟨0, ?_, by simp⟩))
    have := (cyc_spec h (2*i+1)).2.1
    simp; omega
  · rename_i hn
    exact (gen_root h i _).1 (by simpa using hn)

omit h in
theorem exs_le (i j e : Nat) (hij : i ≤ j) (he : e ∈ exs m i) : e ∈ exs m j := by
  induction j with
  | zero => have : i = 0 := by omega
            subst this; exact he
  | succ j ih =>
    by_cases hh : i = j + 1
    · subst hh; exact he
    · exact exs_mono j e (ih (by omega))

/-- The generator is 0 at the first 2 t powers. -/
theorem gen_powers (t : Nat) : ∀ k, 1 ≤ k → k ≤ 2 * t → k % sz m ∈ exs m t := by
  intro k
  induction k using Nat.strongRecOn with
  | _ k ih =>
    intro h1 h2
    by_cases hp : k % 2 = 0
    · have := exs_double h t _ (ih (k/2) (by omega) (by omega) (by omega))
      rw [Nat.mul_mod_mod, show 2 * (k / 2) = k by omega] at this
      exact this
    · have := exs_le (k/2+1) t _ (by omega) (gen_odd h (k/2))
      rwa [show 2 * (k/2) + 1 = k by omega] at this

omit h in
/-- Each root is a power of one of the first 2 t ones, doubled. -/
theorem exs_from (t e : Nat) (he : e ∈ exs m t) : ∃ k j, 1 ≤ k ∧ k ≤ 2 * t ∧ e = (2^j * k) % sz m := by
  induction t with
  | zero => simp [exs] at he
  | succ t ih =>
    unfold exs at he
    split at he
    · rcases List.mem_append.1 he with he | he
      · obtain ⟨k, j, h1, h2, h3⟩ := ih he
        exact ⟨k, j, h1, by omega, h3⟩
      · obtain ⟨j, _, rfl⟩ := List.mem_map.1 he
        exact ⟨2*t+1, j, by omega, by omega, rfl⟩
    · obtain ⟨k, j, h1, h2, h3⟩ := ih he
      exact ⟨k, j, h1, by omega, h3⟩

theorem genr_gen (i : Nat) : genr m (2 * i) = gen m i := by
  induction i with
  | zero => rfl
  | succ i ih =>
    have e1 : genr m (2 * i + 1) = gen m (i+1) := by
      show (if ev m (genr m (2*i)) (pw m (2*i+1)) ≠ 0 then times m (genr m (2*i)) (minimal m (2*i+1)) else genr m (2*i)) = _
      rw [ih]; rfl
    show (if ev m (genr m (2*i+1)) (pw m (2*i+1+1)) ≠ 0 then times m (genr m (2*i+1)) (minimal m (2*i+1+1)) else genr m (2*i+1)) = _
    rw [e1, if_neg]
    rw [Decidable.not_not]
    exact (gen_root h (i+1) _).2 (gen_powers h (i+1) _ (by omega) (by omega))
end
end Gf
/- Plain: a generator as a number; the register that leaves the rest, bit by bit. No program in sight. -/
namespace Gf

/-- The number whose bits are the first I coefficients. -/
def gn (g : Nat → Nat) : Nat → Nat
  | 0 => 0
  | I+1 => gn g I + g I * 2^I

theorem gn_lt {g : Nat → Nat} (hg : ∀ i, g i ≤ 1) (I : Nat) : gn g I < 2^I := by
  induction I with
  | zero => exact Nat.one_pos
  | succ I ih =>
    have h1 : g I * 2^I ≤ 1 * 2^I := Nat.mul_le_mul_right _ (hg I)
    rw [gn, Nat.pow_succ]; omega

theorem gn_or {g : Nat → Nat} (hg : ∀ i, g i ≤ 1) (I : Nat) : gn g (I+1) = gn g I ||| (g I * 2^I) := by
  rw [gn]
  rcases (show g I = 0 ∨ g I = 1 by have := hg I; omega) with h | h
  · rw [h]; simp
  · rw [h, Nat.one_mul, Nat.add_comm, Nat.or_comm]
    have := Nat.two_pow_add_eq_or_of_lt (gn_lt hg I) 1
    rwa [Nat.mul_one] at this

theorem gn_bit {g : Nat → Nat} (hg : ∀ i, g i ≤ 1) (I i : Nat) : (gn g I).testBit i = decide (i < I ∧ g i = 1) := by
  induction I with
  | zero => simp [gn]
  | succ I ih =>
    rw [gn_or hg, Nat.testBit_or, ih]
    rcases (show g I = 0 ∨ g I = 1 by have := hg I; omega) with h | h
    · rw [h, Nat.zero_mul, Nat.zero_testBit, Bool.or_false]
      by_cases e : i = I
      · subst e; simp [h]
      · congr 1; simp; intro _; omega
    · rw [h, Nat.one_mul, Nat.testBit_two_pow]
      by_cases e : i = I
      · subst e; simp [h]
      · have e2 : ¬ I = i := fun x => e x.symm
        simp only [e2, decide_false, Bool.or_false]
        congr 1; simp; intro _; omega

/-- One bit more, in a register of 128 bits. -/
def zstep (r G Z : Nat) (b : Bool) : Nat := ((2 * Z) % 2^128) ^^^ (if (Z.testBit (r - 1) ^^ b) then G else 0)
/-- Behind i bits of a byte, the highest first. -/
def zb (r G Z x : Nat) : Nat → Nat
  | 0 => Z
  | i+1 => zstep r G (zb r G Z x i) (x.testBit (7 - i))
/-- Behind j bytes. -/
def zd (r G : Nat) (f : Nat → Nat) : Nat → Nat
  | 0 => 0
  | j+1 => zb r G (zd r G f j) (f j) 8

theorem zstep_lt {r G Z : Nat} (b : Bool) (hG : G < 2^128) : zstep r G Z b < 2^128 := by
  unfold zstep
  refine Nat.xor_lt_two_pow (Nat.mod_lt _ (Nat.two_pow_pos 128)) ?_
  split
  · exact hG
  · exact Nat.two_pow_pos 128
theorem zb_lt {r G Z x : Nat} (hG : G < 2^128) (hZ : Z < 2^128) (i : Nat) : zb r G Z x i < 2^128 := by
  cases i with
  | zero => exact hZ
  | succ i => exact zstep_lt _ hG
theorem zd_lt {r G : Nat} (f : Nat → Nat) (hG : G < 2^128) (j : Nat) : zd r G f j < 2^128 := by
  cases j with
  | zero => exact Nat.two_pow_pos 128
  | succ j => exact zb_lt hG (zd_lt f hG j) 8

/-- The two halves of a number of 128 bits. -/
def hi64 (Z : Nat) : Nat := Z / 2^64
def lo64 (Z : Nat) : Nat := Z % 2^64
theorem lo64_lt (Z : Nat) : lo64 Z < 2^64 := Nat.mod_lt _ (Nat.two_pow_pos 64)
theorem hi64_lt {Z : Nat} (h : Z < 2^128) : hi64 Z < 2^64 := by
  unfold hi64
  rw [Nat.div_lt_iff_lt_mul (Nat.two_pow_pos 64), ← Nat.pow_add]; exact h
theorem lo64_zero : lo64 0 = 0 := rfl
theorem hi64_zero : hi64 0 = 0 := rfl
theorem bit_halves (Z i : Nat) : Z.testBit i = if i < 64 then (lo64 Z).testBit i else (hi64 Z).testBit (i - 64) := by
  unfold lo64 hi64
  split
  · rename_i h; rw [Nat.testBit_mod_two_pow]; simp [h]
  · rename_i h; rw [Nat.testBit_div_two_pow]; congr 1; omega

theorem gn_lo {g : Nat → Nat} (hg : ∀ i, g i ≤ 1) (I : Nat) (hI : I < 64) : hi64 (gn g (I+1)) = hi64 (gn g I) ∧ lo64 (gn g (I+1)) = lo64 (gn g I) ||| (g I * 2^I) := by
  have h1 := gn_lt hg (I+1)
  have h2 := gn_lt hg I
  have h3 : 2^(I+1) ≤ 2^64 := Nat.pow_le_pow_right (by decide) (by omega)
  have h4 : 2^I ≤ 2^64 := Nat.pow_le_pow_right (by decide) (by omega)
  unfold hi64 lo64
  rw [Nat.div_eq_of_lt (by omega), Nat.div_eq_of_lt (by omega), Nat.mod_eq_of_lt (by omega), Nat.mod_eq_of_lt (by omega)]
  exact ⟨rfl, gn_or hg I⟩

theorem gn_hi {g : Nat → Nat} (hg : ∀ i, g i ≤ 1) (I : Nat) (hI : 64 ≤ I) : hi64 (gn g (I+1)) = hi64 (gn g I) ||| (g I * 2^(I - 64)) ∧ lo64 (gn g (I+1)) = lo64 (gn g I) := by
  have e : 2^I = 2^(I-64) * 2^64 := by rw [← Nat.pow_add]; congr 1; omega
  unfold hi64 lo64
  rw [gn_or hg, Nat.or_div_two_pow, Nat.or_mod_two_pow, e, ← Nat.mul_assoc, Nat.mul_div_cancel _ (Nat.two_pow_pos 64), Nat.mul_mod_left, Nat.or_zero]
  exact ⟨rfl, rfl⟩

theorem hi64_xor (A B : Nat) : hi64 (A ^^^ B) = hi64 A ^^^ hi64 B := Nat.xor_div_two_pow
theorem lo64_xor (A B : Nat) : lo64 (A ^^^ B) = lo64 A ^^^ lo64 B := Nat.xor_mod_two_pow

/-- Twice a number, by its halves. -/
theorem twice_halves (Z : Nat) : hi64 ((2 * Z) % 2^128) = ((hi64 Z * 2) % 2^64) ||| (lo64 Z / 2^63) ∧ lo64 ((2 * Z) % 2^128) = (lo64 Z * 2) % 2^64 := by
  constructor
  · have h1 : (hi64 Z * 2) % 2^64 = 2 * (hi64 Z % 2^63) := by omega
    have h2 : lo64 Z / 2^63 < 2^1 := by unfold lo64; omega
    have h3 : hi64 ((2 * Z) % 2^128) = 2 * (hi64 Z % 2^63) + lo64 Z / 2^63 := by unfold hi64 lo64; omega
    have h4 := Nat.two_pow_add_eq_or_of_lt h2 (hi64 Z % 2^63)
    rw [h1, h3]
    simpa using h4
  · unfold lo64; omega

/-- What the step adds, by the mask of a bit. -/
theorem and_mask (g tp : Nat) (hg : g < 2^64) (_ht : tp ≤ 1) : g &&& (if tp = 1 then 2^64 - 1 else 0) = if tp = 1 then g else 0 := by
  split
  · rw [Nat.and_two_pow_sub_one_eq_mod, Nat.mod_eq_of_lt hg]
  · simp

theorem zstep_halves (r G Z : Nat) (b : Bool) (zh zl gh gl tv bv tp h2 l2 ah al : Nat) (e1 : hi64 Z = zh) (e2 : lo64 Z = zl) (e3 : hi64 G = gh) (e4 : lo64 G = gl)
    (e5 : (Z.testBit (r - 1)).toNat = tv) (e6 : b.toNat = bv) (e7 : tv ^^^ bv = tp) (e8 : ((zh * 2) % 2^64) ||| (zl / 2^63) = h2) (e9 : (zl * 2) % 2^64 = l2)
    (e10 : (if tp = 1 then gh else 0 : Nat) = ah) (e11 : (if tp = 1 then gl else 0 : Nat) = al) :
    hi64 (zstep r G Z b) = h2 ^^^ ah ∧ lo64 (zstep r G Z b) = l2 ^^^ al := by
  have ht : (Z.testBit (r - 1) ^^ b) = decide (tp = 1) := by
    rw [← e7, ← e5, ← e6]
    cases Z.testBit (r - 1) <;> cases b <;> rfl
  have h := twice_halves Z
  unfold zstep
  rw [hi64_xor, lo64_xor, h.1, h.2, e1, e2, e8, e9, ht, ← e10, ← e11]
  by_cases hc : tp = 1
  · rw [if_pos (by simp [hc]), if_pos hc, if_pos hc, e3, e4]; exact ⟨rfl, rfl⟩
  · rw [if_neg (by simp [hc]), if_neg hc, if_neg hc, hi64_zero, lo64_zero]; exact ⟨rfl, rfl⟩
end Gf
/- Plain facts on code words: sums of words, words that are small, the register of the encoder. No program in sight. -/
namespace Gf

theorem sx_add (f : Nat → Nat) (a n : Nat) : sx f (a + n) = sx f a ^^^ sx (fun i => f (a + i)) n := by
  induction n with
  | zero => simp [sx]
  | succ n ih => rw [← Nat.add_assoc, sx, ih, sx, Nat.xor_assoc]
theorem sx_rev (f : Nat → Nat) (n : Nat) : sx (fun i => f (n - 1 - i)) n = sx f n := by
  induction n with
  | zero => rfl
  | succ n ih =>
    rw [sx_head, sx, ← ih, Nat.xor_comm]
    congr 1
    exact sx_congr _ (fun i _ => by congr 1; omega)
theorem ite_xor (a b : Bool) (x : Nat) : (if (a ^^ b) then x else 0) = (if a then x else 0) ^^^ (if b then x else 0) := by
  cases a <;> cases b <;> simp

/-- A word: its sums at the first 2 t powers are 0. -/
def Cw (m t : Nat) (w : Nat → Bool) (L : Nat) : Prop := ∀ k, 1 ≤ k → k ≤ 2 * t → syn m w L k = 0
/-- In how many places two words differ. -/
def dst (w c : Nat → Bool) (L : Nat) : Nat := (supp (fun k => w k ^^ c k) L).length

theorem syn_congr {m : Nat} {w c : Nat → Bool} {L : Nat} (k : Nat) (hw : ∀ p, p < L → w p = c p) : syn m w L k = syn m c L k :=
  sx_congr _ (fun p hp => by rw [hw p hp])
theorem Cw.congr {m t : Nat} {w c : Nat → Bool} {L : Nat} (h : Cw m t w L) (hw : ∀ p, p < L → w p = c p) : Cw m t c L := fun k h1 h2 => by
  rw [← syn_congr k hw]; exact h k h1 h2
theorem syn_xor (m : Nat) (w c : Nat → Bool) (L k : Nat) : syn m (fun p => w p ^^ c p) L k = syn m w L k ^^^ syn m c L k := by
  unfold syn
  rw [← sx_xor]
  exact sx_congr _ (fun p _ => ite_xor _ _ _)
theorem Cw.xor {m t : Nat} {w c : Nat → Bool} {L : Nat} (h1 : Cw m t w L) (h2 : Cw m t c L) : Cw m t (fun p => w p ^^ c p) L := fun k a b => by
  rw [syn_xor, h1 k a b, h2 k a b]; rfl
theorem supp_congr {w c : Nat → Bool} {L : Nat} (h : ∀ p, p < L → w p = c p) : supp w L = supp c L := by
  unfold supp
  apply List.filter_congr
  intro p hp
  exact h p (by simpa using hp)
theorem dst_congr {w c w' c' : Nat → Bool} {L : Nat} (h : ∀ p, p < L → w p = w' p) (h2 : ∀ p, p < L → c p = c' p) : dst w c L = dst w' c' L := by
  unfold dst
  rw [supp_congr (fun p hp => by rw [h p hp, h2 p hp])]
theorem dst_comm (w c : Nat → Bool) (L : Nat) : dst w c L = dst c w L := by
  unfold dst
  rw [supp_congr (fun p _ => Bool.xor_comm _ _)]
theorem dst_self (w : Nat → Bool) (L : Nat) : dst w w L = 0 := by
  unfold dst supp
  simp
/-- A word out of two differs nowhere that neither does. -/
theorem supp_tri (u v : Nat → Bool) (L : Nat) : (supp (fun k => u k ^^ v k) L).length ≤ (supp u L).length + (supp v L).length := by
  induction L with
  | zero => simp [supp]
  | succ L ih =>
    rw [supp_succ, supp_succ, supp_succ]
    simp only [List.length_append]
    cases u L <;> cases v L <;> simp <;> omega
theorem dst_tri (a b c : Nat → Bool) (L : Nat) : dst a c L ≤ dst a b L + dst b c L := by
  unfold dst
  refine Nat.le_trans (Nat.le_of_eq ?_) (supp_tri (fun k => a k ^^ b k) (fun k => b k ^^ c k) L)
  rw [supp_congr (fun p _ => ?_)]
  cases a p <;> cases b p <;> cases c p <;> rfl

section
variable {m : Nat} (h : Ok m)
include h

theorem syn_lt (w : Nat → Bool) (L k : Nat) : syn m w L k < 2^m := sx_lt _ _ fun p _ => by
  split
  · exact pw_lt h _
  · exact Nat.two_pow_pos m

theorem syn_dbl (w : Nat → Bool) (L k : Nat) : syn m w L (2 * k) = mul m (syn m w L k) (syn m w L k) := by
  induction L with
  | zero => show 0 = mul m 0 0; rw [mul_zero]
  | succ L ih =>
    have e : ∀ j, syn m w (L+1) j = syn m w L j ^^^ (if w L then pw m (L * j) else 0) := fun j => rfl
    rw [e, e, ih, sq_xor h (syn_lt h _ _ _)]
    · congr 1
      cases w L
      · simp [mul_zero]
      · simp only [if_true]; rw [mul_pw h]; congr 1; rw [Nat.mul_left_comm]; omega
    · split
      · exact pw_lt h _
      · exact Nat.two_pow_pos m

theorem syn_mod (w : Nat → Bool) (L a b : Nat) (e : a % sz m = b % sz m) : syn m w L a = syn m w L b := by
  refine sx_congr _ (fun p _ => ?_)
  split
  · exact (pw_eq_iff h _ _).2 (mul_mod_congr p (sz m) e)
  · rfl

theorem cw_exs {t : Nat} {w : Nat → Bool} {L : Nat} (hc : Cw m t w L) (e : Nat) (he : e ∈ exs m t) : syn m w L e = 0 := by
  obtain ⟨k, j, h1, h2, rfl⟩ := exs_from t e he
  rw [syn_mod h w L _ (2^j * k) (Nat.mod_mod _ _)]
  induction j with
  | zero => rw [Nat.pow_zero, Nat.one_mul]; exact hc k h1 h2
  | succ j ih =>
    have hz : syn m w L (2^j * k) = 0 := by
      by_cases hm : (2^j * k) % sz m ∈ exs m t
      · exact ih hm
      · have hk := gen_powers h t k h1 h2
        have := exs_doubles h t _ j hk
        rw [Nat.mul_mod_mod] at this
        exact absurd this hm
    rw [Nat.pow_succ, Nat.mul_comm (2^j) 2, Nat.mul_assoc, syn_dbl h, hz, mul_zero]
theorem cw_of_exs {t : Nat} {w : Nat → Bool} {L : Nat} (hz : ∀ e ∈ exs m t, syn m w L e = 0) : Cw m t w L := fun k h1 h2 => by
  rw [syn_mod h w L k (k % sz m) (Nat.mod_mod _ _).symm]
  exact hz _ (gen_powers h t k h1 h2)

/-- A word of fewer powers than the generator's degree is 0. -/
theorem small_zero {t r : Nat} {w : Nat → Bool} (hr : (gen m t).length = r + 1) (hz : ∀ e ∈ exs m t, syn m w r e = 0) : ∀ p, p < r → w p = false := by
  have hl : (exs m t).length = r := by have := (exs_nodup h t).2; omega
  have hp : ∀ y ∈ (List.range r).map (fun i => if w i then 1 else 0), y < 2^m := by
    intro y hy
    obtain ⟨i, _, rfl⟩ := List.mem_map.1 hy
    have := one_lt m h
    split <;> omega
  have hg : ∀ i, i < r → ((List.range r).map (fun i => if w i then 1 else 0)).getD i 0 = if w i then 1 else 0 := fun i hi => by simp [List.getD, hi]
  have key := roots_zero h r ((List.range r).map fun i => if w i then 1 else 0) ((exs m t).map (pw m)) (by simp) (by simpa using hl) (by
    refine List.Pairwise.map _ (S := fun a b => a ≠ b) (R := fun a b => a ≠ b ∧ a < sz m ∧ b < sz m) ?_ ?_
    · intro a b ⟨hab, ha, hb⟩ e
      exact hab (pw_inj h ha hb e)
    · exact List.Pairwise.imp_of_mem (fun ha hb hab => ⟨hab, exs_lt h t _ ha, exs_lt h t _ hb⟩) (exs_nodup h t).1) hp (by
    intro x hx
    obtain ⟨e, he, rfl⟩ := List.mem_map.1 hx
    refine ⟨pw_lt h e, ?_⟩
    rw [ev_sx h _ _ r (pw_lt h e) hp (fun i hi => getD_ge (by simpa using hi))]
    refine Eq.trans ?_ (hz e he)
    refine sx_congr _ (fun i hi => ?_)
    rw [hg i hi, xp_pw h, Nat.mul_comm e i]
    cases w i
    · simp [zero_mul]
    · simp only [if_true]; rw [one_mul h (pw_lt h _)])
  intro p hp'
  have := key (if w p then 1 else 0) (List.mem_map.2 ⟨p, by simpa using hp', rfl⟩)
  cases hw : w p
  · rfl
  · rw [hw] at this; simp at this

/-- Two words whose higher powers are one are one. -/
theorem cw_same {t r L : Nat} {w c : Nat → Bool} (hr : (gen m t).length = r + 1) (hL : r ≤ L) (hw : Cw m t w L) (hc : Cw m t c L) (hh : ∀ p, r ≤ p → p < L → w p = c p) : ∀ p, p < L → w p = c p := by
  have hx : Cw m t (fun p => w p ^^ c p) L := hw.xor hc
  have hs := small_zero h (w := fun p => w p ^^ c p) hr (fun e he => by
    have := cw_exs h hx e he
    rw [← this]
    exact (sx_more _ _ _ hL (fun i h1 h2 => by simp only [hh i h1 h2]; simp)).symm)
  intro p hp
  by_cases hpr : p < r
  · have := hs p hpr
    revert this
    cases w p <;> cases c p <;> simp
  · exact hh p (by omega) hp

/-- The generator's lower powers are its highest one. -/
theorem gen_syn {t r : Nat} (hr : (gen m t).length = r + 1) (e : Nat) (he : e ∈ exs m t) : syn m (fun i => (gn (fun i => (gen m t).getD i 0) r).testBit i) r e = pw m (r * e) := by
  have hb := gen_bin h t
  have hle : ∀ i, (gen m t).getD i 0 ≤ 1 := fun i => by rcases bin_getD hb i with e | e <;> rw [e] <;> omega
  have hlt := gen_lt h t
  have h0 : ev m (gen m t) (pw m e) = 0 := (gen_root h t e).2 (by rw [Nat.mod_eq_of_lt (exs_lt h t e he)]; exact he)
  rw [ev_sx h _ _ (r+1) (pw_lt h e) hlt (fun i hi => getD_ge (by omega)), sx] at h0
  have htop : (gen m t).getD r 0 = 1 := by have := (gen_mon h t).1.2; rwa [hr] at this
  rw [htop, xp_pw h, one_mul h (pw_lt h _)] at h0
  have := xor_zero h0
  rw [Nat.mul_comm r e, ← this]
  refine sx_congr _ (fun i hi => ?_)
  simp only [gn_bit hle]
  rw [xp_pw h, Nat.mul_comm i e]
  rcases bin_getD hb i with e1 | e1 <;> rw [e1]
  · simp [zero_mul]
  · simp [hi, one_mul h (pw_lt h _)]

/-- One bit more in the register. -/
theorem zstep_syn {t r : Nat} (hr : (gen m t).length = r + 1) (r1 : 1 ≤ r) (r128 : r ≤ 128) (Z : Nat) (b : Bool) (e : Nat) (he : e ∈ exs m t) :
    syn m (fun i => (zstep r (gn (fun i => (gen m t).getD i 0) r) Z b).testBit i) r e = mul m (pw m e) (syn m (fun i => Z.testBit i) r e) ^^^ (if b then pw m (r * e) else 0) := by
  have hg := gen_syn h hr e he
  generalize gn (fun i => (gen m t).getD i 0) r = G at *
  obtain ⟨q, rfl⟩ : ∃ q, r = q + 1 := ⟨r - 1, by omega⟩
  have e1 : syn m (fun i => (zstep (q+1) G Z b).testBit i) (q+1) e = syn m (fun i => (((2 * Z) % 2^128).testBit i) ^^ ((Z.testBit q ^^ b) && G.testBit i)) (q+1) e := by
    refine syn_congr e (fun p _ => ?_)
    unfold zstep
    rw [Nat.testBit_xor, show q + 1 - 1 = q by omega]
    congr 1
    cases (Z.testBit q ^^ b) <;> simp
  have e2 : syn m (fun i => ((2 * Z) % 2^128).testBit i) (q+1) e = mul m (pw m e) (syn m (fun i => Z.testBit i) q e) := by
    unfold syn
    rw [sx_head, sx_mul h _ (pw_lt h e) _ _ (fun i _ => by split; exact pw_lt h _; exact Nat.two_pow_pos m)]
    have z0 : ((2 * Z) % 2^128).testBit 0 = false := by
      rw [Nat.testBit_mod_two_pow, Nat.testBit_zero]; simp
    simp only [z0]
    simp only [Bool.false_eq_true, if_false, Nat.zero_xor]
    refine sx_congr _ (fun i hi => ?_)
    have zi : ((2 * Z) % 2^128).testBit (i+1) = Z.testBit i := by
      rw [Nat.testBit_mod_two_pow, decide_eq_true (show i + 1 < 128 by omega), Nat.testBit_succ, Bool.true_and]
      congr 1; omega
    simp only [zi]
    by_cases hzi : Z.testBit i = true
    rotate_left
    · simp [hzi, mul_zero]
    · simp only [hzi, if_true]; rw [mul_pw h]; congr 1; rw [Nat.add_mul, Nat.add_comm, Nat.one_mul]
  have e3 : syn m (fun i => (Z.testBit q ^^ b) && G.testBit i) (q+1) e = if (Z.testBit q ^^ b) then pw m ((q+1) * e) else 0 := by
    cases (Z.testBit q ^^ b)
    · simp only [Bool.false_and, Bool.false_eq_true, if_false]; exact sx_zero _
    · simp only [Bool.true_and, if_true]; exact hg
  have e4 : syn m (fun i => Z.testBit i) (q+1) e = syn m (fun i => Z.testBit i) q e ^^^ (if Z.testBit q then pw m (q * e) else 0) := rfl
  rw [e1, syn_xor, e2, e3, e4, mul_xor h (syn_lt h _ _ _) (by split; exact pw_lt h _; exact Nat.two_pow_pos m) _ (pw_lt h e), ite_xor, Nat.xor_assoc]
  congr 2
  cases Z.testBit q
  · simp [mul_zero]
  · simp only [if_true]; rw [mul_pw h]; congr 1; rw [Nat.add_mul, Nat.add_comm, Nat.one_mul]

/-- The register behind I bits. -/
def dsum (m r e : Nat) (b : Nat → Bool) (I : Nat) : Nat := sx (fun i => if b i then pw m ((I - 1 - i + r) * e) else 0) I
theorem dsum_succ (r e : Nat) (b : Nat → Bool) (I : Nat) : dsum m r e b (I+1) = mul m (pw m e) (dsum m r e b I) ^^^ (if b I then pw m (r * e) else 0) := by
  unfold dsum
  rw [sx, sx_mul h _ (pw_lt h e) _ _ (fun i _ => by split; exact pw_lt h _; exact Nat.two_pow_pos m)]
  congr 1
  · refine sx_congr _ (fun i hi => ?_)
    cases b i
    · simp [mul_zero]
    · simp only [if_true]; rw [mul_pw h]; congr 1
      rw [show I + 1 - 1 - i + r = (I - 1 - i + r) + 1 by omega, Nat.add_mul, Nat.add_comm, Nat.one_mul]
  · rw [show I + 1 - 1 - I + r = r by omega]

theorem zb_syn {t r : Nat} (hr : (gen m t).length = r + 1) (r1 : 1 ≤ r) (r128 : r ≤ 128) (Z x e : Nat) (b : Nat → Bool) (I : Nat) (he : e ∈ exs m t)
    (hZ : syn m (fun i => Z.testBit i) r e = dsum m r e b I) (hb : ∀ i, i < 8 → b (I + i) = x.testBit (7 - i)) :
    ∀ i, i ≤ 8 → syn m (fun j => (zb r (gn (fun i => (gen m t).getD i 0) r) Z x i).testBit j) r e = dsum m r e b (I + i) := by
  intro i
  induction i with
  | zero => intro _; exact hZ
  | succ i ih =>
    intro hi
    rw [zb, zstep_syn h hr r1 r128 _ _ e he, ih (by omega), ← Nat.add_assoc, dsum_succ h, hb i (by omega)]

theorem zd_syn {t r : Nat} (hr : (gen m t).length = r + 1) (r1 : 1 ≤ r) (r128 : r ≤ 128) (f : Nat → Nat) (e : Nat) (b : Nat → Bool) (he : e ∈ exs m t)
    (hb : ∀ i, b i = (f (i / 8)).testBit (7 - i % 8)) (j : Nat) :
    syn m (fun i => (zd r (gn (fun i => (gen m t).getD i 0) r) f j).testBit i) r e = dsum m r e b (8 * j) := by
  induction j with
  | zero => show syn m (fun i => (0 : Nat).testBit i) r e = 0; simp only [Nat.zero_testBit]; exact sx_zero _
  | succ j ih =>
    have := zb_syn h hr r1 r128 _ (f j) e b (8 * j) he ih (fun i hi => by rw [hb, show (8 * j + i) / 8 = j by omega, show (8 * j + i) % 8 = i by omega]) 8 (Nat.le_refl _)
    exact this

/-- Data and the register are a word. -/
theorem word_cw {t r : Nat} (hr : (gen m t).length = r + 1) (r1 : 1 ≤ r) (r128 : r ≤ 128) (f : Nat → Nat) (j : Nat) (b : Nat → Bool) (hb : ∀ i, b i = (f (i / 8)).testBit (7 - i % 8)) (w : Nat → Bool)
    (h1 : ∀ k, k < r → w k = (zd r (gn (fun i => (gen m t).getD i 0) r) f j).testBit k) (h2 : ∀ k, k < 8 * j → w (r + k) = b (8 * j - 1 - k)) : Cw m t w (8 * j + r) := by
  refine cw_of_exs h fun e he => ?_
  rw [Nat.add_comm]
  show sx _ (r + 8 * j) = 0
  rw [sx_add]
  have e1 : sx (fun p => if w p then pw m (p * e) else 0) r = dsum m r e b (8 * j) := by
    rw [← zd_syn h hr r1 r128 f e b he hb j]
    exact sx_congr _ (fun p hp => by simp only [h1 p hp])
  have e2 : sx (fun i => if w (r + i) then pw m ((r + i) * e) else 0) (8 * j) = dsum m r e b (8 * j) := by
    unfold dsum
    rw [← sx_rev]
    refine sx_congr _ (fun i hi => ?_)
    rw [h2 _ (by omega), show 8 * j - 1 - (8 * j - 1 - i) = i by omega, Nat.add_comm r]
  rw [e1, e2, Nat.xor_self]
end
end Gf
