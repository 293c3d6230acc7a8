/- Plain facts on the fields of 2^m elements: powers of the root, products, sums. No program in sight. -/
namespace Gf

def poly (m : Nat) : Nat := [0,0,7,11,19,37,67,137,285,529,1033,2053,4179,8219].getD m 0
def mx (m a : Nat) : Nat := if 2*a < 2^m then 2*a else (2*a) ^^^ poly m
def it (m : Nat) : Nat → Nat → Nat
  | 0, x => x
  | n+1, x => it m n (mx m x)
/-- The root's powers. -/
def pw (m n : Nat) : Nat := it m n 1
/-- How many elements there are beside 0. -/
def sz (m : Nat) : Nat := 2^m - 1

def chk (m : Nat) : Nat → Nat → Nat → Bool
  | 0, x, acc => x == 1 && acc == 2^(2^m) - 2
  | n+1, x, acc => !acc.testBit x && chk m n (mx m x) (acc ||| 1 <<< x)

def Ok (m : Nat) : Prop := 2 ≤ m ∧ m ≤ 13

theorem Ok.cases {m : Nat} (h : Ok m) : m = 2 ∨ m = 3 ∨ m = 4 ∨ m = 5 ∨ m = 6 ∨ m = 7 ∨ m = 8 ∨ m = 9 ∨ m = 10 ∨ m = 11 ∨ m = 12 ∨ m = 13 := by
  unfold Ok at h; omega

set_option maxRecDepth 100000 in
theorem chk_all {m : Nat} (h : Ok m) : chk m (sz m) 1 0 = true := by
  rcases h.cases with rfl | rfl | rfl | rfl | rfl | rfl | rfl | rfl | rfl | rfl | rfl | rfl <;> decide +kernel

theorem poly_bit {m : Nat} (h : Ok m) : 2^m ≤ poly m ∧ poly m < 2^(m+1) ∧ poly m % 2 = 1 := by
  rcases h.cases with rfl | rfl | rfl | rfl | rfl | rfl | rfl | rfl | rfl | rfl | rfl | rfl <;> decide +kernel

theorem it_succ (m n x : Nat) : it m (n+1) x = mx m (it m n x) := by
  induction n generalizing x with
  | zero => rfl
  | succ n ih => rw [it, ih (mx m x)]; rfl

theorem it_add (m i j x : Nat) : it m (i + j) x = it m i (it m j x) := by
  induction j generalizing x with
  | zero => rfl
  | succ j ih => rw [← Nat.add_assoc, it, ih]; rfl

theorem lt_of_top {m x : Nat} (hx : x < 2^(m+1)) (hb : x.testBit m = false) : x < 2^m := by
  apply Nat.lt_pow_two_of_testBit
  intro i hi
  rcases Nat.lt_or_ge m i with h | h
  · exact Nat.testBit_lt_two_pow (Nat.lt_of_lt_of_le hx (Nat.pow_le_pow_right (by omega) h))
  · have : i = m := by omega
    subst this; exact hb

theorem top_of_ge {m x : Nat} (hx : x < 2^(m+1)) (hg : 2^m ≤ x) : x.testBit m = true := by
  cases h : x.testBit m with
  | true => rfl
  | false => have := lt_of_top hx h; omega

theorem mx_lt {m a : Nat} (h : Ok m) (ha : a < 2^m) : mx m a < 2^m := by
  unfold mx
  split
  · assumption
  · obtain ⟨p1, p2, _⟩ := poly_bit h
    have h2 : 2 * a < 2^(m+1) := by rw [Nat.pow_succ]; omega
    apply lt_of_top (Nat.xor_lt_two_pow h2 p2)
    rw [Nat.testBit_xor, top_of_ge h2 (by omega), top_of_ge p2 p1]; rfl

theorem mx_eq {m a : Nat} (h : Ok m) (ha : a < 2^m) : mx m a = (2 * a) ^^^ (if a.testBit (m-1) then poly m else 0) := by
  have hm : m = (m-1)+1 := by unfold Ok at h; omega
  have hp : 2^m = 2 * 2^(m-1) := by conv => lhs; rw [hm, Nat.pow_succ]
                                    omega
  have ht : a.testBit (m-1) = decide (2^(m-1) ≤ a) := by
    cases hb : a.testBit (m-1) with
    | true => simpa using Nat.ge_two_pow_of_testBit hb
    | false =>
      have := lt_of_top (m := m-1) (by rw [← hm]; exact ha) hb
      simp; omega
  unfold mx
  rw [ht]
  by_cases hc : 2 * a < 2^m
  · rw [if_pos hc, if_neg (by simp; omega)]; simp
  · rw [if_neg hc, if_pos (by simp; omega)]

theorem two_mul_xor (a b : Nat) : 2 * (a ^^^ b) = (2 * a) ^^^ (2 * b) := by
  apply Nat.eq_of_testBit_eq
  intro i
  rw [Nat.testBit_xor]
  cases i with
  | zero => simp
  | succ i => simp [Nat.testBit_succ]

theorem mx_xor {m a b : Nat} (h : Ok m) (ha : a < 2^m) (hb : b < 2^m) : mx m (a ^^^ b) = mx m a ^^^ mx m b := by
  rw [mx_eq h ha, mx_eq h hb, mx_eq h (Nat.xor_lt_two_pow ha hb), two_mul_xor, Nat.testBit_xor]
  cases a.testBit (m-1) <;> cases b.testBit (m-1) <;> simp [Nat.xor_assoc]
  · rw [Nat.xor_comm (poly m) (2*b)]
  · rw [← Nat.xor_assoc (poly m), Nat.xor_comm (poly m) (2*b), Nat.xor_assoc, Nat.xor_self, Nat.xor_zero]

theorem xor_zero {a b : Nat} (h : a ^^^ b = 0) : a = b := by
  have : (a ^^^ b) ^^^ b = b := by rw [h, Nat.zero_xor]
  rwa [Nat.xor_assoc, Nat.xor_self, Nat.xor_zero] at this

theorem mx_zero (m : Nat) : mx m 0 = 0 := by
  unfold mx; rw [if_pos (by have := Nat.two_pow_pos m; omega)]

theorem mx_eq_zero {m a : Nat} (h : Ok m) (h0 : mx m a = 0) : a = 0 := by
  obtain ⟨_, _, p3⟩ := poly_bit h
  unfold mx at h0
  split at h0
  · omega
  · have h1 : ((2*a) ^^^ poly m).testBit 0 = true := by
      rw [Nat.testBit_xor]; simp [Nat.testBit_zero, p3]
    rw [h0] at h1; simp at h1

theorem it_lt {m x : Nat} (h : Ok m) (n : Nat) (hx : x < 2^m) : it m n x < 2^m := by
  induction n generalizing x with
  | zero => exact hx
  | succ n ih => exact ih (mx_lt h hx)

theorem it_xor {m a b : Nat} (h : Ok m) (n : Nat) (ha : a < 2^m) (hb : b < 2^m) : it m n (a ^^^ b) = it m n a ^^^ it m n b := by
  induction n generalizing a b with
  | zero => rfl
  | succ n ih => rw [it, mx_xor h ha hb, ih (mx_lt h ha) (mx_lt h hb)]; rfl

theorem it_zero (m n : Nat) : it m n 0 = 0 := by
  induction n with
  | zero => rfl
  | succ n ih => rw [it, mx_zero, ih]

theorem it_eq_zero {m x : Nat} (h : Ok m) (n : Nat) (h0 : it m n x = 0) : x = 0 := by
  induction n generalizing x with
  | zero => exact h0
  | succ n ih => exact mx_eq_zero h (ih h0)

theorem one_lt (m : Nat) (h : Ok m) : 1 < 2^m := by
  have : 2^1 ≤ 2^m := Nat.pow_le_pow_right (by omega) (by unfold Ok at h; omega)
  omega

theorem sz_pos {m : Nat} (h : Ok m) : 0 < sz m := by have := one_lt m h; unfold sz; omega

theorem pw_lt {m : Nat} (h : Ok m) (n : Nat) : pw m n < 2^m := it_lt h n (one_lt m h)
theorem pw_ne {m : Nat} (h : Ok m) (n : Nat) : pw m n ≠ 0 := fun h0 => by have := it_eq_zero h n h0; omega

theorem chk_spec {m : Nat} : ∀ (n x acc : Nat), chk m n x acc = true →
    it m n x = 1 ∧ (∀ i, i < n → acc.testBit (it m i x) = false) ∧ (∀ i j, i < j → j < n → it m i x ≠ it m j x) ∧
      (∀ y, (2^(2^m) - 2).testBit y = true → acc.testBit y = true ∨ ∃ i, i < n ∧ it m i x = y)
  | 0, x, acc, h => by
    simp [chk] at h
    obtain ⟨h1, h2⟩ := h
    refine ⟨h1, fun i hi => by omega, fun i j _ hj => by omega, fun y hy => .inl (by rw [h2]; exact hy)⟩
  | n+1, x, acc, h => by
    simp only [chk, Bool.and_eq_true, Bool.not_eq_true'] at h
    obtain ⟨h1, h2⟩ := h
    obtain ⟨a1, a2, a3, a4⟩ := chk_spec n _ _ h2
    have key : ∀ i, i < n → acc.testBit (it m i (mx m x)) = false ∧ it m i (mx m x) ≠ x := fun i hi => by
      have := a2 i hi
      rw [Nat.testBit_or, Bool.or_eq_false_iff] at this
      refine ⟨this.1, fun he => ?_⟩
      have h3 := this.2
      rw [he, Nat.shiftLeft_eq, Nat.one_mul, Nat.testBit_two_pow_self] at h3
      cases h3
    refine ⟨a1, ?_, ?_, ?_⟩
    · intro i hi
      cases i with
      | zero => exact h1
      | succ i => exact (key i (by omega)).1
    · intro i j hij hj
      cases j with
      | zero => omega
      | succ j =>
        cases i with
        | zero => exact fun he => (key j (by omega)).2 he.symm
        | succ i => exact a3 i j (by omega) (by omega)
    · intro y hy
      rcases a4 y hy with hb | ⟨i, hi, he⟩
      · rw [Nat.testBit_or, Bool.or_eq_true] at hb
        rcases hb with hb | hb
        · exact .inl hb
        · rw [Nat.shiftLeft_eq, Nat.one_mul, Nat.testBit_two_pow] at hb
          exact .inr ⟨0, by omega, by simpa [it] using hb⟩
      · exact .inr ⟨i+1, by omega, he⟩

theorem pw_sz {m : Nat} (h : Ok m) : pw m (sz m) = 1 := (chk_spec _ _ _ (chk_all h)).1

theorem pw_inj {m i j : Nat} (h : Ok m) (hi : i < sz m) (hj : j < sz m) (he : pw m i = pw m j) : i = j := by
  have a3 := (chk_spec _ _ _ (chk_all h)).2.2.1
  rcases Nat.lt_trichotomy i j with h' | h' | h'
  · exact absurd he (a3 i j h' hj)
  · exact h'
  · exact absurd he.symm (a3 j i h' hi)

theorem pw_surj {m a : Nat} (h : Ok m) (ha : a < 2^m) (h0 : a ≠ 0) : ∃ i, i < sz m ∧ pw m i = a := by
  have a4 := (chk_spec _ _ _ (chk_all h)).2.2.2
  have hb : (2^(2^m) - 2).testBit a = true := by
    have h1 : 1 < 2^(2^m) := Nat.one_lt_two_pow (by have := Nat.two_pow_pos m; omega)
    have := Nat.testBit_two_pow_sub_succ h1 a
    rw [show 1 + 1 = 2 from rfl] at this
    rw [this]
    have h2 : Nat.testBit 1 a = false := by
      cases a with
      | zero => exact absurd rfl h0
      | succ a => simp [Nat.testBit_succ]
    simp [ha, h2]
  rcases a4 a hb with hb | hb
  · simp at hb
  · exact hb

theorem pw_add (m i j : Nat) : pw m (i + j) = it m i (pw m j) := it_add m i j 1

theorem pw_succ (m n : Nat) : pw m (n+1) = mx m (pw m n) := it_succ m n 1

theorem pw_add_sz {m : Nat} (h : Ok m) (n : Nat) : pw m (n + sz m) = pw m n := by
  rw [pw_add, pw_sz h]; rfl

theorem pw_mod {m : Nat} (h : Ok m) (n : Nat) : pw m (n % sz m) = pw m n := by
  have hp := sz_pos h
  have : ∀ k r, pw m (r + k * sz m) = pw m r := fun k r => by
    induction k with
    | zero => simp
    | succ k ih => rw [Nat.succ_mul, ← Nat.add_assoc, pw_add_sz h, ih]
  have e := this (n / sz m) (n % sz m)
  rw [Nat.mul_comm, Nat.mod_add_div] at e
  exact e.symm

theorem pw_eq_iff {m : Nat} (h : Ok m) (i j : Nat) : pw m i = pw m j ↔ i % sz m = j % sz m := by
  constructor
  · intro he
    have hp := sz_pos h
    exact pw_inj h (Nat.mod_lt _ hp) (Nat.mod_lt _ hp) (by rw [pw_mod h, pw_mod h]; exact he)
  · intro he
    rw [← pw_mod h i, ← pw_mod h j, he]

/-- The logarithm; 0 of what has none. -/
def lg (m a : Nat) : Nat := ((List.range (sz m)).find? (fun i => pw m i == a)).getD 0

theorem lg_zero {m : Nat} (h : Ok m) : lg m 0 = 0 := by
  unfold lg
  have : (List.range (sz m)).find? (fun i => pw m i == 0) = none := by
    rw [List.find?_eq_none]
    intro i _
    simpa using pw_ne h i
  rw [this]; rfl

theorem lg_lt {m : Nat} (h : Ok m) (a : Nat) : lg m a < sz m := by
  unfold lg
  cases hf : (List.range (sz m)).find? (fun i => pw m i == a) with
  | none => exact sz_pos h
  | some i => have := List.mem_of_find?_eq_some hf; simpa using this

theorem pw_lg {m a : Nat} (h : Ok m) (ha : a < 2^m) (h0 : a ≠ 0) : pw m (lg m a) = a := by
  obtain ⟨i, hi, he⟩ := pw_surj h ha h0
  unfold lg
  cases hf : (List.range (sz m)).find? (fun i => pw m i == a) with
  | none =>
    rw [List.find?_eq_none] at hf
    have := hf i (by simpa using hi)
    simp [he] at this
  | some j => have := List.find?_some hf; simpa using this

theorem lg_pw {m : Nat} (h : Ok m) (n : Nat) : lg m (pw m n) = n % sz m := by
  have := pw_lg h (pw_lt h n) (pw_ne h n)
  rw [pw_eq_iff h, Nat.mod_eq_of_lt (lg_lt h _)] at this
  exact this

/-- The product of two elements. -/
def mul (m a b : Nat) : Nat := if a = 0 ∨ b = 0 then 0 else pw m (lg m a + lg m b)
def inv (m a : Nat) : Nat := if a = 0 then 0 else pw m (sz m - lg m a)

section
variable {m : Nat} (h : Ok m)
include h

theorem mul_lt (a b : Nat) : mul m a b < 2^m := by
  unfold mul; split
  · exact Nat.two_pow_pos m
  · exact pw_lt h _

omit h in
theorem mul_comm (a b : Nat) : mul m a b = mul m b a := by
  unfold mul
  by_cases ha : a = 0 <;> by_cases hb : b = 0 <;> simp [ha, hb, Nat.add_comm]

omit h in
theorem mul_zero (a : Nat) : mul m a 0 = 0 := by simp [mul]
omit h in
theorem zero_mul (a : Nat) : mul m 0 a = 0 := by simp [mul]

theorem mul_eq_zero {a b : Nat} : mul m a b = 0 ↔ a = 0 ∨ b = 0 := by
  unfold mul
  constructor
  · intro e
    by_cases hc : a = 0 ∨ b = 0
    · exact hc
    · rw [if_neg hc] at e; exact absurd e (pw_ne h _)
  · intro hc; rw [if_pos hc]

theorem mul_pw (i j : Nat) : mul m (pw m i) (pw m j) = pw m (i + j) := by
  unfold mul
  rw [if_neg (by simp [pw_ne h]), pw_eq_iff h, lg_pw h, lg_pw h, ← Nat.add_mod]

theorem mul_pw_it {a : Nat} (ha : a < 2^m) (j : Nat) : mul m a (pw m j) = it m j a := by
  by_cases h0 : a = 0
  · subst h0; rw [zero_mul, it_zero]
  · have e := pw_lg h ha h0
    conv => lhs; rw [← e]
    rw [mul_pw h, Nat.add_comm, pw_add, e]

theorem mul_assoc {a b c : Nat} (ha : a < 2^m) (hb : b < 2^m) (hc : c < 2^m) : mul m (mul m a b) c = mul m a (mul m b c) := by
  by_cases a0 : a = 0
  · subst a0; simp [zero_mul]
  by_cases b0 : b = 0
  · subst b0; simp [zero_mul, mul_zero]
  by_cases c0 : c = 0
  · subst c0; simp [mul_zero]
  rw [← pw_lg h ha a0, ← pw_lg h hb b0, ← pw_lg h hc c0, mul_pw h, mul_pw h, mul_pw h, mul_pw h, Nat.add_assoc]

theorem mul_one {a : Nat} (ha : a < 2^m) : mul m a 1 = a := by
  have := mul_pw_it h ha 0
  exact this

theorem one_mul {a : Nat} (ha : a < 2^m) : mul m 1 a = a := by rw [mul_comm, mul_one h ha]

theorem xor_mul {a b : Nat} (ha : a < 2^m) (hb : b < 2^m) (c : Nat) (hc : c < 2^m) : mul m (a ^^^ b) c = mul m a c ^^^ mul m b c := by
  by_cases c0 : c = 0
  · subst c0; simp [mul_zero]
  · rw [← pw_lg h hc c0, mul_pw_it h (Nat.xor_lt_two_pow ha hb), mul_pw_it h ha, mul_pw_it h hb, it_xor h _ ha hb]

theorem mul_xor {a b : Nat} (ha : a < 2^m) (hb : b < 2^m) (c : Nat) (hc : c < 2^m) : mul m c (a ^^^ b) = mul m c a ^^^ mul m c b := by
  rw [mul_comm c, xor_mul h ha hb c hc, mul_comm a, mul_comm b]

theorem inv_lt (a : Nat) : inv m a < 2^m := by
  unfold inv; split
  · exact Nat.two_pow_pos m
  · exact pw_lt h _

theorem mul_inv {a : Nat} (ha : a < 2^m) (h0 : a ≠ 0) : mul m a (inv m a) = 1 := by
  unfold inv
  rw [if_neg h0]
  conv => lhs; arg 2; rw [← pw_lg h ha h0]
  rw [mul_pw h]
  have := lg_lt h a
  rw [show lg m a + (sz m - lg m a) = sz m by omega, pw_sz h]

theorem inv_ne {a : Nat} (h0 : a ≠ 0) : inv m a ≠ 0 := by
  unfold inv; rw [if_neg h0]; exact pw_ne h _

theorem mul_left_cancel {a b c : Nat} (ha : a < 2^m) (hb : b < 2^m) (hc : c < 2^m) (h0 : a ≠ 0) (e : mul m a b = mul m a c) : b = c := by
  have k : ∀ x, x < 2^m → mul m (inv m a) (mul m a x) = x := fun x hx => by
    rw [← mul_assoc h (inv_lt h a) ha hx, mul_comm (inv m a), mul_inv h ha h0, one_mul h hx]
  rw [← k b hb, ← k c hc, e]

theorem sq_xor {a b : Nat} (ha : a < 2^m) (hb : b < 2^m) : mul m (a ^^^ b) (a ^^^ b) = mul m a a ^^^ mul m b b := by
  rw [xor_mul h ha hb _ (Nat.xor_lt_two_pow ha hb), mul_xor h ha hb a ha, mul_xor h ha hb b hb, mul_comm b a]
  rw [Nat.xor_assoc, ← Nat.xor_assoc (mul m a b), Nat.xor_self, Nat.zero_xor]

theorem sq_eq_self {a : Nat} (ha : a < 2^m) (e : mul m a a = a) : a = 0 ∨ a = 1 := by
  by_cases h0 : a = 0
  · exact .inl h0
  · refine .inr (mul_left_cancel h ha ha (one_lt m h) h0 ?_)
    rw [e, mul_one h ha]

theorem sq_inj {a b : Nat} (ha : a < 2^m) (hb : b < 2^m) (e : mul m a a = mul m b b) : a = b := by
  have : mul m (a ^^^ b) (a ^^^ b) = 0 := by rw [sq_xor h ha hb, e, Nat.xor_self]
  rw [mul_eq_zero h] at this
  have h1 : a ^^^ b = 0 := by omega
  exact xor_zero h1
end

/-- A polynomial's value; the lowest coefficient first. -/
def ev (m : Nat) (p : List Nat) (x : Nat) : Nat := p.foldr (fun c y => mul m y x ^^^ c) 0

theorem ev_cons (m c : Nat) (p : List Nat) (x : Nat) : ev m (c :: p) x = mul m (ev m p x) x ^^^ c := rfl

theorem ev_lt {m : Nat} (h : Ok m) (p : List Nat) (x : Nat) (hp : ∀ y ∈ p, y < 2^m) : ev m p x < 2^m := by
  induction p with
  | nil => exact Nat.two_pow_pos m
  | cons c p ih =>
    rw [ev_cons]
    exact Nat.xor_lt_two_pow (mul_lt h _ _) (hp c (by simp))

theorem ev_drop (m : Nat) (p : List Nat) (x k : Nat) (hk : k < p.length) : ev m (p.drop k) x = mul m (ev m (p.drop (k+1)) x) x ^^^ p.getD k 0 := by
  rw [List.drop_eq_getElem_cons hk, ev_cons]
  simp [List.getD, hk]

/-- Without noughts at the end. -/
def trim : List Nat → List Nat
  | [] => []
  | c :: p => if trim p = [] ∧ c = 0 then [] else c :: trim p

theorem trim_snoc_zero (p : List Nat) : trim (p ++ [0]) = trim p := by
  induction p with
  | nil => simp [trim]
  | cons c p ih => simp only [List.cons_append, trim, ih]

theorem trim_snoc (p : List Nat) (c : Nat) (h : c ≠ 0) : trim (p ++ [c]) = p ++ [c] := by
  induction p with
  | nil => simp [trim, h]
  | cons d p ih => simp [trim, ih]

theorem trim_take_succ (p : List Nat) (k : Nat) (hk : k < p.length) (h : p.getD k 0 = 0) : trim (p.take (k+1)) = trim (p.take k) := by
  rw [List.take_succ_eq_append_getElem hk]
  have : p[k] = 0 := by simpa [List.getD, hk] using h
  rw [this, trim_snoc_zero]

theorem trim_take_self (p : List Nat) (k : Nat) (hk : k < p.length) (h : p.getD k 0 ≠ 0) : trim (p.take (k+1)) = p.take (k+1) := by
  rw [List.take_succ_eq_append_getElem hk]
  have : p[k] ≠ 0 := by simpa [List.getD, hk] using h
  rw [trim_snoc _ _ this]

/-- The coefficient j of the product of p's first I coefficients with q. -/
def cf (m : Nat) (p q : List Nat) : Nat → Nat → Nat
  | 0, _ => 0
  | I+1, j => cf m p q I j ^^^ (if I ≤ j ∧ j - I < q.length then mul m (p.getD I 0) (q.getD (j - I) 0) else 0)

/-- .. and of the next one with q's first K. -/
def cfk (m : Nat) (p q : List Nat) (I K j : Nat) : Nat :=
  cf m p q I j ^^^ (if I ≤ j ∧ j - I < K then mul m (p.getD I 0) (q.getD (j - I) 0) else 0)

def prod (m : Nat) (p q : List Nat) : List Nat := (List.range (p.length + q.length - 1)).map (cf m p q p.length)
def times (m : Nat) (p q : List Nat) : List Nat := if p = [] ∨ q = [] then [] else trim (prod m p q)

theorem cfk_zero (m : Nat) (p q : List Nat) (I : Nat) : cfk m p q I 0 = cf m p q I := by
  funext j; simp [cfk]
theorem cfk_full (m : Nat) (p q : List Nat) (I : Nat) : cfk m p q I q.length = cf m p q (I+1) := rfl
theorem cfk_at (m : Nat) (p q : List Nat) (I K : Nat) : cfk m p q I K (I + K) = cf m p q I (I + K) := by
  simp [cfk]
theorem cfk_succ (m : Nat) (p q : List Nat) (I K j : Nat) : cfk m p q I (K+1) j = if j = I + K then cfk m p q I K j ^^^ mul m (p.getD I 0) (q.getD K 0) else cfk m p q I K j := by
  unfold cfk
  by_cases e : j = I + K
  · subst e
    simp
  · rw [if_neg e]
    by_cases h1 : I ≤ j
    · by_cases h2 : j - I < K
      · simp [h1, h2, show j - I < K + 1 by omega]
      · simp [h1, h2, show ¬ j - I < K + 1 by omega]
    · simp [h1]

theorem cf_lt {m : Nat} (h : Ok m) (p q : List Nat) (I j : Nat) : cf m p q I j < 2^m := by
  induction I with
  | zero => exact Nat.two_pow_pos m
  | succ I ih =>
    unfold cf
    refine Nat.xor_lt_two_pow ih ?_
    split
    · exact mul_lt h _ _
    · exact Nat.two_pow_pos m

theorem cfk_lt {m : Nat} (h : Ok m) (p q : List Nat) (I K j : Nat) : cfk m p q I K j < 2^m := by
  unfold cfk
  refine Nat.xor_lt_two_pow (cf_lt h _ _ _ _) ?_
  split
  · exact mul_lt h _ _
  · exact Nat.two_pow_pos m

theorem trim_mem {p : List Nat} {x : Nat} (h : x ∈ trim p) : x ∈ p := by
  induction p with
  | nil => simp [trim] at h
  | cons c p ih =>
    unfold trim at h
    split at h
    · simp at h
    · rcases List.mem_cons.1 h with rfl | h
      · simp
      · exact List.mem_cons_of_mem _ (ih h)

theorem times_lt {m : Nat} (h : Ok m) (p q : List Nat) : ∀ y ∈ times m p q, y < 2^m := by
  intro y hy
  unfold times at hy
  split at hy
  · simp at hy
  · have := trim_mem hy
    unfold prod at this
    simp only [List.mem_map] at this
    obtain ⟨j, _, rfl⟩ := this
    exact cf_lt h _ _ _ _

theorem trim_length (p : List Nat) : (trim p).length ≤ p.length := by
  induction p with
  | nil => simp [trim]
  | cons c p ih => unfold trim; split <;> simp <;> omega

theorem times_length (m : Nat) (p q : List Nat) : (times m p q).length ≤ p.length + q.length - 1 := by
  unfold times
  split
  · simp
  · refine Nat.le_trans (trim_length _) ?_
    simp [prod]

/-- How many steps of doubling bring a power back. -/
def cyc (m n : Nat) : Nat := ((List.range m).find? (fun i => (2^(i+1) * n) % sz m == n % sz m)).getD 0 + 1
/-- The product of the first i factors of the least polynomial. -/
def mins (m n : Nat) : Nat → List Nat
  | 0 => [1]
  | i+1 => times m (mins m n i) [pw m ((2^i * n) % sz m), 1]
def minimal (m n : Nat) : List Nat := mins m n (cyc m n)
/-- The generator behind i rounds. -/
def gen (m : Nat) : Nat → List Nat
  | 0 => [1]
  | i+1 => if ev m (gen m i) (pw m (2*i+1)) ≠ 0 then times m (gen m i) (minimal m (2*i+1)) else gen m i

theorem mins_lt {m : Nat} (h : Ok m) (n i : Nat) : ∀ y ∈ mins m n i, y < 2^m := by
  cases i with
  | zero => intro y hy; simp [mins] at hy; subst hy; exact one_lt m h
  | succ i => exact times_lt h _ _
theorem gen_lt {m : Nat} (h : Ok m) (i : Nat) : ∀ y ∈ gen m i, y < 2^m := by
  induction i with
  | zero => intro y hy; simp [gen] at hy; subst hy; exact one_lt m h
  | succ i ih =>
    unfold gen; split
    · exact times_lt h _ _
    · exact ih
theorem mins_length (m n i : Nat) : (mins m n i).length ≤ i + 1 := by
  induction i with
  | zero => simp [mins]
  | succ i ih =>
    have := times_length m (mins m n i) [pw m ((2^i * n) % sz m), 1]
    simp only [List.length_cons, List.length_nil] at this
    show (times m (mins m n i) _).length ≤ _
    omega

theorem two_pow_mod {m : Nat} (_h : Ok m) (n : Nat) : (2^m * n) % sz m = n % sz m := by
  have e : 2^m = sz m + 1 := by have := Nat.two_pow_pos m; unfold sz; omega
  rw [e, Nat.add_mul, Nat.one_mul, Nat.add_comm, Nat.add_mul_mod_self_left]

theorem cyc_spec {m : Nat} (h : Ok m) (n : Nat) : cyc m n ≤ m ∧ 1 ≤ cyc m n ∧ (2^(cyc m n) * n) % sz m = n % sz m ∧ ∀ i, 1 ≤ i → i < cyc m n → (2^i * n) % sz m ≠ n % sz m := by
  unfold cyc
  cases hf : (List.range m).find? (fun i => (2^(i+1) * n) % sz m == n % sz m) with
  | none =>
    rw [List.find?_eq_none] at hf
    have := hf (m-1) (by unfold Ok at h; simp; omega)
    rw [show m - 1 + 1 = m by unfold Ok at h; omega] at this
    simp [two_pow_mod h n] at this
  | some i =>
    have h1 := List.mem_of_find?_eq_some hf
    have h2 := List.find?_some hf
    have h3 : i < m := by simpa using h1
    refine ⟨by simp; omega, by simp, by simpa using h2, fun j hj1 hj2 he => ?_⟩
    simp only [Option.getD_some] at hj2
    rw [List.find?_range_eq_some] at hf
    have := hf.2.2 (j-1) (by omega)
    rw [show j - 1 + 1 = j by omega] at this
    simp [he] at this

/-! ### Polynomials whose highest coefficient is 1 -/
def Mon (p : List Nat) : Prop := p ≠ [] ∧ p.getD (p.length - 1) 0 = 1

theorem trim_self (p : List Nat) (h0 : p ≠ []) (h : p.getD (p.length - 1) 0 ≠ 0) : trim p = p := by
  have hl := List.length_pos_iff.2 h0
  have := trim_take_self p (p.length - 1) (by omega) h
  rwa [show p.length - 1 + 1 = p.length by omega, List.take_length] at this

theorem cf_high (m : Nat) (p q : List Nat) (I j : Nat) (h : I + q.length ≤ j + 1) : cf m p q I j = 0 := by
  induction I with
  | zero => rfl
  | succ I ih =>
    unfold cf
    rw [ih (by omega), if_neg (by omega)]; rfl

theorem cf_top (m : Nat) (p q : List Nat) (hp : p ≠ []) (hq : q ≠ []) :
    cf m p q p.length (p.length + q.length - 2) = mul m (p.getD (p.length - 1) 0) (q.getD (q.length - 1) 0) := by
  have hpl := List.length_pos_iff.2 hp
  have hql := List.length_pos_iff.2 hq
  conv => lhs; arg 4; rw [show p.length = (p.length - 1) + 1 by omega]
  unfold cf
  rw [cf_high _ _ _ _ _ (by omega), if_pos (by omega), Nat.zero_xor, show p.length + q.length - 2 - (p.length - 1) = q.length - 1 by omega]

theorem prod_length (m : Nat) (p q : List Nat) : (prod m p q).length = p.length + q.length - 1 := by simp [prod]
theorem prod_getD (m : Nat) (p q : List Nat) (j : Nat) (h : j < p.length + q.length - 1) : (prod m p q).getD j 0 = cf m p q p.length j := by
  simp [prod, List.getD, h]

theorem times_mon {m : Nat} (h : Ok m) {p q : List Nat} (hp : Mon p) (hq : Mon q) : times m p q = prod m p q ∧ Mon (prod m p q) := by
  have hpl := List.length_pos_iff.2 hp.1
  have hql := List.length_pos_iff.2 hq.1
  have hne : prod m p q ≠ [] := List.length_pos_iff.1 (by rw [prod_length]; omega)
  have htop : (prod m p q).getD ((prod m p q).length - 1) 0 = 1 := by
    rw [prod_length, prod_getD _ _ _ _ (by omega), show p.length + q.length - 1 - 1 = p.length + q.length - 2 by omega, cf_top m p q hp.1 hq.1, hp.2, hq.2, mul_one h (one_lt m h)]
  refine ⟨?_, hne, htop⟩
  unfold times
  rw [if_neg (by simp [hp.1, hq.1]), trim_self _ hne (by rw [htop]; decide)]

theorem mon_one : Mon [1] := ⟨by simp, rfl⟩
theorem mon_lin (r : Nat) : Mon [r, 1] := ⟨by simp, rfl⟩

theorem mins_mon {m : Nat} (h : Ok m) (n i : Nat) : Mon (mins m n i) ∧ (mins m n i).length = i + 1 := by
  induction i with
  | zero => exact ⟨mon_one, rfl⟩
  | succ i ih =>
    have := times_mon h ih.1 (mon_lin (pw m ((2^i * n) % sz m)))
    unfold mins
    rw [this.1]
    refine ⟨this.2, ?_⟩
    rw [prod_length, ih.2]; simp

theorem minimal_mon {m : Nat} (h : Ok m) (n : Nat) : Mon (minimal m n) ∧ (minimal m n).length = cyc m n + 1 := mins_mon h n _

theorem gen_mon {m : Nat} (h : Ok m) (i : Nat) : Mon (gen m i) ∧ (gen m i).length ≤ i * m + 1 := by
  induction i with
  | zero => exact ⟨mon_one, by simp [gen]⟩
  | succ i ih =>
    unfold gen
    split
    · have h1 := minimal_mon h (2*i+1)
      have := times_mon h ih.1 h1.1
      rw [this.1]
      refine ⟨this.2, ?_⟩
      have h2 := (cyc_spec h (2*i+1)).1
      have e : (i+1) * m = i * m + m := Nat.succ_mul i m
      rw [prod_length, h1.2, e]; omega
    · have e : (i+1) * m = i * m + m := Nat.succ_mul i m
      exact ⟨ih.1, by rw [e]; omega⟩
end Gf
