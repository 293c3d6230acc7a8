/- Plain facts on words: sums at powers, distance; the shortest register (Berlekamp, Massey). No program in sight. -/
import Derived.Test.YtjompiihdnaogaaBt
namespace Gf

/-- The sum of f 0 .. f (n-1). -/
def sx (f : Nat → Nat) : Nat → Nat
  | 0 => 0
  | n+1 => sx f n ^^^ f n

theorem sx_congr {f g : Nat → Nat} (n : Nat) (h : ∀ i, i < n → f i = g i) : sx f n = sx g n := by
  induction n with
  | zero => rfl
  | succ n ih => rw [sx, sx, ih (fun i hi => h i (by omega)), h n (by omega)]

theorem sx_zero (n : Nat) : sx (fun _ => 0) n = 0 := by
  induction n with
  | zero => rfl
  | succ n ih => rw [sx, ih]; rfl

theorem sx_xor (f g : Nat → Nat) (n : Nat) : sx (fun i => f i ^^^ g i) n = sx f n ^^^ sx g n := by
  induction n with
  | zero => simp [sx]
  | succ n ih =>
    rw [sx, sx, sx, ih]
    simp only [Nat.xor_assoc]
    congr 1
    rw [← Nat.xor_assoc (sx g n), Nat.xor_comm (sx g n), Nat.xor_assoc]

theorem sx_lt {m : Nat} (f : Nat → Nat) (n : Nat) (h : ∀ i, i < n → f i < 2^m) : sx f n < 2^m := by
  induction n with
  | zero => exact Nat.two_pow_pos m
  | succ n ih => exact Nat.xor_lt_two_pow (ih fun i hi => h i (by omega)) (h n (by omega))

theorem sx_more (f : Nat → Nat) (a b : Nat) (hab : a ≤ b) (h : ∀ i, a ≤ i → i < b → f i = 0) : sx f b = sx f a := by
  induction b with
  | zero => have : a = 0 := by omega
            subst this; rfl
  | succ b ih =>
    by_cases e : a = b + 1
    · subst e; rfl
    · rw [sx, ih (by omega) (fun i h1 h2 => h i h1 (by omega)), h b (by omega) (by omega), Nat.xor_zero]

theorem sx_head (f : Nat → Nat) (n : Nat) : sx f (n+1) = f 0 ^^^ sx (fun i => f (i+1)) n := by
  induction n with
  | zero => simp [sx]
  | succ n ih => rw [sx, ih, sx, Nat.xor_assoc]

theorem sx_shift (f : Nat → Nat) (a n : Nat) (h : ∀ i, i < a → f i = 0) : sx f (a + n) = sx (fun i => f (a + i)) n := by
  induction n with
  | zero => exact (sx_more f 0 a (by omega) (fun i _ hi => h i hi))
  | succ n ih => rw [← Nat.add_assoc, sx, ih, sx]

theorem sx_comm (f : Nat → Nat → Nat) (a b : Nat) : sx (fun i => sx (fun j => f i j) b) a = sx (fun j => sx (fun i => f i j) a) b := by
  induction a with
  | zero => simp only [sx]; rw [sx_zero]
  | succ a ih =>
    rw [sx, ih, ← sx_xor]
    exact sx_congr _ (fun j _ => rfl)

section
variable {m : Nat} (h : Ok m)
include h

theorem sx_mul (c : Nat) (hc : c < 2^m) (f : Nat → Nat) (n : Nat) (hf : ∀ i, i < n → f i < 2^m) : mul m c (sx f n) = sx (fun i => mul m c (f i)) n := by
  induction n with
  | zero => simp [sx, mul_zero]
  | succ n ih => rw [sx, sx, mul_xor h (sx_lt f n fun i hi => hf i (by omega)) (hf n (by omega)) c hc, ih (fun i hi => hf i (by omega))]

omit h in
theorem eu_sx (p : List Nat) (x n : Nat) : eu m p x n = sx (fun i => mul m (p.getD i 0) (xp m x i)) n := by
  induction n with
  | zero => rfl
  | succ n ih => rw [eu, sx, ih]

omit h in
theorem getD_lt {p : List Nat} (hp : ∀ y ∈ p, y < 2^m) (j : Nat) : p.getD j 0 < 2^m := by
  rcases Nat.lt_or_ge j p.length with hj | hj
  · have : p.getD j 0 = p[j] := by simp [List.getD, hj]
    rw [this]; exact hp _ (by simp)
  · have : p.getD j 0 = 0 := by simp [List.getD, hj]
    rw [this]; exact Nat.two_pow_pos m
omit h in
theorem getD_ge {p : List Nat} {j : Nat} (hj : p.length ≤ j) : p.getD j 0 = 0 := by simp [List.getD, hj]

/-- A value as a sum, over at least all coefficients. -/
theorem ev_sx (p : List Nat) (x n : Nat) (hx : x < 2^m) (hp : ∀ y ∈ p, y < 2^m) (hn : ∀ i, n ≤ i → p.getD i 0 = 0) : ev m p x = sx (fun i => mul m (p.getD i 0) (xp m x i)) n := by
  rw [← eu_full h p x hx hp, eu_sx]
  rcases Nat.le_total p.length n with hl | hl
  · exact (sx_more _ _ _ hl (fun i h1 _ => by rw [getD_ge h1, zero_mul])).symm
  · exact sx_more _ _ _ hl (fun i h1 _ => by rw [hn i h1, zero_mul])

/-! ### Words -/
/-- The sum of a word's powers of the root, each multiplied k times. -/
def syn (m : Nat) (w : Nat → Bool) (L k : Nat) : Nat := sx (fun p => if w p then pw m (p * k) else 0) L
def supp (w : Nat → Bool) (L : Nat) : List Nat := (List.range L).filter w

omit h in
theorem supp_succ (w : Nat → Bool) (L : Nat) : supp w (L+1) = supp w L ++ (if w L then [L] else []) := by
  unfold supp
  rw [List.range_succ, List.filter_append]
  congr 1
  cases hw : w L <;> simp [hw]

omit h in
theorem mem_supp {w : Nat → Bool} {L p : Nat} : p ∈ supp w L ↔ p < L ∧ w p = true := by
  unfold supp; simp

omit h in
theorem supp_nodup (w : Nat → Bool) (L : Nat) : (supp w L).Nodup := List.Pairwise.filter _ List.nodup_range

omit h in
theorem ps_append (l1 l2 : List (Nat × Nat)) (i : Nat) : ps m (l1 ++ l2) i = ps m l1 i ^^^ ps m l2 i := by
  induction l1 with
  | nil => simp [ps]
  | cons q l ih =>
    show mul m q.1 _ ^^^ ps m (l ++ l2) i = (mul m q.1 _ ^^^ ps m l i) ^^^ ps m l2 i
    rw [ih, Nat.xor_assoc]

omit h in
theorem ps_supp (w : Nat → Bool) (L : Nat) (c X : Nat → Nat) (i : Nat) :
    ps m ((supp w L).map fun p => (c p, X p)) i = sx (fun p => if w p then mul m (c p) (xp m (X p) i) else 0) L := by
  induction L with
  | zero => rfl
  | succ L ih =>
    rw [supp_succ, List.map_append, ps_append, ih, sx]
    congr 1
    cases hw : w L <;> simp [ps]

/-- A word that has few bits, and whose sums are 0, is 0. -/
theorem word_zero (w : Nat → Bool) (L t : Nat) (hL : L ≤ sz m) (hn : (supp w L).length ≤ 2 * t) (hs : ∀ k, 1 ≤ k → k ≤ 2 * t → syn m w L k = 0) : ∀ p, p < L → w p = false := by
  intro p hp
  cases hw : w p with
  | false => rfl
  | true =>
    have hz := ps_zero h ((supp w L).map fun p => (pw m p, pw m p)) ?_ ?_ ?_ (pw m p, pw m p) (List.mem_map.2 ⟨p, mem_supp.2 ⟨hp, hw⟩, rfl⟩)
    · exact absurd hz (pw_ne h p)
    · rw [List.map_map]
      refine List.Pairwise.map _ (S := fun a b => a ≠ b) (R := fun a b => a ≠ b ∧ a < sz m ∧ b < sz m) ?_ ?_
      · intro a b ⟨hab, ha, hb⟩ e
        exact hab (pw_inj h ha hb e)
      · have h1 := supp_nodup w L
        have h2 : ∀ a ∈ supp w L, a < sz m := fun a ha => Nat.lt_of_lt_of_le (mem_supp.1 ha).1 hL
        exact List.Pairwise.imp_of_mem (fun ha hb hab => ⟨hab, h2 _ ha, h2 _ hb⟩) h1
    · intro q hq
      obtain ⟨p', _, rfl⟩ := List.mem_map.1 hq
      exact ⟨pw_lt h _, pw_lt h _⟩
    · intro i hi
      have hi' : i < (supp w L).length := by simpa using hi
      refine (ps_supp _ _ _ _ _).trans (Eq.trans ?_ (hs (i+1) (by omega) (by omega)))
      unfold syn
      refine sx_congr _ (fun p _ => ?_)
      cases w p
      · rfl
      · simp only [if_true]
        rw [xp_pw h, mul_pw h, Nat.mul_succ, Nat.add_comm]

/-! ### The shortest register -/
/-- The sum of C i s (k - i). -/
def cv (m : Nat) (s C : List Nat) (k : Nat) : Nat := sx (fun i => mul m (C.getD i 0) (s.getD (k - i) 0)) (k+1)

/-- The inverse of a power. -/
def yv (m p : Nat) : Nat := pw m (sz m - p)
theorem yv_lt (p : Nat) : yv m p < 2^m := pw_lt h _
theorem pw_yv {p : Nat} (hp : p ≤ sz m) : mul m (pw m p) (yv m p) = 1 := by
  unfold yv; rw [mul_pw h, show p + (sz m - p) = sz m by omega, pw_sz h]

theorem pw_back {p : Nat} (hp : p ≤ sz m) (a i : Nat) (hi : i ≤ a) : pw m (p * (a - i)) = mul m (pw m (p * a)) (xp m (yv m p) i) := by
  unfold yv
  rw [xp_pw h, mul_pw h, pw_eq_iff h]
  have e : p * a + (sz m - p) * i = p * (a - i) + sz m * i := by
    have h1 : p * a = p * (a - i) + p * i := by rw [← Nat.mul_add]; congr 1; omega
    have h2 : (sz m - p) * i + p * i = sz m * i := by rw [← Nat.add_mul]; congr 1; omega
    omega
  rw [e, Nat.add_mul_mod_self_left]

theorem cv_words (w : Nat → Bool) (L T : Nat) (hL : L ≤ sz m) (s C : List Nat) (hC : ∀ y ∈ C, y < 2^m) (hs : ∀ k, k < T → s.getD k 0 = syn m w L (k+1)) (k : Nat) (hk : k < T) (hCk : ∀ i, k < i → C.getD i 0 = 0) :
    cv m s C k = sx (fun p => if w p then mul m (mul m (pw m p) (ev m C (yv m p))) (xp m (pw m p) k) else 0) L := by
  have e1 : cv m s C k = sx (fun i => sx (fun p => if w p then mul m (C.getD i 0) (pw m (p * (k + 1 - i))) else 0) L) (k+1) := by
    unfold cv
    refine sx_congr _ (fun i hi => ?_)
    rw [hs (k - i) (by omega)]
    unfold syn
    rw [sx_mul h _ (getD_lt hC i) _ _ (fun p _ => by split; exact pw_lt h _; exact Nat.two_pow_pos m)]
    refine sx_congr _ (fun p _ => ?_)
    rw [show k - i + 1 = k + 1 - i by omega]
    cases w p
    · simp [mul_zero]
    · rfl
  rw [e1, sx_comm]
  refine sx_congr _ (fun p hp => ?_)
  cases w p
  · simp only [Bool.false_eq_true, if_false]; exact sx_zero _
  · simp only [if_true]
    rw [ev_sx h C (yv m p) (k+1) (yv_lt h p) hC (fun i hi => hCk i (by omega))]
    have hb : ∀ i, i < k + 1 → mul m (C.getD i 0) (xp m (yv m p) i) < 2^m := fun i _ => mul_lt h _ _
    rw [mul_comm (mul m (pw m p) _), ← mul_assoc h (xp_lt h _ _) (pw_lt h p) (sx_lt _ _ hb), xp_pw h, mul_pw h, show p * k + p = p * (k + 1) by rw [Nat.mul_succ], sx_mul h _ (pw_lt h _) _ _ hb]
    refine sx_congr _ (fun i hi => ?_)
    rw [pw_back h (by omega) (k+1) i (by omega), ← mul_assoc h (getD_lt hC i) (pw_lt h _) (xp_lt h _ _), mul_comm (C.getD i 0), mul_assoc h (pw_lt h _) (getD_lt hC i) (xp_lt h _ _)]

/-- As many values 0 as there are bits, one behind another: C is 0 at all inverses. -/
theorem cv_all (w : Nat → Bool) (L T : Nat) (hL : L ≤ sz m) (s C : List Nat) (hC : ∀ y ∈ C, y < 2^m) (hs : ∀ k, k < T → s.getD k 0 = syn m w L (k+1)) (a : Nat)
    (ha : a + (supp w L).length ≤ T) (hCa : ∀ i, a < i → C.getD i 0 = 0) (hz : ∀ k, a ≤ k → k < a + (supp w L).length → cv m s C k = 0) : ∀ p, p < L → w p = true → ev m C (yv m p) = 0 := by
  intro p hp hw
  have hz' := ps_zero h ((supp w L).map fun p => (mul m (mul m (pw m p) (ev m C (yv m p))) (xp m (pw m p) a), pw m p)) ?_ ?_ ?_ _ (List.mem_map.2 ⟨p, mem_supp.2 ⟨hp, hw⟩, rfl⟩)
  · rcases (mul_eq_zero h).1 hz' with h1 | h1
    · rcases (mul_eq_zero h).1 h1 with h2 | h2
      · exact absurd h2 (pw_ne h _)
      · exact h2
    · rw [xp_pw h] at h1; exact absurd h1 (pw_ne h _)
  · rw [List.map_map]
    refine List.Pairwise.map _ (S := fun a b => a ≠ b) (R := fun a b => a ≠ b ∧ a < sz m ∧ b < sz m) ?_ ?_
    · intro a b ⟨hab, ha, hb⟩ e
      exact hab (pw_inj h ha hb e)
    · have h1 := supp_nodup w L
      have h2 : ∀ a ∈ supp w L, a < sz m := fun a ha => Nat.lt_of_lt_of_le (mem_supp.1 ha).1 hL
      exact List.Pairwise.imp_of_mem (fun ha hb hab => ⟨hab, h2 _ ha, h2 _ hb⟩) h1
  · intro q hq
    obtain ⟨p', _, rfl⟩ := List.mem_map.1 hq
    exact ⟨mul_lt h _ _, pw_lt h _⟩
  · intro i hi
    have hi' : i < (supp w L).length := by simpa using hi
    refine (ps_supp _ _ _ _ _).trans (Eq.trans ?_ (hz (a + i) (by omega) (by omega)))
    rw [cv_words h w L T hL s C hC hs (a + i) (by omega) (fun j hj => hCa j (by omega))]
    refine sx_congr _ (fun p _ => ?_)
    cases w p
    · rfl
    · simp only [if_true]
      have hc := mul_lt h (pw m p) (ev m C (yv m p))
      rw [mul_assoc h hc (xp_lt h _ _) (xp_lt h _ _), xp_pw h, xp_pw h, xp_pw h, mul_pw h, Nat.mul_add]
end
end Gf
