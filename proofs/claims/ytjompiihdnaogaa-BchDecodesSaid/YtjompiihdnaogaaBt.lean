/- Plain facts on polynomials over the fields: roots, sums of powers, generators. No program in sight. -/
import Derived.Test.YtjompiihdnaogaaGr
namespace Gf

/-! ### Roots -/
section
variable {m : Nat} (h : Ok m)
include h

/-- What is left when a polynomial is divided by x + a: the quotient. -/
def sd (m a : Nat) : List Nat → List Nat
  | [] => []
  | _ :: p => if p = [] then [] else ev m p a :: sd m a p

omit h in
theorem sd_length (a : Nat) (p : List Nat) : (sd m a p).length = p.length - 1 := by
  induction p with
  | nil => rfl
  | cons c p ih =>
    unfold sd
    split
    · rename_i hp; simp [hp]
    · rename_i hp
      have := List.length_pos_iff.2 hp
      simp [ih]; omega

theorem sd_lt (a : Nat) (p : List Nat) (hp : ∀ y ∈ p, y < 2^m) : ∀ y ∈ sd m a p, y < 2^m := by
  induction p with
  | nil => intro y hy; simp [sd] at hy
  | cons c p ih =>
    intro y hy
    unfold sd at hy
    split at hy
    · simp at hy
    · rcases List.mem_cons.1 hy with rfl | hy
      · exact ev_lt h p a (fun y hy => hp y (by simp [hy]))
      · exact ih (fun y hy => hp y (by simp [hy])) y hy

theorem ev_sd {a x : Nat} (ha : a < 2^m) (hx : x < 2^m) (p : List Nat) (hp : ∀ y ∈ p, y < 2^m) :
    ev m p x = mul m (ev m (sd m a p) x) (x ^^^ a) ^^^ ev m p a := by
  induction p with
  | nil => simp [sd, ev, zero_mul]
  | cons c p ih =>
    have hp' : ∀ y ∈ p, y < 2^m := fun y hy => hp y (by simp [hy])
    have hc : c < 2^m := hp c (by simp)
    rw [ev_cons, ev_cons]
    unfold sd
    split
    · rename_i hp0
      subst hp0
      simp [ev, zero_mul]
    · have ih' := ih hp'
      have hxa : x ^^^ a < 2^m := Nat.xor_lt_two_pow hx ha
      have hq := ev_lt h (sd m a p) x (sd_lt h a p hp')
      have hpa := ev_lt h p a hp'
      have hpx := ev_lt h p x hp'
      rw [ev_cons]
      generalize ev m (sd m a p) x = Q at *
      generalize ev m p a = A at *
      -- (Q (x+a) + A) x + c = (Q x + A)(x + a) + (A a + c)
      rw [ih', xor_mul h (mul_lt h _ _) hpa x hx, xor_mul h (mul_lt h _ _) hpa (x ^^^ a) hxa]
      rw [mul_xor h hx ha A hpa, mul_assoc h hq hxa hx, mul_assoc h hq hx hxa, mul_comm (x ^^^ a) x]
      simp only [Nat.xor_assoc]
      congr 2
      rw [← Nat.xor_assoc (mul m A a) (mul m A a), Nat.xor_self, Nat.zero_xor]

/-- A polynomial of n coefficients with n roots is 0. -/
theorem roots_zero : ∀ (n : Nat) (p : List Nat) (xs : List Nat), p.length ≤ n → xs.length = n → xs.Nodup → (∀ y ∈ p, y < 2^m) → (∀ x ∈ xs, x < 2^m ∧ ev m p x = 0) → ∀ y ∈ p, y = 0
  | 0, p, xs, hl, _, _, _, _ => by
    have : p = [] := List.length_eq_zero_iff.1 (by omega)
    subst this; intro y hy; simp at hy
  | n+1, p, [], _, hx, _, _, _ => by simp at hx
  | n+1, p, a :: xs, hl, hx, hn, hp, he => by
    have ha := he a (by simp)
    have hn' := List.nodup_cons.1 hn
    have hq : ∀ y ∈ sd m a p, y = 0 := by
      refine roots_zero n (sd m a p) xs (by rw [sd_length]; omega) (by simpa using hx) hn'.2 (sd_lt h a p hp) (fun x hxm => ⟨(he x (by simp [hxm])).1, ?_⟩)
      have hxx := he x (by simp [hxm])
      have e := ev_sd h ha.1 hxx.1 p hp
      rw [hxx.2, ha.2, Nat.xor_zero] at e
      rcases (mul_eq_zero h).1 e.symm with e1 | e1
      · exact e1
      · exact absurd (xor_zero e1) (fun e2 => hn'.1 (e2 ▸ hxm))
    -- p(x) = p(a) = 0 for all x; so the quotient is 0, coefficient by coefficient
    have key : ∀ (p : List Nat), ev m p a = 0 → (∀ y ∈ p, y < 2^m) → (∀ y ∈ sd m a p, y = 0) → ∀ y ∈ p, y = 0 := by
      intro p
      induction p with
      | nil => intro _ _ _ y hy; simp at hy
      | cons c p ih =>
        intro h0 hlt hs y hy
        unfold sd at hs
        split at hs
        · rename_i hp0
          subst hp0
          have hc : c = 0 := by simpa [ev, zero_mul] using h0
          have : y = c := by simpa using hy
          rw [this, hc]
        · have h1 : ev m p a = 0 := hs _ (by simp)
          have h2 := ih h1 (fun y hy => hlt y (by simp [hy])) (fun y hy => hs y (by simp [hy]))
          rw [ev_cons, h1, zero_mul, Nat.zero_xor] at h0
          rcases List.mem_cons.1 hy with rfl | hy
          · exact h0
          · exact h2 y hy
    exact key p ha.2 hp hq

/-! ### Sums of powers -/
/-- The sum of c X^i over pairs (c, X). -/
def ps (m : Nat) (l : List (Nat × Nat)) (i : Nat) : Nat := l.foldr (fun q s => mul m q.1 (xp m q.2 i) ^^^ s) 0

theorem ps_lt (l : List (Nat × Nat)) (i : Nat) : ps m l i < 2^m := by
  induction l with
  | nil => exact Nat.two_pow_pos m
  | cons q l ih => exact Nat.xor_lt_two_pow (mul_lt h _ _) ih

theorem ps_shift (a : Nat) (ha : a < 2^m) (l : List (Nat × Nat)) (hl : ∀ q ∈ l, q.1 < 2^m ∧ q.2 < 2^m) (i : Nat) :
    ps m (l.map fun q => (mul m q.1 (q.2 ^^^ a), q.2)) i = ps m l (i+1) ^^^ mul m a (ps m l i) := by
  induction l with
  | nil => simp [ps, mul_zero]
  | cons q l ih =>
    have hq := hl q (by simp)
    have ih' := ih (fun q hq => hl q (by simp [hq]))
    show mul m (mul m q.1 (q.2 ^^^ a)) (xp m q.2 i) ^^^ ps m _ i = (mul m q.1 (mul m (xp m q.2 i) q.2) ^^^ ps m l (i+1)) ^^^ mul m a (mul m q.1 (xp m q.2 i) ^^^ ps m l i)
    rw [ih', mul_xor h (mul_lt h _ _) (ps_lt h l i) a ha]
    have hx := xp_lt h q.2 i
    rw [mul_xor h hq.2 ha q.1 hq.1, xor_mul h (mul_lt h _ _) (mul_lt h _ _) _ hx, mul_assoc h hq.1 hq.2 hx, mul_comm q.2 (xp m q.2 i)]
    rw [mul_comm q.1 a, mul_assoc h ha hq.1 hx]
    simp only [Nat.xor_assoc]
    congr 1
    rw [← Nat.xor_assoc (mul m a _), Nat.xor_comm (mul m a (mul m q.1 (xp m q.2 i))), Nat.xor_assoc]

/-- Unlike X with as many sums that are 0: all c are 0 (Vandermonde). -/
theorem ps_zero_n : ∀ (n : Nat) (l : List (Nat × Nat)), l.length = n → (l.map Prod.snd).Nodup → (∀ q ∈ l, q.1 < 2^m ∧ q.2 < 2^m) → (∀ i, i < l.length → ps m l i = 0) → ∀ q ∈ l, q.1 = 0
  | _, [], _, _, _, _ => by intro q hq; simp at hq
  | 0, q0 :: l, hlen, _, _, _ => by simp at hlen
  | n+1, q0 :: l, hlen, hn, hb, hz => by
    have hn' := List.nodup_cons.1 (by simpa using hn : (q0.2 :: l.map Prod.snd).Nodup)
    have hb0 := hb q0 (by simp)
    have hbl : ∀ q ∈ l, q.1 < 2^m ∧ q.2 < 2^m := fun q hq => hb q (by simp [hq])
    have hl' : ∀ q ∈ l.map (fun q => (mul m q.1 (q.2 ^^^ q0.2), q.2)), q.1 = 0 := by
      refine ps_zero_n n (l.map fun q => (mul m q.1 (q.2 ^^^ q0.2), q.2)) (by simpa using hlen) (by rw [List.map_map]; exact hn'.2) ?_ ?_
      · intro q hq
        obtain ⟨q', hq', rfl⟩ := List.mem_map.1 hq
        exact ⟨mul_lt h _ _, (hbl q' hq').2⟩
      · intro i hi
        have hi' : i < l.length := by simpa using hi
        have h1 := hz i (by simp; omega)
        have h2 := hz (i+1) (by simp; omega)
        have e := ps_shift h q0.2 hb0.2 (q0 :: l) hb i
        rw [h1, h2, mul_zero, Nat.xor_zero] at e
        have e2 : ps m ((q0 :: l).map fun q => (mul m q.1 (q.2 ^^^ q0.2), q.2)) i = mul m (mul m q0.1 (q0.2 ^^^ q0.2)) (xp m q0.2 i) ^^^ ps m (l.map fun q => (mul m q.1 (q.2 ^^^ q0.2), q.2)) i := rfl
        rw [e2, Nat.xor_self, mul_zero, zero_mul, Nat.zero_xor] at e
        exact e
    have hl0 : ∀ q ∈ l, q.1 = 0 := by
      intro q hq
      have h1 := hl' (mul m q.1 (q.2 ^^^ q0.2), q.2) (List.mem_map.2 ⟨q, hq, rfl⟩)
      rcases (mul_eq_zero h).1 h1 with h2 | h2
      · exact h2
      · exact absurd (xor_zero h2) (fun e => hn'.1 (e ▸ List.mem_map.2 ⟨q, hq, rfl⟩))
    have hs0 : ∀ (l : List (Nat × Nat)), (∀ q ∈ l, q.1 = 0) → ps m l 0 = 0 := by
      intro l
      induction l with
      | nil => intro _; rfl
      | cons q l ih =>
        intro hl
        show mul m q.1 _ ^^^ ps m l 0 = 0
        rw [hl q (by simp), zero_mul, ih (fun q hq => hl q (by simp [hq]))]; rfl
    have h0 := hz 0 (by simp)
    have e2 : ps m (q0 :: l) 0 = mul m q0.1 1 ^^^ ps m l 0 := rfl
    rw [e2, hs0 l hl0, Nat.xor_zero, mul_one h hb0.1] at h0
    intro q hq
    rcases List.mem_cons.1 hq with rfl | hq
    · exact h0
    · exact hl0 q hq

theorem ps_zero (l : List (Nat × Nat)) (hn : (l.map Prod.snd).Nodup) (hb : ∀ q ∈ l, q.1 < 2^m ∧ q.2 < 2^m) (hz : ∀ i, i < l.length → ps m l i = 0) : ∀ q ∈ l, q.1 = 0 :=
  ps_zero_n h _ l rfl hn hb hz
end
end Gf
