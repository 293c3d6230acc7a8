/- Plain facts on generators: their coefficients, their roots. No program in sight. -/
import Derived.Test.YtjompiihdnaogaaBm
namespace Gf
section
variable {m : Nat} (h : Ok m)
include h

theorem xp_add {x : Nat} (hx : x < 2^m) (a b : Nat) : xp m x (a + b) = mul m (xp m x a) (xp m x b) := by
  induction b with
  | zero => rw [Nat.add_zero, xp, mul_one h (xp_lt h _ _)]
  | succ b ih => rw [← Nat.add_assoc, xp, ih, xp, mul_assoc h (xp_lt h _ _) (xp_lt h _ _) hx]

omit h in
theorem cf_sx (p q : List Nat) (I j : Nat) : cf m p q I j = sx (fun i => if i ≤ j ∧ j - i < q.length then mul m (p.getD i 0) (q.getD (j - i) 0) else 0) I := by
  induction I with
  | zero => rfl
  | succ I ih => rw [cf, sx, ih]

omit h in
theorem trim_getD (p : List Nat) (i : Nat) : (trim p).getD i 0 = p.getD i 0 := by
  have := (trim1_spec (0 :: p) (by simp)).2.1 (i+1)
  simpa [trim1] using this

omit h in
theorem trim_lt {p : List Nat} (hp : ∀ y ∈ p, y < 2^m) : ∀ y ∈ trim p, y < 2^m := fun y hy => hp y (trim_mem hy)

theorem ev_trim (p : List Nat) (x : Nat) (hx : x < 2^m) (hp : ∀ y ∈ p, y < 2^m) : ev m (trim p) x = ev m p x := by
  have := trim_length p
  rw [ev_sx h (trim p) x p.length hx (trim_lt hp) (fun i hi => getD_ge (by omega)), ev_sx h p x p.length hx hp (fun i hi => getD_ge hi)]
  exact sx_congr _ (fun i _ => by rw [trim_getD])

theorem prod_lt (p q : List Nat) : ∀ y ∈ prod m p q, y < 2^m := by
  intro y hy
  obtain ⟨j, _, rfl⟩ := List.mem_map.1 hy
  exact cf_lt h _ _ _ _

theorem ev_prod (p q : List Nat) (x : Nat) (hx : x < 2^m) (hp : ∀ y ∈ p, y < 2^m) (hq : ∀ y ∈ q, y < 2^m) (p0 : p ≠ []) (q0 : q ≠ []) : ev m (prod m p q) x = mul m (ev m p x) (ev m q x) := by
  have hpl := List.length_pos_iff.2 p0
  have hql := List.length_pos_iff.2 q0
  have hb : ∀ i k, mul m (mul m (p.getD i 0) (q.getD k 0)) (xp m x (i + k)) < 2^m := fun _ _ => mul_lt h _ _
  rw [ev_sx h (prod m p q) x (p.length + q.length - 1) hx (prod_lt h p q) (fun i hi => getD_ge (by rw [prod_length]; exact hi))]
  have e1 : sx (fun j => mul m ((prod m p q).getD j 0) (xp m x j)) (p.length + q.length - 1) = sx (fun j => sx (fun i => if i ≤ j ∧ j - i < q.length then mul m (mul m (p.getD i 0) (q.getD (j - i) 0)) (xp m x j) else 0) p.length) (p.length + q.length - 1) := by
    refine sx_congr _ (fun j hj => ?_)
    rw [prod_getD _ _ _ _ hj, cf_sx, mul_comm, sx_mul h _ (xp_lt h _ _) _ _ (fun i _ => by split; exact mul_lt h _ _; exact Nat.two_pow_pos m)]
    refine sx_congr _ (fun i _ => ?_)
    split
    · rw [mul_comm]
    · rw [mul_zero]
  rw [e1, sx_comm]
  have hevp := ev_lt h p x hp
  rw [mul_comm (ev m p x), ev_sx h p x p.length hx hp (fun i hi => getD_ge hi), sx_mul h _ (ev_lt h q x hq) _ _ (fun i _ => mul_lt h _ _)]
  refine sx_congr _ (fun i hi => ?_)
  have e2 : p.length + q.length - 1 = i + (q.length + (p.length - 1 - i)) := by omega
  rw [e2, sx_shift _ _ _ (fun j hj => if_neg (by omega))]
  rw [sx_more _ q.length _ (by omega) (fun j hj _ => if_neg (by omega))]
  rw [mul_comm (ev m q x), ev_sx h q x q.length hx hq (fun i hi => getD_ge hi), sx_mul h _ (mul_lt h _ _) _ _ (fun i _ => mul_lt h _ _)]
  refine sx_congr _ (fun k hk => ?_)
  rw [if_pos (by omega), show i + k - i = k by omega, xp_add h hx]
  have a1 := getD_lt hp i
  have a2 := getD_lt hq k
  have a3 := xp_lt h x i
  have a4 := xp_lt h x k
  generalize p.getD i 0 = A at *
  generalize q.getD k 0 = B at *
  generalize xp m x i = X at *
  generalize xp m x k = Y at *
  rw [mul_assoc h a1 a2 (mul_lt h _ _), ← mul_assoc h a2 a3 a4, mul_comm B X, mul_assoc h a3 a2 a4, ← mul_assoc h a1 a3 (mul_lt h _ _)]

theorem ev_times (p q : List Nat) (x : Nat) (hx : x < 2^m) (hp : ∀ y ∈ p, y < 2^m) (hq : ∀ y ∈ q, y < 2^m) (p0 : p ≠ []) (q0 : q ≠ []) : ev m (times m p q) x = mul m (ev m p x) (ev m q x) := by
  unfold times
  rw [if_neg (by simp [p0, q0]), ev_trim h _ _ hx (prod_lt h p q), ev_prod h p q x hx hp hq p0 q0]

theorem ev_lin (r x : Nat) (hx : x < 2^m) : ev m [r, 1] x = x ^^^ r := by
  simp only [ev, List.foldr_cons, List.foldr_nil, zero_mul, Nat.zero_xor]
  rw [one_mul h hx]

theorem lin_lt (k : Nat) : ∀ y ∈ [pw m k, 1], y < 2^m := by
  intro y hy
  simp only [List.mem_cons, List.not_mem_nil, or_false] at hy
  rcases hy with rfl | rfl
  · exact pw_lt h _
  · exact one_lt m h

/-- The product of x + the powers 2^j n. -/
def pe (m n : Nat) : Nat → Nat → Nat
  | 0, _ => 1
  | i+1, x => mul m (pe m n i x) (x ^^^ pw m (2^i * n))

theorem pe_lt (n i x : Nat) : pe m n i x < 2^m := by
  cases i with
  | zero => exact one_lt m h
  | succ i => exact mul_lt h _ _

theorem ev_mins (n i x : Nat) (hx : x < 2^m) : ev m (mins m n i) x = pe m n i x := by
  induction i with
  | zero => simp [mins, pe, ev, zero_mul]
  | succ i ih =>
    unfold mins pe
    rw [ev_times h _ _ x hx (mins_lt h n i) (lin_lt h _) (mins_mon h n i).1.1 (by simp), ih, ev_lin h _ x hx, pw_mod h]

theorem pe_head (n i x : Nat) (hx : x < 2^m) : pe m n (i+1) x = mul m (x ^^^ pw m n) (pe m (2 * n) i x) := by
  have hl : ∀ k, x ^^^ pw m k < 2^m := fun k => Nat.xor_lt_two_pow hx (pw_lt h k)
  induction i with
  | zero => simp only [pe, Nat.pow_zero, Nat.one_mul]; rw [one_mul h (hl _), mul_one h (hl _)]
  | succ i ih =>
    rw [pe, ih, pe, mul_assoc h (hl _) (pe_lt h _ _ _) (hl _), Nat.pow_succ, Nat.mul_assoc]

theorem pe_sq (n i x : Nat) (hx : x < 2^m) : mul m (pe m n i x) (pe m n i x) = pe m (2 * n) i (mul m x x) := by
  induction i with
  | zero => simp only [pe]; exact mul_one h (one_lt m h)
  | succ i ih =>
    have hl := Nat.xor_lt_two_pow hx (pw_lt h (2^i * n))
    have hp := pe_lt h n i x
    rw [pe, pe, ← ih]
    have e : mul m x x ^^^ pw m (2^i * (2 * n)) = mul m (x ^^^ pw m (2^i * n)) (x ^^^ pw m (2^i * n)) := by
      rw [sq_xor h hx (pw_lt h _), mul_pw h]
      congr 2
      rw [Nat.mul_left_comm]; omega
    rw [e]
    generalize pe m n i x = A at *
    generalize x ^^^ pw m (2^i * n) = B at *
    rw [mul_assoc h hp hl (mul_lt h _ _), ← mul_assoc h hl hp hl, mul_comm B A, mul_assoc h hp hl hl, ← mul_assoc h hp hp (mul_lt h _ _)]

theorem pe_turn (n d x : Nat) (hd : 1 ≤ d) (hx : x < 2^m) (hc : pw m (2^d * n) = pw m n) : pe m (2 * n) d x = pe m n d x := by
  obtain ⟨i, rfl⟩ : ∃ i, d = i + 1 := ⟨d - 1, by omega⟩
  rw [pe_head h n i x hx, pe, show 2^i * (2 * n) = 2^(i+1) * n by rw [Nat.pow_succ, Nat.mul_assoc], hc, mul_comm]

theorem ev_map_xor (f g : Nat → Nat) (hf : ∀ c, f c < 2^m) (hg : ∀ c, g c < 2^m) (p : List Nat) (x : Nat) (hx : x < 2^m) : ev m (p.map fun c => f c ^^^ g c) x = ev m (p.map f) x ^^^ ev m (p.map g) x := by
  induction p with
  | nil => simp [ev]
  | cons c p ih =>
    simp only [List.map_cons, ev_cons]
    have h1 := ev_lt h (p.map f) x (fun y hy => by obtain ⟨c, _, rfl⟩ := List.mem_map.1 hy; exact hf c)
    have h2 := ev_lt h (p.map g) x (fun y hy => by obtain ⟨c, _, rfl⟩ := List.mem_map.1 hy; exact hg c)
    rw [ih, xor_mul h h1 h2 x hx]
    simp only [Nat.xor_assoc]
    congr 1
    rw [← Nat.xor_assoc (mul m (ev m (p.map g) x) x), Nat.xor_comm (mul m (ev m (p.map g) x) x), Nat.xor_assoc]

theorem ev_map_sq (p : List Nat) (x : Nat) (hx : x < 2^m) (hp : ∀ y ∈ p, y < 2^m) : ev m (p.map fun c => mul m c c) (mul m x x) = mul m (ev m p x) (ev m p x) := by
  induction p with
  | nil => simp [ev, zero_mul]
  | cons c p ih =>
    have hp' : ∀ y ∈ p, y < 2^m := fun y hy => hp y (by simp [hy])
    have he := ev_lt h p x hp'
    simp only [List.map_cons, ev_cons]
    rw [ih hp', sq_xor h (mul_lt h _ _) (hp c (by simp))]
    congr 1
    generalize ev m p x = A at *
    rw [mul_assoc h he he (mul_lt h _ _), mul_assoc h he hx (mul_lt h _ _), ← mul_assoc h hx he hx, mul_comm x A, mul_assoc h he hx hx]

/-- Coefficients 0 and 1 alone. -/
def Bin (p : List Nat) : Prop := ∀ y ∈ p, y = 0 ∨ y = 1

theorem root_of (k : Nat) : pw m k = mul m (pw m (2^(m-1) * k)) (pw m (2^(m-1) * k)) := by
  rw [mul_pw h, pw_eq_iff h]
  have e : 2^(m-1) * k + 2^(m-1) * k = 2^m * k := by
    rw [← Nat.add_mul]
    congr 1
    have : 2^m = 2^(m-1) * 2 := by rw [← Nat.pow_succ]; congr 1; unfold Ok at h; omega
    omega
  rw [e, two_pow_mod h]

theorem minimal_bin (n : Nat) : Bin (minimal m n) := by
  have hc := cyc_spec h n
  have hlt : ∀ y ∈ minimal m n, y < 2^m := mins_lt h n (cyc m n)
  have hpw : pw m (2^(cyc m n) * n) = pw m n := (pw_eq_iff h _ _).2 hc.2.2.1
  have hlen := (mins_mon h n (cyc m n)).2
  have hz := roots_zero h (sz m) ((minimal m n).map fun c => mul m c c ^^^ (if c < 2^m then c else 0)) ((List.range (sz m)).map (pw m)) ?_ (by simp) ?_ ?_ ?_
  · intro y hy
    have hy2 := hlt y hy
    have := hz _ (List.mem_map.2 ⟨y, hy, rfl⟩)
    rw [if_pos hy2] at this
    exact sq_eq_self h hy2 (xor_zero this)
  · rw [List.length_map]
    show (mins m n (cyc m n)).length ≤ sz m
    rw [hlen]
    have h1 := hc.1
    have : m + 1 ≤ sz m := by
      rcases h.cases with rfl | rfl | rfl | rfl | rfl | rfl | rfl | rfl | rfl | rfl | rfl | rfl <;> decide +kernel
    omega
  · refine List.Pairwise.map _ (S := fun a b => a ≠ b) (R := fun a b => a ≠ b ∧ a < sz m ∧ b < sz m) ?_ ?_
    · intro a b ⟨hab, ha, hb⟩ e
      exact hab (pw_inj h ha hb e)
    · exact List.Pairwise.imp_of_mem (fun ha hb hab => ⟨hab, by simpa using ha, by simpa using hb⟩) List.nodup_range
  · intro y hy
    obtain ⟨c, _, rfl⟩ := List.mem_map.1 hy
    refine Nat.xor_lt_two_pow (mul_lt h _ _) ?_
    split
    · assumption
    · exact Nat.two_pow_pos m
  · intro y hy
    obtain ⟨k, _, rfl⟩ := List.mem_map.1 hy
    refine ⟨pw_lt h k, ?_⟩
    rw [ev_map_xor h _ _ (fun c => mul_lt h _ _) (fun c => by split; assumption; exact Nat.two_pow_pos m) _ _ (pw_lt h k)]
    have e1 : (minimal m n).map (fun c => if c < 2^m then c else 0) = minimal m n := by
      conv => rhs; rw [← List.map_id (minimal m n)]
      exact List.map_congr_left fun c hc => by rw [if_pos (hlt c hc)]; rfl
    rw [e1]
    have hx := pw_lt h (2^(m-1) * k)
    rw [root_of h k, ev_map_sq h _ _ hx hlt]
    show mul m (ev m (mins m n (cyc m n)) _) (ev m (mins m n (cyc m n)) _) ^^^ ev m (mins m n (cyc m n)) _ = 0
    rw [ev_mins h _ _ _ hx, ev_mins h _ _ _ (mul_lt h _ _), pe_sq h _ _ _ hx, pe_turn h _ _ _ hc.2.1 (mul_lt h _ _) hpw, Nat.xor_self]

omit h in
theorem bin_getD {p : List Nat} (hp : Bin p) (i : Nat) : p.getD i 0 = 0 ∨ p.getD i 0 = 1 := by
  rcases Nat.lt_or_ge i p.length with hi | hi
  · have : p.getD i 0 = p[i] := by simp [List.getD, hi]
    rw [this]; exact hp _ (by simp)
  · exact .inl (getD_ge hi)

theorem times_bin (p q : List Nat) (hp : Bin p) (hq : Bin q) : Bin (times m p q) := by
  have hc : ∀ I j, cf m p q I j = 0 ∨ cf m p q I j = 1 := fun I j => by
    induction I with
    | zero => exact .inl rfl
    | succ I ih =>
      have e : (if I ≤ j ∧ j - I < q.length then mul m (p.getD I 0) (q.getD (j - I) 0) else 0) = 0 ∨ (if I ≤ j ∧ j - I < q.length then mul m (p.getD I 0) (q.getD (j - I) 0) else 0) = 1 := by
        split
        · rcases bin_getD hp I with h1 | h1 <;> rcases bin_getD hq (j - I) with h2 | h2 <;> rw [h1, h2] <;> simp [zero_mul, mul_zero, mul_one h (one_lt m h)]
        · exact .inl rfl
      unfold cf
      rcases ih with h1 | h1 <;> rcases e with h2 | h2 <;> rw [h1, h2] <;> decide
  intro y hy
  unfold times at hy
  split at hy
  · simp at hy
  · obtain ⟨j, _, rfl⟩ := List.mem_map.1 (trim_mem hy)
    exact hc _ _

theorem gen_bin (i : Nat) : Bin (gen m i) := by
  induction i with
  | zero => intro y hy; simp [gen] at hy; exact .inr hy
  | succ i ih =>
    unfold gen; split
    · exact times_bin h _ _ ih (minimal_bin h _)
    · exact ih

/-- The exponents of a generator's roots. -/
def coset (m n : Nat) : List Nat := (List.range (cyc m n)).map fun j => (2^j * n) % sz m
def exs (m : Nat) : Nat → List Nat
  | 0 => []
  | i+1 => if ev m (gen m i) (pw m (2*i+1)) ≠ 0 then exs m i ++ coset m (2*i+1) else exs m i

theorem pe_zero (n i x : Nat) (_hx : x < 2^m) : pe m n i x = 0 ↔ ∃ j, j < i ∧ x = pw m (2^j * n) := by
  induction i with
  | zero => simp [pe]
  | succ i ih =>
    rw [pe, mul_eq_zero h, ih]
    constructor
    · rintro (⟨j, hj, e⟩ | e)
      · exact ⟨j, by omega, e⟩
      · exact ⟨i, by omega, xor_zero e⟩
    · rintro ⟨j, hj, e⟩
      by_cases hji : j = i
      · subst hji; right; rw [e, Nat.xor_self]
      · exact .inl ⟨j, by omega, e⟩

theorem gen_root (i e : Nat) : ev m (gen m i) (pw m e) = 0 ↔ e % sz m ∈ exs m i := by
  induction i with
  | zero =>
    simp only [gen, exs, ev, List.foldr_cons, List.foldr_nil, zero_mul, Nat.zero_xor]
    simp
  | succ i ih =>
    unfold gen exs
    split
    · rw [ev_times h _ _ _ (pw_lt h e) (gen_lt h i) (show ∀ y ∈ minimal m (2*i+1), y < 2^m from mins_lt h _ _) (gen_mon h i).1.1 (minimal_mon h _).1.1, mul_eq_zero h, ih, List.mem_append]
      have : ev m (minimal m (2*i+1)) (pw m e) = 0 ↔ e % sz m ∈ coset m (2*i+1) := by
        show ev m (mins m _ _) _ = 0 ↔ _
        rw [ev_mins h _ _ _ (pw_lt h e), pe_zero h _ _ _ (pw_lt h e)]
        unfold coset
        rw [List.mem_map]
        constructor
        · rintro ⟨j, hj, he⟩
          exact ⟨j, by simpa using hj, ((pw_eq_iff h _ _).1 he).symm⟩
        · rintro ⟨j, hj, he⟩
          exact ⟨j, by simpa using hj, (pw_eq_iff h _ _).2 he.symm⟩
      rw [this]
    · exact ih

omit h in
theorem mul_mod_congr {a b : Nat} (c : Nat) (s : Nat) (e : a % s = b % s) : (c * a) % s = (c * b) % s := by
  rw [Nat.mul_mod, e, ← Nat.mul_mod]

theorem exs_double (i e : Nat) (he : e ∈ exs m i) : (2 * e) % sz m ∈ exs m i := by
  induction i with
  | zero => simp [exs] at he
  | succ i ih =>
    unfold exs at he ⊢
    split at he
    · rename_i hn
      rw [if_pos hn, List.mem_append]
      rcases List.mem_append.1 he with he | he
      · exact .inl (ih he)
      · right
        unfold coset at he ⊢
        obtain ⟨j, hj, rfl⟩ := List.mem_map.1 he
        have hj' : j < cyc m (2*i+1) := by simpa using hj
        rw [List.mem_map]
        have hcs := cyc_spec h (2*i+1)
        by_cases hlast : j + 1 < cyc m (2*i+1)
        · refine ⟨j+1, by simpa using hlast, ?_⟩
          rw [Nat.mul_mod_mod, Nat.pow_succ, Nat.mul_comm (2^j) 2, Nat.mul_assoc]
        · refine ⟨0, by simp; omega, ?_⟩
          rw [Nat.mul_mod_mod, ← Nat.mul_assoc, Nat.mul_comm 2 (2^j), ← Nat.pow_succ, show j.succ = cyc m (2*i+1) by omega, hcs.2.2.1, Nat.pow_zero, Nat.one_mul]
    · rename_i hn
      rw [if_neg hn]; exact ih he

theorem exs_lt (i e : Nat) (he : e ∈ exs m i) : e < sz m := by
  induction i with
  | zero => simp [exs] at he
  | succ i ih =>
    unfold exs at he
    split at he
    · rcases List.mem_append.1 he with he | he
      · exact ih he
      · obtain ⟨j, _, rfl⟩ := List.mem_map.1 he
        exact Nat.mod_lt _ (sz_pos h)
    · exact ih he

theorem exs_doubles (i e k : Nat) (he : e ∈ exs m i) : (2^k * e) % sz m ∈ exs m i := by
  induction k with
  | zero => rw [Nat.pow_zero, Nat.one_mul, Nat.mod_eq_of_lt (exs_lt h i e he)]; exact he
  | succ k ih =>
    have := exs_double h i _ ih
    rw [Nat.mul_mod_mod] at this
    rwa [Nat.pow_succ, Nat.mul_comm (2^k) 2, Nat.mul_assoc]

omit h in
theorem exs_mono (i e : Nat) (he : e ∈ exs m i) : e ∈ exs m (i+1) := by
  unfold exs; split
  · exact List.mem_append.2 (.inl he)
  · exact he

theorem coset_nodup (n : Nat) : (coset m n).Nodup := by
  have hcs := cyc_spec h n
  unfold coset
  refine List.Pairwise.map _ (S := fun a b => a ≠ b) (R := fun a b => a < b ∧ b < cyc m n) ?_ ?_
  · intro a b ⟨hab, hb⟩ e
    have e2 := mul_mod_congr (2^(m-a)) (sz m) e
    rw [← Nat.mul_assoc, ← Nat.mul_assoc, ← Nat.pow_add, ← Nat.pow_add, show m - a + a = m by omega, show m - a + b = m + (b - a) by omega, Nat.pow_add, Nat.mul_assoc, two_pow_mod h, two_pow_mod h] at e2
    exact hcs.2.2.2 (b - a) (by omega) (by omega) e2.symm
  · refine List.Pairwise.imp_of_mem (fun ha hb hab => ⟨hab, by simpa using hb⟩) (List.pairwise_lt_range)

theorem exs_nodup (i : Nat) : (exs m i).Nodup ∧ (exs m i).length + 1 = (gen m i).length := by
  induction i with
  | zero => exact ⟨List.nodup_nil, rfl⟩
  | succ i ih =>
    have e1 : exs m (i+1) = if ev m (gen m i) (pw m (2*i+1)) ≠ 0 then exs m i ++ coset m (2*i+1) else exs m i := rfl
    have e2 : gen m (i+1) = if ev m (gen m i) (pw m (2*i+1)) ≠ 0 then times m (gen m i) (minimal m (2*i+1)) else gen m i := rfl
    rw [e1, e2]
    split
    · rename_i hn
      refine ⟨List.nodup_append.2 ⟨ih.1, coset_nodup h _, fun a ha b hb e => ?_⟩, ?_⟩
      · subst e
        obtain ⟨j, hj, rfl⟩ := List.mem_map.1 hb
        have hj' : j < cyc m (2*i+1) := by simpa using hj
        have hcs := cyc_spec h (2*i+1)
        have := exs_doubles h i _ (m - j) ha
        rw [Nat.mul_mod_mod, ← Nat.mul_assoc, ← Nat.pow_add, show m - j + j = m by omega, two_pow_mod h] at this
        exact hn ((gen_root h i _).2 this)
      · rw [(times_mon h (gen_mon h i).1 (minimal_mon h _).1).1, prod_length, (minimal_mon h _).2, List.length_append]
        have : (coset m (2*i+1)).length = cyc m (2*i+1) := by simp [coset]
        have hg := List.length_pos_iff.2 (gen_mon h i).1.1
        omega
    · exact ih

theorem gen_odd (i : Nat) : (2*i+1) % sz m ∈ exs m (i+1) := by
  unfold exs
  split
  · refine List.mem_append.2 (.inr (List.mem_map.2 ⟨0, ?_, by simp⟩))
    have := (cyc_spec h (2*i+1)).2.1
    simp; omega
  · rename_i hn
    exact (gen_root h i _).1 (by simpa using hn)

omit h in
theorem exs_le (i j e : Nat) (hij : i ≤ j) (he : e ∈ exs m i) : e ∈ exs m j := by
  induction j with
  | zero => have : i = 0 := by omega
            subst this; exact he
  | succ j ih =>
    by_cases hh : i = j + 1
    · subst hh; exact he
    · exact exs_mono j e (ih (by omega))

/-- The generator is 0 at the first 2 t powers. -/
theorem gen_powers (t : Nat) : ∀ k, 1 ≤ k → k ≤ 2 * t → k % sz m ∈ exs m t := by
  intro k
  induction k using Nat.strongRecOn with
  | _ k ih =>
    intro h1 h2
    by_cases hp : k % 2 = 0
    · have := exs_double h t _ (ih (k/2) (by omega) (by omega) (by omega))
      rw [Nat.mul_mod_mod, show 2 * (k / 2) = k by omega] at this
      exact this
    · have := exs_le (k/2+1) t _ (by omega) (gen_odd h (k/2))
      rwa [show 2 * (k/2) + 1 = k by omega] at this

omit h in
/-- Each root is a power of one of the first 2 t ones, doubled. -/
theorem exs_from (t e : Nat) (he : e ∈ exs m t) : ∃ k j, 1 ≤ k ∧ k ≤ 2 * t ∧ e = (2^j * k) % sz m := by
  induction t with
  | zero => simp [exs] at he
  | succ t ih =>
    unfold exs at he
    split at he
    · rcases List.mem_append.1 he with he | he
      · obtain ⟨k, j, h1, h2, h3⟩ := ih he
        exact ⟨k, j, h1, by omega, h3⟩
      · obtain ⟨j, _, rfl⟩ := List.mem_map.1 he
        exact ⟨2*t+1, j, by omega, by omega, rfl⟩
    · obtain ⟨k, j, h1, h2, h3⟩ := ih he
      exact ⟨k, j, h1, by omega, h3⟩

theorem genr_gen (i : Nat) : genr m (2 * i) = gen m i := by
  induction i with
  | zero => rfl
  | succ i ih =>
    have e1 : genr m (2 * i + 1) = gen m (i+1) := by
      show (if ev m (genr m (2*i)) (pw m (2*i+1)) ≠ 0 then times m (genr m (2*i)) (minimal m (2*i+1)) else genr m (2*i)) = _
      rw [ih]; rfl
    show (if ev m (genr m (2*i+1)) (pw m (2*i+1+1)) ≠ 0 then times m (genr m (2*i+1)) (minimal m (2*i+1+1)) else genr m (2*i+1)) = _
    rw [e1, if_neg]
    rw [Decidable.not_not]
    exact (gen_root h (i+1) _).2 (gen_powers h (i+1) _ (by omega) (by omega))
end
end Gf
