/- The shortest register, step by step (Berlekamp, Massey): what it finds. No program in sight. -/
import Derived.Test.YtjompiihdnaogaaBw
namespace Gf

structure Bms where
  now : List Nat
  was : List Nat
  len : Nat
  gap : Nat
  last : Nat

/-- What the register tells wrongly of s n. -/
def disc (m : Nat) (s : List Nat) (now : List Nat) (L n : Nat) : Nat :=
  s.getD n 0 ^^^ sx (fun i => mul m (now.getD (i+1) 0) (s.getD (n - (i+1)) 0)) (min L (now.length - 1))
/-- .. the first I terms of it. -/
def disci (m : Nat) (s : List Nat) (now : List Nat) (n I : Nat) : Nat :=
  s.getD n 0 ^^^ sx (fun i => mul m (now.getD (i+1) 0) (s.getD (n - (i+1)) 0)) I

def nxf (m : Nat) (now was : List Nat) (gap by' : Nat) (j : Nat) : Nat := now.getD j 0 ^^^ (if gap ≤ j then mul m by' (was.getD (j - gap) 0) else 0)
def nextP (m : Nat) (now was : List Nat) (gap by' : Nat) : List Nat := (List.range (max now.length (was.length + gap))).map (nxf m now was gap by')

def bmStep (m : Nat) (s : List Nat) (n : Nat) (b : Bms) : Bms :=
  if disc m s b.now b.len n = 0 then { b with gap := b.gap + 1 }
  else if 2 * b.len ≤ n then ⟨nextP m b.now b.was b.gap (mul m (disc m s b.now b.len n) (inv m b.last)), b.now, n + 1 - b.len, 1, disc m s b.now b.len n⟩
  else ⟨nextP m b.now b.was b.gap (mul m (disc m s b.now b.len n) (inv m b.last)), b.was, b.len, b.gap + 1, b.last⟩

def bms (m : Nat) (s : List Nat) : Nat → Bms
  | 0 => ⟨[1], [1], 0, 1, 1⟩
  | n+1 => bmStep m s n (bms m s n)

/-- Without noughts at its end, but of one coefficient at least. -/
def trim1 : List Nat → List Nat
  | [] => []
  | c :: p => c :: trim p

def locator (m : Nat) (s : List Nat) : List Nat := trim1 (bms m s s.length).now

theorem nextP_getD (m : Nat) (now was : List Nat) (gap by' j : Nat) : (nextP m now was gap by').getD j 0 = nxf m now was gap by' j := by
  unfold nextP
  rcases Nat.lt_or_ge j (max now.length (was.length + gap)) with hj | hj
  · simp [List.getD, hj]
  · have h1 : now.length ≤ j := by omega
    have h2 : was.length + gap ≤ j := by omega
    have e : nxf m now was gap by' j = 0 := by
      unfold nxf
      rw [getD_ge h1, getD_ge (show was.length ≤ j - gap by omega), mul_zero]
      split <;> rfl
    rw [e]
    exact getD_ge (by simp; omega)

section
variable {m : Nat} (h : Ok m)
include h

theorem nextP_lt {now was : List Nat} {gap by' : Nat} (hn : ∀ y ∈ now, y < 2^m) : ∀ y ∈ nextP m now was gap by', y < 2^m := by
  intro y hy
  unfold nextP at hy
  obtain ⟨j, _, rfl⟩ := List.mem_map.1 hy
  unfold nxf
  refine Nat.xor_lt_two_pow (getD_lt hn j) ?_
  split
  · exact mul_lt h _ _
  · exact Nat.two_pow_pos m

theorem cv_next (s now was : List Nat) (gap by' k : Nat) (hs : ∀ y ∈ s, y < 2^m) (hn : ∀ y ∈ now, y < 2^m) (hw : ∀ y ∈ was, y < 2^m) (hb : by' < 2^m) :
    cv m s (nextP m now was gap by') k = cv m s now k ^^^ (if gap ≤ k then mul m by' (cv m s was (k - gap)) else 0) := by
  have e : cv m s (nextP m now was gap by') k = cv m s now k ^^^ sx (fun i => mul m (if gap ≤ i then mul m by' (was.getD (i - gap) 0) else 0) (s.getD (k - i) 0)) (k+1) := by
    unfold cv
    rw [← sx_xor]
    refine sx_congr _ (fun i _ => ?_)
    rw [nextP_getD, nxf, xor_mul h (getD_lt hn i) (by split; exact mul_lt h _ _; exact Nat.two_pow_pos m) _ (getD_lt hs _)]
  rw [e]
  congr 1
  by_cases hk : gap ≤ k
  · rw [if_pos hk]
    have e2 : k + 1 = gap + (k - gap + 1) := by omega
    rw [e2, sx_shift _ _ _ (fun i hi => by rw [if_neg (by omega), zero_mul])]
    unfold cv
    rw [sx_mul h _ hb _ _ (fun i _ => mul_lt h _ _)]
    refine sx_congr _ (fun i hi => ?_)
    rw [if_pos (by omega), show gap + i - gap = i by omega, show k - (gap + i) = k - gap - i by omega, mul_assoc h hb (getD_lt hw i) (getD_lt hs _)]
  · rw [if_neg hk]
    rw [sx_congr (g := fun _ => 0) _ (fun i hi => by rw [if_neg (by omega), zero_mul]), sx_zero]

/-- What holds ahead of step n. -/
structure BmInv (m : Nat) (s : List Nat) (n : Nat) (b : Bms) : Prop where
  one : b.now.getD 0 0 = 1
  nl : ∀ y ∈ b.now, y < 2^m
  wl : ∀ y ∈ b.was, y < 2^m
  ln : b.len ≤ n
  deg : ∀ i, b.len < i → b.now.getD i 0 = 0
  zero : ∀ k, b.len ≤ k → k < n → cv m s b.now k = 0
  g1 : 1 ≤ b.gap
  sum : b.gap + b.len ≤ n + 1
  wdeg : ∀ i, n + 1 - b.gap - b.len < i → b.was.getD i 0 = 0
  wzero : ∀ k, n + 1 - b.gap - b.len ≤ k → k + b.gap < n → cv m s b.was k = 0
  wlast : b.gap ≤ n → cv m s b.was (n - b.gap) = b.last
  l0 : b.last ≠ 0
  ll : b.last < 2^m
  first : n < b.gap → b.len = 0

theorem disc_cv (s now : List Nat) (L n : Nat) (hs : ∀ y ∈ s, y < 2^m) (h1 : now.getD 0 0 = 1) (hL : L ≤ n) (hd : ∀ i, L < i → now.getD i 0 = 0) : disc m s now L n = cv m s now n := by
  unfold disc cv
  rw [sx_head, h1, one_mul h (getD_lt hs _), Nat.sub_zero]
  congr 1
  refine (sx_more _ _ _ (by omega) (fun i h1 h2 => ?_)).symm
  rcases Nat.lt_or_ge i L with hi | hi
  · rw [getD_ge (show now.length ≤ i + 1 by omega), zero_mul]
  · rw [hd (i+1) (by omega), zero_mul]

theorem inv_zero (s : List Nat) : BmInv m s 0 (bms m s 0) where
  one := rfl
  nl := by intro y hy; have : y = 1 := by simpa [bms] using hy
           subst this; exact one_lt m h
  wl := by intro y hy; have : y = 1 := by simpa [bms] using hy
           subst this; exact one_lt m h
  ln := Nat.le_refl _
  deg := fun i hi => getD_ge (by simp [bms] at hi ⊢; omega)
  zero := fun k _ hk => by omega
  g1 := Nat.le_refl _
  sum := by simp [bms]
  wdeg := fun i hi => getD_ge (by simp [bms] at hi ⊢; omega)
  wzero := fun k _ hk => by omega
  wlast := fun hg => by simp [bms] at hg
  l0 := by simp [bms]
  ll := one_lt m h
  first := fun _ => rfl

theorem inv_step (s : List Nat) (hs : ∀ y ∈ s, y < 2^m) (n : Nat) (b : Bms) (I : BmInv m s n b) : BmInv m s (n+1) (bmStep m s n b) := by
  have hd := disc_cv h s b.now b.len n hs I.one I.ln I.deg
  unfold bmStep
  by_cases h0 : disc m s b.now b.len n = 0
  · rw [if_pos h0]
    have hz : cv m s b.now n = 0 := by rw [← hd]; exact h0
    exact {
      one := I.one, nl := I.nl, wl := I.wl, deg := I.deg, l0 := I.l0, ll := I.ll
      ln := Nat.le_succ_of_le I.ln
      zero := fun k h1 h2 => by
        rcases Nat.lt_or_ge k n with h3 | h3
        · exact I.zero k h1 h3
        · have : k = n := by omega
          rw [this]; exact hz
      g1 := by have := I.g1; simp
      sum := by have := I.sum; show b.gap + 1 + b.len ≤ _; omega
      wdeg := fun i hi => I.wdeg i (by
        have hi' : n + 1 + 1 - (b.gap + 1) - b.len < i := hi
        omega)
      wzero := fun k h1 h2 => by
        have h1' : n + 1 + 1 - (b.gap + 1) - b.len ≤ k := h1
        have h2' : k + (b.gap + 1) < n + 1 := h2
        exact I.wzero k (by omega) (by omega)
      wlast := fun hg => by
        have hg' : b.gap + 1 ≤ n + 1 := hg
        show cv m s b.was (n + 1 - (b.gap + 1)) = b.last
        rw [show n + 1 - (b.gap + 1) = n - b.gap by omega]
        exact I.wlast (by omega)
      first := fun hg => by
        have hg' : n + 1 < b.gap + 1 := hg
        exact I.first (by omega) }
  · rw [if_neg h0]
    have hdl : disc m s b.now b.len n < 2^m := by
      rw [hd]; exact sx_lt _ _ (fun i _ => mul_lt h _ _)
    generalize hD : disc m s b.now b.len n = D at *
    have hby := mul_lt h D (inv m b.last)
    have hkill : mul m (mul m D (inv m b.last)) b.last = D := by
      rw [mul_assoc h hdl (inv_lt h _) I.ll, mul_comm (inv m b.last), mul_inv h I.ll I.l0, mul_one h hdl]
    generalize hB : mul m D (inv m b.last) = B at *
    have e1 : (nextP m b.now b.was b.gap B).getD 0 0 = 1 := by
      rw [nextP_getD, nxf, I.one, if_neg (by have := I.g1; omega)]; rfl
    have hnl := nextP_lt h (now := b.now) (was := b.was) (gap := b.gap) (by' := B) I.nl
    -- the values of the new register
    have hzero : ∀ k, b.len ≤ k → n + 1 - b.len ≤ k → k < n + 1 → cv m s (nextP m b.now b.was b.gap B) k = 0 := fun k h1 h2 h3 => by
      rw [cv_next h s b.now b.was b.gap B k hs I.nl I.wl hby]
      have hg := I.sum
      by_cases hkn : k < n
      · rw [I.zero k h1 hkn, if_pos (by omega), I.wzero (k - b.gap) (by omega) (by omega), mul_zero]; rfl
      · have hk : k = n := by omega
        subst hk
        by_cases hf : k < b.gap
        · have := I.first hf; omega
        · rw [if_pos (by omega), I.wlast (by omega), hkill, ← hd, Nat.xor_self]
    have hdeg : ∀ i, b.len < i → n + 1 - b.len < i → (nextP m b.now b.was b.gap B).getD i 0 = 0 := fun i h1 h2 => by
      have hg := I.sum
      rw [nextP_getD, nxf, I.deg i h1]
      split
      · rw [I.wdeg (i - b.gap) (by omega), mul_zero]; rfl
      · rfl
    by_cases h2 : 2 * b.len ≤ n
    · rw [if_pos h2]
      exact {
        one := e1, nl := hnl, wl := I.nl
        ln := by show n + 1 - b.len ≤ n + 1; omega
        deg := fun i hi => by
          have hi' : n + 1 - b.len < i := hi
          exact hdeg i (by omega) hi'
        zero := fun k h3 h4 => by
          have h3' : n + 1 - b.len ≤ k := h3
          exact hzero k (by omega) h3' h4
        g1 := Nat.le_refl _
        sum := by show 1 + (n + 1 - b.len) ≤ n + 1 + 1; omega
        wdeg := fun i hi => by
          have hi' : n + 1 + 1 - 1 - (n + 1 - b.len) < i := hi
          exact I.deg i (by omega)
        wzero := fun k h3 h4 => by
          have h3' : n + 1 + 1 - 1 - (n + 1 - b.len) ≤ k := h3
          have h4' : k + 1 < n + 1 := h4
          exact I.zero k (by omega) (by omega)
        wlast := fun _ => by
          show cv m s b.now (n + 1 - 1) = D
          rw [show n + 1 - 1 = n by omega, ← hd]
        l0 := h0
        ll := hdl
        first := fun hg => by
          have hg' : n + 1 < 1 := hg
          omega }
    · rw [if_neg h2]
      exact {
        one := e1, nl := hnl, wl := I.wl
        ln := Nat.le_succ_of_le I.ln
        deg := fun i hi => by
          have hi' : b.len < i := hi
          exact hdeg i hi' (by omega)
        zero := fun k h3 h4 => by
          have h3' : b.len ≤ k := h3
          exact hzero k h3' (by omega) h4
        g1 := by have := I.g1; simp
        sum := by have := I.sum; show b.gap + 1 + b.len ≤ _; omega
        wdeg := fun i hi => I.wdeg i (by
          have hi' : n + 1 + 1 - (b.gap + 1) - b.len < i := hi
          omega)
        wzero := fun k h1 h2 => by
          have h1' : n + 1 + 1 - (b.gap + 1) - b.len ≤ k := h1
          have h2' : k + (b.gap + 1) < n + 1 := h2
          exact I.wzero k (by omega) (by omega)
        wlast := fun hg => by
          have hg' : b.gap + 1 ≤ n + 1 := hg
          show cv m s b.was (n + 1 - (b.gap + 1)) = b.last
          rw [show n + 1 - (b.gap + 1) = n - b.gap by omega]
          exact I.wlast (by omega)
        l0 := I.l0
        ll := I.ll
        first := fun hg => by
          have hg' : n + 1 < b.gap + 1 := hg
          exact I.first (by omega) }

theorem inv_all (s : List Nat) (hs : ∀ y ∈ s, y < 2^m) (n : Nat) : BmInv m s n (bms m s n) := by
  induction n with
  | zero => exact inv_zero h s
  | succ n ih => exact inv_step h s hs n _ ih

/-- The register is no longer than there are bits. -/
theorem len_le (w : Nat → Bool) (L T : Nat) (hL : L ≤ sz m) (s : List Nat) (hs : ∀ y ∈ s, y < 2^m) (hsy : ∀ k, k < T → s.getD k 0 = syn m w L (k+1)) (n : Nat) (hn : n ≤ T) : (bms m s n).len ≤ (supp w L).length := by
  induction n with
  | zero => exact Nat.zero_le _
  | succ n ih =>
    have ih' := ih (by omega)
    have I := inv_all h s hs n
    show (bmStep m s n (bms m s n)).len ≤ _
    generalize bms m s n = b at *
    have hd := disc_cv h s b.now b.len n hs I.one I.ln I.deg
    unfold bmStep
    by_cases h0 : disc m s b.now b.len n = 0
    · rw [if_pos h0]; exact ih'
    · rw [if_neg h0]
      by_cases h2 : 2 * b.len ≤ n
      · rw [if_pos h2]
        show n + 1 - b.len ≤ _
        rcases Nat.lt_or_ge (supp w L).length (n + 1 - b.len) with hlt | hge
        · exfalso
          have hln := I.ln
          have hall := cv_all h w L T hL s b.now I.nl hsy b.len (by omega) I.deg (fun k h3 h4 => I.zero k h3 (by omega))
          apply h0
          rw [hd, cv_words h w L T hL s b.now I.nl hsy n (by omega) (fun i hi => I.deg i (by omega))]
          rw [sx_congr (g := fun _ => 0) _ (fun p hp => ?_), sx_zero]
          cases hw : w p with
          | false => rfl
          | true => rw [if_pos rfl, hall p hp hw, mul_zero, zero_mul]
        · exact hge
      · rw [if_neg h2]; exact ih'

omit h in
theorem trim1_spec (p : List Nat) (hp : p ≠ []) : trim1 p ≠ [] ∧ (∀ i, (trim1 p).getD i 0 = p.getD i 0) ∧ (trim1 p).length ≤ p.length ∧ (1 < (trim1 p).length → (trim1 p).getD ((trim1 p).length - 1) 0 ≠ 0) := by
  have hT : ∀ p : List Nat, (∀ i, (trim p).getD i 0 = p.getD i 0) ∧ (trim p ≠ [] → (trim p).getD ((trim p).length - 1) 0 ≠ 0) := by
    intro p
    induction p with
    | nil => exact ⟨fun i => rfl, fun h => absurd rfl h⟩
    | cons c p ih =>
      unfold trim
      split
      · rename_i hc
        refine ⟨fun i => ?_, fun h => absurd rfl h⟩
        cases i with
        | zero => simp [hc.2]
        | succ i =>
          have := ih.1 i
          rw [hc.1] at this
          simpa using this
      · rename_i hc
        refine ⟨fun i => ?_, fun _ => ?_⟩
        · cases i with
          | zero => rfl
          | succ i => simpa using ih.1 i
        · by_cases ht : trim p = []
          · simp only [ht, List.length_cons, List.length_nil]
            exact fun e => hc ⟨ht, by simpa using e⟩
          · have h1 := ih.2 ht
            have h2 := List.length_pos_iff.2 ht
            rw [List.length_cons, show (trim p).length + 1 - 1 = ((trim p).length - 1) + 1 by omega]
            simpa using h1
  cases p with
  | nil => exact absurd rfl hp
  | cons c p =>
    refine ⟨by simp [trim1], fun i => ?_, ?_, ?_⟩
    · cases i with
      | zero => rfl
      | succ i => simpa [trim1] using (hT p).1 i
    · simp only [trim1, List.length_cons]
      have := trim_length p
      omega
    · intro hl
      simp only [trim1, List.length_cons] at hl ⊢
      have ht : trim p ≠ [] := fun e => by rw [e] at hl; simp at hl
      have h1 := (hT p).2 ht
      have h2 := List.length_pos_iff.2 ht
      rw [show (trim p).length + 1 - 1 = ((trim p).length - 1) + 1 by omega]
      simpa using h1

/-- The locator of at most t bits out of 2 t sums: as many coefficients as bits, and one more; 0 at just the bits' inverses. -/
theorem locator_spec (w : Nat → Bool) (L t : Nat) (hL : L ≤ sz m) (s : List Nat) (hlen : s.length = 2 * t) (hs : ∀ y ∈ s, y < 2^m) (hsy : ∀ k, k < 2 * t → s.getD k 0 = syn m w L (k+1)) (hw : (supp w L).length ≤ t) :
    (locator m s).length = (supp w L).length + 1 ∧ ∀ p, p < L → (ev m (locator m s) (yv m p) = 0 ↔ w p = true) := by
  have I := inv_all h s hs (2 * t)
  have hle := len_le h w L (2*t) hL s hs hsy (2*t) (Nat.le_refl _)
  have hall := cv_all h w L (2*t) hL s _ I.nl hsy _ (by omega) I.deg (fun k h3 h4 => I.zero k h3 (by omega))
  unfold locator
  rw [hlen]
  generalize bms m s (2*t) = b at *
  have hne : b.now ≠ [] := fun e => by have := I.one; rw [e] at this; simp at this
  obtain ⟨t1, t2, t3, t4⟩ := trim1_spec b.now hne
  have hlt : ∀ y ∈ trim1 b.now, y < 2^m := by
    intro y hy
    obtain ⟨i, hi, rfl⟩ := List.mem_iff_getElem.1 hy
    have := t2 i
    rw [show (trim1 b.now).getD i 0 = (trim1 b.now)[i] by simp [List.getD, hi]] at this
    rw [this]; exact getD_lt I.nl i
  have hev : ∀ x, x < 2^m → ev m (trim1 b.now) x = ev m b.now x := fun x hx => by
    rw [ev_sx h _ x (max (trim1 b.now).length b.now.length) hx hlt (fun i hi => getD_ge (by omega)), ev_sx h b.now x (max (trim1 b.now).length b.now.length) hx I.nl (fun i hi => getD_ge (by omega))]
    exact sx_congr _ (fun i _ => by rw [t2])
  have hroot : ∀ p, p < L → w p = true → ev m (trim1 b.now) (yv m p) = 0 := fun p hp hwp => by rw [hev _ (yv_lt h p)]; exact hall p hp hwp
  have hone : (trim1 b.now).getD 0 0 = 1 := by rw [t2]; exact I.one
  -- at most as long as there are bits, and one more
  have hl1 : (trim1 b.now).length ≤ (supp w L).length + 1 := by
    rcases Nat.lt_or_ge ((supp w L).length + 1) (trim1 b.now).length with hgt | hle'
    · exfalso
      have := t4 (by omega)
      rw [t2] at this
      exact this (I.deg _ (by omega))
    · exact hle'
  have yinj : ∀ p q, p < L → q < L → yv m p = yv m q → p = q := fun p q hp hq e => by
    have h1 := pw_yv h (show p ≤ sz m by omega)
    have h2 := pw_yv h (show q ≤ sz m by omega)
    rw [← e] at h2
    have h3 := mul_left_cancel h (yv_lt h p) (pw_lt h p) (pw_lt h q) (pw_ne h _) (by rw [mul_comm, h1, mul_comm, h2])
    exact pw_inj h (by omega) (by omega) h3
  have hnd : ∀ l : List Nat, l.Nodup → (∀ p ∈ l, p < L) → (l.map (yv m)).Nodup := fun l hl hb => by
    refine List.Pairwise.map _ (S := fun a b => a ≠ b) (R := fun a b => a ≠ b ∧ a < L ∧ b < L) ?_ ?_
    · intro a b ⟨hab, ha, hb⟩ e
      exact hab (yinj a b ha hb e)
    · exact List.Pairwise.imp_of_mem (fun ha hb' hab => ⟨hab, hb _ ha, hb _ hb'⟩) hl
  have hcontra : ∀ l : List Nat, l.Nodup → (∀ p ∈ l, p < L ∧ ev m (trim1 b.now) (yv m p) = 0) → (trim1 b.now).length ≤ l.length → False := fun l hl hb hlen' => by
    have := roots_zero h l.length (trim1 b.now) (l.map (yv m)) hlen' (by simp) (hnd l hl fun p hp => (hb p hp).1) hlt (by
      intro x hx
      obtain ⟨p, hp, rfl⟩ := List.mem_map.1 hx
      exact ⟨yv_lt h p, (hb p hp).2⟩)
    have hpos := List.length_pos_iff.2 t1
    have h0 := this ((trim1 b.now).getD 0 0) (by simp [List.getD, hpos])
    rw [hone] at h0; omega
  have hsup : ∀ p ∈ supp w L, p < L ∧ ev m (trim1 b.now) (yv m p) = 0 := fun p hp => ⟨(mem_supp.1 hp).1, hroot p (mem_supp.1 hp).1 (mem_supp.1 hp).2⟩
  have hl2 : (supp w L).length < (trim1 b.now).length := by
    rcases Nat.lt_or_ge (supp w L).length (trim1 b.now).length with hgt | hle'
    · exact hgt
    · exact absurd (hcontra _ (supp_nodup w L) hsup hle') id
  refine ⟨by omega, fun p hp => ⟨fun he => ?_, fun hwp => hroot p hp hwp⟩⟩
  cases hwp : w p with
  | true => rfl
  | false =>
    exfalso
    refine hcontra (p :: supp w L) (List.nodup_cons.2 ⟨fun hm => ?_, supp_nodup w L⟩) ?_ (by simp; omega)
    · have := (mem_supp.1 hm).2; rw [hwp] at this; cases this
    · intro q hq
      rcases List.mem_cons.1 hq with rfl | hq
      · exact ⟨hp, he⟩
      · exact hsup q hq
end
end Gf
