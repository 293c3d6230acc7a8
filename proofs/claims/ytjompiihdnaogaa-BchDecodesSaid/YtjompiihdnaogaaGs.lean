/- Plain facts on equations over the field: unknowns left out one by one; the places of turned bits (Peterson). No program in sight. -/
import Derived.Test.YtjompiihdnaogaaBh
namespace Gf
/-- The least row from k on, before n, that has something in column i; else n. -/
def pv (A : Nat → Nat → Nat) (i n : Nat) : Nat → Nat → Nat
  | 0, k => k
  | g+1, k => if k < n ∧ A k i = 0 then pv A i n g (k+1) else k
def sw (A : Nat → Nat → Nat) (i k : Nat) : Nat → Nat → Nat := fun r => if r = i then A k else if r = k then A i else A r
def sc (m : Nat) (A : Nat → Nat → Nat) (i : Nat) : Nat → Nat → Nat := fun r j => if r = i then mul m (A i j) (inv m (A i i)) else A r j
def el (m : Nat) (A : Nat → Nat → Nat) (i : Nat) : Nat → Nat → Nat := fun r j => if r = i then A r j else A r j ^^^ mul m (A r i) (A i j)
/-- The pivot's row at step i. -/
def pr (A : Nat → Nat → Nat) (i n : Nat) : Nat := pv A i n (n - i) i
def gstep (m n : Nat) (A : Nat → Nat → Nat) (i : Nat) : Nat → Nat → Nat := el m (sc m (sw A i (pr A i n)) i) i
/-- The rows behind I unknowns; nothing, if they have no one answer. -/
def gs (m n : Nat) (A : Nat → Nat → Nat) : Nat → Option (Nat → Nat → Nat)
  | 0 => some A
  | I+1 => match gs m n A I with
    | none => none
    | some B => if pr B I n < n then some (gstep m n B I) else none

theorem pv_spec (A : Nat → Nat → Nat) (i n : Nat) : ∀ g k, k + g = n → k ≤ pv A i n g k ∧ pv A i n g k ≤ n ∧ (∀ r, k ≤ r → r < pv A i n g k → A r i = 0) ∧ (pv A i n g k < n → A (pv A i n g k) i ≠ 0) := by
  intro g
  induction g with
  | zero => intro k hk; simp only [pv]; exact ⟨Nat.le_refl _, by omega, fun r h1 h2 => by omega, fun h => by omega⟩
  | succ g ih =>
    intro k hk
    rw [pv]
    by_cases hc : k < n ∧ A k i = 0
    · rw [if_pos hc]
      obtain ⟨h1, h2, h3, h4⟩ := ih (k+1) (by omega)
      refine ⟨by omega, h2, fun r hr1 hr2 => ?_, h4⟩
      by_cases e : r = k
      · rw [e]; exact hc.2
      · exact h3 r (by omega) hr2
    · rw [if_neg hc]
      exact ⟨Nat.le_refl _, by omega, fun r h1 h2 => by omega, fun h h0 => hc ⟨h, h0⟩⟩
theorem pr_spec (A : Nat → Nat → Nat) {i n : Nat} (hi : i ≤ n) : i ≤ pr A i n ∧ pr A i n ≤ n ∧ (∀ r, i ≤ r → r < pr A i n → A r i = 0) ∧ (pr A i n < n → A (pr A i n) i ≠ 0) := pv_spec A i n (n - i) i (by omega)

section
variable {m : Nat} (h : Ok m)
include h
def Fits (m n : Nat) (A : Nat → Nat → Nat) : Prop := ∀ r, r < n → ∀ j, A r j < 2^m
omit h in
theorem sw_fits {n i k : Nat} {A : Nat → Nat → Nat} (hA : Fits m n A) (hi : i < n) (hk : k < n) : Fits m n (sw A i k) := fun r hr j => by
  unfold sw
  split
  · exact hA _ hk j
  · split
    · exact hA _ hi j
    · exact hA _ hr j
theorem sc_fits {n i : Nat} {A : Nat → Nat → Nat} (hA : Fits m n A) : Fits m n (sc m A i) := fun r hr j => by
  unfold sc
  split
  · exact mul_lt h _ _
  · exact hA r hr j
theorem el_fits {n i : Nat} {A : Nat → Nat → Nat} (hA : Fits m n A) : Fits m n (el m A i) := fun r hr j => by
  unfold el
  split
  · exact hA r hr j
  · exact Nat.xor_lt_two_pow (hA r hr j) (mul_lt h _ _)

/-- x makes all rows 0 (its last place is the right side's). -/
def Z (m n : Nat) (A : Nat → Nat → Nat) (x : Nat → Nat) : Prop := ∀ r, r < n → sx (fun j => mul m (A r j) (x j)) (n+1) = 0

omit h in
theorem z_sw {n i k : Nat} {A : Nat → Nat → Nat} {x : Nat → Nat} (hi : i < n) (hk : k < n) (hz : Z m n (sw A i k) x) : Z m n A x := fun r hr => by
  by_cases e1 : r = i
  · subst e1
    by_cases e2 : k = r
    · have := hz r hr
      unfold sw at this
      rw [if_pos rfl, e2] at this
      exact this
    · have := hz k hk
      unfold sw at this
      rw [if_neg e2, if_pos rfl] at this
      exact this
  · by_cases e2 : r = k
    · subst e2
      have := hz i hi
      unfold sw at this
      rw [if_pos rfl] at this
      exact this
    · have := hz r hr
      unfold sw at this
      rw [if_neg e1, if_neg e2] at this
      exact this
theorem z_sc {n i : Nat} {A : Nat → Nat → Nat} {x : Nat → Nat} (hA : Fits m n A) (hx : ∀ j, x j < 2^m) (hi : i < n) (h0 : A i i ≠ 0) (hz : Z m n (sc m A i) x) : Z m n A x := fun r hr => by
  have hzr := hz r hr
  by_cases e : r = i
  · subst e
    have e1 : sx (fun j => mul m (sc m A r r j) (x j)) (n+1) = mul m (inv m (A r r)) (sx (fun j => mul m (A r j) (x j)) (n+1)) := by
      rw [sx_mul h _ (inv_lt h _) _ _ (fun j _ => mul_lt h _ _)]
      refine sx_congr _ (fun j _ => ?_)
      unfold sc
      rw [if_pos rfl, mul_comm (A r j), mul_assoc h (inv_lt h _) (hA r hr j) (hx j)]
    rw [e1] at hzr
    rcases (mul_eq_zero h).1 hzr with h1 | h1
    · exact absurd h1 (inv_ne h h0)
    · exact h1
  · unfold sc at hzr
    simp only [if_neg e] at hzr
    exact hzr
theorem z_el {n i : Nat} {A : Nat → Nat → Nat} {x : Nat → Nat} (hA : Fits m n A) (hx : ∀ j, x j < 2^m) (hi : i < n) (hz : Z m n (el m A i) x) : Z m n A x := fun r hr => by
  have hzi : sx (fun j => mul m (A i j) (x j)) (n+1) = 0 := by
    have := hz i hi
    unfold el at this
    simpa using this
  by_cases e : r = i
  · subst e; exact hzi
  · have hzr := hz r hr
    have e1 : sx (fun j => mul m (el m A i r j) (x j)) (n+1) = sx (fun j => mul m (A r j) (x j)) (n+1) ^^^ mul m (A r i) (sx (fun j => mul m (A i j) (x j)) (n+1)) := by
      rw [sx_mul h _ (hA r hr i) _ _ (fun j _ => mul_lt h _ _), ← sx_xor]
      refine sx_congr _ (fun j _ => ?_)
      unfold el
      rw [if_neg e, xor_mul h (hA r hr j) (mul_lt h _ _) _ (hx j), mul_assoc h (hA r hr i) (hA i hi j) (hx j)]
    rw [e1, hzi, mul_zero, Nat.xor_zero] at hzr
    exact hzr

/-- The first I columns are those of 1. -/
def Un (n I : Nat) (A : Nat → Nat → Nat) : Prop := ∀ r, r < n → ∀ j, j < I → A r j = if r = j then 1 else 0

theorem gstep_all {n I : Nat} {B : Nat → Nat → Nat} (hI : I < n) (hf : Fits m n B) (hu : Un n I B) (hk : pr B I n < n) : Fits m n (gstep m n B I) ∧ Un n (I+1) (gstep m n B I) ∧ ∀ x, (∀ j, x j < 2^m) → Z m n (gstep m n B I) x → Z m n B x := by
  obtain ⟨p1, p2, p3, p4⟩ := pr_spec B (Nat.le_of_lt hI)
  unfold gstep
  generalize pr B I n = k at *
  have f1 := sw_fits hf hI hk
  have f2 := sc_fits (i := I) h f1
  have f3 := el_fits (i := I) h f2
  have hne : sw B I k I I ≠ 0 := by unfold sw; rw [if_pos rfl]; exact p4 hk
  have u1 : Un n I (sw B I k) := fun r hr j hj => by
    unfold sw
    by_cases e1 : r = I
    · rw [if_pos e1, hu k hk j hj, if_neg (by omega), if_neg (by omega)]
    · rw [if_neg e1]
      by_cases e2 : r = k
      · rw [if_pos e2, hu I hI j hj, if_neg (by omega), if_neg (by omega)]
      · rw [if_neg e2]; exact hu r hr j hj
  generalize hC : sw B I k = C at *
  have u2 : Un n I (sc m C I) := fun r hr j hj => by
    unfold sc
    by_cases e1 : r = I
    · rw [if_pos e1, u1 I hI j hj, if_neg (by omega), zero_mul, if_neg (by omega)]
    · rw [if_neg e1]; exact u1 r hr j hj
  have d2 : sc m C I I I = 1 := by unfold sc; rw [if_pos rfl]; exact mul_inv h (f1 I hI I) hne
  generalize hD : sc m C I = D at *
  refine ⟨f3, fun r hr j hj => ?_, fun x hx hz => ?_⟩
  · unfold el
    by_cases e1 : r = I
    · rw [if_pos e1]
      by_cases e2 : j = I
      · rw [e1, e2, d2, if_pos rfl]
      · rw [e1, u2 I hI j (by omega)]
    · rw [if_neg e1]
      by_cases e2 : j = I
      · rw [e2, d2, mul_one h (f2 r hr I), Nat.xor_self, if_neg e1]
      · rw [u2 I hI j (by omega), if_neg (show ¬ I = j by omega), mul_zero, Nat.xor_zero]
        exact u2 r hr j (by omega)
  · have z1 := z_el h f2 hx hI hz
    rw [← hD] at z1
    have z2 := z_sc h f1 hx hI hne z1
    rw [← hC] at z2
    exact z_sw hI hk z2

omit h in
theorem sx_at (r v L : Nat) : sx (fun j => if j = r then v else 0) L = if r < L then v else 0 := by
  induction L with
  | zero => rfl
  | succ L ih =>
    rw [sx, ih]
    by_cases e : L = r
    · subst e; rw [if_neg (by omega), if_pos rfl, if_pos (by omega), Nat.zero_xor]
    · rw [if_neg e, Nat.xor_zero]
      by_cases hl : r < L
      · rw [if_pos hl, if_pos (by omega)]
      · rw [if_neg hl, if_neg (by omega)]

theorem gs_spec {n : Nat} {A : Nat → Nat → Nat} (hA : Fits m n A) : ∀ I, I ≤ n → (∀ B, gs m n A I = some B → Fits m n B ∧ Un n I B ∧ ∀ x, (∀ j, x j < 2^m) → Z m n B x → Z m n A x) ∧
    (gs m n A I = none → ∃ x, (∀ j, x j < 2^m) ∧ x n = 0 ∧ (∃ j, j < n ∧ x j ≠ 0) ∧ Z m n A x) := by
  intro I
  induction I with
  | zero => exact fun _ => ⟨fun B hB => (by cases hB; exact ⟨hA, fun r _ j hj => (by omega), fun x _ hz => hz⟩), fun hn => (by cases hn)⟩
  | succ I ih =>
    intro hI
    obtain ⟨i1, i2⟩ := ih (by omega)
    cases hg : gs m n A I with
    | none =>
      have e : gs m n A (I+1) = none := by rw [gs, hg]
      exact ⟨fun B hB => (by rw [e] at hB; cases hB), fun _ => i2 hg⟩
    | some B =>
      obtain ⟨b1, b2, b3⟩ := i1 B hg
      by_cases hk : pr B I n < n
      · have e : gs m n A (I+1) = some (gstep m n B I) := by rw [gs, hg]; simp only [if_pos hk]
        obtain ⟨c1, c2, c3⟩ := gstep_all h (by omega) b1 b2 hk
        exact ⟨fun C hC => (by rw [e] at hC; cases hC; exact ⟨c1, c2, fun x hx hz => b3 x hx (c3 x hx hz)⟩), fun hn => (by rw [e] at hn; cases hn)⟩
      · have e : gs m n A (I+1) = none := by rw [gs, hg]; simp only [if_neg hk]
        refine ⟨fun C hC => (by rw [e] at hC; cases hC), fun _ => ?_⟩
        obtain ⟨p1, p2, p3, p4⟩ := pr_spec B (show I ≤ n by omega)
        have hx : ∀ j, (fun j => if j = I then 1 else if j < I then B j I else 0) j < 2^m := fun j => by
          show (if j = I then 1 else if j < I then B j I else 0) < 2^m
          split
          · exact one_lt m h
          · split
            · exact b1 j (by omega) I
            · exact Nat.two_pow_pos m
        refine ⟨fun j => if j = I then 1 else if j < I then B j I else 0, hx, ?_, ⟨I, by omega, by simp⟩, b3 _ hx fun r hr => ?_⟩
        · show (if n = I then 1 else if n < I then B n I else 0) = 0
          rw [if_neg (by omega), if_neg (by omega)]
        · rw [sx_more _ (I+1) (n+1) (by omega) (fun j h1 h2 => by rw [if_neg (by omega), if_neg (by omega), mul_zero]), sx, if_pos rfl, mul_one h (b1 r hr I)]
          by_cases hrI : r < I
          · have : sx (fun j => mul m (B r j) (if j = I then 1 else if j < I then B j I else 0)) I = sx (fun j => if j = r then B r I else 0) I := by
              refine sx_congr _ (fun j hj => ?_)
              rw [if_neg (by omega), if_pos hj, b2 r hr j hj]
              by_cases e1 : r = j
              · subst e1; rw [if_pos rfl, if_pos rfl, one_mul h (b1 r hr I)]
              · rw [if_neg e1, if_neg (fun e => e1 e.symm), zero_mul]
            rw [this, sx_at, if_pos hrI, Nat.xor_self]
          · have : sx (fun j => mul m (B r j) (if j = I then 1 else if j < I then B j I else 0)) I = sx (fun _ => 0) I := by
              refine sx_congr _ (fun j hj => ?_)
              rw [b2 r hr j hj, if_neg (by omega), zero_mul]
            rw [this, sx_zero, p3 r (by omega) (by omega)]; rfl

/-- The equations' answer. -/
theorem gs_ans {n : Nat} {A B : Nat → Nat → Nat} (hA : Fits m n A) (hB : gs m n A n = some B) : (∀ j, (fun j => if j < n then B j n else 1) j < 2^m) ∧ Z m n A (fun j => if j < n then B j n else 1) := by
  obtain ⟨b1, b2, b3⟩ := (gs_spec h hA n (Nat.le_refl _)).1 B hB
  have hx : ∀ j, (fun j => if j < n then B j n else 1) j < 2^m := fun j => by
    show (if j < n then B j n else 1) < 2^m
    split
    · exact b1 j (by assumption) n
    · exact one_lt m h
  refine ⟨hx, b3 _ hx fun r hr => ?_⟩
  rw [sx, if_neg (by omega), mul_one h (b1 r hr n)]
  have : sx (fun j => mul m (B r j) (if j < n then B j n else 1)) n = sx (fun j => if j = r then B r n else 0) n := by
    refine sx_congr _ (fun j hj => ?_)
    rw [if_pos hj, b2 r hr j hj]
    by_cases e1 : r = j
    · subst e1; rw [if_pos rfl, if_pos rfl, one_mul h (b1 r hr n)]
    · rw [if_neg e1, if_neg (fun e => e1 e.symm), zero_mul]
  rw [this, sx_at, if_pos hr, Nat.xor_self]

/-! ### Peterson -/
/-- The sums as equations. -/
def hk (s : List Nat) : Nat → Nat → Nat := fun r j => s.getD (r + j) 0
/-- The polynomial of an answer. -/
def pol (x : Nat → Nat) (v : Nat) : List Nat := (List.range (v+1)).map fun i => if i = 0 then 1 else x (v - i)
omit h in
theorem pol_getD (x : Nat → Nat) (v i : Nat) : (pol x v).getD i 0 = if i = 0 then 1 else if i ≤ v then x (v - i) else 0 := by
  unfold pol
  by_cases hi : i < v + 1
  · simp only [List.getD, List.getElem?_map, List.getElem?_range hi, Option.map_some, Option.getD_some]
    by_cases e : i = 0
    · rw [if_pos e, if_pos e]
    · rw [if_neg e, if_neg e, if_pos (by omega)]
  · rw [getD_ge (by simp; omega), if_neg (by omega), if_neg (by omega)]
omit h in
theorem pol_len (x : Nat → Nat) (v : Nat) : (pol x v).length = v + 1 := by simp [pol]
theorem pol_lt {x : Nat → Nat} (hx : ∀ j, x j < 2^m) (v : Nat) : ∀ y ∈ pol x v, y < 2^m := by
  intro y hy
  obtain ⟨i, _, rfl⟩ := List.mem_map.1 hy
  split
  · exact one_lt m h
  · exact hx _

theorem yv_inj {L p q : Nat} (hL : L ≤ sz m) (hp : p < L) (hq : q < L) (e : yv m p = yv m q) : p = q := by
  have h1 := pw_yv h (show p ≤ sz m by omega)
  have h2 := pw_yv h (show q ≤ sz m by omega)
  rw [← e] at h2
  have h3 := mul_left_cancel h (yv_lt h p) (pw_lt h p) (pw_lt h q) (pw_ne h _) (by rw [mul_comm, h1, mul_comm, h2])
  exact pw_inj h (by omega) (by omega) h3
/-- A polynomial that is not 0 has fewer roots than coefficients. -/
theorem few_roots {L : Nat} (hL : L ≤ sz m) (C : List Nat) (hC : ∀ y ∈ C, y < 2^m) (hne : ∃ y ∈ C, y ≠ 0) (l : List Nat) (hl : l.Nodup) (hr : ∀ p ∈ l, p < L ∧ ev m C (yv m p) = 0) : l.length < C.length := by
  rcases Nat.lt_or_ge l.length C.length with hlt | hge
  · exact hlt
  · exfalso
    have := roots_zero h l.length C (l.map (yv m)) hge (by simp) (by
      refine List.Pairwise.map _ (S := fun a b => a ≠ b) (R := fun a b => a ≠ b ∧ a < L ∧ b < L) ?_ ?_
      · intro a b ⟨hab, ha, hb⟩ e
        exact hab (yv_inj h hL ha hb e)
      · exact List.Pairwise.imp_of_mem (fun ha hb' hab => ⟨hab, (hr _ ha).1, (hr _ hb').1⟩) hl) hC (by
      intro x hx
      obtain ⟨p, hp, rfl⟩ := List.mem_map.1 hx
      exact ⟨yv_lt h p, (hr p hp).2⟩)
    obtain ⟨y, hy, hy0⟩ := hne
    exact hy0 (this y hy)

omit h in
theorem hk_fits {s : List Nat} (hs : ∀ y ∈ s, y < 2^m) (n : Nat) : Fits m n (hk s) := fun _ _ _ => getD_lt hs _

/-- Where just v bits are turned there is an answer. -/
theorem pet_some (w : Nat → Bool) (L t v : Nat) (hL : L ≤ sz m) (s : List Nat) (hs : ∀ y ∈ s, y < 2^m) (hsy : ∀ k, k < 2 * t → s.getD k 0 = syn m w L (k+1)) (hv : (supp w L).length = v) (h1 : 1 ≤ v) (hvt : v ≤ t) : gs m v (hk s) v ≠ none := by
  intro hn
  obtain ⟨x, hx, hxn, ⟨j, hj, hxj⟩, hz⟩ := (gs_spec h (hk_fits hs v) v (Nat.le_refl _)).2 hn
  -- the polynomial of the kernel's vector
  obtain ⟨C, hCe⟩ : ∃ C, (List.range v).map (fun i => x (v - 1 - i)) = C := ⟨_, rfl⟩
  have hCl : C.length = v := by rw [← hCe]; simp
  have hCg : ∀ i, i < v → C.getD i 0 = x (v - 1 - i) := fun i hi => by rw [← hCe]; simp [List.getD, hi]
  have hC : ∀ y ∈ C, y < 2^m := by
    intro y hy
    rw [← hCe] at hy
    obtain ⟨i, _, rfl⟩ := List.mem_map.1 hy
    exact hx _
  have hroot := cv_all h w L (2 * t) hL s C hC hsy (v - 1) (by omega) (fun i hi => getD_ge (by omega)) (fun k hk1 hk2 => by
    have := hz (k - (v - 1)) (by omega)
    rw [sx, hxn, mul_zero, Nat.xor_zero] at this
    unfold cv
    rw [sx_more _ v (k+1) (by omega) (fun i h1 _ => by rw [getD_ge (by omega), zero_mul]), ← sx_rev]
    refine Eq.trans (sx_congr _ (fun i hi => ?_)) this
    rw [hCg _ (by omega), show v - 1 - (v - 1 - i) = i by omega, mul_comm]
    unfold hk
    congr 2; omega)
  have := few_roots h hL C hC ⟨x j, by rw [← hCe]; exact List.mem_map.2 ⟨v - 1 - j, by simp; omega, by rw [show v - 1 - (v - 1 - j) = j by omega]⟩, hxj⟩ (supp w L) (supp_nodup w L) (fun p hp => ⟨(mem_supp.1 hp).1, hroot p (mem_supp.1 hp).1 (mem_supp.1 hp).2⟩)
  omega

/-- The answer's polynomial is 0 at just the turned bits' places. -/
theorem pet_roots (w : Nat → Bool) (L t v : Nat) (hL : L ≤ sz m) (s : List Nat) (hs : ∀ y ∈ s, y < 2^m) (hsy : ∀ k, k < 2 * t → s.getD k 0 = syn m w L (k+1)) (hv : (supp w L).length = v) (hvt : v ≤ t) (B : Nat → Nat → Nat) (hB : gs m v (hk s) v = some B) :
    ∀ p, p < L → (ev m (pol (fun j => B j v) v) (yv m p) = 0 ↔ w p = true) := by
  obtain ⟨hx, hz⟩ := gs_ans h (hk_fits hs v) hB
  have hC : ∀ y ∈ pol (fun j => B j v) v, y < 2^m := by
    intro y hy
    obtain ⟨i, hi, rfl⟩ := List.mem_map.1 hy
    have hi' : i < v + 1 := by simpa using hi
    split
    · exact one_lt m h
    · have := hx (v - i)
      simp only [if_pos (show v - i < v by omega)] at this
      exact this
  have hroot := cv_all h w L (2 * t) hL s _ hC hsy v (by omega) (fun i hi => getD_ge (by rw [pol_len]; omega)) (fun k hk1 hk2 => by
    have := hz (k - v) (by omega)
    unfold cv
    rw [sx_more _ (v+1) (k+1) (by omega) (fun i h1 _ => by rw [getD_ge (by rw [pol_len]; omega), zero_mul]), ← sx_rev]
    refine Eq.trans (sx_congr _ (fun i hi => ?_)) this
    rw [pol_getD, mul_comm]
    unfold hk
    rw [show k - (v + 1 - 1 - i) = k - v + i by omega]
    congr 1
    show _ = if i < v then B i v else 1
    by_cases e : i < v
    · rw [if_neg (by omega), if_pos (by omega), if_pos e]
      congr 1; omega
    · rw [if_pos (by omega), if_neg e])
  have hne : ∃ y ∈ pol (fun j => B j v) v, y ≠ 0 := ⟨1, List.mem_map.2 ⟨0, by simp, by simp⟩, by decide⟩
  intro p hp
  constructor
  · intro he
    cases hwp : w p with
    | true => rfl
    | false =>
      exfalso
      have := few_roots h hL _ hC hne (p :: supp w L) (List.nodup_cons.2 ⟨fun hm => (by have := (mem_supp.1 hm).2; rw [hwp] at this; cases this), supp_nodup w L⟩) (by
        intro q hq
        rcases List.mem_cons.1 hq with rfl | hq
        · exact ⟨hp, he⟩
        · exact ⟨(mem_supp.1 hq).1, hroot q (mem_supp.1 hq).1 (mem_supp.1 hq).2⟩)
      rw [pol_len, List.length_cons] at this
      omega
  · exact hroot p hp
end
end Gf
