/- Plain facts on the document's rest: what is left of bits has the bits' values at the generator's roots. -/
import Derived.Test.YtjompiihdnaogaaRec
namespace Go.Proofs.Ytjompiihdnaogaa
open Go.RowKit Go.Mem

/-- Bits as a word: the highest power first. -/
def fw (f : Nat → Nat) (N p : Nat) : Bool := decide (f (N - 1 - p) = 1)
theorem le_one_xor {a b : Nat} (ha : a ≤ 1) (hb : b ≤ 1) : decide (a ^^^ b = 1) = (decide (a = 1) ^^ decide (b = 1)) := by
  rcases (show a = 0 ∨ a = 1 by omega) with rfl | rfl <;> rcases (show b = 0 ∨ b = 1 by omega) with rfl | rfl <;> decide

theorem dvk_syn {m t r : Nat} (h : Gf.Ok m) (hr : (Gf.gen m t).length = r + 1) {f : Nat → Nat} (hf : ∀ j, f j ≤ 1) (N I : Nat) (hI : I + r < N) (e : Nat) (he : e ∈ Gf.exs m t) :
    Gf.syn m (fw (dvk (Gf.gen m t).reverse f I (r + 1)) N) N e = Gf.syn m (fw f N) N e := by
  have hG : ∀ q, q ≤ r → (Gf.gen m t).reverse.getD (r - q) 0 = (Gf.gen m t).getD q 0 := fun q hq => by
    simp only [List.getD]
    rw [List.getElem?_reverse (by omega), hr, show r + 1 - 1 - (r - q) = q by omega]
  have hG1 : ∀ q, (Gf.gen m t).reverse.getD q 0 ≤ 1 := fun q => by
    by_cases hq : q ≤ r
    · have := hG (r - q) (by omega)
      rw [show r - (r - q) = q by omega] at this
      rw [this]
      rcases Gf.bin_getD (Gf.gen_bin h t) (r - q) with e | e <;> omega
    · rw [Gf.getD_ge (by rw [List.length_reverse]; omega)]; omega
  have e1 : ∀ p, p < N → fw (dvk (Gf.gen m t).reverse f I (r + 1)) N p = (fw f N p ^^ (decide (I ≤ N - 1 - p ∧ N - 1 - p - I < r + 1) && decide ((Gf.gen m t).reverse.getD (N - 1 - p - I) 0 = 1))) := fun p hp => by
    unfold fw dvk
    by_cases hc : I ≤ N - 1 - p ∧ N - 1 - p - I < r + 1
    · rw [if_pos hc, decide_eq_true hc, Bool.true_and, le_one_xor (hf _) (hG1 _)]
    · rw [if_neg hc, decide_eq_false hc, Bool.false_and, Bool.xor_false]
  rw [Gf.syn_congr e e1, Gf.syn_xor]
  have e2 : Gf.syn m (fun p => decide (I ≤ N - 1 - p ∧ N - 1 - p - I < r + 1) && decide ((Gf.gen m t).reverse.getD (N - 1 - p - I) 0 = 1)) N e = 0 := by
    obtain ⟨s, hs⟩ : ∃ s, N - 1 - I - r = s := ⟨_, rfl⟩
    unfold Gf.syn
    rw [Gf.sx_more _ (s + (r + 1)) N (by omega) (fun p h1 h2 => if_neg (fun hc => by simp only [Bool.and_eq_true, decide_eq_true_eq] at hc; omega)), Gf.sx_shift _ s (r + 1) (fun p hp => if_neg (fun hc => by simp only [Bool.and_eq_true, decide_eq_true_eq] at hc; omega))]
    have hev : Gf.ev m (Gf.gen m t) (Gf.pw m e) = 0 := (Gf.gen_root h t e).2 (by rw [Nat.mod_eq_of_lt (Gf.exs_lt h t e he)]; exact he)
    rw [Gf.ev_sx h _ _ (r+1) (Gf.pw_lt h e) (Gf.gen_lt h t) (fun i hi => Gf.getD_ge (by omega))] at hev
    have hm : Gf.mul m (Gf.pw m (s * e)) (Gf.sx (fun i => Gf.mul m ((Gf.gen m t).getD i 0) (Gf.xp m (Gf.pw m e) i)) (r+1)) = 0 := by rw [hev, Gf.mul_zero]
    rw [Gf.sx_mul h _ (Gf.pw_lt h _) _ _ (fun i _ => Gf.mul_lt h _ _)] at hm
    refine Eq.trans ?_ hm
    refine Gf.sx_congr _ (fun q hq => ?_)
    have hd : decide (I ≤ N - 1 - (s + q) ∧ r - q < r + 1) = true := decide_eq_true (by omega)
    have hgq := hG q (by omega)
    have hsub : N - 1 - (s + q) - I = r - q := by omega
    simp only [hsub, hgq, Gf.xp_pw h]
    rcases Gf.bin_getD (Gf.gen_bin h t) q with e3 | e3
    · simp only [e3, Gf.zero_mul, Gf.mul_zero, show decide ((0:Nat) = 1) = false from rfl, Bool.and_false, Bool.false_eq_true, if_false]
    · simp only [e3, hd, decide_true, Bool.and_true, if_true]
      rw [Gf.one_mul h (Gf.pw_lt h _), Gf.mul_pw h, Nat.add_mul, Nat.mul_comm q e]
  rw [e2, Nat.xor_zero]

theorem dv_syn {m t r : Nat} (h : Gf.Ok m) (hr : (Gf.gen m t).length = r + 1) {f : Nat → Nat} (hf : ∀ j, f j ≤ 1) (N : Nat) (e : Nat) (he : e ∈ Gf.exs m t) (I : Nat) (hI : I + r ≤ N) :
    Gf.syn m (fw (dv (Gf.gen m t).reverse f I) N) N e = Gf.syn m (fw f N) N e := by
  have hG1 : ∀ q, (Gf.gen m t).reverse.getD q 0 ≤ 1 := fun q => by
    rcases Nat.lt_or_ge q (Gf.gen m t).reverse.length with hq | hq
    · rcases Gf.gen_bin h t ((Gf.gen m t).reverse.getD q 0) (by simpa using getD_mem hq) with e | e <;> omega
    · rw [Gf.getD_ge hq]; omega
  induction I with
  | zero => rfl
  | succ I ih =>
    rw [dv]
    split
    · rw [List.length_reverse, hr, dvk_syn h hr (dv_le hG1 hf I) N I (by omega) e he]
      exact ih (by omega)
    · exact ih (by omega)
/-- The first places are 0. -/
theorem dv_zero {m t r : Nat} (h : Gf.Ok m) (hr : (Gf.gen m t).length = r + 1) {f : Nat → Nat} (hf : ∀ j, f j ≤ 1) (I : Nat) : ∀ j, j < I → dv (Gf.gen m t).reverse f I j = 0 := by
  have hG0 : (Gf.gen m t).reverse.getD 0 0 = 1 := by
    simp only [List.getD]
    rw [List.getElem?_reverse (by omega), hr]
    have := (Gf.gen_mon h t).1.2
    rwa [hr] at this
  have hG1 : ∀ q, (Gf.gen m t).reverse.getD q 0 ≤ 1 := fun q => by
    rcases Nat.lt_or_ge q (Gf.gen m t).reverse.length with hq | hq
    · rcases Gf.gen_bin h t ((Gf.gen m t).reverse.getD q 0) (by simpa using getD_mem hq) with e | e <;> omega
    · rw [Gf.getD_ge hq]; omega
  induction I with
  | zero => intro j hj; omega
  | succ I ih =>
    intro j hj
    have h1 := dv_le hG1 hf I I
    rw [dv]
    by_cases hji : j = I
    · subst hji
      split
      · rename_i he
        unfold dvk
        rw [if_pos (by rw [List.length_reverse, hr]; omega), he, Nat.sub_self, hG0]; rfl
      · rename_i he; omega
    · split
      · unfold dvk
        rw [if_neg (by omega)]
        exact ih j (by omega)
      · exact ih j (by omega)

theorem rst_syn {m t r : Nat} (h : Gf.Ok m) (hr : (Gf.gen m t).length = r + 1) (l : List Nat) (hl : ∀ y ∈ l, y ≤ 1) (hrl : r ≤ l.length) (e : Nat) (he : e ∈ Gf.exs m t) :
    Gf.syn m (fw ((rst (Gf.gen m t).reverse l r).getD · 0) r) r e = Gf.syn m (fw (l.getD · 0) l.length) l.length e := by
  have hf : ∀ j, (fun x => l.getD x 0) j ≤ 1 := fun j => by
    show l.getD j 0 ≤ 1
    rcases Nat.lt_or_ge j l.length with hj | hj
    · exact hl _ (getD_mem hj)
    · rw [Gf.getD_ge hj]; omega
  rw [← dv_syn h hr hf l.length e he (l.length - r) (by omega)]
  have hz := dv_zero h hr hf (l.length - r)
  unfold Gf.syn
  rw [Gf.sx_more _ r l.length hrl (fun p h1 h2 => if_neg (fun hc => by unfold fw at hc; rw [hz _ (by omega)] at hc; cases hc))]
  refine Gf.sx_congr _ (fun p hp => ?_)
  have : fw ((rst (Gf.gen m t).reverse l r).getD · 0) r p = fw (dv (Gf.gen m t).reverse (l.getD · 0) (l.length - r)) l.length p := by
    unfold fw rst
    show decide (((List.range r).map fun i => dv (Gf.gen m t).reverse (l.getD · 0) (l.length - r) (l.length - r + i)).getD (r - 1 - p) 0 = 1) = _
    rw [rg_getD _ _ _ (show r - 1 - p < r by omega), show l.length - r + (r - 1 - p) = l.length - 1 - p by omega]
  rw [this]

theorem rst_le {m t r : Nat} (h : Gf.Ok m) (l : List Nat) (hl : ∀ y ∈ l, y ≤ 1) : ∀ y ∈ rst (Gf.gen m t).reverse l r, y ≤ 1 := by
  intro y hy
  obtain ⟨j, _, rfl⟩ := List.mem_map.1 hy
  refine dv_le (fun q => ?_) (fun j => ?_) _ _
  · rcases Nat.lt_or_ge q (Gf.gen m t).reverse.length with hq | hq
    · rcases Gf.gen_bin h t ((Gf.gen m t).reverse.getD q 0) (by simpa using getD_mem hq) with e | e <;> omega
    · rw [Gf.getD_ge hq]; omega
  · rcases Nat.lt_or_ge j l.length with hj | hj
    · exact hl _ (getD_mem hj)
    · rw [Gf.getD_ge hj]; omega
theorem rst_len (G l : List Nat) (r : Nat) : (rst G l r).length = r := by simp [rst]

/-- Nothing is left of just the words. -/
theorem rst_whole {m t r : Nat} (h : Gf.Ok m) (hr : (Gf.gen m t).length = r + 1) (l : List Nat) (hl : ∀ y ∈ l, y ≤ 1) (hrl : r ≤ l.length) :
    (∀ i, i < r → (rst (Gf.gen m t).reverse l r).getD i 0 = 0) ↔ Gf.Cw m t (fw (l.getD · 0) l.length) l.length := by
  constructor
  · intro hz
    refine Gf.cw_of_exs h fun e he => ?_
    rw [← rst_syn h hr l hl hrl e he]
    unfold Gf.syn
    refine Eq.trans (Gf.sx_congr _ (fun p hp => ?_)) (Gf.sx_zero r)
    refine if_neg (fun hc => ?_)
    have hc' : (rst (Gf.gen m t).reverse l r).getD (r - 1 - p) 0 = 1 := of_decide_eq_true hc
    rw [hz _ (by omega)] at hc'; cases hc'
  · intro hc
    have hs := Gf.small_zero h hr (w := fw ((rst (Gf.gen m t).reverse l r).getD · 0) r) (fun e he => by rw [rst_syn h hr l hl hrl e he]; exact Gf.cw_exs h hc e he)
    intro i hi
    have := hs (r - 1 - i) (by omega)
    unfold fw at this
    rw [show r - 1 - (r - 1 - i) = i by omega] at this
    have hle := rst_le (t := t) (r := r) h l hl _ (getD_mem (by rw [rst_len]; exact hi : i < (rst (Gf.gen m t).reverse l r).length))
    have : ¬ (rst (Gf.gen m t).reverse l r).getD i 0 = 1 := of_decide_eq_false this
    omega
end Go.Proofs.Ytjompiihdnaogaa
