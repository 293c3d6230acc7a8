/- A page, plain: bits turned here and there, stretch by stretch. -/
import Derived.Test.YtoanopegoilcnaaGreatJl
import Derived.Test.YtoanopegoilcnaaGreatJj
import Derived.Test.YtoanopegoilcnaaGreatJn
set_option linter.unusedVariables false
namespace Go.Proofs.YtoanopegoilcnaaGreat
open Go.RowKit Go.Mem Go.Pg

theorem tg_tb {l : List Nat} {k : Nat} (hk : k < 8 * l.length) : (fun j => (tg l k).getD j 0) = tb (fun j => l.getD j 0) (lob k) := by
  rw [tb_lob]
  funext j
  rw [tg_getD hk]
  unfold upd
  rfl
theorem tg_ub {l : List Nat} {k : Nat} (hk : k < 8 * l.length) (g : Nat → Nat) (n : Nat) : ub ((tg l k).getD · 0) g n ≤ ub (l.getD · 0) g n + 1 := by
  have := ub_tb (fun j => l.getD j 0) g (lob k) n
  rw [← tg_tb hk] at this
  exact this
theorem tg_cut_in {l : List Nat} {k p n : Nat} (hk : k < 8 * l.length) (h1 : 8 * p ≤ k) (h2 : k < 8 * (p + n)) : cut (tg l k) p n = tg (cut l p n) (k - 8 * p) := by
  unfold cut
  rcases tg_drop (p := p) hk with ⟨_, h⟩ | ⟨_, e⟩
  · omega
  · rw [e]
    unfold tg
    rw [List.take_set, take_gd _ _ _ (by omega)]
theorem tg_cut_out {l : List Nat} {k p n : Nat} (hk : k < 8 * l.length) (h : k < 8 * p ∨ 8 * (p + n) ≤ k) : cut (tg l k) p n = cut l p n := by
  unfold cut
  rcases tg_drop (p := p) hk with ⟨e, _⟩ | ⟨h1, e⟩
  · rw [e]
  · rw [e]
    unfold tg
    rw [List.take_set]
    apply List.ext_getElem?
    intro i
    rw [List.getElem?_set]
    split
    · rename_i hi
      subst hi
      rw [if_neg (by rw [List.length_take]; omega), List.getElem?_eq_none (by rw [List.length_take]; omega)]
    · rfl

section
variable (S N T mw mh : Nat) (h : Head) (xs : List (List Nat))
/-- In how many bits has codeword r turned? (The last one: the head, with the end.) -/
def mu (l : List Nat) (r : Nat) : Nat :=
  if r < N then ub ((cut l (r * wdB S T mw) (wdB S T mw)).getD · 0) ((sectB S T mw h xs r).getD · 0) (wdB S T mw)
  else ub ((cut l (N * wdB S T mw) (9 + 11 * N + 4 + pcn mh T)).getD · 0) ((sealB mh T (headB h) (sum (headB h))).getD · 0) (9 + 11 * N + 4 + pcn mh T) + ones (l.drop (lastB S N T mw mh))
/-- The bytes of codeword r. -/
def nB (r : Nat) : Nat := if r < N then wdB S T mw else pageB S N T mw mh - N * wdB S T mw
variable {S N T mw mh h xs}
theorem mu_start (hc : CanB S N h xs) (r : Nat) : mu S N T mw mh h xs (packB S N T mw mh h xs) r = 0 := by
  unfold mu
  split
  · rename_i hr
    rw [packB_sect hc hr, ub_self]
  · rw [packB_head hc, packB_end hc, ub_self, ones_rep]
theorem mu_other {l : List Nat} (hl : l.length = pageB S N T mw mh) {r k : Nat} (hrN : r ≤ N) (h1 : 8 * (r * wdB S T mw) ≤ k) (h2 : k < 8 * (r * wdB S T mw + nB S N T mw mh r)) {q : Nat} (hq : q ≠ r) (hqN : q ≤ N) :
    mu S N T mw mh h xs (tg l k) q = mu S N T mw mh h xs l q := by
  have hkl : k < 8 * l.length := by
    rw [hl]
    unfold nB at h2
    split at h2
    · rename_i hr
      have := Nat.mul_le_mul_right (wdB S T mw) (show r + 1 ≤ N from hr)
      rw [Nat.succ_mul] at this
      unfold pageB lastB
      omega
    · obtain rfl : r = N := by omega
      unfold pageB lastB at h2 ⊢
      omega
  unfold mu
  rcases Nat.lt_or_ge q N with hqN' | hqN'
  · rw [if_pos hqN', if_pos hqN']
    rw [tg_cut_out hkl]
    rcases Nat.lt_or_ge q r with hlt | hge
    · right
      have := Nat.mul_le_mul_right (wdB S T mw) (show q + 1 ≤ r from hlt)
      rw [Nat.succ_mul] at this
      omega
    · left
      have := Nat.mul_le_mul_right (wdB S T mw) (show r + 1 ≤ q by omega)
      rw [Nat.succ_mul] at this
      unfold nB at h2
      rw [if_pos (by omega)] at h2
      omega
  · have hr : r < N := by omega
    unfold nB at h2
    rw [if_pos hr] at h2
    have := Nat.mul_le_mul_right (wdB S T mw) (show r + 1 ≤ N from hr)
    rw [Nat.succ_mul] at this
    rw [if_neg (by omega), if_neg (by omega), tg_cut_out hkl (.inl (by omega))]
    rcases tg_drop (p := lastB S N T mw mh) hkl with ⟨e, _⟩ | ⟨h3, _⟩
    · rw [e]
    · unfold lastB at h3; omega
theorem mu_same {l : List Nat} (hb : ∀ y ∈ l, y < 256) (hl : l.length = pageB S N T mw mh) {r k : Nat} (hrN : r ≤ N) (h1 : 8 * (r * wdB S T mw) ≤ k) (h2 : k < 8 * (r * wdB S T mw + nB S N T mw mh r)) :
    k < 8 * l.length ∧ mu S N T mw mh h xs (tg l k) r ≤ mu S N T mw mh h xs l r + 1 := by
  have hkl : k < 8 * l.length := by
    rw [hl]
    unfold nB at h2
    split at h2
    · rename_i hr
      have := Nat.mul_le_mul_right (wdB S T mw) (show r + 1 ≤ N from hr)
      rw [Nat.succ_mul] at this
      unfold pageB lastB
      omega
    · obtain rfl : r = N := by omega
      unfold pageB lastB at h2 ⊢
      omega
  refine ⟨hkl, ?_⟩
  unfold mu nB at *
  rcases Nat.lt_or_ge r N with hr | hr
  · rw [if_pos hr] at h2
    rw [if_pos hr, if_pos hr, tg_cut_in hkl h1 h2]
    have := Nat.mul_le_mul_right (wdB S T mw) (show r + 1 ≤ N from hr)
    rw [Nat.succ_mul] at this
    refine tg_ub ?_ _ _
    rw [cut_len (by rw [hl]; unfold pageB lastB; omega)]
    omega
  · obtain rfl : r = N := by omega
    rw [if_neg (by omega)] at h2
    rw [if_neg (by omega), if_neg (by omega)]
    rcases tg_drop (p := lastB S r T mw mh) hkl with ⟨e, h3⟩ | ⟨h3, e⟩
    · rw [e, tg_cut_in hkl h1 (by unfold lastB at h3; omega)]
      have := tg_ub (l := cut l (r * wdB S T mw) (9 + 11 * r + 4 + pcn mh T)) (k := k - 8 * (r * wdB S T mw)) (by rw [cut_len (by rw [hl]; unfold pageB lastB; omega)]; unfold lastB at h3; omega) ((sealB mh T (headB h) (sum (headB h))).getD · 0) (9 + 11 * r + 4 + pcn mh T)
      omega
    · rw [tg_cut_out hkl (.inr (by unfold lastB at h3; omega))]
      have := (tg_drop_ones hb hkl (lastB S r T mw mh)).1
      omega
end
end Go.Proofs.YtoanopegoilcnaaGreat
/- The small page of awake, plain. -/
namespace Go.Proofs.YtoanopegoilcnaaGreat
open Go.RowKit Go.Mem Go.Pg

def H0 : Head := ⟨1, 7, 0, 0, 3, [⟨1, 1, 9⟩]⟩
def X0 : List (List Nat) := [[97, 98, 99, 100]]
theorem par8 : Par (4 + 4) 1 7 := ⟨⟨by decide, by decide⟩, by decide, by decide, by decide, by decide, by decide, by decide +kernel, fun k h1 h2 => by
  rcases (show k = 4 ∨ k = 5 ∨ k = 6 by omega) with rfl | rfl | rfl <;> decide +kernel⟩
theorem par24 : Par (9 + 11 * 1 + 4) 1 8 := ⟨⟨by decide, by decide⟩, by decide, by decide, by decide, by decide, by decide, by decide +kernel, fun k h1 h2 => by
  rcases (show k = 4 ∨ k = 5 ∨ k = 6 ∨ k = 7 by omega) with rfl | rfl | rfl | rfl <;> decide +kernel⟩
theorem lay0 : Lay 4 1 1 7 8 := ⟨by decide, by decide, by decide, by decide, by decide, by decide, par8, par24⟩
theorem page0 : pageB 4 1 1 7 8 = 35 := by decide +kernel
theorem can0 : CanB 4 1 H0 X0 := by
  refine ⟨⟨by decide, fun s hs => ?_⟩, rfl, fun x hx => .inr ?_⟩
  · simp only [H0, List.mem_singleton] at hs
    subst hs
    exact ⟨by decide, by decide, by decide⟩
  · simp only [X0, List.mem_singleton] at hx
    subst hx; rfl
theorem fit0 : H0.Fit := by
  refine ⟨by decide, fun s hs => ?_⟩
  simp only [H0, List.mem_singleton] at hs
  subst hs
  decide
theorem wf0 : H0.Wf := by
  refine ⟨⟨by decide, by decide, by decide, by decide, by decide⟩, fun s hs => ?_⟩
  simp only [H0, List.mem_singleton] at hs
  subst hs
  exact ⟨by decide, by decide, by decide⟩
theorem lt0 : ∀ x ∈ X0, ∀ y ∈ x, y < 256 := by decide
noncomputable def l0 : List Nat := tg (packB 4 1 1 7 8 H0 X0) 0
theorem l0_len : l0.length = 35 := by
  unfold l0
  rw [tg_len, packB_len (T := 1) (mw := 7) (mh := 8) can0, page0]
theorem aw_b0 : (packB 4 1 1 7 8 H0 X0).getD 0 0 = 97 := by decide +kernel
theorem l0_eq : (List.range 35).map (upd ((packB 4 1 1 7 8 H0 X0).getD · 0) 0 96) = l0 := by decide +kernel
theorem l0_lt : ∀ y ∈ l0, y < 256 := by decide +kernel
theorem aw_hd : ub ((cut l0 (1 * wdB 4 1 7) (9 + 11 * 1 + 4 + pcn 8 1)).getD · 0) ((sealB 8 1 (headB H0) (sum (headB H0))).getD · 0) (9 + 11 * 1 + 4 + pcn 8 1) = 0 := by decide +kernel
theorem aw_end : ones (l0.drop (lastB 4 1 1 7 8)) = 0 := by decide +kernel
theorem aw_sc : ub ((cut l0 (0 * wdB 4 1 7) (wdB 4 1 7)).getD · 0) ((sectB 4 1 7 H0 X0 0).getD · 0) (wdB 4 1 7) = 1 := by decide +kernel
theorem aw_fl : ub ((cut l0 (0 * wdB 4 1 7) (wdB 4 1 7)).getD · 0) ((secB 4 (X0.getD 0 []) ++ low (sumB (H0.slots.getD 0 Slot.zero) (secB 4 (X0.getD 0 []))) 4).getD · 0) (4 + 4) +
      Gf.cs (fun j => bitAt (fun k => (cut l0 (0 * wdB 4 1 7) (wdB 4 1 7)).getD (4 + 4 + k) 0) j ^^ bitAt (par 7 1 (secB 4 (X0.getD 0 []) ++ low (sumB (H0.slots.getD 0 Slot.zero) (secB 4 (X0.getD 0 []))) 4)) j) (rr 7 1) = 1 := by decide +kernel
theorem aw_opn : opn 4 1 1 7 8 l0 = ⟨false, 1, some H0, [2], [some [97, 98, 99, 100]], 1⟩ := by
  have hl : l0.length = pageB 4 1 1 7 8 := by rw [l0_len, page0]
  obtain ⟨k, h1, h2⟩ := hdO_near lay0 can0 fit0 hl (by rw [aw_hd]; decide) (by rw [aw_end]; decide)
  rw [aw_hd] at h2
  obtain rfl : k = 0 := by omega
  have h3 := scO_near (i := 0) lay0 can0 lt0 hl (by decide) (by rw [aw_sc]; exact Nat.le_refl _)
  rw [aw_fl] at h3
  have h4 : scO 4 1 7 l0 H0 0 = some ([97, 98, 99, 100], 1) := h3
  unfold opn
  rw [if_neg (ones_end hl (by rw [aw_end]; decide)), h1]
  simp only [List.range_one, List.map_cons, List.map_nil, h4]
  rfl
end Go.Proofs.YtoanopegoilcnaaGreat
