/- A page with few bits turned in each codeword, plain. -/
import Derived.Test.YtoanopegoilcnaaZPrt
set_option linter.unusedVariables false
namespace Go.Proofs.Ytoanopegoilcnaa
open Go.RowKit Go.Mem Go.Pg

theorem opn_mends {S N T mw mh : Nat} {h : Head} {xs : List (List Nat)} (hL : Lay S N T mw mh) (hc : CanB S N h xs) (hf : h.Fit) (hx : ∀ x ∈ xs, ∀ y ∈ x, y < 256) (hx2 : ∀ x ∈ xs, x.length = S) {l : List Nat} (hl : l.length = pageB S N T mw mh)
    (hm : ∀ q, q ≤ N → mu S N T mw mh h xs l q ≤ T) :
    ∃ k W fl, opn S N T mw mh l = ⟨false, vd k, some h, W, xs.map some, fl⟩ ∧ W.length = N ∧ ∀ j, j < N → W.getD j 0 = 1 ∨ W.getD j 0 = 2 := by
  have hmN := hm N (Nat.le_refl _)
  unfold mu at hmN
  rw [if_neg (Nat.lt_irrefl _)] at hmN
  have hend : ones (l.drop (lastB S N T mw mh)) ≤ T := by omega
  obtain ⟨k, hk, _⟩ := hdO_near hL hc hf hl (by omega) hend
  have hs : ∀ i, i < N → ∃ k', scO S T mw l h i = some (xs.getD i [], k') := fun i hi => by
    have h1 := hm i (Nat.le_of_lt hi)
    unfold mu at h1
    rw [if_pos hi] at h1
    have h2 := scO_near hL hc hx hl hi h1
    have hmem : xs.getD i [] ∈ xs := by rw [List.getD_eq_getElem?_getD, List.getElem?_eq_getElem (by have := hc.2.1; omega)]; exact List.getElem_mem _
    have h3 : secB S (xs.getD i []) = xs.getD i [] := by
      unfold secB
      rw [if_neg (fun e => by have := hx2 _ hmem; rw [e] at this; have := hL.s1; simp at *; omega)]
    rw [h3] at h2
    exact ⟨_, h2⟩
  refine ⟨k, (List.range N).map (fun i => vdO (scO S T mw l h i)), k + ((List.range N).map fun i => flO (scO S T mw l h i)).sum, ?_, by simp, fun j hj => ?_⟩
  · have he := ones_end hl hend
    have hsec : (List.range N).map (fun i => (scO S T mw l h i).map (·.1)) = xs.map some := by
      apply List.ext_getElem
      · simp [hc.2.1]
      · intro i h1 h2
        simp only [List.length_map, List.length_range] at h1
        obtain ⟨k', hk'⟩ := hs i h1
        have hi : i < xs.length := by have := hc.2.1; omega
        simp only [List.getElem_map, List.getElem_range, hk', Option.map_some]
        simp [List.getD, hi]
    rw [opn_good he hk, hsec]
  · obtain ⟨k', hk'⟩ := hs j hj
    have e : ((List.range N).map (fun i => vdO (scO S T mw l h i))).getD j 0 = vdO (scO S T mw l h j) := by
      rw [List.getD_eq_getElem?_getD, List.getElem?_map, List.getElem?_range hj]; rfl
    rw [e, hk']
    show vd k' = 1 ∨ vd k' = 2
    unfold vd
    split
    · exact .inl rfl
    · exact .inr rfl
/-- One bit more, in codeword r. -/
theorem mu_step {S N T mw mh : Nat} {h : Head} {xs : List (List Nat)} {l : List Nat} (hb : ∀ y ∈ l, y < 256) (hl : l.length = pageB S N T mw mh) {r k j : Nat} (hrN : r ≤ N) (h1 : 8 * (r * wdB S T mw) ≤ j) (h2 : j < 8 * (r * wdB S T mw + nB S N T mw mh r))
    (hm : ∀ q, q ≤ N → mu S N T mw mh h xs l q ≤ if q < r then T else if q = r then k else 0) : ∀ q, q ≤ N → mu S N T mw mh h xs (tg l j) q ≤ if q < r then T else if q = r then k + 1 else 0 := by
  intro q hq
  have h3 := hm q hq
  by_cases e : q = r
  · subst e
    rw [if_neg (Nat.lt_irrefl _), if_pos rfl] at h3 ⊢
    have := (mu_same (h := h) (xs := xs) hb hl hrN h1 h2).2
    omega
  · rw [mu_other hl hrN h1 h2 e hq]
    rw [if_neg e] at h3 ⊢
    exact h3
theorem mu_next {S N T mw mh : Nat} {h : Head} {xs : List (List Nat)} {l : List Nat} {r k : Nat} (hk : k ≤ T) (hm : ∀ q, q ≤ N → mu S N T mw mh h xs l q ≤ if q < r then T else if q = r then k else 0) :
    ∀ q, q ≤ N → mu S N T mw mh h xs l q ≤ if q < r + 1 then T else if q = r + 1 then 0 else 0 := by
  intro q hq
  have h3 := hm q hq
  by_cases e : q < r + 1
  · rw [if_pos e]
    by_cases e2 : q < r
    · rw [if_pos e2] at h3; exact h3
    · rw [if_neg e2, if_pos (by omega)] at h3; omega
  · rw [if_neg e]
    rw [if_neg (by omega), if_neg (by omega)] at h3
    split <;> exact h3
theorem nB_le {S N T mw mh r : Nat} (hr : r ≤ N) (hT : 1 ≤ pageB S N T mw mh) : r * wdB S T mw + nB S N T mw mh r ≤ pageB S N T mw mh ∧ 1 ≤ nB S N T mw mh r ∧ (r < N → nB S N T mw mh r = wdB S T mw) := by
  unfold nB
  by_cases h : r < N
  · rw [if_pos h]
    have := Nat.mul_le_mul_right (wdB S T mw) (show r + 1 ≤ N from h)
    rw [Nat.succ_mul] at this
    have h4 : 4 ≤ wdB S T mw := by unfold wdB; omega
    refine ⟨by unfold pageB lastB; omega, by omega, fun _ => rfl⟩
  · obtain rfl : r = N := by omega
    rw [if_neg h]
    refine ⟨by unfold pageB lastB; omega, by unfold pageB lastB; omega, fun h2 => absurd h2 h⟩
/-- What is told of a page that was mended, in memory. -/
theorem opv_mends {w : World} {v : Value} {h : Head} {N k fl : Nat} {W : List Nat} {xs : List (List Nat)} (hl : xs.length = N) (hw : W.length = N) (hv : OpV w v ⟨false, vd k, some h, W, xs.map some, fl⟩) :
    ∃ sa sc wa wc ra rc, v = .agg #[.bool false, .int .i64 (vd k : Nat), .int .i64 h.kind, .int .u32 (h.id : Nat), .int .i64 h.row, .int .i64 h.place, .int .i64 h.width, .slice sa h.slots.length sc, .slice wa N wc, .slice ra N rc, .int .i64 (fl : Nat)] ∧
      SlR w (.slice sa h.slots.length sc) h.slots ∧ Rd .i64 w (.slice wa N wc) W ∧ RB w (.slice ra N rc) xs := by
  obtain ⟨sa, sc, wa, wc, ra, rc, e, h1, h2, h3⟩ := hv.out
  have e1 : (xs.map some).map (·.getD []) = xs := by rw [List.map_map]; exact (List.map_congr_left (fun a _ => rfl)).trans (List.map_id xs)
  have e2 : (xs.map some).length = N := by simp [hl]
  refine ⟨sa, sc, wa, wc, ra, rc, ?_, h1, ?_, ?_⟩
  · rw [e]
    show Value.agg #[_, _, _, _, _, _, _, _, .slice wa W.length wc, .slice ra (xs.map some).length rc, _] = _
    rw [hw, e2]; rfl
  · have h4 : Rd .i64 w (.slice wa W.length wc) W := h2
    rwa [hw] at h4
  · have h5 : RB w (.slice ra (xs.map some).length rc) ((xs.map some).map (·.getD [])) := h3
    rwa [e1, e2] at h5
theorem vd_ne (k : Nat) : ∃ v : Nat, vd k = v ∧ v ≤ 2 := ⟨_, rfl, by unfold vd; split <;> decide⟩
end Go.Proofs.Ytoanopegoilcnaa
