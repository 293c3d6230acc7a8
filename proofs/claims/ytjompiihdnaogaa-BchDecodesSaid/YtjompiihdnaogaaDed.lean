/- Plain facts: words as lists of bits; bits turned; what Peterson's way finds. -/
import Derived.Test.YtjompiihdnaogaaDec
namespace Go.Proofs.Ytjompiihdnaogaa
open Go.RowKit Go.Mem

/-- The bits of data and parity are a word. -/
theorem fw_wd (n r : Nat) (d p : Nat → Nat) (k : Nat) (hk : k < n + r) : fw ((bl d n ++ bl p r).getD · 0) (n + r) k = wd n r d p k := by
  unfold fw
  show decide ((bl d n ++ bl p r).getD (n + r - 1 - k) 0 = 1) = _
  by_cases h : k < r
  · have e : (bl d n ++ bl p r).getD (n + r - 1 - k) 0 = (bl p r).getD (r - 1 - k) 0 := by
      simp only [List.getD]
      rw [List.getElem?_append_right (by rw [bl_len]; omega), bl_len, show n + r - 1 - k - n = r - 1 - k by omega]
    rw [wd_lo h, e, show (bl p r).getD (r - 1 - k) 0 = (bitAt p (r - 1 - k)).toNat from rg_getD _ _ _ (by omega)]
    cases bitAt p (r - 1 - k) <;> rfl
  · have e : (bl d n ++ bl p r).getD (n + r - 1 - k) 0 = (bl d n).getD (n + r - 1 - k) 0 := by
      simp only [List.getD]
      rw [List.getElem?_append_left (by rw [bl_len]; omega)]
    rw [wd_hi (by omega), e, show (bl d n).getD (n + r - 1 - k) 0 = (bitAt d (n + r - 1 - k)).toNat from rg_getD _ _ _ (by omega)]
    cases bitAt d (n + r - 1 - k) <;> rfl
theorem take_getD (l : List Nat) (n i : Nat) (h : i < n) : (l.take n).getD i 0 = l.getD i 0 := by
  simp only [List.getD]; rw [List.getElem?_take_of_lt h]
theorem drop_getD (l : List Nat) (n i : Nat) : (l.drop n).getD i 0 = l.getD (n + i) 0 := by
  simp only [List.getD]; rw [List.getElem?_drop]
/-- Bytes of a word's bits. -/
theorem wd_fw (n r : Nat) (l : List Nat) (k : Nat) (hk : k < n + r) : wd n r (byI (l.take n) n) (byI (l.drop n) r) k = fw (l.getD · 0) (n + r) k := by
  unfold fw
  by_cases h : k < r
  · rw [wd_lo h, bitAt_byI, decide_eq_true (by omega), Bool.true_and, drop_getD, show n + (r - 1 - k) = n + r - 1 - k by omega]
  · rw [wd_hi (by omega), bitAt_byI, decide_eq_true (by omega), Bool.true_and, take_getD _ _ _ (by omega)]
theorem good_of {m t n r P : Nat} {d p : Nat → Nat} (l : List Nat) (hc : Gf.Cw m t (fw (l.getD · 0) (n + r)) (n + r)) {k : Nat} (hd : Gf.dst (fw ((bl d n ++ bl p r).getD · 0) (n + r)) (fw (l.getD · 0) (n + r)) (n + r) = k) (hk : k ≤ t) :
    DecGood m t n r P d p (byI (l.take n) n) (byI (l.drop n) r) k := by
  refine ⟨hc.congr (fun q hq => (wd_fw n r l q hq).symm), ?_, hk, fun i h1 _ => by rw [bitAt_byI, decide_eq_false (by omega), Bool.false_and]⟩
  rw [← hd]
  exact Gf.dst_congr (fun q hq => (fw_wd n r d p q hq).symm) (fun q hq => wd_fw n r l q hq)

/-- The bits with the first i of some places turned. -/
def fl (l ps : List Nat) : Nat → Nat → Nat
  | 0 => (l.getD · 0)
  | i+1 => upd (fl l ps i) (ps.getD i 0) (1 - fl l ps i (ps.getD i 0))
theorem fl_le {l ps : List Nat} (hl : ∀ j, l.getD j 0 ≤ 1) (i : Nat) : ∀ j, fl l ps i j ≤ 1 := by
  induction i with
  | zero => exact hl
  | succ i ih => intro j; unfold fl upd; split; omega; exact ih j
theorem fl_at {l ps : List Nat} (hn : ps.Nodup) (i : Nat) (hi : i ≤ ps.length) (j : Nat) : fl l ps i j = if j ∈ ps.take i then 1 - l.getD j 0 else l.getD j 0 := by
  induction i generalizing j with
  | zero => simp [fl]
  | succ i ih =>
    have hget : ps.getD i 0 = ps[i]'(by omega) := by simp [List.getD, show i < ps.length by omega]
    have htk : ps.take (i+1) = ps.take i ++ [ps[i]'(by omega)] := by rw [List.take_succ_eq_append_getElem (by omega)]
    unfold fl upd
    rw [htk]
    by_cases e : j = ps.getD i 0
    · rw [if_pos e, ih (by omega), ← e]
      have hj : j ∉ ps.take i := by
        rw [e, hget]
        intro hm
        have hnd : (ps.take (i+1)).Nodup := hn.sublist (List.take_sublist _ _)
        rw [htk, List.nodup_append] at hnd
        exact hnd.2.2 _ hm _ (by simp) rfl
      rw [if_neg hj, if_pos (List.mem_append.2 (.inr (List.mem_singleton.2 (e.trans hget))))]
    · rw [if_neg e, ih (by omega)]
      have : (j ∈ ps.take i ++ [ps[i]'(by omega)]) ↔ j ∈ ps.take i := by
        rw [List.mem_append, List.mem_singleton, ← hget]
        exact ⟨fun h => h.resolve_right e, .inl⟩
      simp only [this]
/-- The places of powers. -/
def pls (R : List Nat) (L : Nat) : List Nat := R.map (fun p => L - 1 - p)
theorem pls_nodup {R : List Nat} {L : Nat} (hn : R.Nodup) (hR : ∀ p ∈ R, p < L) : (pls R L).Nodup := by
  unfold pls
  induction R with
  | nil => simp
  | cons a R ih =>
    rw [List.map_cons, List.nodup_cons]
    rw [List.nodup_cons] at hn
    refine ⟨fun h => ?_, ih hn.2 (fun p hp => hR p (by simp [hp]))⟩
    obtain ⟨b, hb, e⟩ := List.mem_map.1 h
    have := hR a (by simp)
    have := hR b (by simp [hb])
    have : a = b := by omega
    exact hn.1 (this ▸ hb)
theorem fl_fw {l R : List Nat} {L : Nat} (hl : ∀ j, l.getD j 0 ≤ 1) (hn : R.Nodup) (hR : ∀ p ∈ R, p < L) (k : Nat) (hk : k < L) : fw (fl l (pls R L) R.length) L k = (fw (l.getD · 0) L k ^^ decide (k ∈ R)) := by
  have hlen : (pls R L).length = R.length := by simp [pls]
  unfold fw
  rw [fl_at (pls_nodup hn hR) R.length (by omega), ← hlen, List.take_length]
  have hm : (L - 1 - k ∈ pls R L) ↔ k ∈ R := by
    unfold pls
    constructor
    · intro h
      obtain ⟨b, hb, e⟩ := List.mem_map.1 h
      have := hR b hb
      have : b = k := by omega
      exact this ▸ hb
    · intro h; exact List.mem_map.2 ⟨k, h, rfl⟩
  have h1 := hl (L - 1 - k)
  by_cases h : k ∈ R
  · rw [if_pos (hm.2 h), decide_eq_true h]
    show decide (1 - l.getD (L - 1 - k) 0 = 1) = (decide (l.getD (L - 1 - k) 0 = 1) ^^ true)
    rcases (show l.getD (L - 1 - k) 0 = 0 ∨ l.getD (L - 1 - k) 0 = 1 by omega) with e | e <;> rw [e] <;> rfl
  · rw [if_neg (fun h' => h (hm.1 h')), decide_eq_false h, Bool.xor_false]
theorem rts_nodup (m : Nat) (C : List Nat) (K : Nat) : (rts m C K).Nodup := List.nodup_range.filter _
theorem rts_mem (m : Nat) (C : List Nat) (K p : Nat) : p ∈ rts m C K ↔ p < K ∧ Gf.ev m C (Gf.yv m p) = 0 := by unfold rts; simp [List.mem_filter]
/-- In how many places two words part that part just at R. -/
theorem dst_flip {w w' : Nat → Bool} {R : List Nat} {L : Nat} (h : ∀ k, k < L → w' k = (w k ^^ decide (k ∈ R))) : Gf.dst w w' L = ((List.range L).filter (fun k => decide (k ∈ R))).length := by
  unfold Gf.dst
  rw [Gf.supp_congr (c := fun k => decide (k ∈ R)) (fun k hk => by rw [h k hk]; cases w k <;> simp)]
  rfl
theorem rts_filter (m : Nat) (C : List Nat) (L : Nat) : (List.range L).filter (fun k => decide (k ∈ rts m C L)) = rts m C L := by
  show _ = (List.range L).filter _
  refine List.filter_congr (fun k hk => ?_)
  have := List.mem_range.1 hk
  simp [rts_mem, this]

/-- u bits are found turned. -/
def Found (m t : Nat) (s l : List Nat) (L u : Nat) : Prop :=
  ∃ B', Gf.gs m u (Gf.hk s) u = some B' ∧ (rts m (Gf.pol (fun j => B' j u) u) L).length = u ∧ Gf.Cw m t (fw (fl l (pls (rts m (Gf.pol (fun j => B' j u) u) L) L) (rts m (Gf.pol (fun j => B' j u) u) L).length) L) L
theorem bad_of {m t n r : Nat} (h : Gf.Ok m) (hL : n + r ≤ Gf.sz m) {d p : Nat → Nat} {l s : List Nat} (he : bl d n ++ bl p r = l) (hl : ∀ j, l.getD j 0 ≤ 1) (hs : ∀ y ∈ s, y < 2^m) (hsy : ∀ k, k < 2 * t → s.getD k 0 = Gf.syn m (fw (l.getD · 0) (n + r)) (n + r) (k+1))
    (hnw : ¬ Gf.Cw m t (fw (l.getD · 0) (n + r)) (n + r)) (hno : ∀ u, 1 ≤ u → u ≤ t → ¬ Found m t s l (n + r) u) : DecBad m t n r d p := fun c hc => by
  have hw : ∀ k, k < n + r → wd n r d p k = fw (l.getD · 0) (n + r) k := fun k hk => by rw [← he]; exact (fw_wd n r d p k hk).symm
  rw [Gf.dst_congr (w' := fw (l.getD · 0) (n + r)) (c' := c) hw (fun _ _ => rfl)]
  rcases Nat.lt_or_ge t (Gf.dst (fw (l.getD · 0) (n + r)) c (n + r)) with hlt | hge
  · exact hlt
  · exfalso
    generalize hL' : n + r = L at *
    obtain ⟨w, hwe⟩ : ∃ w, fw (l.getD · 0) L = w := ⟨_, rfl⟩
    rw [hwe] at hsy hnw hge hw
    obtain ⟨u, hu⟩ : ∃ u, Gf.dst w c L = u := ⟨_, rfl⟩
    have hu' : (Gf.supp (fun k => w k ^^ c k) L).length = u := hu
    rcases Nat.eq_zero_or_pos u with h0 | h0
    · refine hnw (hc.congr (fun k hk => ?_))
      have : Gf.supp (fun k => w k ^^ c k) L = [] := List.length_eq_zero_iff.1 (hu'.trans h0)
      have hk' : k ∉ Gf.supp (fun k => w k ^^ c k) L := by rw [this]; simp
      have : (w k ^^ c k) = false := by
        cases e : (w k ^^ c k)
        · rfl
        · exact absurd (List.mem_filter.2 ⟨List.mem_range.2 hk, e⟩) hk'
      revert this
      cases w k <;> cases c k <;> simp
    · have hsy' : ∀ k, k < 2 * t → s.getD k 0 = Gf.syn m (fun k => w k ^^ c k) L (k+1) := fun k hk => by
        rw [hsy k hk, Gf.syn_xor, hc (k+1) (by omega) (by omega), Nat.xor_zero]
      have hut : u ≤ t := by omega
      cases hg : Gf.gs m u (Gf.hk s) u with
      | none => exact Gf.pet_some h (fun k => w k ^^ c k) L t u hL s hs hsy' hu' h0 hut hg
      | some B' =>
        have hr := Gf.pet_roots h (fun k => w k ^^ c k) L t u hL s hs hsy' hu' hut B' hg
        have hrt : ∀ k, k < L → (decide (k ∈ rts m (Gf.pol (fun j => B' j u) u) L) = (w k ^^ c k)) := fun k hk => by
          have := hr k hk
          cases e : (w k ^^ c k)
          · exact decide_eq_false (fun hm => by have := this.1 ((rts_mem _ _ _ _).1 hm).2; rw [e] at this; cases this)
          · exact decide_eq_true ((rts_mem _ _ _ _).2 ⟨hk, this.2 e⟩)
        have hlen : (rts m (Gf.pol (fun j => B' j u) u) L).length = u := by
          have e1 := congrArg List.length (rts_filter m (Gf.pol (fun j => B' j u) u) L)
          rw [List.filter_congr (fun k hk => hrt k (List.mem_range.1 hk))] at e1
          exact e1.symm.trans hu'
        refine hno u h0 hut ⟨B', hg, hlen, hc.congr (fun k hk => ?_)⟩
        rw [fl_fw hl (rts_nodup _ _ _) (fun p hp => ((rts_mem _ _ _ _).1 hp).1) k hk, hrt k hk, hwe]
        cases w k <;> cases c k <;> rfl
end Go.Proofs.Ytjompiihdnaogaa
