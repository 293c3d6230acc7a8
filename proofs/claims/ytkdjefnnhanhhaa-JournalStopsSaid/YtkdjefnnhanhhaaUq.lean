/- A journal, plain: Set, Drop; what is opened again. -/
import Derived.Test.YtkdjefnnhanhhaaZLjf
set_option linter.unusedVariables false
namespace Go.Proofs.Ytkdjefnnhanhhaa
open Go Go.RowKit Go.Mem Go.Jn
set_option linter.unusedVariables false

theorem len_delM_some {k : Nat} : ∀ {M : MM}, (getM M k).isSome = true → (delM k M).length + 1 ≤ M.length
  | [], h => by cases h
  | p :: M, h => by
    rw [getM_cons] at h
    unfold delM
    by_cases e : p.1 = k
    · rw [List.filter_cons_of_neg (by simp [e])]
      have := List.length_filter_le (fun q : Nat × Nat => decide (q.1 ≠ k)) M
      rw [List.length_cons]; omega
    · rw [if_neg e] at h
      rw [List.filter_cons_of_pos (by simp [e]), List.length_cons, List.length_cons]
      have := len_delM_some h
      unfold delM at this
      omega
theorem set_inv {s : JS} {A : MM → Prop} {n k v : Nat} (h : Inv s A n) (hn : n ≤ 1000000) (hk : k < 18446744073709551616) (hv : v < 18446744073709551616) :
    ((s.set k v) = (90, s) ∧ getM s.j.m k = none ∧ s.t.room ≤ s.j.m.length) ∨ (((getM s.j.m k).isSome = true ∨ s.j.m.length < s.t.room) ∧ ((s.set k v).1 = 0 ∨ (s.set k v).1 = 40) ∧ ((s.set k v).1 = 0 → Inv (s.set k v).2 (fun m => A m ∨ m = putM k v s.j.m) (n + 1) ∧ (s.set k v).2.j.m = putM k v s.j.m) ∧ ((s.set k v).1 ≠ 0 → Dead (s.set k v).2 (fun m => A m ∨ m = putM k v s.j.m) (n + 1)) ∧ (s.set k v).2.t.nb = s.t.nb ∧ (s.set k v).2.t.size = s.t.size) := by
  unfold JS.set
  split
  · rename_i hc
    left
    refine ⟨rfl, ?_, hc.2.1⟩
    cases hg : getM s.j.m k with
    | none => rfl
    | some x => rw [hg] at hc; cases hc.1
  · rename_i hc
    right
    have hor : (getM s.j.m k).isSome = true ∨ s.j.m.length < s.t.room := by
      cases hg : (getM s.j.m k).isSome with
      | true => exact .inl rfl
      | false =>
        right
        rcases Nat.lt_or_ge s.j.m.length s.t.room with h' | h'
        · exact h'
        · exact absurd ⟨hg, h', h.bad⟩ hc
    have hm : (stepM s.j.m ⟨1, 0, k, v, 0⟩).length ≤ s.t.room := by
      show (putM k v s.j.m).length ≤ _
      unfold putM
      rw [len_insM]
      rcases hor with hor | hor
      · have := len_delM_some hor; have := h.few; omega
      · have := len_delM (k := k) (M := s.j.m); omega
    exact ⟨hor, note_inv h hn ⟨1, 0, k, v, 0⟩ ⟨⟨by show 1 ≤ 1; omega, by show 1 ≤ 4; omega⟩, hk, hv, by show 0 < _; omega⟩ rfl hm⟩
theorem drop_inv {s : JS} {A : MM → Prop} {n k : Nat} (h : Inv s A n) (hn : n ≤ 1000000) (hk : k < 18446744073709551616) :
    ((s.drop k) = (70, s) ∧ getM s.j.m k = none) ∨ ((getM s.j.m k).isSome = true ∧ ((s.drop k).1 = 0 ∨ (s.drop k).1 = 40) ∧ ((s.drop k).1 = 0 → Inv (s.drop k).2 (fun m => A m ∨ m = delM k s.j.m) (n + 1) ∧ (s.drop k).2.j.m = delM k s.j.m) ∧ ((s.drop k).1 ≠ 0 → Dead (s.drop k).2 (fun m => A m ∨ m = delM k s.j.m) (n + 1)) ∧ (s.drop k).2.t.nb = s.t.nb ∧ (s.drop k).2.t.size = s.t.size) := by
  unfold JS.drop
  split
  · rename_i hc
    left
    refine ⟨rfl, ?_⟩
    cases hg : getM s.j.m k with
    | none => rfl
    | some x => rw [hg] at hc; cases hc.1
  · rename_i hc
    right
    have hor : (getM s.j.m k).isSome = true := by
      cases hg : (getM s.j.m k).isSome with
      | true => rfl
      | false => exact absurd ⟨hg, h.bad⟩ hc
    have hm : (stepM s.j.m ⟨2, 0, k, 0, 0⟩).length ≤ s.t.room := by
      show (delM k s.j.m).length ≤ _
      have := len_delM (k := k) (M := s.j.m); have := h.few; omega
    exact ⟨hor, note_inv h hn ⟨2, 0, k, 0, 0⟩ ⟨⟨by show 1 ≤ 2; omega, by show 2 ≤ 4; omega⟩, hk, by show 0 < _; omega, by show 0 < _; omega⟩ rfl hm⟩
/-! ### Opened again -/
theorem rt1_ge (s : Nat × Nat) (xs : List Nat) : s.1 ≤ (rt1 s xs).1 ∧ ∀ g a, rootR xs = some (g, a) → g ≤ (rt1 s xs).1 := by
  unfold rt1
  split
  · rename_i g a hr
    split
    · rename_i h
      exact ⟨h, fun g' a' e => by rw [hr] at e; cases e; exact Nat.le_refl _⟩
    · rename_i h
      exact ⟨Nat.le_refl _, fun g' a' e => by rw [hr] at e; cases e; omega⟩
  · rename_i hr
    exact ⟨Nat.le_refl _, fun g' a' e => by rw [hr] at e; cases e⟩
theorem rtI_ge {c : Nat → List Nat} {i : Nat} (hi : i < 2) {g a : Nat} (h : rootR (c i) = some (g, a)) : g ≤ (rtI c 2).1 := by
  show g ≤ (rt1 (rt1 (0, 0) (c 0)) (c 1)).1
  obtain ⟨h1, h2⟩ := rt1_ge (0, 0) (c 0)
  obtain ⟨h3, h4⟩ := rt1_ge (rt1 (0, 0) (c 0)) (c 1)
  match i, hi with
  | 0, _ => exact Nat.le_trans (h2 g a h) h3
  | 1, _ => exact h4 g a h
theorem topI_ge {c : Nat → List Nat} {g0 : Nat} : ∀ I, g0 ≤ topI c g0 I ∧ ∀ k, k < I → ∀ g n l, chunkR (c (2 + k)) = some (g, n, l) → g ≤ topI c g0 I
  | 0 => ⟨Nat.le_refl _, fun k hk => by omega⟩
  | I + 1 => by
    obtain ⟨h1, h2⟩ := topI_ge (c := c) (g0 := g0) I
    unfold topI
    split
    · rename_i g n l hr
      refine ⟨by omega, fun k hk g' n' l' e => ?_⟩
      by_cases hkI : k = I
      · subst hkI; rw [hr] at e; cases e; omega
      · have := h2 k (by omega) g' n' l' e; omega
    · rename_i hr
      refine ⟨h1, fun k hk g' n' l' e => ?_⟩
      by_cases hkI : k = I
      · subst hkI; rw [hr] at e; cases e
      · exact h2 k (by omega) g' n' l' e
theorem topI_le {c : Nat → List Nat} {g0 T : Nat} (h0 : g0 ≤ T) : ∀ I, (∀ k, k < I → ∀ g n l, chunkR (c (2 + k)) = some (g, n, l) → g ≤ T) → topI c g0 I ≤ T
  | 0, _ => h0
  | I + 1, h => by
    have ih := topI_le h0 I (fun k hk => h k (by omega))
    unfold topI
    split
    · rename_i g n l hr
      have := h I (by omega) g n l hr
      omega
    · exact ih
theorem rtI_le {c : Nat → List Nat} {T : Nat} (h : ∀ i, i < 2 → ∀ g a, rootR (c i) = some (g, a) → g ≤ T) : (rtI c 2).1 ≤ T := by
  have h1 : ∀ s xs, s.1 ≤ T → (∀ g a, rootR xs = some (g, a) → g ≤ T) → (rt1 s xs).1 ≤ T := fun s xs hs hx => by
    unfold rt1
    split
    · rename_i g a hr
      split
      · exact hx g a hr
      · exact hs
    · exact hs
  exact h1 _ _ (h1 _ _ (Nat.zero_le _) (h 0 (by omega))) (h 1 (by omega))
theorem rtI_congr {c c' : Nat → List Nat} (h : ∀ i, i < 2 → c i = c' i) : rtI c 2 = rtI c' 2 := by
  show rt1 (rt1 (0, 0) (c 0)) (c 1) = rt1 (rt1 (0, 0) (c' 0)) (c' 1)
  rw [h 0 (by omega), h 1 (by omega)]
theorem replay_congr {c c' : Nat → List Nat} {first per g sz : Nat} (h : ∀ i, i < sz → c (first + i) = c' (first + i)) : ∀ (k I : Nat) (j j' : Jo), I + k = sz → j.m = j'.m → (replayF c first per g k I j).m = (replayF c' first per g k I j').m
  | 0, I, j, j', _, hm => hm
  | k + 1, I, j, j', hI, hm => by
    unfold replayF
    rw [h I (by omega)]
    split
    · rename_i g' n l hch
      have e : (appl { j with block := I, rows := l } l).m = (appl { j' with block := I, rows := l } l).m := by rw [appl_m, appl_m]; exact congrArg (fun M => mapF M l) hm
      split
      · split
        · exact e
        · exact replay_congr h k (I + 1) _ _ (by omega) e
      · exact hm
    · exact hm
theorem open_inv {t : Tp} {A : MM → Prop} {n T : Nat} (hC : Clean t) (hS : Snd t A) (hL : Lim t T (n * 20000)) (ht : t.Ok) (hT : T ≤ n) (hops : t.ops ≤ n * 20000) (hn : n ≤ 1000000) (hg : ∀ m, A m → FitM m ∧ m.length ≤ t.room) :
    A (openF t.last t.nb t.size).m ∧ Inv ⟨openF t.last t.nb t.size, t.stepN t.nb⟩ (fun m => m = (openF t.last t.nb t.size).m) (n + 1) := by
  have hA : A (openF t.last t.nb t.size).m := hS t.last (fun i hi => last_ver t i)
  obtain ⟨hfit, hfew⟩ := hg _ hA
  have hrm := room_le ht
  have hsz := ht.sz
  have hlast : ∀ i, i < t.nb → BytesN t.size (t.last i) := fun i hi => (hL i hi _ (last_ver t i)).1
  have hr1 : (rtI t.last 2).1 ≤ T := rtI_le (fun i hi g a e => (hL i (by have := ht.n8; omega) _ (last_ver t i)).2.1 hi g a e)
  have hr2 : (rtI t.last 2).2 ≤ 1 := (rtI_fit 2 (fun i hi => (hlast i (by have := ht.n8; omega)).2)).2
  have htp : topI t.last (rtI t.last 2).1 (t.nb - 2) ≤ T := topI_le hr1 _ (fun k hk g n' l e => ((hL (2 + k) (by omega) _ (last_ver t _)).2.2 (by omega) g n' l e).1)
  have hidx : ∀ i, i < t.sz → 2 + (rtI t.last 2).2 * t.sz + i < t.nb := fun i hi => by
    have h2 : (rtI t.last 2).2 * t.sz ≤ 1 * t.sz := Nat.mul_le_mul_right _ hr2
    omega
  have hH : Blk (openH t.last t.nb) t.sz t.per (n * 20000) := ⟨by show 0 < t.sz; omega, by show 0 ≤ _; omega, fun r hr => (by cases hr), by show 0 ≤ _; omega⟩
  have hall : (openF t.last t.nb t.size).gen = (rtI t.last 2).1 ∧ (openF t.last t.nb t.size).top = topI t.last (rtI t.last 2).1 (t.nb - 2) ∧ (openF t.last t.nb t.size).area = (rtI t.last 2).2 ∧ (openF t.last t.nb t.size).late = true ∧ (openF t.last t.nb t.size).bad = 0 ∧ Blk (openF t.last t.nb t.size) t.sz t.per (n * 20000) := by
    unfold openF
    split
    · exact ⟨rfl, rfl, rfl, rfl, rfl, hH⟩
    · obtain ⟨a1, a2, a3, a4, a5, a6⟩ := replay_same t.last (2 + (rtI t.last 2).2 * ((t.nb - 2) / 2)) ((t.size - 20) / 37) (rtI t.last 2).1 ((t.nb - 2) / 2) 0 (openH t.last t.nb)
      refine ⟨a1, a2, a3, a5, a6, ?_⟩
      refine replay_blk (sz := (t.nb - 2) / 2) (per := (t.size - 20) / 37) (fun i g n' l hi e => ?_) _ 0 _ (by omega) hH
      have hb := hL _ (hidx i hi) _ (last_ver t _)
      have hc := chunk_fit hb.1.2 e
      rw [hb.1.1] at hc
      exact ⟨hc.2.2, hc.2.1, (hb.2.2 (by omega) _ _ _ e).2⟩
  obtain ⟨g1, g2, g3, g4, g5, g6⟩ := hall
  refine ⟨hA, ?_⟩
  exact {
    ok := ⟨hfit, by show (openF t.last t.nb t.size).m.length ≤ _; omega, by show (openF t.last t.nb t.size).gen < _; rw [g1]; omega, by show (openF t.last t.nb t.size).top < _; rw [g2]; omega, by show (openF t.last t.nb t.size).area ≤ 1; rw [g3]; exact hr2, g6.block, g6.rows, g6.fit, by have := g6.seq; show (openF t.last t.nb t.size).seq < _; omega, .inl g5⟩
    tok := ht.of rfl rfl
    bad := g5
    few := hfew
    cur := rfl
    old := fun c h1 h2 => by
      have hc1 : ∀ i, i < 2 → c i = t.last i := fun i hi => by
        have hv : Ver t i (c i) := h1 i hi
        rw [clean_ver hC (by have := ht.n8; omega) hv, clean_last hC (by have := ht.n8; omega)]
      have hrt := rtI_congr hc1
      have hc2 : ∀ i, i < t.sz → c (2 + (rtI t.last 2).2 * t.sz + i) = t.last (2 + (rtI t.last 2).2 * t.sz + i) := fun i hi => by
        have hv : Ver t (2 + (rtI t.last 2).2 * t.sz + i) (c (2 + (rtI t.last 2).2 * t.sz + i)) := by
          have := h2 i hi
          rw [g3] at this
          exact this
        rw [clean_ver hC (hidx i hi) hv, clean_last hC (hidx i hi)]
      show (openF c t.nb t.size).m = (openF t.last t.nb t.size).m
      have e1 : (rtI c 2) = ((rtI t.last 2).1, (rtI t.last 2).2) := hrt
      have e2 : (rtI t.last 2) = ((rtI t.last 2).1, (rtI t.last 2).2) := rfl
      rw [open_m e1, open_m e2]
      split
      · rfl
      · exact replay_congr hc2 _ 0 _ _ (by omega) rfl
    st := .inl ⟨.inl g4, fun i hi x hx => by
      have hv : Ver t i x := hx
      have hxl : x = t.last i := by rw [clean_ver hC hi hv, clean_last hC hi]
      obtain ⟨k1, k2, k3⟩ := hL i hi x hv
      refine ⟨k1, fun h2 g a e => ?_, fun h2 g n' l e => ⟨?_, fun r hr => Nat.le_trans ((k3 h2 g n' l e).2 r hr) (Nat.mul_le_mul_right _ (Nat.le_succ _))⟩⟩
      · show g ≤ (openF t.last t.nb t.size).top
        rw [g2]
        rw [hxl] at e
        exact Nat.le_trans (rtI_ge h2 e) (topI_ge _).1
      · show g ≤ (openF t.last t.nb t.size).top
        rw [g2]
        rw [hxl] at e
        refine (topI_ge (t.nb - 2)).2 (i - 2) ?_ g n' l ?_
        · have : i < t.nb := hi; omega
        · rw [show 2 + (i - 2) = i by omega]; exact e⟩
    ops := by show t.ops + t.nb ≤ _; have := ht.nl; omega
    seq := Nat.le_trans g6.seq (Nat.mul_le_mul_right _ (Nat.le_succ _))
    top := by show (openF t.last t.nb t.size).top ≤ _; rw [g2]; omega }
/-! ### A new tape, and what is left of one -/
theorem tp0_clean (nb size : Nat) : Clean (tp0 nb size) := fun i hi => rfl
theorem tp0_lim (nb size : Nat) : Lim (tp0 nb size) 0 0 := fun i hi x hx => by
  have hxz : x = List.replicate size 0 := clean_ver (tp0_clean nb size) hi hx
  subst hxz
  refine ⟨⟨by simp [tp0], fun y hy => by rw [(List.mem_replicate.1 hy).2]; omega⟩, fun _ g a e => (by rw [root_zero] at e; cases e), fun _ g n l e => ?_⟩
  obtain ⟨h1, h2⟩ := chunk_zero e
  rw [h1, h2]
  exact ⟨Nat.le_refl _, fun r hr => (by cases hr)⟩
theorem tp0_snd (nb size : Nat) (hn : 8 ≤ nb) : Snd (tp0 nb size) (fun m => m = []) := fun c hc => by
  have hr : RootIs (tp0 nb size) 0 0 := fun c hc => by
    have h0 : ∀ i, i < 2 → rootR (c i) = none := fun i hi => by
      have : c i = List.replicate size 0 := clean_ver (tp0_clean nb size) (by show i < nb; omega) (hc i hi)
      rw [this]; exact root_zero _
    show rt1 (rt1 (0, 0) (c 0)) (c 1) = (0, 0)
    unfold rt1
    rw [h0 0 (by omega), h0 1 (by omega)]
  exact old_ver (t := tp0 nb size) (old_zero hr) (by omega) hn hc
theorem leave_nb (t : Tp) (zs : List Int) : (t.leave zs).nb = t.nb ∧ (t.leave zs).size = t.size ∧ (t.leave zs).ops = t.ops ∧ (t.leave zs).off = false ∧ (t.leave zs).cut = -1 := ⟨rfl, rfl, rfl, rfl, rfl⟩
theorem leave_ver {t : Tp} {zs : List Int} {i : Nat} (hi : i < t.nb) {x : List Nat} (h : Ver (t.leave zs) i x) : Ver t i x := by
  have e1 : (t.leave zs).kept i = t.choice zs i := if_pos hi
  have e2 : (t.leave zs).since i = [] := if_pos hi
  rcases h with h | h
  · rw [h, e1]; exact choice_mem t zs i
  · rw [e2] at h; cases h
theorem leave_clean (t : Tp) (zs : List Int) : Clean (t.leave zs) := fun i hi => if_pos hi
theorem leave_snd {t : Tp} {zs : List Int} {A : MM → Prop} (h : Snd t A) : Snd (t.leave zs) A := fun c hc => h c (fun i hi => leave_ver (t := t) hi (hc i hi))
theorem leave_lim {t : Tp} {zs : List Int} {T b : Nat} (h : Lim t T b) : Lim (t.leave zs) T b := fun i hi x hx => h i hi x (leave_ver (t := t) hi hx)
end Go.Proofs.Ytkdjefnnhanhhaa
/- A journal, plain: where the power stays on nothing fails. -/
namespace Go.Proofs.Ytkdjefnnhanhhaa
open Go Go.RowKit Go.Mem Go.Jn
set_option linter.unusedVariables false

def On (t : Tp) : Prop := t.off = false ∧ t.cut = -1
theorem On.step {t : Tp} (h : On t) : t.step.off = false ∧ t.step.cut = -1 := by
  obtain ⟨h1, h2⟩ := h
  unfold Tp.step
  rw [h1, h2]
  exact ⟨rfl, rfl⟩
theorem On.err {t : Tp} (h : On t) : t.err = 0 := by unfold Tp.err; rw [h.step.1]; rfl
theorem On.write {t : Tp} (h : On t) (i : Nat) (b : List Nat) : On (t.write i b) := by
  unfold Tp.write; split <;> exact h.step
theorem On.sync {t : Tp} (h : On t) : On t.sync := by unfold Tp.sync; split <;> exact h.step
theorem On.stepN {t : Tp} (h : On t) (n : Nat) : On (t.stepN n) := h
theorem on_tp0 (nb size : Nat) : On (tp0 nb size) := ⟨rfl, rfl⟩
theorem on_leave (t : Tp) (zs : List Int) : On (t.leave zs) := ⟨rfl, rfl⟩
section
variable {s : JS}
theorem on_wr (h : On s.t) (i : Nat) (b : List Nat) : (s.wr i b).1 = 0 ∧ On (s.wr i b).2.t := ⟨h.err, h.write i b⟩
theorem on_syn (h : On s.t) : s.syn.1 = 0 ∧ On s.syn.2.t := ⟨h.err, h.sync⟩
theorem on_put (h : On s.t) (r : Rec) : (s.put r).1 = 0 ∧ On (s.put r).2.t := by
  unfold JS.put
  split
  · exact on_wr (s := ⟨{ (s.j.push r s.t.per) with dirty := false }, s.t⟩) h _ _
  · exact ⟨rfl, h⟩
theorem on_flush (h : On s.t) : s.flush.1 = 0 ∧ On s.flush.2.t := by
  have hw : s.write.1 = 0 ∧ On s.write.2.t := on_wr h _ _
  unfold JS.flush
  split
  · rw [if_pos hw.1]
    exact on_syn (s := ⟨{ s.write.2.j with dirty := false }, s.write.2.t⟩) hw.2
  · exact on_syn h
end
theorem on_puts : ∀ (l : MM) (s : JS), On s.t → (s.puts l).1 = 0 ∧ On (s.puts l).2.t
  | [], s, h => ⟨rfl, h⟩
  | p :: l, s, h => by
    obtain ⟨h1, h2⟩ := on_put h (setR p)
    unfold JS.puts
    rw [if_pos h1]
    exact on_puts l _ h2
theorem on_check {s : JS} (h : On s.t) : s.checkpoint.1 = 0 ∧ On s.checkpoint.2.t := by
  obtain ⟨p1, p2⟩ := on_puts s.j.m ⟨s.j.start, s.t⟩ h
  obtain ⟨R1, hR1⟩ : ∃ R1, (JS.mk s.j.start s.t).puts s.j.m = R1 := ⟨_, rfl⟩
  obtain ⟨e1, s1⟩ := R1
  rw [hR1] at p1 p2
  dsimp only at p1 p2
  subst p1
  obtain ⟨f1, f2⟩ := on_flush p2
  obtain ⟨R2, hR2⟩ : ∃ R2, s1.flush = R2 := ⟨_, rfl⟩
  obtain ⟨e2, s2⟩ := R2
  rw [hR2] at f1 f2
  dsimp only at f1 f2
  subst f1
  have hr : s2.root.1 = 0 ∧ On s2.root.2.t := on_wr f2 _ _
  obtain ⟨R3, hR3⟩ : ∃ R3, s2.root = R3 := ⟨_, rfl⟩
  obtain ⟨e3, s3⟩ := R3
  rw [hR3] at hr
  obtain ⟨r1, r2⟩ := hr
  dsimp only at r1 r2
  subst r1
  rw [check_d hR1 hR2 hR3]
  exact on_syn r2
theorem on_note {s : JS} (h : On s.t) (hb : s.j.bad = 0) (r : Rec) : (s.note r).1 = 0 ∧ On (s.note r).2.t := by
  unfold JS.note
  rw [if_neg (by rw [hb]; decide)]
  split
  · exact on_check (s := ⟨s.j.apply r, s.t⟩) h
  · exact on_put (s := ⟨s.j.apply r, s.t⟩) h r
theorem on_set {s : JS} (h : On s.t) (hb : s.j.bad = 0) (k v : Nat) : ((s.set k v).1 = 0 ∨ (s.set k v).1 = 90) ∧ On (s.set k v).2.t := by
  unfold JS.set
  split
  · exact ⟨.inr rfl, h⟩
  · obtain ⟨h1, h2⟩ := on_note h hb ⟨1, 0, k, v, 0⟩
    exact ⟨.inl h1, h2⟩
theorem on_drop {s : JS} (h : On s.t) (hb : s.j.bad = 0) (k : Nat) : ((s.drop k).1 = 0 ∨ (s.drop k).1 = 70) ∧ On (s.drop k).2.t := by
  unfold JS.drop
  split
  · exact ⟨.inr rfl, h⟩
  · obtain ⟨h1, h2⟩ := on_note h hb ⟨2, 0, k, 0, 0⟩
    exact ⟨.inl h1, h2⟩
theorem on_sync {s : JS} (h : On s.t) (hb : s.j.bad = 0) : s.sync.1 = 0 ∧ On s.sync.2.t := by
  unfold JS.sync
  rw [if_neg (by rw [hb]; decide)]
  split
  · exact on_check h
  · exact on_flush h
/-! ### A journal on a new tape -/
theorem room2 {t : Tp} (ht : t.Ok) : 3 ≤ t.room := by
  have h3 : 3 * 2 ≤ t.sz * t.per := Nat.mul_le_mul ht.sz.1 ht.per.1
  unfold Tp.room; omega
theorem tp0_ok {nb size : Nat} (h1 : 8 ≤ nb) (h2 : nb ≤ 1000) (h3 : 128 ≤ size) (h4 : size ≤ 1000) : (tp0 nb size).Ok := ⟨h1, h2, h3, h4⟩
theorem new_inv {nb size : Nat} (h1 : 8 ≤ nb) (h2 : nb ≤ 1000) (h3 : 128 ≤ size) (h4 : size ≤ 1000) : (openF (tp0 nb size).last nb size).m = [] ∧ Inv ⟨openF (tp0 nb size).last nb size, (tp0 nb size).stepN nb⟩ (fun m => m = []) 1 := by
  have ht := tp0_ok h1 h2 h3 h4
  obtain ⟨k1, k2⟩ := open_inv (t := tp0 nb size) (A := fun m => m = []) (n := 0) (T := 0) (tp0_clean nb size) (tp0_snd nb size h1) (by have := tp0_lim nb size; rwa [Nat.zero_mul]) ht (Nat.le_refl _) (Nat.zero_le _) (by omega) (fun m hm => by rw [hm]; exact ⟨⟨List.Pairwise.nil, fun p hp => (by cases hp)⟩, Nat.zero_le _⟩)
  have k1' : (openF (tp0 nb size).last nb size).m = [] := k1
  refine ⟨k1', ?_⟩
  have k2' : Inv ⟨openF (tp0 nb size).last nb size, (tp0 nb size).stepN nb⟩ (fun m => m = (openF (tp0 nb size).last nb size).m) 1 := k2
  rwa [k1'] at k2'
end Go.Proofs.Ytkdjefnnhanhhaa
