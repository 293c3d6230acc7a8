/- A journal, plain: what was written is read again. -/
import Derived.Test.YtkdjefnnhanhhaaUr
set_option linter.unusedVariables false
namespace Go.Proofs.Ytkdjefnnhanhhaa
open Go Go.RowKit Go.Mem Go.Jn
set_option linter.unusedVariables false

theorem open_seal {xs : List Nat} (hx : ∀ y ∈ xs, y < 256) : openB (sealB xs) = some xs := by
  unfold openB
  have hl : (sealB xs).length - 4 = xs.length := by rw [sealB_len4]; omega
  rw [hl]
  unfold sealB
  rw [List.drop_left, List.take_left, Pg.num_low_lt (by have := Pg.sum_lt hx; omega), if_pos rfl]
theorem rawI_get (r : Rec) : (rawI r 4).getD 0 0 = r.kind := rfl
theorem raw4 (r : Rec) : rawI r 4 = r.kind :: (Pg.low r.seq 8 ++ (Pg.low r.a 8 ++ (Pg.low r.b 8 ++ Pg.low r.c 8))) := by
  unfold rawI
  simp only [List.range_succ_eq_map, List.range_zero, List.map_nil, List.map_cons, List.flatMap_cons, List.flatMap_nil, List.append_nil, Rec.ns]
theorem nsOf_raw {r : Rec} (hf : r.Fit) (I : Nat) (hI : I < 4) : nsOf (rawI r 4) I = r.ns I := by
  have h8 : ∀ x, (Pg.low x 8).length = 8 := fun x => Pg.low_len x 8
  have hn : ∀ x, x < 18446744073709551616 → Pg.num (Pg.low x 8) = x := fun x hx => Pg.num_low_lt hx
  unfold nsOf
  rw [raw4]
  have e : ∀ (a b : List Nat), a.length = 8 → (a ++ b).take 8 = a := fun a b h => by rw [← h, List.take_left]
  have d : ∀ (a b : List Nat) (n : Nat), a.length = 8 → (a ++ b).drop (8 + n) = b.drop n := fun a b n h => by rw [← h, ← List.drop_drop, List.drop_left]
  match I, hI with
  | 0, _ =>
    show Pg.num (((Pg.low r.seq 8 ++ _)).take 8) = r.seq
    rw [e _ _ (h8 _)]; exact hn _ (hf.2 0)
  | 1, _ =>
    show Pg.num (((Pg.low r.seq 8 ++ _).drop (8 + 0)).take 8) = r.a
    rw [d _ _ _ (h8 _), List.drop_zero, e _ _ (h8 _)]; exact hn _ (hf.2 1)
  | 2, _ =>
    show Pg.num (((Pg.low r.seq 8 ++ _).drop (8 + (8 + 0))).take 8) = r.b
    rw [d _ _ _ (h8 _), d _ _ _ (h8 _), List.drop_zero, e _ _ (h8 _)]; exact hn _ (hf.2 2)
  | 3, _ =>
    show Pg.num (((Pg.low r.seq 8 ++ _).drop (8 + (8 + (8 + 0)))).take 8) = r.c
    rw [d _ _ _ (h8 _), d _ _ _ (h8 _), d _ _ _ (h8 _), List.drop_zero, ← List.append_nil (Pg.low r.c 8), e _ _ (h8 _)]; exact hn _ (hf.2 3)
theorem parse_rec {r : Rec} (hf : r.Fit) (rest : List Nat) : parseR (recB r ++ rest) = some r := by
  unfold parseR
  rw [if_neg (by rw [List.length_append, recB_len]; omega)]
  rw [show (recB r ++ rest).take 37 = recB r from by rw [← recB_len r, List.take_left]]
  unfold recB
  rw [open_seal (rawI_lt r hf 4)]
  show (if 1 ≤ (rawI r 4).getD 0 0 ∧ (rawI r 4).getD 0 0 ≤ 4 then some (recOf (rawI r 4)) else none) = some r
  rw [rawI_get, if_pos hf.1]
  unfold recOf
  rw [rawI_get, nsOf_raw hf 0 (by decide), nsOf_raw hf 1 (by decide), nsOf_raw hf 2 (by decide), nsOf_raw hf 3 (by decide)]
  rfl
/-- By rising numbers. -/
def RisR (l : List Rec) : Prop := l.Pairwise (fun a b => a.seq < b.seq)
theorem allF_recs : ∀ (l : List Rec) (k : Nat) (lo : Option Nat) (rest : List Nat), l.length ≤ k → (∀ r ∈ l, r.Fit) → RisR l → (∀ r ∈ l, lo.isSome = true → lo.getD 0 < r.seq) → (allF k lo (l.flatMap recB ++ rest)).take l.length = l
  | [], _, _, _, _, _, _, _ => by simp
  | r :: l, 0, _, _, h, _, _, _ => absurd h (by simp)
  | r :: l, k + 1, lo, rest, hk, hf, hr, hlo => by
    obtain ⟨h1, h2⟩ := List.pairwise_cons.1 hr
    rw [List.flatMap_cons, List.append_assoc, allF, parse_rec (hf r (by simp))]
    have hn : ¬ (lo.isSome = true ∧ r.seq ≤ lo.getD 0) := fun h => by have := hlo r (by simp) h.1; omega
    simp only []
    rw [if_neg hn, show (recB r ++ (l.flatMap recB ++ rest)).drop 37 = l.flatMap recB ++ rest from by rw [← recB_len r, List.drop_left], List.length_cons, List.take_succ_cons]
    rw [allF_recs l k (some r.seq) rest (by simpa using hk) (fun q hq => hf q (by simp [hq])) h2 (fun q hq _ => h1 q hq)]
theorem allR_recs {l : List Rec} (rest : List Nat) (hf : ∀ r ∈ l, r.Fit) (hr : RisR l) : (allR (l.flatMap recB ++ rest)).take l.length = l := by
  unfold allR
  refine allF_recs l _ none rest ?_ hf hr (fun r _ h => by cases h)
  rw [List.length_append, flat_len]; omega
theorem chunk_block {size gen blk : Nat} {rows : List Rec} (hg : gen < 18446744073709551616) (hb : blk < 4294967296) (hl : 16 + rows.length * 37 ≤ size - 4) (hf : ∀ r ∈ rows, r.Fit) (hr : RisR rows) (hn : rows.length < 4294967296) : chunkR (blockB size gen blk rows) = some (gen, blk, rows) := by
  unfold blockB chunkR
  rw [open_seal (padTo_lt (rawB_lt hf))]
  have hlen : (padTo (size - 4) (rawB gen blk rows)).length = size - 4 := padTo_len (by rw [rawB_len]; exact hl)
  obtain ⟨Z, hZ⟩ : ∃ Z, List.replicate ((size - 4) - (rawB gen blk rows).length) 0 = Z := ⟨_, rfl⟩
  have hX : padTo (size - 4) (rawB gen blk rows) = Pg.low gen 8 ++ (Pg.low blk 4 ++ (Pg.low rows.length 4 ++ (rows.flatMap recB ++ Z))) := by
    unfold padTo; rw [hZ]; unfold rawB; simp only [List.append_assoc]
  have d8 : ∀ (n : Nat) (b : List Nat), (Pg.low gen 8 ++ b).drop (8 + n) = b.drop n := fun n b => by
    have h := List.drop_left (l₁ := Pg.low gen 8) (l₂ := b)
    rw [Pg.low_len] at h
    rw [← List.drop_drop, h]
  have d4 : ∀ (x n : Nat) (b : List Nat), (Pg.low x 4 ++ b).drop (4 + n) = b.drop n := fun x n b => by
    have h := List.drop_left (l₁ := Pg.low x 4) (l₂ := b)
    rw [Pg.low_len] at h
    rw [← List.drop_drop, h]
  have t4 : ∀ (x : Nat) (b : List Nat), (Pg.low x 4 ++ b).take 4 = Pg.low x 4 := fun x b => by
    have h := List.take_left (l₁ := Pg.low x 4) (l₂ := b)
    rwa [Pg.low_len] at h
  have t8 : ∀ (x : Nat) (b : List Nat), (Pg.low x 8 ++ b).take 8 = Pg.low x 8 := fun x b => by
    have h := List.take_left (l₁ := Pg.low x 8) (l₂ := b)
    rwa [Pg.low_len] at h
  have e1 : Pg.num (((padTo (size - 4) (rawB gen blk rows)).drop 12).take 4) = rows.length := by
    rw [hX, show (12 : Nat) = 8 + (4 + 0) from rfl, d8, d4, List.drop_zero, t4, Pg.num_low_lt hn]
  have e2 : (padTo (size - 4) (rawB gen blk rows)).drop 16 = rows.flatMap recB ++ Z := by
    rw [hX, show (16 : Nat) = 8 + (4 + (4 + 0)) from rfl, d8, d4, d4, List.drop_zero]
  have e3 : Pg.num ((padTo (size - 4) (rawB gen blk rows)).take 8) = gen := by rw [hX, t8, Pg.num_low_lt hg]
  have e4 : Pg.num (((padTo (size - 4) (rawB gen blk rows)).drop 8).take 4) = blk := by
    rw [hX, show (8 : Nat) = 8 + 0 from rfl, d8, List.drop_zero, t4, Pg.num_low_lt hb]
  show (if (padTo (size - 4) (rawB gen blk rows)).length < 16 then none else if ((allR ((padTo (size - 4) (rawB gen blk rows)).drop 16)).take (Pg.num (((padTo (size - 4) (rawB gen blk rows)).drop 12).take 4))).length = Pg.num (((padTo (size - 4) (rawB gen blk rows)).drop 12).take 4) then some (Pg.num ((padTo (size - 4) (rawB gen blk rows)).take 8), Pg.num (((padTo (size - 4) (rawB gen blk rows)).drop 8).take 4), (allR ((padTo (size - 4) (rawB gen blk rows)).drop 16)).take (Pg.num (((padTo (size - 4) (rawB gen blk rows)).drop 12).take 4))) else none) = _
  rw [if_neg (by rw [hlen]; omega), e1, e2, e3, e4, allR_recs Z hf hr, if_pos rfl]
theorem root_block {size gen area : Nat} (hg : gen < 18446744073709551616) (ha : area ≤ 1) (hs : 20 ≤ size) : rootR (rootB size gen area) = some (gen, area) := by
  unfold rootB rootR
  rw [open_seal (padTo_lt rawR_lt)]
  obtain ⟨Z, hZ⟩ : ∃ Z, List.replicate ((size - 4) - (rawR gen area).length) 0 = Z := ⟨_, rfl⟩
  have hX : padTo (size - 4) (rawR gen area) = Pg.low magicN 4 ++ (Pg.low area 4 ++ (Pg.low gen 8 ++ Z)) := by
    unfold padTo; rw [hZ]; unfold rawR; simp only [List.append_assoc]
  have d4 : ∀ (x n : Nat) (b : List Nat), (Pg.low x 4 ++ b).drop (4 + n) = b.drop n := fun x n b => by
    have h := List.drop_left (l₁ := Pg.low x 4) (l₂ := b)
    rw [Pg.low_len] at h
    rw [← List.drop_drop, h]
  have t4 : ∀ (x : Nat) (b : List Nat), (Pg.low x 4 ++ b).take 4 = Pg.low x 4 := fun x b => by
    have h := List.take_left (l₁ := Pg.low x 4) (l₂ := b)
    rwa [Pg.low_len] at h
  have t8 : ∀ (x : Nat) (b : List Nat), (Pg.low x 8 ++ b).take 8 = Pg.low x 8 := fun x b => by
    have h := List.take_left (l₁ := Pg.low x 8) (l₂ := b)
    rwa [Pg.low_len] at h
  have e1 : Pg.num ((padTo (size - 4) (rawR gen area)).take 4) = magicN := by rw [hX, t4, Pg.num_low_lt (by decide)]
  have e2 : (padTo (size - 4) (rawR gen area)).getD 4 0 = area := by
    rw [hX]
    have h4 : (Pg.low magicN 4).length = 4 := Pg.low_len _ _
    rw [List.getD_eq_getElem?_getD, List.getElem?_append_right (by rw [h4]; exact Nat.le_refl _), h4]
    show ((Pg.low area 4 ++ _)[0]?).getD 0 = area
    rw [Pg.low_succ, List.cons_append, List.getElem?_cons_zero, Option.getD_some]
    omega
  have e3 : Pg.num (((padTo (size - 4) (rawR gen area)).drop 8).take 8) = gen := by
    rw [hX, show (8 : Nat) = 4 + (4 + 0) from rfl, d4, d4, List.drop_zero, t8, Pg.num_low_lt hg]
  show (if Pg.num ((padTo (size - 4) (rawR gen area)).take 4) ≠ magicN ∨ 1 < (padTo (size - 4) (rawR gen area)).getD 4 0 then none else some (Pg.num (((padTo (size - 4) (rawR gen area)).drop 8).take 8), (padTo (size - 4) (rawR gen area)).getD 4 0)) = _
  rw [e1, e2, e3, if_neg (by intro h; rcases h with h | h; exact h rfl; omega)]
/-- Bytes 0. -/
theorem root_zero (n : Nat) : rootR (List.replicate n 0) = none := by
  unfold rootR
  split
  · rfl
  · rename_i l hl
    have hl0 : l = List.replicate ((List.replicate n 0).length - 4) 0 := by
      unfold openB at hl
      split at hl
      · cases hl; rw [List.length_replicate, List.take_replicate]; congr 1; omega
      · cases hl
    rw [if_pos]
    left
    rw [hl0, List.take_replicate, ← List.nil_append (List.replicate _ 0), Pg.num_rep]
    decide
theorem chunk_zero {n : Nat} {g k : Nat} {l : List Rec} (h : chunkR (List.replicate n 0) = some (g, k, l)) : g = 0 ∧ l = [] := by
  unfold chunkR at h
  split at h
  · cases h
  · rename_i x hx
    have hx0 : x = List.replicate (n - 4) 0 := by
      unfold openB at hx
      split at hx
      · cases hx; rw [List.length_replicate, List.take_replicate]; congr 1; omega
      · cases hx
    have hz : ∀ m, Pg.num (List.replicate m 0) = 0 := fun m => by rw [← List.nil_append (List.replicate m 0), Pg.num_rep]; rfl
    rw [hx0] at h
    simp only [List.drop_replicate, List.take_replicate, hz, List.take_zero, List.length_nil, if_true] at h
    split at h
    · cases h
    · cases h; exact ⟨rfl, rfl⟩
end Go.Proofs.Ytkdjefnnhanhhaa
/- A journal, plain: what may be left of its tape, and what is opened on it. -/
namespace Go.Proofs.Ytkdjefnnhanhhaa
open Go Go.RowKit Go.Mem Go.Jn
set_option linter.unusedVariables false

/-- What may be left of a block. -/
def Ver (t : Tp) (i : Nat) (x : List Nat) : Prop := x = t.kept i ∨ x ∈ t.since i
def stepM (M : MM) (r : Rec) : MM := if r.kind = 1 then putM r.a r.b M else if r.kind = 2 then delM r.a M else M
def mapF (M : MM) (l : List Rec) : MM := l.foldl stepM M
abbrev mapR (l : List Rec) : MM := mapF [] l
theorem appl_m : ∀ (l : List Rec) (j : Jo), (appl j l).m = mapF j.m l
  | [], j => rfl
  | r :: l, j => appl_m l (j.apply r)
theorem mapF_app (M : MM) (a b : List Rec) : mapF M (a ++ b) = mapF (mapF M a) b := by unfold mapF; rw [List.foldl_append]
theorem appl_seq {b : Nat} : ∀ (l : List Rec) (j : Jo), j.seq ≤ b → (∀ r ∈ l, r.seq ≤ b) → (appl j l).seq ≤ b
  | [], j, h, _ => h
  | r :: l, j, h, hl => appl_seq l (j.apply r) (by show max j.seq r.seq ≤ b; have := hl r (by simp); omega) (fun q hq => hl q (by simp [hq]))
/-- The versions of an area's blocks tell the records of a generation. -/
def Ar (t : Tp) (g a : Nat) (R : List Rec) (lo : Nat) : Prop := ∀ i, i < t.sz → ∀ x, Ver t (2 + a * t.sz + i) x →
  (∃ v, v ≤ t.per ∧ i * t.per + v ≤ R.length ∧ chunkR x = some (g, i, (R.drop (i * t.per)).take v) ∧ (lo ≤ i * t.per + v ∨ v = t.per)) ∨ (lo ≤ i * t.per ∧ ∀ l, chunkR x ≠ some (g, i, l))
theorem take_more (R : List Rec) (n v : Nat) : R.take (n + v) = R.take n ++ (R.drop n).take v := by rw [List.take_add]
theorem replay_m {t : Tp} {g a lo : Nat} {R : List Rec} (hA : Ar t g a R lo) (hlo : lo ≤ R.length) (hR : R.length ≤ t.sz * t.per) {c : Nat → List Nat} (hc : ∀ i, i < t.sz → Ver t (2 + a * t.sz + i) (c (2 + a * t.sz + i))) :
    ∀ (k I : Nat) (j : Jo), I + k = t.sz → I * t.per ≤ R.length → j.m = mapR (R.take (I * t.per)) → ∃ n, lo ≤ n ∧ n ≤ R.length ∧ (replayF c (2 + a * t.sz) t.per g k I j).m = mapR (R.take n)
  | 0, I, j, hI, hl, hm => ⟨I * t.per, by rw [show I = t.sz by omega]; omega, hl, hm⟩
  | k + 1, I, j, hI, hl, hm => by
    rcases hA I (by omega) _ (hc I (by omega)) with ⟨v, h1, h2, h3, h4⟩ | ⟨h1, h2⟩
    · unfold replayF
      rw [h3]
      simp only [and_self, if_true]
      have hlen : ((R.drop (I * t.per)).take v).length = v := by rw [List.length_take, List.length_drop]; omega
      have hmm : (appl { j with block := I, rows := (R.drop (I * t.per)).take v } ((R.drop (I * t.per)).take v)).m = mapR (R.take (I * t.per + v)) := by
        rw [appl_m]
        show mapF j.m _ = _
        rw [hm, take_more]
        exact (mapF_app _ _ _).symm
      by_cases hv : v < t.per
      · rw [if_pos (by rw [hlen]; exact hv)]
        exact ⟨I * t.per + v, by rcases h4 with h | h; exact h; omega, h2, hmm⟩
      · rw [if_neg (by rw [hlen]; exact hv)]
        have hvp : v = t.per := by omega
        have e : (I + 1) * t.per = I * t.per + v := by rw [Nat.succ_mul, hvp]
        exact replay_m hA hlo hR hc k (I + 1) _ (by omega) (by rw [e]; exact h2) (by rw [e]; exact hmm)
    · refine ⟨I * t.per, h1, hl, ?_⟩
      unfold replayF
      split
      · rename_i g' n l hch
        split
        · rename_i he
          obtain ⟨rfl, rfl⟩ := he
          exact absurd hch (h2 l)
        · exact hm
      · exact hm
/-- What stays with a journal that is opened. -/
theorem replay_same (c : Nat → List Nat) (first per g : Nat) : ∀ (k I : Nat) (j : Jo), (replayF c first per g k I j).gen = j.gen ∧ (replayF c first per g k I j).top = j.top ∧ (replayF c first per g k I j).area = j.area ∧ (replayF c first per g k I j).dirty = j.dirty ∧ (replayF c first per g k I j).late = j.late ∧ (replayF c first per g k I j).bad = j.bad
  | 0, I, j => ⟨rfl, rfl, rfl, rfl, rfl, rfl⟩
  | k + 1, I, j => by
    unfold replayF
    split
    · rename_i g' n l hch
      split
      · obtain ⟨a1, a2, a3, a4, a5, a6, a7, a8⟩ := appl_same l { j with block := I, rows := l }
        split
        · exact ⟨a1, a2, a3, a6, a7, a8⟩
        · obtain ⟨b1, b2, b3, b4, b5, b6⟩ := replay_same c first per g k (I + 1) (appl { j with block := I, rows := l } l)
          exact ⟨b1.trans a1, b2.trans a2, b3.trans a3, b4.trans a6, b5.trans a7, b6.trans a8⟩
      · exact ⟨rfl, rfl, rfl, rfl, rfl, rfl⟩
    · exact ⟨rfl, rfl, rfl, rfl, rfl, rfl⟩
structure Blk (j : Jo) (sz per b : Nat) : Prop where
  block : j.block < sz
  rows : j.rows.length ≤ per
  fit : ∀ r ∈ j.rows, r.Fit
  seq : j.seq ≤ b
theorem replay_blk {c : Nat → List Nat} {first per g sz b : Nat} (hl : ∀ i g n l, i < sz → chunkR (c (first + i)) = some (g, n, l) → l.length ≤ per ∧ (∀ r ∈ l, r.Fit) ∧ ∀ r ∈ l, r.seq ≤ b) : ∀ (k I : Nat) (j : Jo), I + k = sz → Blk j sz per b → Blk (replayF c first per g k I j) sz per b
  | 0, I, j, _, h => h
  | k + 1, I, j, hI, h => by
    unfold replayF
    split
    · rename_i g' n l hch
      obtain ⟨h1, h2, h3⟩ := hl I g' n l (by omega) hch
      split
      · obtain ⟨a1, a2, a3, a4, a5, a6, a7, a8⟩ := appl_same l { j with block := I, rows := l }
        have hB : Blk (appl { j with block := I, rows := l } l) sz per b := ⟨by rw [a4]; show I < sz; omega, by rw [a5]; exact h1, by rw [a5]; exact h2, appl_seq l _ h.seq h3⟩
        split
        · exact hB
        · exact replay_blk hl k (I + 1) _ (by omega) hB
      · exact h
    · exact h
/-- The greatest numbers on a tape. -/
def Lim (t : Tp) (T b : Nat) : Prop := ∀ i, i < t.nb → ∀ x, Ver t i x → BytesN t.size x ∧ (i < 2 → ∀ g a, rootR x = some (g, a) → g ≤ T) ∧ (2 ≤ i → ∀ g n l, chunkR x = some (g, n, l) → g ≤ T ∧ ∀ r ∈ l, r.seq ≤ b)
def RootIs (t : Tp) (g a : Nat) : Prop := ∀ c : Nat → List Nat, (∀ i, i < 2 → Ver t i (c i)) → rtI c 2 = (g, a)
/-- What is opened, by the roots and one area alone. -/
def Old (t : Tp) (a : Nat) (P : MM → Prop) : Prop := ∀ c : Nat → List Nat, (∀ i, i < 2 → Ver t i (c i)) → (∀ i, i < t.sz → Ver t (2 + a * t.sz + i) (c (2 + a * t.sz + i))) → P (openF c t.nb t.size).m
theorem Old.imp {t : Tp} {a : Nat} {P P' : MM → Prop} (h : Old t a P) (hP : ∀ m, P m → P' m) : Old t a P' := fun c h1 h2 => hP _ (h c h1 h2)
theorem Old.frame {t t' : Tp} {a : Nat} {P : MM → Prop} (h : Old t a P) (hn : t'.nb = t.nb) (hs : t'.size = t.size) (hv : ∀ i x, (i < 2 ∨ ∃ k, k < t.sz ∧ i = 2 + a * t.sz + k) → Ver t' i x → Ver t i x) : Old t' a P := fun c h1 h2 => by
  rw [hn, hs]
  rw [sz_of hn] at h2
  exact h c (fun i hi => hv i _ (.inl hi) (h1 i hi)) (fun i hi => hv _ _ (.inr ⟨i, hi, rfl⟩) (h2 i hi))
theorem open_m {c : Nat → List Nat} {t : Tp} {g a : Nat} (hr : rtI c 2 = (g, a)) : (openF c t.nb t.size).m = if g = 0 then [] else (replayF c (2 + a * t.sz) t.per g t.sz 0 (openH c t.nb)).m := by
  unfold openF Tp.sz Tp.per
  rw [hr]
  split <;> rfl
theorem old_ar {t : Tp} {g a lo : Nat} {R : List Rec} (hr : RootIs t g a) (hg : 1 ≤ g) (hA : Ar t g a R lo) (hlo : lo ≤ R.length) (hR : R.length ≤ t.sz * t.per) : Old t a (fun m => ∃ n, lo ≤ n ∧ n ≤ R.length ∧ m = mapR (R.take n)) := fun c h1 h2 => by
  rw [open_m (hr c h1), if_neg (by omega)]
  exact replay_m hA hlo hR h2 t.sz 0 _ (by omega) (by rw [Nat.zero_mul]; omega) (by rw [Nat.zero_mul]; rfl)
theorem old_zero {t : Tp} {a : Nat} (hr : RootIs t 0 a) : Old t a (fun m => m = []) := fun c h1 h2 => by
  rw [open_m (hr c h1), if_pos rfl]
theorem old_ver {t : Tp} {a : Nat} {P : MM → Prop} (h : Old t a P) (ha : a ≤ 1) (hn : 8 ≤ t.nb) {c : Nat → List Nat} (hc : ∀ i, i < t.nb → Ver t i (c i)) : P (openF c t.nb t.size).m := by
  refine h c (fun i hi => hc i (by omega)) (fun i hi => hc _ ?_)
  have h2 : a * t.sz ≤ 1 * t.sz := Nat.mul_le_mul_right _ ha
  have h3 : t.sz = (t.nb - 2) / 2 := rfl
  omega
/-! ### A tape's operations -/
theorem ver_write {t : Tp} {i k : Nat} {b x : List Nat} (h : Ver (t.write i b) k x) : Ver t k x ∨ (k = i ∧ x = b) := by
  unfold Tp.write at h
  split at h
  · rcases h with h | h
    · exact .inl (.inl h)
    · by_cases e : k = i
      · subst e
        simp only [upf_same] at h
        rcases List.mem_append.1 h with h | h
        · exact .inl (.inr h)
        · exact .inr ⟨rfl, List.mem_singleton.1 h⟩
      · simp only [upf_other e] at h
        exact .inl (.inr h)
  · exact .inl h
theorem last_ver (t : Tp) (i : Nat) : Ver t i (t.last i) := by
  rcases Nat.eq_zero_or_pos (t.since i).length with h | h
  · exact .inl (last_nil h)
  · exact .inr (last_mem h)
theorem ver_sync {t : Tp} {k : Nat} {x : List Nat} (hk : k < t.nb) (h : Ver t.sync k x) : Ver t k x := by
  unfold Tp.sync at h
  split at h
  · rcases h with h | h
    · have e : (t.step.setI t.step.last t.nb).kept k = t.step.last k := if_pos hk
      rw [e] at h
      rw [h]
      exact last_ver t k
    · have e : (t.step.setI t.step.last t.nb).since k = [] := if_pos hk
      rw [e] at h; cases h
  · exact h
theorem err_ok {t : Tp} (h : t.err = 0) : t.step.off = false := by
  unfold Tp.err at h
  cases hs : t.step.off
  · rfl
  · rw [hs] at h; cases h
theorem write_last {t : Tp} {i : Nat} {b : List Nat} (h : t.err = 0) (k : Nat) : (t.write i b).last k = if k = i then b else t.last k := by
  unfold Tp.write
  rw [if_pos (.inl (err_ok h))]
  unfold Tp.last
  by_cases e : k = i
  · subst e; simp only [upf_same, if_true]; simp
  · rw [if_neg e]; simp only [upf_other e]; rfl
theorem sync_ok {t : Tp} (h : t.err = 0) {k : Nat} (hk : k < t.nb) : t.sync.kept k = t.last k ∧ t.sync.since k = [] := by
  unfold Tp.sync
  rw [if_pos (.inl (err_ok h))]
  exact ⟨if_pos hk, if_pos hk⟩
theorem sync_last {t : Tp} (h : t.err = 0) {k : Nat} (hk : k < t.nb) : t.sync.last k = t.last k := by
  obtain ⟨h1, h2⟩ := sync_ok h hk
  unfold Tp.last
  rw [h2]
  exact h1
end Go.Proofs.Ytkdjefnnhanhhaa
