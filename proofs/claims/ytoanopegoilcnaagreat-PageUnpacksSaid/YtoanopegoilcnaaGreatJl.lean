/- Plain facts on how many bits differ. -/
import Derived.Test.YtoanopegoilcnaaGreatJi
import Derived.Test.YtoanopegoilcnaaGreatZBci
import Derived.Test.YtoanopegoilcnaaGreatJk
set_option linter.unusedVariables false
namespace Gf
/-- How many of the first L say yes. -/
def cs (f : Nat → Bool) : Nat → Nat
  | 0 => 0
  | L+1 => cs f L + (f L).toNat
theorem cs_supp (f : Nat → Bool) (L : Nat) : cs f L = (supp f L).length := by
  induction L with
  | zero => rfl
  | succ L ih => rw [cs, supp_succ, List.length_append, ih]; cases f L <;> simp
theorem cs_congr {f g : Nat → Bool} {L : Nat} (h : ∀ i, i < L → f i = g i) : cs f L = cs g L := by
  induction L with
  | zero => rfl
  | succ L ih => rw [cs, cs, ih (fun i hi => h i (by omega)), h L (by omega)]
theorem cs_head (f : Nat → Bool) (L : Nat) : cs f (L+1) = (f 0).toNat + cs (fun i => f (i+1)) L := by
  induction L with
  | zero => simp [cs]
  | succ L ih => rw [cs, ih, cs]; omega
theorem cs_rev (f : Nat → Bool) (L : Nat) : cs (fun i => f (L - 1 - i)) L = cs f L := by
  induction L with
  | zero => rfl
  | succ L ih =>
    rw [cs_head, cs, ← ih, Nat.add_comm]
    congr 1
    exact cs_congr (fun i _ => by congr 1; omega)
theorem cs_add (f : Nat → Bool) (a b : Nat) : cs f (a + b) = cs f a + cs (fun i => f (a + i)) b := by
  induction b with
  | zero => rfl
  | succ b ih => rw [← Nat.add_assoc, cs, ih, cs]; omega
theorem cs_mono (f : Nat → Bool) {a b : Nat} (h : a ≤ b) : cs f a ≤ cs f b := by
  obtain ⟨c, rfl⟩ := Nat.exists_eq_add_of_le h
  rw [cs_add]; omega
theorem cs_xor (u v : Nat → Bool) (L : Nat) : cs (fun k => u k ^^ v k) L ≤ cs u L + cs v L := by
  rw [cs_supp, cs_supp, cs_supp]; exact supp_tri u v L
theorem cs_one (i L : Nat) : cs (fun j => decide (i = j)) L ≤ 1 := by
  have : cs (fun j => decide (i = j)) L = if i < L then 1 else 0 := by
    induction L with
    | zero => rfl
    | succ L ih =>
      rw [cs, ih]
      by_cases h : i = L
      · subst h; simp
      · rw [decide_eq_false h]
        by_cases h2 : i < L
        · rw [if_pos h2, if_pos (by omega)]; rfl
        · rw [if_neg h2, if_neg (by omega)]; rfl
  rw [this]; split <;> omega
theorem cs_zero {f : Nat → Bool} {L : Nat} : cs f L = 0 ↔ ∀ i, i < L → f i = false := by
  induction L with
  | zero => simp [cs]
  | succ L ih =>
    rw [cs]
    constructor
    · intro h i hi
      by_cases e : i = L
      · subst e; cases hf : f i
        · rfl
        · rw [hf] at h; simp at h
      · exact ih.1 (by omega) i (by omega)
    · intro h
      rw [ih.2 (fun i hi => h i (by omega)), h L (by omega)]; rfl
end Gf
namespace Go.Proofs.YtoanopegoilcnaaGreat
open Go.RowKit Go.Mem

/-- In how many bits do n bytes differ? -/
def ub (f g : Nat → Nat) (n : Nat) : Nat := Gf.cs (fun i => bitAt f i ^^ bitAt g i) (8 * n)
theorem ub_self (f : Nat → Nat) (n : Nat) : ub f f n = 0 := Gf.cs_zero.2 (fun _ _ => by simp)
theorem ub_comm (f g : Nat → Nat) (n : Nat) : ub f g n = ub g f n := Gf.cs_congr (fun _ _ => Bool.xor_comm _ _)
theorem ub_congr {f g f' g' : Nat → Nat} {n : Nat} (hf : ∀ j, j < n → f j = f' j) (hg : ∀ j, j < n → g j = g' j) : ub f g n = ub f' g' n :=
  Gf.cs_congr (fun i hi => by unfold bitAt; rw [hf _ (by omega), hg _ (by omega)])
theorem ub_tb (f g : Nat → Nat) (i n : Nat) : ub (tb f i) g n ≤ ub f g n + 1 := by
  unfold ub
  refine Nat.le_trans (Nat.le_of_eq ?_) (Nat.le_trans (Gf.cs_xor (fun j => bitAt f j ^^ bitAt g j) (fun j => decide (i = j)) (8 * n)) (Nat.add_le_add_left (Gf.cs_one _ _) _))
  refine Gf.cs_congr (fun j _ => ?_)
  rw [bitAt_tb]
  cases bitAt f j <;> cases bitAt g j <;> cases decide (i = j) <;> rfl
theorem dst_ub {bytes r P : Nat} (d p d' p' : Nat → Nat) (hr : r ≤ 8 * P) : Gf.dst (wd (8 * bytes) r d p) (wd (8 * bytes) r d' p') (8 * bytes + r) = ub d d' bytes + Gf.cs (fun i => bitAt p i ^^ bitAt p' i) r ∧ Gf.cs (fun i => bitAt p i ^^ bitAt p' i) r ≤ ub p p' P := by
  refine ⟨?_, Gf.cs_mono _ hr⟩
  unfold Gf.dst
  rw [← Gf.cs_supp, Nat.add_comm (8 * bytes) r, Gf.cs_add, Nat.add_comm]
  congr 1
  · unfold ub
    rw [← Gf.cs_rev (fun i => wd (8 * bytes) r d p (r + i) ^^ wd (8 * bytes) r d' p' (r + i))]
    refine Gf.cs_congr (fun i hi => ?_)
    rw [wd_hi (by omega), wd_hi (by omega), show 8 * bytes + r - 1 - (r + (8 * bytes - 1 - i)) = i by omega]
  · rw [← Gf.cs_rev (fun k => wd (8 * bytes) r d p k ^^ wd (8 * bytes) r d' p' k)]
    refine Gf.cs_congr (fun i hi => ?_)
    rw [wd_lo (by omega), wd_lo (by omega), show r - 1 - (r - 1 - i) = i by omega]
theorem cs_pad {r P : Nat} {p p' : Nat → Nat} (hr : r ≤ 8 * P) (h : ∀ i, r ≤ i → i < 8 * P → bitAt p i = bitAt p' i) : ub p p' P = Gf.cs (fun i => bitAt p i ^^ bitAt p' i) r := by
  unfold ub
  obtain ⟨c, hc⟩ := Nat.exists_eq_add_of_le hr
  rw [hc, Gf.cs_add]
  have : Gf.cs (fun i => bitAt p (r + i) ^^ bitAt p' (r + i)) c = 0 := Gf.cs_zero.2 (fun i hi => by rw [h _ (by omega) (by omega)]; simp)
  omega
theorem ub_zero {f g : Nat → Nat} {n : Nat} (hf : ∀ j, f j < 256) (hg : ∀ j, g j < 256) (h : ub f g n = 0) : ∀ j, j < n → f j = g j :=
  bytes_ext hf hg (fun i hi => by
    have := Gf.cs_zero.1 h i hi
    revert this
    cases bitAt f i <;> cases bitAt g i <;> simp)

/-- The bits of a byte, the lowest first. -/
def uk (x : Nat) (K : Nat) : Nat := Gf.cs (fun k => x.testBit k) K
/-- Behind I bytes. -/
def us (f g : Nat → Nat) : Nat → Nat
  | 0 => 0
  | I+1 => us f g I + uk (f I ^^^ g I) 8
theorem us_ub (f g : Nat → Nat) (n : Nat) : us f g n = ub f g n := by
  induction n with
  | zero => rfl
  | succ n ih =>
    unfold us ub
    rw [ih, show 8 * (n + 1) = 8 * n + 8 by omega, Gf.cs_add]
    unfold ub uk
    congr 1
    rw [← Gf.cs_rev]
    refine Gf.cs_congr (fun i hi => ?_)
    rw [Nat.testBit_xor]
    unfold bitAt
    rw [show (8 * n + i) / 8 = n by omega, show 7 - (8 * n + i) % 8 = 8 - 1 - i by omega]
theorem us_le (f g : Nat → Nat) (n : Nat) : us f g n ≤ 8 * n := by
  have : ∀ (h : Nat → Bool) L, Gf.cs h L ≤ L := fun h L => by
    induction L with
    | zero => exact Nat.le_refl _
    | succ L ih => rw [Gf.cs]; cases h L <;> simp <;> omega
  rw [us_ub]; exact this _ _
theorem uk_le (x K : Nat) : uk x K ≤ K := by
  induction K with
  | zero => exact Nat.le_refl _
  | succ K ih => unfold uk at *; rw [Gf.cs]; cases x.testBit K <;> simp <;> omega

/-- What decodes within t bits of an encoded word. -/
theorem near_good {bytes t m P : Nat} (hp : Par bytes t m) (hP : P = (rr m t + 7) / 8) (xs : List Nat) (hl : xs.length = bytes) {d p : Nat → Nat} (hd : ub d (xs.getD · 0) bytes + ub p (par m t xs) P ≤ t) :
    ∃ k, DecGood m t (8 * bytes) (rr m t) P d p (xs.getD · 0) (par m t xs) k ∧ k = ub d (xs.getD · 0) bytes + Gf.cs (fun i => bitAt p i ^^ bitAt (par m t xs) i) (rr m t) := by
  obtain ⟨h1, h2⟩ := dst_ub (bytes := bytes) (P := P) d p (xs.getD · 0) (par m t xs) (show rr m t ≤ 8 * P by omega)
  exact ⟨_, ⟨par_cw hp xs hl, h1, by omega, fun i h1 _ => par_pad m t xs i h1⟩, rfl⟩
end Go.Proofs.YtoanopegoilcnaaGreat
/- A page, plain: what is packed, what bytes say. -/
namespace Go.Proofs.YtoanopegoilcnaaGreat
open Go.RowKit Go.Mem Go.Pg

/-! ### Decoding as a function -/
def DecIs (m t : Nat) (xs ys : List Nat) (r : List Nat × Nat) : Prop :=
  ∃ d' p', (∀ j, d' j < 256) ∧ (∀ j, p' j < 256) ∧ r.1 = (List.range xs.length).map d' ∧ DecGood m t (8 * xs.length) (rr m t) ys.length (xs.getD · 0) (ys.getD · 0) d' p' r.2
open Classical in
noncomputable def dec (m t : Nat) (xs ys : List Nat) : Option (List Nat × Nat) :=
  if h : ∃ r, DecIs m t xs ys r then some (Classical.choose h) else none
theorem dec_some {m t : Nat} {xs ys : List Nat} {r : List Nat × Nat} (hp : Par xs.length t m) (hP : ys.length = (rr m t + 7) / 8) (h : DecIs m t xs ys r) : dec m t xs ys = some r := by
  unfold dec
  have hex : ∃ r, DecIs m t xs ys r := ⟨r, h⟩
  rw [dif_pos hex]
  obtain ⟨d1, p1, a1, b1, e1, g1⟩ := Classical.choose_spec hex
  obtain ⟨d2, p2, a2, b2, e2, g2⟩ := h
  obtain ⟨u1, _, u3⟩ := DecGood.uniq hp hP g1 g2 a1 b1 a2 b2
  congr 1
  refine Prod.ext ?_ u3
  rw [e1, e2]
  exact List.map_congr_left (fun j hj => u1 j (by simpa using hj))
theorem dec_none {m t : Nat} {xs ys : List Nat} (h : DecBad m t (8 * xs.length) (rr m t) (xs.getD · 0) (ys.getD · 0)) : dec m t xs ys = none := by
  unfold dec
  rw [dif_neg]
  rintro ⟨r, d', p', _, _, _, hg⟩
  exact h.not hg
/-- What is answered is decoded. -/
def DecV (m t bytes P : Nat) (xs ys : List Nat) (w w' : World) (e : Ending) : Prop :=
  (∃ g1 c1 g2 c2 x k q, w.heap.size ≤ g1 ∧ w.heap.size ≤ g2 ∧ e = .returned (.tuple #[.slice (some ⟨g1, 0, none⟩) bytes c1, .slice (some ⟨g2, 0, none⟩) P c2, .int .i64 (k : Nat), .int .i64 0]) ∧
    Ow .u8 5 w' g1 bytes c1 (x.getD · 0) ∧ x.length = bytes ∧ Ow .u8 5 w' g2 P c2 q ∧ (∀ y ∈ x, y < 256) ∧ k ≤ t ∧ dec m t xs ys = some (x, k)) ∨
  (e = .returned (.tuple #[.slice none 0 0, .slice none 0 0, .int .i64 0, .int .i64 20]) ∧ dec m t xs ys = none)
theorem DecRet.v {m t bytes P : Nat} {xs ys : List Nat} {w w' : World} {e : Ending} (hp : Par bytes t m) (hl : xs.length = bytes) (hP : P = (rr m t + 7) / 8) (hyl : ys.length = P)
    (h : DecRet m t bytes P (xs.getD · 0) (ys.getD · 0) w w' e) : DecV m t bytes P xs ys w w' e := by
  subst hl
  rcases h with ⟨g1, c1, g2, c2, d', p', k, h1, h2, he, o1, o2, b1, b2, hg⟩ | ⟨he, hb⟩
  · refine .inl ⟨g1, c1, g2, c2, (List.range xs.length).map d', k, p', h1, h2, he, o1.congr (fun j hj => (rg_getD _ _ _ hj).symm), by simp, o2, fun y hy => ?_, hg.2.2.1, ?_⟩
    · obtain ⟨j, _, rfl⟩ := List.mem_map.1 hy
      exact b1 j
    · exact dec_some hp (hyl.trans hP) ⟨d', p', b1, b2, rfl, by rw [hyl]; exact hg⟩
  · exact .inr ⟨he, dec_none hb⟩

/-! ### Codewords -/
/-- Parity's bytes. -/
def pcn (m t : Nat) : Nat := (rr m t + 7) / 8
def parB (m t : Nat) (x : List Nat) : List Nat := (List.range (pcn m t)).map (par m t x)
/-- Bytes, their sum, their parity. -/
def sealB (m t : Nat) (b : List Nat) (s : Nat) : List Nat := (b ++ low s 4) ++ parB m t (b ++ low s 4)
noncomputable def opnB (m t n : Nat) (l : List Nat) : Option (List Nat × Nat × Nat) :=
  (dec m t (l.take (n + 4)) (l.drop (n + 4))).map fun r => (r.1.take n, num (r.1.drop n), r.2)
theorem parB_len (m t : Nat) (x : List Nat) : (parB m t x).length = pcn m t := by simp [parB]
theorem parB_lt (m t : Nat) (x : List Nat) : ∀ y ∈ parB m t x, y < 256 := by
  intro y hy
  obtain ⟨j, _, rfl⟩ := List.mem_map.1 hy
  exact par_lt _ _ _ j
theorem sealB_len (m t : Nat) (b : List Nat) (s : Nat) : (sealB m t b s).length = b.length + 4 + pcn m t := by simp [sealB, low_len, parB_len]; omega
theorem sealB_lt {m t : Nat} {b : List Nat} (s : Nat) (hb : ∀ y ∈ b, y < 256) : ∀ y ∈ sealB m t b s, y < 256 := by
  intro y hy
  simp only [sealB, List.mem_append] at hy
  rcases hy with (h | h) | h
  · exact hb y h
  · exact low_lt _ _ y h
  · exact parB_lt _ _ _ y h
theorem sealB_inj {m t : Nat} {a b : List Nat} {s u : Nat} (hl : a.length = b.length) (hs : s < 4294967296) (hu : u < 4294967296) (h : sealB m t a s = sealB m t b u) : a = b ∧ s = u := by
  unfold sealB at h
  have h1 := (List.append_inj h (by simp [low_len, hl])).1
  have h2 := List.append_inj h1 hl
  exact ⟨h2.1, low_inj (k := 4) hs hu h2.2⟩
theorem rr_pcn (m t : Nat) : rr m t ≤ 8 * pcn m t := by unfold pcn; omega
/-- A codeword in which few bits were turned. -/
theorem opn_near {m t n : Nat} (hp : Par (n + 4) t m) {b : List Nat} {s : Nat} (hb : ∀ y ∈ b, y < 256) (hbl : b.length = n) (hs : s < 4294967296) {l : List Nat} (hl : l.length = n + 4 + pcn m t)
    (hd : ub (l.getD · 0) ((sealB m t b s).getD · 0) (n + 4 + pcn m t) ≤ t) :
    opnB m t n l = some (b, s, ub (l.getD · 0) ((b ++ low s 4).getD · 0) (n + 4) + Gf.cs (fun i => bitAt (fun j => l.getD (n + 4 + j) 0) i ^^ bitAt (par m t (b ++ low s 4)) i) (rr m t)) := by
  obtain ⟨x, hx⟩ : ∃ x, b ++ low s 4 = x := ⟨_, rfl⟩
  have hxl : x.length = n + 4 := by rw [← hx]; simp [low_len, hbl]
  have hxb : ∀ y ∈ x, y < 256 := by
    intro y hy
    rw [← hx, List.mem_append] at hy
    rcases hy with h | h
    · exact hb y h
    · exact low_lt _ _ y h
  have hseal : sealB m t b s = x ++ parB m t x := by unfold sealB; rw [hx]
  have hg1 : ∀ j, j < n + 4 → (sealB m t b s).getD j 0 = x.getD j 0 := fun j hj => by rw [hseal, app_gd, if_pos (by omega)]
  have hg2 : ∀ j, j < pcn m t → (sealB m t b s).getD (n + 4 + j) 0 = par m t x j := fun j hj => by
    rw [hseal, app_gd, if_neg (by omega), show n + 4 + j - x.length = j by omega]
    exact rg_getD _ _ _ hj
  have hlt : ∀ j, j < n + 4 → (l.take (n + 4)).getD j 0 = l.getD j 0 := fun j hj => take_gd _ _ _ hj
  have hld : ∀ j, (l.drop (n + 4)).getD j 0 = l.getD (n + 4 + j) 0 := fun j => drop_gd _ _ _
  have hsum : ub (l.getD · 0) ((sealB m t b s).getD · 0) (n + 4 + pcn m t) = ub ((l.take (n + 4)).getD · 0) (x.getD · 0) (n + 4) + ub ((l.drop (n + 4)).getD · 0) (par m t x) (pcn m t) := by
    unfold ub
    rw [show 8 * (n + 4 + pcn m t) = 8 * (n + 4) + 8 * pcn m t by omega, Gf.cs_add]
    congr 1
    · refine Gf.cs_congr (fun i hi => ?_)
      unfold bitAt
      dsimp only
      rw [hg1 _ (by omega), hlt _ (by omega)]
    · refine Gf.cs_congr (fun i hi => ?_)
      unfold bitAt
      dsimp only
      rw [show (8 * (n + 4) + i) / 8 = n + 4 + i / 8 by omega, show (8 * (n + 4) + i) % 8 = i % 8 by omega, hg2 _ (by omega), hld]
  rw [hsum] at hd
  have hP : pcn m t = (rr m t + 7) / 8 := rfl
  obtain ⟨k, hk1, hk2⟩ := near_good hp hP x hxl hd
  have htl : (l.take (n + 4)).length = n + 4 := by rw [List.length_take]; omega
  have hdl : (l.drop (n + 4)).length = pcn m t := by rw [List.length_drop]; omega
  have hdec : dec m t (l.take (n + 4)) (l.drop (n + 4)) = some (x, k) :=
    dec_some (by rw [htl]; exact hp) hdl ⟨(x.getD · 0), par m t x, fun j => Gf.getD_lt (m := 8) hxb j, par_lt m t x, by rw [htl, ← hxl]; exact (rg_self x).symm, by rw [htl, hdl]; exact hk1⟩
  unfold opnB
  rw [hdec]
  have e1 : ub (l.getD · 0) (x.getD · 0) (n + 4) = ub ((l.take (n + 4)).getD · 0) (x.getD · 0) (n + 4) := ub_congr (fun j hj => (hlt j hj).symm) (fun _ _ => rfl)
  have e2 : (fun i => bitAt (fun j => l.getD (n + 4 + j) 0) i ^^ bitAt (par m t x) i) = fun i => bitAt ((l.drop (n + 4)).getD · 0) i ^^ bitAt (par m t x) i := by
    funext i
    unfold bitAt
    dsimp only
    simp only [hld]
  simp only [Option.map_some, Option.some.injEq, Prod.mk.injEq]
  refine ⟨?_, ?_, ?_⟩
  · rw [← hx, List.take_left' hbl]
  · rw [← hx, List.drop_left' hbl, num_low_lt (by exact hs)]
  · rw [hk2, hx, e1, e2]
theorem opn_seal {m t n : Nat} (hp : Par (n + 4) t m) {b : List Nat} {s : Nat} (hb : ∀ y ∈ b, y < 256) (hbl : b.length = n) (hs : s < 4294967296) : opnB m t n (sealB m t b s) = some (b, s, 0) := by
  have hl : (sealB m t b s).length = n + 4 + pcn m t := by rw [sealB_len, hbl]
  rw [opn_near hp hb hbl hs hl (by rw [ub_self]; omega)]
  simp only [Option.some.injEq, Prod.mk.injEq, true_and]
  have hxl : (b ++ low s 4).length = n + 4 := by simp [low_len, hbl]
  have e1 : ub ((sealB m t b s).getD · 0) ((b ++ low s 4).getD · 0) (n + 4) = 0 := by
    refine Eq.trans (ub_congr (fun j hj => ?_) (fun _ _ => rfl)) (ub_self ((b ++ low s 4).getD · 0) (n + 4))
    unfold sealB
    rw [app_gd, if_pos (by omega)]
  rw [e1, Nat.zero_add]
  refine Gf.cs_zero.2 (fun i hi => ?_)
  have e2 : bitAt (fun j => (sealB m t b s).getD (n + 4 + j) 0) i = bitAt (par m t (b ++ low s 4)) i := by
    unfold bitAt
    dsimp only
    congr 1
    have := rr_pcn m t
    unfold sealB
    rw [app_gd, if_neg (by omega), show n + 4 + i / 8 - (b ++ low s 4).length = i / 8 by omega]
    exact rg_getD _ _ _ (by omega)
  rw [e2, Bool.xor_self]

/-! ### A page -/
structure Lay (S N T mw mh : Nat) : Prop where
  s1 : 1 ≤ S
  s2 : S ≤ 256
  n1 : 1 ≤ N
  n2 : N ≤ 8
  t1 : 1 ≤ T
  t2 : T ≤ 8
  pw : Par (S + 4) T mw
  ph : Par (9 + 11 * N + 4) T mh
/-- The bytes of a sector's codeword. -/
def wdB (S T mw : Nat) : Nat := S + 4 + pcn mw T
/-- The bytes ahead of the end. -/
def lastB (S N T mw mh : Nat) : Nat := N * wdB S T mw + (9 + 11 * N + 4 + pcn mh T)
def pageB (S N T mw mh : Nat) : Nat := lastB S N T mw mh + (T / 4 + 1)
def secB (S : Nat) (x : List Nat) : List Nat := if x = [] then List.replicate S 0 else x
def sumB (s : Slot) (x : List Nat) : Nat := more (sum (slotB s)) x
def sectB (S T mw : Nat) (h : Head) (xs : List (List Nat)) (i : Nat) : List Nat := sealB mw T (secB S (xs.getD i [])) (sumB (h.slots.getD i Slot.zero) (secB S (xs.getD i [])))
def secsB (S T mw : Nat) (h : Head) (xs : List (List Nat)) (I : Nat) : List Nat := (List.range I).flatMap (sectB S T mw h xs)
def packB (S N T mw mh : Nat) (h : Head) (xs : List (List Nat)) : List Nat := secsB S T mw h xs N ++ sealB mh T (headB h) (sum (headB h)) ++ List.replicate (T / 4 + 1) 0
/-- May they be packed? -/
def CanB (S N : Nat) (h : Head) (xs : List (List Nat)) : Prop := h.May N ∧ xs.length = N ∧ ∀ x ∈ xs, x = [] ∨ x.length = S

/-! ### What bytes say -/
structure Opn where
  erased : Bool
  whole : Nat
  head : Option Head
  words : List Nat
  sectors : List (Option (List Nat))
  flips : Nat
noncomputable def hdO (S N T mw mh : Nat) (l : List Nat) : Option (Head × Nat) :=
  match opnB mh T (9 + 11 * N) (cut l (N * wdB S T mw) (9 + 11 * N + 4 + pcn mh T)) with
  | some (x, s, k) => if sum x = s ∧ ones (l.drop (lastB S N T mw mh)) ≤ T ∧ (headP N x).May N then some (headP N x, k) else none
  | none => none
noncomputable def scO (S T mw : Nat) (l : List Nat) (h : Head) (i : Nat) : Option (List Nat × Nat) :=
  match opnB mw T S (cut l (i * wdB S T mw) (wdB S T mw)) with
  | some (x, s, k) => if sumB (h.slots.getD i Slot.zero) x = s then some (x, k) else none
  | none => none
def vd (k : Nat) : Nat := if k = 0 then 1 else 2
def vdO : Option (List Nat × Nat) → Nat
  | some (_, k) => vd k
  | none => 3
def flO : Option (List Nat × Nat) → Nat
  | some (_, k) => k
  | none => 0
noncomputable def opn (S N T mw mh : Nat) (l : List Nat) : Opn :=
  if 8 * l.length - ones l ≤ T then ⟨true, 0, none, [], [], 0⟩
  else match hdO S N T mw mh l with
    | none => ⟨false, 3, none, List.replicate N 3, List.replicate N none, 0⟩
    | some (h, k) => ⟨false, vd k, some h, (List.range N).map (fun i => vdO (scO S T mw l h i)), (List.range N).map (fun i => (scO S T mw l h i).map (·.1)), k + ((List.range N).map fun i => flO (scO S T mw l h i)).sum⟩
end Go.Proofs.YtoanopegoilcnaaGreat
/- A page, plain: where what is packed lies; what is said of it, with few bits turned. -/
namespace Go.Proofs.YtoanopegoilcnaaGreat
open Go.RowKit Go.Mem Go.Pg

theorem cut_mid {a b c : List Nat} {p n : Nat} (ha : a.length = p) (hb : b.length = n) : cut (a ++ (b ++ c)) p n = b := by
  unfold cut
  rw [List.drop_left' ha, List.take_left' hb]
theorem cut_len {l : List Nat} {p n : Nat} (h : p + n ≤ l.length) : (cut l p n).length = n := by
  unfold cut; rw [List.length_take, List.length_drop]; omega
theorem cut_getD {l : List Nat} {p n j : Nat} (hj : j < n) : (cut l p n).getD j 0 = l.getD (p + j) 0 := by
  unfold cut; rw [take_gd _ _ _ hj, drop_gd]
theorem cut_lt {l : List Nat} (h : ∀ y ∈ l, y < 256) (p n : Nat) : ∀ y ∈ cut l p n, y < 256 := fun y hy => h y (List.mem_of_mem_drop (List.mem_of_mem_take hy))
theorem drop_lt {l : List Nat} (h : ∀ y ∈ l, y < 256) (p : Nat) : ∀ y ∈ l.drop p, y < 256 := fun y hy => h y (List.mem_of_mem_drop hy)

theorem slotP_slotB {s : Slot} (h : s.Ok) (hk : s.key < 4294967296) : slotP (slotB s) = s := by
  obtain ⟨h1, h2, h3⟩ := h
  have e1 : cut (slotB s) 0 4 = low s.key 4 := by
    have : slotB s = [] ++ (low s.key 4 ++ ([s.st.toNat] ++ low s.seq 6)) := by simp [slotB]
    rw [this]; exact cut_mid rfl (low_len _ _)
  have e2 : cut (slotB s) 5 6 = low s.seq 6 := by
    have : slotB s = (low s.key 4 ++ [s.st.toNat]) ++ (low s.seq 6 ++ []) := by simp [slotB]
    rw [this]; exact cut_mid (by simp [low_len]) (low_len _ _)
  have e3 : (slotB s).getD 4 0 = s.st.toNat := by
    unfold slotB
    rw [app_gd, if_pos (by simp [low_len]), app_gd, if_neg (by simp [low_len]), low_len]; rfl
  unfold slotP
  rw [e1, e2, e3, num_low_lt (by exact hk), num_low_lt (by exact h3), Int.toNat_of_nonneg h1]
theorem slots_cut {l : List Slot} {i : Nat} (hi : i < l.length) (pre : List Nat) (hp : pre.length = 9) : cut (pre ++ l.flatMap slotB) (9 + 11 * i) 11 = slotB (l.getD i Slot.zero) := by
  have hs : l = l.take i ++ (l[i] :: l.drop (i + 1)) := by rw [List.getElem_cons_drop, List.take_append_drop]
  have e0 : l.flatMap slotB = (l.take i).flatMap slotB ++ (slotB l[i] ++ (l.drop (i + 1)).flatMap slotB) := by
    rw [← List.flatMap_cons, ← List.flatMap_append, ← hs]
  have e : pre ++ l.flatMap slotB = (pre ++ (l.take i).flatMap slotB) ++ (slotB l[i] ++ (l.drop (i + 1)).flatMap slotB) := by
    rw [e0, List.append_assoc]
  rw [e, cut_mid (by rw [List.length_append, slots_len, List.length_take, hp]; omega) (slotB_len _)]
  rw [List.getD_eq_getElem?_getD, List.getElem?_eq_getElem hi]; rfl
theorem headP_headB {N : Nat} {h : Head} (hm : h.May N) (hf : h.Fit) : headP N (headB h) = h := by
  obtain ⟨⟨k1, k2, r1, r2, p1, p2, w1, w2, hN⟩, hs⟩ := hm
  obtain ⟨hi, hk⟩ := hf
  have e1 : cut (headB h) 1 4 = low h.id 4 := by
    have : headB h = [h.kind.toNat] ++ (low h.id 4 ++ (low h.row.toNat 2 ++ [h.place.toNat, h.width.toNat] ++ h.slots.flatMap slotB)) := by simp [headB]
    rw [this]; exact cut_mid rfl (low_len _ _)
  have e2 : cut (headB h) 5 2 = low h.row.toNat 2 := by
    have : headB h = ([h.kind.toNat] ++ low h.id 4) ++ (low h.row.toNat 2 ++ ([h.place.toNat, h.width.toNat] ++ h.slots.flatMap slotB)) := by simp [headB]
    rw [this]; exact cut_mid (by simp [low_len]) (low_len _ _)
  have e0 : (headB h).getD 0 0 = h.kind.toNat := by simp [headB]
  have hpre : ([h.kind.toNat] ++ low h.id 4 ++ low h.row.toNat 2).length = 7 := by simp [low_len]
  have e7 : (headB h).getD 7 0 = h.place.toNat := by
    unfold headB
    rw [app_gd, if_pos (by simp [low_len]), app_gd, if_neg (by omega), hpre]; rfl
  have e8 : (headB h).getD 8 0 = h.width.toNat := by
    unfold headB
    rw [app_gd, if_pos (by simp [low_len]), app_gd, if_neg (by omega), hpre]; rfl
  have e9 : ((List.range N).map fun i => slotP (cut (headB h) (9 + 11 * i) 11)) = h.slots := by
    apply List.ext_getElem (by simp [hN])
    intro i a b
    rw [List.getElem_map, List.getElem_range]
    unfold headB
    rw [slots_cut b _ (by simp [low_len]), List.getD_eq_getElem?_getD, List.getElem?_eq_getElem b]
    exact slotP_slotB (hs _ (List.getElem_mem b)) (hk _ (List.getElem_mem b))
  unfold headP
  rw [e0, e1, e2, e7, e8, e9, num_low_lt (by exact hi), num_low_lt (show h.row.toNat < 256 ^ 2 by omega), Int.toNat_of_nonneg (by omega), Int.toNat_of_nonneg r1, Int.toNat_of_nonneg p1, Int.toNat_of_nonneg w1]

section
variable {S N T mw mh : Nat} {h : Head} {xs : List (List Nat)}
theorem secB_len (hc : CanB S N h xs) (i : Nat) : (secB S (xs.getD i [])).length = S := by
  unfold secB
  split
  · simp
  · rename_i hne
    rcases Nat.lt_or_ge i xs.length with hi | hi
    · have e : xs.getD i [] = xs[i] := by rw [List.getD_eq_getElem?_getD, List.getElem?_eq_getElem hi]; rfl
      rw [e] at hne ⊢
      exact (hc.2.2 _ (List.getElem_mem hi)).resolve_left hne
    · exact absurd (by rw [List.getD_eq_getElem?_getD, List.getElem?_eq_none hi]; rfl) hne
theorem secB_lt (hx : ∀ x ∈ xs, ∀ y ∈ x, y < 256) (i : Nat) : ∀ y ∈ secB S (xs.getD i []), y < 256 := by
  intro y hy
  unfold secB at hy
  split at hy
  · have := List.eq_of_mem_replicate hy; omega
  · rcases Nat.lt_or_ge i xs.length with hi | hi
    · have e : xs.getD i [] = xs[i] := by rw [List.getD_eq_getElem?_getD, List.getElem?_eq_getElem hi]; rfl
      rw [e] at hy
      exact hx _ (List.getElem_mem hi) y hy
    · rw [List.getD_eq_getElem?_getD, List.getElem?_eq_none hi] at hy; simp at hy
theorem slot_at (hm : h.May N) {i : Nat} (hi : i < N) : h.slots.getD i Slot.zero ∈ h.slots := by
  have hN := hm.1.2.2.2.2.2.2.2.2
  rw [List.getD_eq_getElem?_getD, List.getElem?_eq_getElem (by omega)]
  exact List.getElem_mem _
theorem sumB_lt {s : Slot} {x : List Nat} (hs : s.Ok) (hx : ∀ y ∈ x, y < 256) : sumB s x < 4294967296 := more_lt (sum_lt (slotB_lt hs)) hx
theorem sectB_len (hc : CanB S N h xs) (i : Nat) : (sectB S T mw h xs i).length = wdB S T mw := by
  unfold sectB wdB
  rw [sealB_len, secB_len hc]
theorem sectB_lt (hx : ∀ x ∈ xs, ∀ y ∈ x, y < 256) (i : Nat) : ∀ y ∈ sectB S T mw h xs i, y < 256 := sealB_lt _ (secB_lt hx i)
theorem secsB_len (hc : CanB S N h xs) (I : Nat) : (secsB S T mw h xs I).length = I * wdB S T mw := by
  unfold secsB
  induction I with
  | zero => simp
  | succ I ih => rw [List.range_succ, List.flatMap_append, List.length_append, ih]; simp [sectB_len hc, Nat.succ_mul]
theorem secsB_succ (I : Nat) : secsB S T mw h xs (I + 1) = secsB S T mw h xs I ++ sectB S T mw h xs I := by
  unfold secsB; rw [List.range_succ, List.flatMap_append]; simp
theorem secsB_split {i I : Nat} (hi : i < I) : ∃ r, secsB S T mw h xs I = secsB S T mw h xs i ++ (sectB S T mw h xs i ++ r) := by
  induction I with
  | zero => omega
  | succ I ih =>
    by_cases e : i = I
    · subst e; exact ⟨[], by rw [secsB_succ, List.append_nil]⟩
    · obtain ⟨r, hr⟩ := ih (by omega)
      exact ⟨r ++ sectB S T mw h xs I, by rw [secsB_succ, hr]; simp⟩
theorem packB_len (hc : CanB S N h xs) : (packB S N T mw mh h xs).length = pageB S N T mw mh := by
  unfold packB pageB lastB
  rw [List.length_append, List.length_append, secsB_len hc, sealB_len, headB_len hc.1, List.length_replicate]
theorem packB_lt (hc : CanB S N h xs) (hx : ∀ x ∈ xs, ∀ y ∈ x, y < 256) : ∀ y ∈ packB S N T mw mh h xs, y < 256 := by
  intro y hy
  unfold packB at hy
  rw [List.mem_append, List.mem_append] at hy
  rcases hy with (h1 | h1) | h1
  · unfold secsB at h1
    rw [List.mem_flatMap] at h1
    obtain ⟨i, _, h2⟩ := h1
    exact sectB_lt hx i y h2
  · exact sealB_lt _ (headB_lt hc.1) y h1
  · have := List.eq_of_mem_replicate h1; omega
theorem packB_sect (hc : CanB S N h xs) {i : Nat} (hi : i < N) : cut (packB S N T mw mh h xs) (i * wdB S T mw) (wdB S T mw) = sectB S T mw h xs i := by
  obtain ⟨r, hr⟩ := secsB_split (S := S) (T := T) (mw := mw) (h := h) (xs := xs) hi
  unfold packB
  rw [hr, List.append_assoc, List.append_assoc, List.append_assoc]
  exact cut_mid (secsB_len hc i) (sectB_len hc i)
theorem packB_head (hc : CanB S N h xs) : cut (packB S N T mw mh h xs) (N * wdB S T mw) (9 + 11 * N + 4 + pcn mh T) = sealB mh T (headB h) (sum (headB h)) := by
  unfold packB
  rw [List.append_assoc]
  exact cut_mid (secsB_len hc N) (by rw [sealB_len, headB_len hc.1])
theorem packB_end (hc : CanB S N h xs) : (packB S N T mw mh h xs).drop (lastB S N T mw mh) = List.replicate (T / 4 + 1) 0 := by
  unfold packB lastB
  exact List.drop_left' (by rw [List.length_append, secsB_len hc, sealB_len, headB_len hc.1])

/-- The head of a page in which few bits were turned. -/
theorem hdO_near (hL : Lay S N T mw mh) (hc : CanB S N h xs) (hf : h.Fit) {l : List Nat} (hl : l.length = pageB S N T mw mh)
    (hd : ub ((cut l (N * wdB S T mw) (9 + 11 * N + 4 + pcn mh T)).getD · 0) ((sealB mh T (headB h) (sum (headB h))).getD · 0) (9 + 11 * N + 4 + pcn mh T) ≤ T) (he : ones (l.drop (lastB S N T mw mh)) ≤ T) :
    ∃ k, hdO S N T mw mh l = some (h, k) ∧ k ≤ ub ((cut l (N * wdB S T mw) (9 + 11 * N + 4 + pcn mh T)).getD · 0) ((sealB mh T (headB h) (sum (headB h))).getD · 0) (9 + 11 * N + 4 + pcn mh T) := by
  have hcl : (cut l (N * wdB S T mw) (9 + 11 * N + 4 + pcn mh T)).length = 9 + 11 * N + 4 + pcn mh T := cut_len (by rw [hl]; unfold pageB lastB; omega)
  have ho := opn_near hL.ph (headB_lt hc.1) (headB_len hc.1) (sum_lt (headB_lt hc.1)) hcl hd
  obtain ⟨K, hKo, hKle⟩ : ∃ K, opnB mh T (9 + 11 * N) (cut l (N * wdB S T mw) (9 + 11 * N + 4 + pcn mh T)) = some (headB h, sum (headB h), K) ∧ K ≤ ub ((cut l (N * wdB S T mw) (9 + 11 * N + 4 + pcn mh T)).getD · 0) ((sealB mh T (headB h) (sum (headB h))).getD · 0) (9 + 11 * N + 4 + pcn mh T) := by
    refine ⟨_, ho, ?_⟩
    have hx : (headB h ++ low (sum (headB h)) 4).length = 9 + 11 * N + 4 := by simp [low_len, headB_len hc.1]
    obtain ⟨q, hq⟩ : ∃ q, headB h ++ low (sum (headB h)) 4 = q := ⟨_, rfl⟩
    have hseal : sealB mh T (headB h) (sum (headB h)) = q ++ parB mh T q := by unfold sealB; rw [hq]
    rw [hseal]
    rw [hq] at hx ⊢
    generalize cut l (N * wdB S T mw) (9 + 11 * N + 4 + pcn mh T) = c at *
    have hr := rr_pcn mh T
    unfold ub
    rw [show 8 * (9 + 11 * N + 4 + pcn mh T) = 8 * (9 + 11 * N + 4) + 8 * pcn mh T by omega, Gf.cs_add]
    refine Nat.add_le_add (Nat.le_of_eq (Gf.cs_congr (fun i hi => ?_))) (Nat.le_trans (Gf.cs_mono _ hr) (Nat.le_of_eq (Gf.cs_congr (fun i hi => ?_))))
    · unfold bitAt
      dsimp only
      rw [app_gd, if_pos (by omega)]
    · unfold bitAt
      dsimp only
      rw [show (8 * (9 + 11 * N + 4) + i) / 8 = 9 + 11 * N + 4 + i / 8 by omega, show (8 * (9 + 11 * N + 4) + i) % 8 = i % 8 by omega, app_gd, if_neg (by omega), show 9 + 11 * N + 4 + i / 8 - q.length = i / 8 by omega]
      unfold parB
      rw [rg_getD _ _ _ (by omega)]
  refine ⟨K, ?_, hKle⟩
  unfold hdO
  rw [hKo]
  simp only [headP_headB hc.1 hf]
  rw [if_pos ⟨trivial, he, hc.1⟩]
/-- A sector of a page in which few bits were turned. -/
theorem scO_near (hL : Lay S N T mw mh) (hc : CanB S N h xs) (hx : ∀ x ∈ xs, ∀ y ∈ x, y < 256) {l : List Nat} (hl : l.length = pageB S N T mw mh) {i : Nat} (hi : i < N)
    (hd : ub ((cut l (i * wdB S T mw) (wdB S T mw)).getD · 0) ((sectB S T mw h xs i).getD · 0) (wdB S T mw) ≤ T) :
    scO S T mw l h i = some (secB S (xs.getD i []), ub ((cut l (i * wdB S T mw) (wdB S T mw)).getD · 0) ((secB S (xs.getD i []) ++ low (sumB (h.slots.getD i Slot.zero) (secB S (xs.getD i []))) 4).getD · 0) (S + 4) +
      Gf.cs (fun j => bitAt (fun k => (cut l (i * wdB S T mw) (wdB S T mw)).getD (S + 4 + k) 0) j ^^ bitAt (par mw T (secB S (xs.getD i []) ++ low (sumB (h.slots.getD i Slot.zero) (secB S (xs.getD i []))) 4)) j) (rr mw T)) := by
  have hiw : (i + 1) * wdB S T mw ≤ N * wdB S T mw := Nat.mul_le_mul_right _ hi
  rw [Nat.succ_mul] at hiw
  have hcl : (cut l (i * wdB S T mw) (wdB S T mw)).length = S + 4 + pcn mw T := cut_len (n := wdB S T mw) (by rw [hl]; unfold pageB lastB; omega)
  have ho := opn_near hL.pw (secB_lt (S := S) hx i) (secB_len hc i) (sumB_lt (hc.1.2 _ (slot_at hc.1 hi)) (secB_lt (S := S) hx i)) hcl hd
  unfold scO
  rw [ho]
  simp
end
end Go.Proofs.YtoanopegoilcnaaGreat
/- A page, plain: sums of unlike slots are unlike; what is packed of unlike heads is unlike; ends that are not bytes 0. -/
namespace Go.Pg

theorem sts_xor (a b : Nat) : ∀ k, sts (a ^^^ b) k = sts a k ^^^ sts b k
  | 0 => rfl
  | k + 1 => by rw [sts, sts_xor a b k, st_xor]; rfl
theorem sts_pow (n : Nat) : ∀ k, sts (2 ^ k * n) k = n
  | 0 => by simp [sts]
  | k + 1 => by
    have h : ∀ j y, sts (2 ^ j * (2 * y)) j = 2 * y → sts (2 ^ j * (2 * y)) (j + 1) = y := fun j y h => by rw [sts, h, st_even]
    rw [Nat.pow_succ, Nat.mul_assoc]
    exact h k n (sts_pow (2 * n) k)
theorem sts_add (x a : Nat) : ∀ b, sts x (a + b) = sts (sts x a) b
  | 0 => rfl
  | b + 1 => by rw [← Nat.add_assoc, sts, sts_add x a b]; rfl
theorem sts_lt {x : Nat} (h : x < 4294967296) : ∀ k, sts x k < 4294967296
  | 0 => h
  | k + 1 => st_lt (sts_lt h k)
theorem sts_inj {a b : Nat} (ha : a < 4294967296) (hb : b < 4294967296) : ∀ k, sts a k = sts b k → a = b
  | 0, h => h
  | k + 1, h => sts_inj ha hb k (st_inj (sts_lt ha k) (sts_lt hb k) h)
theorem cb_sts (x c : Nat) : cb x c = sts (x ^^^ c) 8 := rfl
theorem add_xor {c n : Nat} (hc : c < 256) : c + 256 * n = c ^^^ 256 * n := by
  rw [Nat.add_comm]
  have h := Nat.two_pow_add_eq_or_of_lt (i := 8) (show c < 2 ^ 8 from hc) n
  rw [show 256 * n = 2 ^ 8 * n from rfl, h]
  apply Nat.eq_of_testBit_eq
  intro i
  rw [Nat.testBit_or, Nat.testBit_xor, Nat.testBit_two_pow_mul]
  by_cases hi : 8 ≤ i
  · rw [Nat.testBit_lt_two_pow (Nat.lt_of_lt_of_le (show c < 2 ^ 8 from hc) (Nat.pow_le_pow_right (by decide) hi))]; simp
  · simp [hi]
theorem cs_sts {l : List Nat} (hl : ∀ y ∈ l, y < 256) : ∀ x, cs x l = sts (x ^^^ num l) (8 * l.length) := by
  induction l with
  | nil => intro x; simp [cs, num, sts]
  | cons c l ih =>
    intro x
    have hc := hl c (by simp)
    show cs (cb x c) l = _
    rw [ih (fun y hy => hl y (by simp [hy])), num, List.length_cons, show 8 * (l.length + 1) = 8 + 8 * l.length by omega, sts_add, add_xor hc, ← Nat.xor_assoc, sts_xor _ _ 8, show 256 * num l = 2 ^ 8 * num l from rfl, sts_pow, cb_sts]
/-- Rows of at most four bytes. -/
theorem cs_row {a b : List Nat} (hl : a.length = b.length) (h4 : a.length ≤ 4) (ha : ∀ y ∈ a, y < 256) (hb : ∀ y ∈ b, y < 256) {x : Nat} (hx : x < 4294967296) (h : cs x a = cs x b) : a = b := by
  rw [cs_sts ha, cs_sts hb, hl] at h
  have h1 : num a < 4294967296 := Nat.lt_of_lt_of_le (num_lt ha) (Nat.pow_le_pow_right (by decide) h4 : 256 ^ a.length ≤ 256 ^ 4)
  have h2 : num b < 4294967296 := Nat.lt_of_lt_of_le (num_lt hb) (Nat.pow_le_pow_right (by decide) (hl ▸ h4) : 256 ^ b.length ≤ 256 ^ 4)
  have e := sts_inj (Nat.xor_lt_two_pow (n := 32) hx h1) (Nat.xor_lt_two_pow (n := 32) hx h2) _ h
  rw [Nat.xor_comm x, Nat.xor_comm x] at e
  exact num_inj hl ha hb (xor_cancel e)
/-- Rows that differ within four bytes have unlike sums. -/
theorem sum_row {p a b q : List Nat} (hl : a.length = b.length) (h4 : a.length ≤ 4) (hp : ∀ y ∈ p, y < 256) (ha : ∀ y ∈ a, y < 256) (hb : ∀ y ∈ b, y < 256) (hq : ∀ y ∈ q, y < 256) {x : Nat} (hx : x < 4294967296)
    (h : more x (p ++ (a ++ q)) = more x (p ++ (b ++ q))) : a = b := by
  unfold more at h
  have h1 := xor_cancel h
  rw [cs_app, cs_app, cs_app, cs_app] at h1
  have hx' := cs_lt (l := p) (Nat.xor_lt_two_pow (n := 32) hx (show 4294967295 < 2 ^ 32 by decide)) hp
  exact cs_row hl h4 ha hb hx' (cs_inj (cs_lt hx' ha) (cs_lt hx' hb) hq h1)
theorem low_split (n a b : Nat) : low n (a + b) = low n a ++ low (n / 256 ^ a) b := by
  unfold low
  rw [List.range_add, List.map_append, List.map_map]
  congr 1
  apply List.map_congr_left
  intro i _
  simp only [Function.comp]
  rw [Nat.div_div_eq_div_mul, Nat.pow_add]
end Go.Pg
namespace Go.Proofs.YtoanopegoilcnaaGreat
open Go.RowKit Go.Mem Go.Pg

/-- A sector belongs to its slot. -/
theorem sumB_apart {s u : Slot} {x : List Nat} (hs : s.Ok) (hu : u.Ok) (hst : s.st = u.st) (hk : s.key < 4294967296) (hk2 : u.key < 4294967296) (hx : ∀ y ∈ x, y < 256)
    (hne : s.key ≠ u.key ∧ s.seq = u.seq ∨ s.key = u.key ∧ s.seq ≠ u.seq ∧ (s.seq / 4294967296 = u.seq / 4294967296 ∨ s.seq % 4294967296 = u.seq % 4294967296)) : sumB s x ≠ sumB u x := by
  intro h
  unfold sumB sum at h
  rw [more_app, more_app] at h
  have hst' : ∀ y ∈ [s.st.toNat], y < 256 := fun y hy => by rw [List.mem_singleton] at hy; have := hs.1; have := hs.2.1; omega
  unfold slotB at h
  rw [← hst] at h
  have cat : ∀ {a b : List Nat}, (∀ y ∈ a, y < 256) → (∀ y ∈ b, y < 256) → ∀ y ∈ a ++ b, y < 256 := fun ha hb y hy => by
    rw [List.mem_append] at hy
    exact hy.elim (ha y) (hb y)
  rcases hne with ⟨h1, h2⟩ | ⟨h1, h2, h3⟩
  · rw [h2] at h
    simp only [List.append_assoc] at h
    have e := sum_row (p := []) (a := low s.key 4) (b := low u.key 4) (x := 0) (by rw [low_len, low_len]) (by rw [low_len]; exact Nat.le_refl _) (by simp) (low_lt _ _) (low_lt _ _) (cat hst' (cat (low_lt _ _) hx)) (by decide) h
    exact h1 (low_inj (k := 4) hk hk2 e)
  · rw [h1] at h
    rw [show (6 : Nat) = 4 + 2 from rfl, low_split s.seq, low_split u.seq] at h
    have b1 := hs.2.2
    have b2 := hu.2.2
    have d1 : s.seq = 4294967296 * (s.seq / 4294967296) + s.seq % 4294967296 := (Nat.div_add_mod _ _).symm
    have d2 : u.seq = 4294967296 * (u.seq / 4294967296) + u.seq % 4294967296 := (Nat.div_add_mod _ _).symm
    have m4 : ∀ n, low n 4 = low (n % 4294967296) 4 := fun n => by
      refine num_inj (by rw [low_len, low_len]) (low_lt _ _) (low_lt _ _) ?_
      rw [num_low, num_low]
      exact (Nat.mod_mod _ _).symm
    rcases h3 with h3 | h3
    · rw [show (256 : Nat) ^ 4 = 4294967296 from rfl, h3] at h
      simp only [List.append_assoc] at h
      have e := sum_row (p := low u.key 4 ++ [s.st.toNat]) (a := low s.seq 4) (b := low u.seq 4) (x := 0) (by rw [low_len, low_len]) (by rw [low_len]; exact Nat.le_refl _) (cat (low_lt _ _) hst') (low_lt _ _) (low_lt _ _) (cat (low_lt _ _) hx) (by decide)
        (by simp only [List.append_assoc]; exact h)
      rw [m4 s.seq, m4 u.seq] at e
      have := low_inj (k := 4) (show s.seq % 4294967296 < 256 ^ 4 from Nat.mod_lt _ (by decide)) (show u.seq % 4294967296 < 256 ^ 4 from Nat.mod_lt _ (by decide)) e
      omega
    · rw [show (256 : Nat) ^ 4 = 4294967296 from rfl, m4 s.seq, m4 u.seq, h3] at h
      simp only [List.append_assoc] at h
      have e := sum_row (p := low u.key 4 ++ ([s.st.toNat] ++ low (u.seq % 4294967296) 4)) (a := low (s.seq / 4294967296) 2) (b := low (u.seq / 4294967296) 2) (x := 0) (by rw [low_len, low_len]) (by rw [low_len]; decide) (cat (low_lt _ _) (cat hst' (low_lt _ _))) (low_lt _ _) (low_lt _ _) hx (by decide)
        (by simp only [List.append_assoc]; exact h)
      have := low_inj (k := 2) (show s.seq / 4294967296 < 256 ^ 2 by omega) (show u.seq / 4294967296 < 256 ^ 2 by omega) e
      omega

section
variable {S N T mw mh : Nat}
/-- What is packed says what was packed. -/
theorem packB_inj {h g : Head} {xs ys : List (List Nat)} (hc : CanB S N h xs) (hc2 : CanB S N g ys) (hf : h.Fit) (hf2 : g.Fit) (hx : ∀ x ∈ xs, ∀ y ∈ x, y < 256) (hy : ∀ x ∈ ys, ∀ y ∈ x, y < 256)
    (he : packB S N T mw mh h xs = packB S N T mw mh g ys) : h = g ∧ ∀ i, i < N → secB S (xs.getD i []) = secB S (ys.getD i []) := by
  have h1 := packB_head (T := T) (mw := mw) (mh := mh) hc
  have h2 := packB_head (T := T) (mw := mw) (mh := mh) hc2
  rw [he, h2] at h1
  have h3 := (sealB_inj (by rw [headB_len hc.1, headB_len hc2.1]) (sum_lt (headB_lt hc2.1)) (sum_lt (headB_lt hc.1)) h1).1
  refine ⟨by rw [← headP_headB hc.1 hf, ← headP_headB hc2.1 hf2, h3], fun i hi => ?_⟩
  have k1 := packB_sect (T := T) (mw := mw) (mh := mh) hc hi
  have k2 := packB_sect (T := T) (mw := mw) (mh := mh) hc2 hi
  rw [he, k2] at k1
  exact (sealB_inj (by rw [secB_len hc, secB_len hc2]) (sumB_lt (hc2.1.2 _ (slot_at hc2.1 hi)) (secB_lt hy i)) (sumB_lt (hc.1.2 _ (slot_at hc.1 hi)) (secB_lt hx i)) k1).1.symm
/-- An end that holds more than T bits that are 1. -/
theorem hdO_torn {l : List Nat} (he : T < ones (l.drop (lastB S N T mw mh))) : hdO S N T mw mh l = none := by
  unfold hdO
  split
  · rw [if_neg (fun h => by omega)]
  · rfl
/-- Many bits are 0 where the end has few that are 1. -/
theorem ones_end {l : List Nat} (hl : l.length = pageB S N T mw mh) (he : ones (l.drop (lastB S N T mw mh)) ≤ T) : ¬ 8 * l.length - ones l ≤ T := by
  have h1 : ones l = ones (l.take (lastB S N T mw mh)) + ones (l.drop (lastB S N T mw mh)) := by rw [← ones_app, List.take_append_drop]
  have h2 := ones_le (l.take (lastB S N T mw mh))
  have h3 : (l.take (lastB S N T mw mh)).length = lastB S N T mw mh := by rw [List.length_take]; unfold pageB at hl; omega
  unfold pageB at hl
  omega
end
end Go.Proofs.YtoanopegoilcnaaGreat
/- A page, plain: bits that were cleared one by one; bits that were turned one by one. -/
namespace Go.Pg

/-- A byte without one bit. -/
def clr (c j : Nat) : Nat := if c.testBit j then c ^^^ 2 ^ j else c
theorem clr_lt : ∀ c, c < 256 → ∀ j, j < 8 → clr c j < 256 := by decide +kernel
theorem clr_bit : ∀ c, c < 256 → ∀ j, j < 8 → ∀ i, i < 8 → (clr c j).testBit i = (c.testBit i && !decide (i = j)) := by decide +kernel
/-- Behind the bits M all others are 1. -/
structure Er (n : Nat) (l M : List Nat) : Prop where
  len : l.length = n
  lt : ∀ y ∈ l, y < 256
  bit : ∀ k, k < 8 * n → (l.getD (k / 8) 0).testBit (k % 8) = !decide (k ∈ M)
  one : ones l + M.length = 8 * n
  nod : M.Nodup
theorem Er.start (n : Nat) : Er n (List.replicate n 255) [] := by
  refine ⟨by simp, fun y hy => by have := List.eq_of_mem_replicate hy; omega, fun k hk => ?_, by rw [ones_full]; rfl, List.nodup_nil⟩
  have h : (List.replicate n 255).getD (k / 8) 0 = 255 := by
    rw [List.getD_eq_getElem?_getD, List.getElem?_replicate, if_pos (by omega)]; rfl
  rw [h]
  have : ∀ i, i < 8 → Nat.testBit 255 i = true := by decide
  rw [this _ (Nat.mod_lt _ (by decide))]; simp
theorem Er.step {n : Nat} {l M : List Nat} (h : Er n l M) {k : Nat} (hk : k < 8 * n) :
    Er n (l.set (k / 8) (clr (l.getD (k / 8) 0) (k % 8))) (if k ∈ M then M else k :: M) := by
  have hb := h.bit k hk
  have hi : k / 8 < l.length := by have := h.len; omega
  have hm : l.getD (k / 8) 0 ∈ l := by rw [List.getD_eq_getElem?_getD, List.getElem?_eq_getElem hi]; exact List.getElem_mem hi
  have hlt := h.lt _ hm
  have h8 : k % 8 < 8 := Nat.mod_lt _ (by decide)
  by_cases hM : k ∈ M
  · rw [if_pos hM]
    have e : l.set (k / 8) (clr (l.getD (k / 8) 0) (k % 8)) = l := by
      unfold clr
      rw [hb, decide_eq_true hM]
      rw [if_neg (by simp), List.getD_eq_getElem?_getD, List.getElem?_eq_getElem hi]
      exact List.set_getElem_self hi
    rw [e]; exact h
  · rw [if_neg hM]
    rw [decide_eq_false hM] at hb
    refine ⟨by rw [List.length_set]; exact h.len, fun y hy => ?_, fun i hi' => ?_, ?_, List.nodup_cons.2 ⟨hM, h.nod⟩⟩
    · rcases List.mem_or_eq_of_mem_set hy with h1 | h1
      · exact h.lt y h1
      · rw [h1]; exact clr_lt _ hlt _ h8
    · have hbi := h.bit i hi'
      by_cases e : k / 8 = i / 8
      · have hg : (l.set (k / 8) (clr (l.getD (k / 8) 0) (k % 8))).getD (i / 8) 0 = clr (l.getD (k / 8) 0) (k % 8) := by
          rw [← e, List.getD_eq_getElem?_getD, List.getElem?_set_self hi]; rfl
        rw [hg, clr_bit _ hlt _ h8 _ (Nat.mod_lt _ (by decide)), e, hbi]
        have : (i % 8 = k % 8) ↔ i = k := by omega
        by_cases h2 : i = k
        · simp [h2]
        · simp [h2, this]
      · have hg : (l.set (k / 8) (clr (l.getD (k / 8) 0) (k % 8))).getD (i / 8) 0 = l.getD (i / 8) 0 := by
          rw [List.getD_eq_getElem?_getD, List.getElem?_set_ne e, ← List.getD_eq_getElem?_getD]
        rw [hg, hbi]
        have : i ≠ k := fun h2 => e (by rw [h2])
        simp [this]
    · have h1 := ones_set l (k / 8) (clr (l.getD (k / 8) 0) (k % 8)) hi
      have h2 : pc (clr (l.getD (k / 8) 0) (k % 8)) + 1 = pc (l.getD (k / 8) 0) := by
        unfold clr
        rw [hb]
        have h3 := pc_turn _ hlt _ h8
        have h4 := pc_pos _ hlt _ h8 hb
        rw [hb] at h3
        simp only [Bool.not_false, if_true] at h3 ⊢
        omega
      have h3 := h.one
      simp only [List.length_cons]
      omega

/-- One bit turned. -/
def tg (l : List Nat) (k : Nat) : List Nat := l.set (k / 8) (l.getD (k / 8) 0 ^^^ 2 ^ (k % 8))
theorem tg_len (l : List Nat) (k : Nat) : (tg l k).length = l.length := by unfold tg; rw [List.length_set]
theorem tg_lt {l : List Nat} (h : ∀ y ∈ l, y < 256) {k : Nat} (hk : k < 8 * l.length) : ∀ y ∈ tg l k, y < 256 := by
  intro y hy
  unfold tg at hy
  have hi : k / 8 < l.length := by omega
  rcases List.mem_or_eq_of_mem_set hy with h1 | h1
  · exact h y h1
  · rw [h1, List.getD_eq_getElem?_getD, List.getElem?_eq_getElem hi]
    exact Nat.xor_lt_two_pow (n := 8) (h _ (List.getElem_mem hi)) (Nat.pow_lt_pow_right (by decide) (Nat.mod_lt _ (by decide)))
theorem tg_getD {l : List Nat} {k : Nat} (hk : k < 8 * l.length) (j : Nat) : (tg l k).getD j 0 = if j = k / 8 then l.getD (k / 8) 0 ^^^ 2 ^ (k % 8) else l.getD j 0 := by
  unfold tg
  by_cases e : j = k / 8
  · subst e
    rw [if_pos rfl, List.getD_eq_getElem?_getD, List.getElem?_set_self (by omega)]; rfl
  · rw [if_neg e, List.getD_eq_getElem?_getD, List.getElem?_set_ne (fun h => e h.symm), ← List.getD_eq_getElem?_getD]
/-- One bit turned within a stretch turns the count there by at most one. -/
theorem tg_ones {l : List Nat} (h : ∀ y ∈ l, y < 256) {k : Nat} (hk : k < 8 * l.length) : ones (tg l k) ≤ ones l + 1 ∧ ones l ≤ ones (tg l k) + 1 := by
  have hi : k / 8 < l.length := by omega
  have hm : l.getD (k / 8) 0 ∈ l := by rw [List.getD_eq_getElem?_getD, List.getElem?_eq_getElem hi]; exact List.getElem_mem hi
  have h1 := ones_set l (k / 8) (l.getD (k / 8) 0 ^^^ 2 ^ (k % 8)) hi
  have h2 := pc_turn _ (h _ hm) (k % 8) (Nat.mod_lt _ (by decide))
  unfold tg
  have h3 : pc (l.getD (k / 8) 0) ≤ 8 := pc_le _
  split at h2
  · rename_i hb
    have h4 := pc_pos _ (h _ hm) _ (Nat.mod_lt _ (by decide)) hb
    omega
  · omega
theorem tg_drop {l : List Nat} {k p : Nat} (hk : k < 8 * l.length) : ((tg l k).drop p = l.drop p ∧ k < 8 * p) ∨ (8 * p ≤ k ∧ (tg l k).drop p = tg (l.drop p) (k - 8 * p)) := by
  by_cases h : k < 8 * p
  · left
    refine ⟨?_, h⟩
    unfold tg
    rw [List.drop_set]
    rw [if_pos (by omega)]
  · right
    refine ⟨by omega, ?_⟩
    unfold tg
    rw [List.drop_set, if_neg (by omega), show (k - 8 * p) / 8 = k / 8 - p by omega, show (k - 8 * p) % 8 = k % 8 by omega, drop_gd, show p + (k / 8 - p) = k / 8 by omega]
theorem tg_drop_ones {l : List Nat} (h : ∀ y ∈ l, y < 256) {k : Nat} (hk : k < 8 * l.length) (p : Nat) : ones ((tg l k).drop p) ≤ ones (l.drop p) + 1 ∧ ones (l.drop p) ≤ ones ((tg l k).drop p) + 1 := by
  rcases tg_drop (p := p) hk with ⟨e, _⟩ | ⟨h1, e⟩
  · rw [e]; omega
  · rw [e]
    exact tg_ones (fun y hy => h y (List.mem_of_mem_drop hy)) (by rw [List.length_drop]; omega)
end Go.Pg
