/- Plain facts on how many bits differ. -/
import Derived.Test.YtjompiihdnaogaaRee
namespace Gf
/-- How many of the first L say yes. -/
def cs (f : Nat → Bool) : Nat → Nat
  | 0 => 0
  | L+1 => cs f L + (f L).toNat
theorem cs_supp (f : Nat → Bool) (L : Nat) : cs f L = (supp f L).length := by
  induction L with
  | zero => rfl
  | succ L ih => rw [cs, supp_succ, List.length_append, ih]; cases f L <;> simp
theorem cs_congr {f g : Nat → Bool} {L : Nat} (h : ∀ i, i < L → f i = g i) : cs f L = cs g L := by
  induction L with
  | zero => rfl
  | succ L ih => rw [cs, cs, ih (fun i hi => h i (by omega)), h L (by omega)]
theorem cs_head (f : Nat → Bool) (L : Nat) : cs f (L+1) = (f 0).toNat + cs (fun i => f (i+1)) L := by
  induction L with
  | zero => simp [cs]
  | succ L ih => rw [cs, ih, cs]; omega
theorem cs_rev (f : Nat → Bool) (L : Nat) : cs (fun i => f (L - 1 - i)) L = cs f L := by
  induction L with
  | zero => rfl
  | succ L ih =>
    rw [cs_head, cs, ← ih, Nat.add_comm]
    congr 1
    exact cs_congr (fun i _ => by congr 1; omega)
theorem cs_add (f : Nat → Bool) (a b : Nat) : cs f (a + b) = cs f a + cs (fun i => f (a + i)) b := by
  induction b with
  | zero => rfl
  | succ b ih => rw [← Nat.add_assoc, cs, ih, cs]; omega
theorem cs_mono (f : Nat → Bool) {a b : Nat} (h : a ≤ b) : cs f a ≤ cs f b := by
  obtain ⟨c, rfl⟩ := Nat.exists_eq_add_of_le h
  rw [cs_add]; omega
theorem cs_xor (u v : Nat → Bool) (L : Nat) : cs (fun k => u k ^^ v k) L ≤ cs u L + cs v L := by
  rw [cs_supp, cs_supp, cs_supp]; exact supp_tri u v L
theorem cs_one (i L : Nat) : cs (fun j => decide (i = j)) L ≤ 1 := by
  have : cs (fun j => decide (i = j)) L = if i < L then 1 else 0 := by
    induction L with
    | zero => rfl
    | succ L ih =>
      rw [cs, ih]
      by_cases h : i = L
      · subst h; simp
      · rw [decide_eq_false h]
        by_cases h2 : i < L
        · rw [if_pos h2, if_pos (by omega)]; rfl
        · rw [if_neg h2, if_neg (by omega)]; rfl
  rw [this]; split <;> omega
theorem cs_zero {f : Nat → Bool} {L : Nat} : cs f L = 0 ↔ ∀ i, i < L → f i = false := by
  induction L with
  | zero => simp [cs]
  | succ L ih =>
    rw [cs]
    constructor
    · intro h i hi
      by_cases e : i = L
      · subst e; cases hf : f i
        · rfl
        · rw [hf] at h; simp at h
      · exact ih.1 (by omega) i (by omega)
    · intro h
      rw [ih.2 (fun i hi => h i (by omega)), h L (by omega)]; rfl
end Gf
namespace Go.Proofs.Ytjompiihdnaogaa
open Go.RowKit Go.Mem

/-- In how many bits do n bytes differ? -/
def ub (f g : Nat → Nat) (n : Nat) : Nat := Gf.cs (fun i => bitAt f i ^^ bitAt g i) (8 * n)
theorem ub_self (f : Nat → Nat) (n : Nat) : ub f f n = 0 := Gf.cs_zero.2 (fun _ _ => by simp)
theorem ub_comm (f g : Nat → Nat) (n : Nat) : ub f g n = ub g f n := Gf.cs_congr (fun _ _ => Bool.xor_comm _ _)
theorem ub_congr {f g f' g' : Nat → Nat} {n : Nat} (hf : ∀ j, j < n → f j = f' j) (hg : ∀ j, j < n → g j = g' j) : ub f g n = ub f' g' n :=
  Gf.cs_congr (fun i hi => by unfold bitAt; rw [hf _ (by omega), hg _ (by omega)])
theorem ub_tb (f g : Nat → Nat) (i n : Nat) : ub (tb f i) g n ≤ ub f g n + 1 := by
  unfold ub
  refine Nat.le_trans (Nat.le_of_eq ?_) (Nat.le_trans (Gf.cs_xor (fun j => bitAt f j ^^ bitAt g j) (fun j => decide (i = j)) (8 * n)) (Nat.add_le_add_left (Gf.cs_one _ _) _))
  refine Gf.cs_congr (fun j _ => ?_)
  rw [bitAt_tb]
  cases bitAt f j <;> cases bitAt g j <;> cases decide (i = j) <;> rfl
theorem dst_ub {bytes r P : Nat} (d p d' p' : Nat → Nat) (hr : r ≤ 8 * P) : Gf.dst (wd (8 * bytes) r d p) (wd (8 * bytes) r d' p') (8 * bytes + r) = ub d d' bytes + Gf.cs (fun i => bitAt p i ^^ bitAt p' i) r ∧ Gf.cs (fun i => bitAt p i ^^ bitAt p' i) r ≤ ub p p' P := by
  refine ⟨?_, Gf.cs_mono _ hr⟩
  unfold Gf.dst
  rw [← Gf.cs_supp, Nat.add_comm (8 * bytes) r, Gf.cs_add, Nat.add_comm]
  congr 1
  · unfold ub
    rw [← Gf.cs_rev (fun i => wd (8 * bytes) r d p (r + i) ^^ wd (8 * bytes) r d' p' (r + i))]
    refine Gf.cs_congr (fun i hi => ?_)
    rw [wd_hi (by omega), wd_hi (by omega), show 8 * bytes + r - 1 - (r + (8 * bytes - 1 - i)) = i by omega]
  · rw [← Gf.cs_rev (fun k => wd (8 * bytes) r d p k ^^ wd (8 * bytes) r d' p' k)]
    refine Gf.cs_congr (fun i hi => ?_)
    rw [wd_lo (by omega), wd_lo (by omega), show r - 1 - (r - 1 - i) = i by omega]
theorem cs_pad {r P : Nat} {p p' : Nat → Nat} (hr : r ≤ 8 * P) (h : ∀ i, r ≤ i → i < 8 * P → bitAt p i = bitAt p' i) : ub p p' P = Gf.cs (fun i => bitAt p i ^^ bitAt p' i) r := by
  unfold ub
  obtain ⟨c, hc⟩ := Nat.exists_eq_add_of_le hr
  rw [hc, Gf.cs_add]
  have : Gf.cs (fun i => bitAt p (r + i) ^^ bitAt p' (r + i)) c = 0 := Gf.cs_zero.2 (fun i hi => by rw [h _ (by omega) (by omega)]; simp)
  omega
theorem ub_zero {f g : Nat → Nat} {n : Nat} (hf : ∀ j, f j < 256) (hg : ∀ j, g j < 256) (h : ub f g n = 0) : ∀ j, j < n → f j = g j :=
  bytes_ext hf hg (fun i hi => by
    have := Gf.cs_zero.1 h i hi
    revert this
    cases bitAt f i <;> cases bitAt g i <;> simp)

/-- The bits of a byte, the lowest first. -/
def uk (x : Nat) (K : Nat) : Nat := Gf.cs (fun k => x.testBit k) K
/-- Behind I bytes. -/
def us (f g : Nat → Nat) : Nat → Nat
  | 0 => 0
  | I+1 => us f g I + uk (f I ^^^ g I) 8
theorem us_ub (f g : Nat → Nat) (n : Nat) : us f g n = ub f g n := by
  induction n with
  | zero => rfl
  | succ n ih =>
    unfold us ub
    rw [ih, show 8 * (n + 1) = 8 * n + 8 by omega, Gf.cs_add]
    unfold ub uk
    congr 1
    rw [← Gf.cs_rev]
    refine Gf.cs_congr (fun i hi => ?_)
    rw [Nat.testBit_xor]
    unfold bitAt
    rw [show (8 * n + i) / 8 = n by omega, show 7 - (8 * n + i) % 8 = 8 - 1 - i by omega]
theorem us_le (f g : Nat → Nat) (n : Nat) : us f g n ≤ 8 * n := by
  have : ∀ (h : Nat → Bool) L, Gf.cs h L ≤ L := fun h L => by
    induction L with
    | zero => exact Nat.le_refl _
    | succ L ih => rw [Gf.cs]; cases h L <;> simp <;> omega
  rw [us_ub]; exact this _ _
theorem uk_le (x K : Nat) : uk x K ≤ K := by
  induction K with
  | zero => exact Nat.le_refl _
  | succ K ih => unfold uk at *; rw [Gf.cs]; cases x.testBit K <;> simp <;> omega

/-- What decodes within t bits of an encoded word. -/
theorem near_good {bytes t m P : Nat} (hp : Par bytes t m) (hP : P = (rr m t + 7) / 8) (xs : List Nat) (hl : xs.length = bytes) {d p : Nat → Nat} (hd : ub d (xs.getD · 0) bytes + ub p (par m t xs) P ≤ t) :
    ∃ k, DecGood m t (8 * bytes) (rr m t) P d p (xs.getD · 0) (par m t xs) k ∧ k = ub d (xs.getD · 0) bytes + Gf.cs (fun i => bitAt p i ^^ bitAt (par m t xs) i) (rr m t) := by
  obtain ⟨h1, h2⟩ := dst_ub (bytes := bytes) (P := P) d p (xs.getD · 0) (par m t xs) (show rr m t ≤ 8 * P by omega)
  exact ⟨_, ⟨par_cw hp xs hl, h1, by omega, fun i h1 _ => par_pad m t xs i h1⟩, rfl⟩
end Go.Proofs.Ytjompiihdnaogaa
