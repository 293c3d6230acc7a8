/- Walks over firkinlaw02: BchMakes. -/
import Derived.Test.YtoanopegoilcnaaGreatJj
import Derived.Test.YtoanopegoilcnaaGreatJa
import Derived.Test.YtoanopegoilcnaaGreatJb
import Derived.Deep.RegionHeld3
set_option linter.unusedVariables false
namespace Go.Proofs.YtoanopegoilcnaaGreat
open Go.RowKit Go.Mem

set_option maxRecDepth 100000 in
set_option maxHeartbeats 800000 in
theorem bchnew_bad (x y : Int) (w : World) (h : x < 1 ∨ 512 < x ∨ y < 1 ∨ 8 < y) :
    Calls Tryz.prog 45 #[.int .i64 x, .int .i64 y] w fun e w' => e = .returned (.tuple #[.pointer none, .int .i64 1]) ∧ w = w' := by
  by_cases h1 : x < 1
  · go_enter Tryz.func45, Tryz.ntmps45
    go_wp2_with fail
    go_ret2
    exact ⟨rfl, rfl⟩
  · by_cases h2 : 512 < x
    · go_enter Tryz.func45, Tryz.ntmps45
      go_wp2_with fail
      go_ret2
      exact ⟨rfl, rfl⟩
    · by_cases h3 : y < 1
      · go_enter Tryz.func45, Tryz.ntmps45
        go_wp2_with fail
        go_ret2
        exact ⟨rfl, rfl⟩
      · have h4 : 8 < y := by omega
        go_enter Tryz.func45, Tryz.ntmps45
        go_wp2_with fail
        go_ret2
        exact ⟨rfl, rfl⟩

set_option maxRecDepth 100000 in
set_option maxHeartbeats 800000 in
theorem rnew_bad (x y : Int) (w : World) (h : x < 1 ∨ 512 < x ∨ y < 1 ∨ 8 < y) :
    Calls Tryz.prog 46 #[.int .i64 x, .int .i64 y] w fun e w' => e = .returned (.tuple #[.agg #[.int .i64 0, .int .i64 0, .int .i64 0, .slice none 0 0], .bool false]) ∧ Below w.heap.size w w' := by
  by_cases h1 : x < 1
  · go_enter Tryz.func46, Tryz.ntmps46
    go_wp2_with fail
    refine bodyPost_ret (v := .tuple #[.agg #[.int .i64 0, .int .i64 0, .int .i64 0, .slice none 0 0], .bool false]) (by simp [results, Tryz.results46, go_sem]) rfl ⟨rfl, ?_⟩
    exact (Below.refl _ _).alloc (Nat.le_refl _) _
  · by_cases h2 : 512 < x
    · go_enter Tryz.func46, Tryz.ntmps46
      go_wp2_with fail
      refine bodyPost_ret (v := .tuple #[.agg #[.int .i64 0, .int .i64 0, .int .i64 0, .slice none 0 0], .bool false]) (by simp [results, Tryz.results46, go_sem]) rfl ⟨rfl, ?_⟩
      exact (Below.refl _ _).alloc (Nat.le_refl _) _
    · by_cases h3 : y < 1
      · go_enter Tryz.func46, Tryz.ntmps46
        go_wp2_with fail
        refine bodyPost_ret (v := .tuple #[.agg #[.int .i64 0, .int .i64 0, .int .i64 0, .slice none 0 0], .bool false]) (by simp [results, Tryz.results46, go_sem]) rfl ⟨rfl, ?_⟩
        exact (Below.refl _ _).alloc (Nat.le_refl _) _
      · have h4 : 8 < y := by omega
        go_enter Tryz.func46, Tryz.ntmps46
        go_wp2_with fail
        refine bodyPost_ret (v := .tuple #[.agg #[.int .i64 0, .int .i64 0, .int .i64 0, .slice none 0 0], .bool false]) (by simp [results, Tryz.results46, go_sem]) rfl ⟨rfl, ?_⟩
        exact (Below.refl _ _).alloc (Nat.le_refl _) _

theorem nil_RC {w : World} {v : Value} {bytes t m : Nat} (h : RC w v bytes t m) : ∃ ga L gcap, v = .agg #[.int .i64 m, .int .i64 bytes, .int .i64 t, .slice ga L gcap] := by
  obtain ⟨gv, rfl, a, cap, rfl, _⟩ := h
  exact ⟨a, _, cap, rfl⟩

end Go.Proofs.YtoanopegoilcnaaGreat
/- Walks over firkinlaw02: BchEncodes. -/
namespace Go.Proofs.YtoanopegoilcnaaGreat
open Go.RowKit Go.Mem

set_option maxRecDepth 100000 in
set_option maxHeartbeats 400000 in
theorem encode_bad (c bytes t m : Nat) (a : Option Addr) (n cap : Nat) (w : World) (h : CodeAt w c bytes t m) (hne : n ≠ bytes) :
    Calls Tryz.prog 50 #[.pointer (some ⟨c, 0, none⟩), .slice a n cap] w fun e w' => e = .returned (.tuple #[.slice none 0 0, .int .i64 1]) ∧ w = w' := by
  have c1 : w.cell? ⟨c, 1, none⟩ = some (.int .i64 bytes) := by obtain ⟨fb, gv, h1, h2, h3⟩ := h; exact cell_at h1 1
  have t1 : ((n : Int) != (bytes : Int)) = true := bne_iff_ne.2 (by omega)
  go_enter Tryz.func50, Tryz.ntmps50
  go_wp2_with fail
  go_ret2
  exact ⟨rfl, rfl⟩
set_option maxRecDepth 100000 in
set_option maxHeartbeats 400000 in
theorem rencode_bad (v : Value) (bytes t m : Nat) (a : Option Addr) (n cap : Nat) (w : World) (h : RC w v bytes t m) (hne : n ≠ bytes) :
    Calls Tryz.prog 52 #[v, .slice a n cap] w fun e w' => e = .returned (.tuple #[.slice none 0 0, .int .i64 1]) ∧ Below w.heap.size w w' := by
  obtain ⟨ga, L, gcap, rfl⟩ := nil_RC h
  have t1 : ((n : Int) != (bytes : Int)) = true := bne_iff_ne.2 (by omega)
  go_enter Tryz.func52, Tryz.ntmps52
  go_wp2_with fail
  go_ret2
  exact ⟨rfl, (Below.refl _ _).alloc (Nat.le_refl _) _⟩

end Go.Proofs.YtoanopegoilcnaaGreat
/- Walks over firkinlaw02: bits turned of data alone. -/
namespace Go.Proofs.YtoanopegoilcnaaGreat
open Go.RowKit Go.Mem

/-- What bent hands back of no parity. -/
def BentNil (w w' : World) (xs : List Nat) (n : Nat) (e : Ending) : Prop :=
  ∃ g1 c1 F1, w.heap.size ≤ g1 ∧ e = .returned (.tuple #[.slice (some ⟨g1, 0, none⟩) xs.length c1, .slice none 0 0]) ∧
    Ow .u8 5 w' g1 xs.length c1 F1 ∧ (∀ j, F1 j < 256) ∧ ub F1 (xs.getD · 0) xs.length ≤ min n 12

end Go.Proofs.YtoanopegoilcnaaGreat
/- Walks over firkinlaw02: what the laws that bend a word have in common; BchMends. -/
namespace Go.Proofs.YtoanopegoilcnaaGreat
open Go.RowKit Go.Mem

theorem _root_.Go.Mem.RdI.take {k : IntKind} {w : World} {a : Option Addr} {n cap : Nat} {zs : List Int} (h : RdI k w (.slice a n cap) zs) (hl : zs.length = n) (T : Nat) (hT : T ≤ n) : RdI k w (.slice a T cap) (zs.take T) := by
  obtain ⟨a', c', he, h1, h2, hc⟩ := h
  cases he
  refine ⟨a, cap, by rw [List.length_take]; congr 1; omega, by rw [List.length_take]; omega, h2, fun j hj => ?_⟩
  have hj' : j < T := by rw [List.length_take] at hj; omega
  obtain ⟨g, o, ha, hx⟩ := hc j (by omega)
  refine ⟨g, o, ha, ?_⟩
  rw [hx]
  congr 2
  simp only [List.getD]
  rw [List.getElem?_take_of_lt hj']

theorem ow_rd_eq {w : World} {g n cap : Nat} {f : Nat → Nat} {xs : List Nat} (h : Ow .u8 5 w g n cap f) (hl : xs.length = n) (he : ∀ j, j < n → f j = xs.getD j 0) : Rd .u8 w (.slice (some ⟨g, 0, none⟩) n cap) xs := by
  have := h.rd
  have e : (List.range n).map f = xs := by
    subst hl
    rw [← rg_self xs]
    simp only [List.length_map, List.length_range]
    exact List.map_congr_left (fun j hj => he j (by simpa using hj))
  rwa [e] at this

/-- What is decoded of a word that was bent by few bits. -/
theorem dec_known {bytes t m P : Nat} (hp : Par bytes t m) (hP : P = (rr m t + 7) / 8) (xs : List Nat) (hl : xs.length = bytes) (hx : ∀ y ∈ xs, y < 256) {d p : Nat → Nat} (hd : ub d (xs.getD · 0) bytes + ub p (par m t xs) P ≤ t)
    {w w' : World} {e : Ending} (h : DecRet m t bytes P d p w w' e) : ∃ g1 c1 g2 c2, e = .returned (.tuple #[.slice (some ⟨g1, 0, none⟩) bytes c1, .slice (some ⟨g2, 0, none⟩) P c2, .int .i64 ((ub d (xs.getD · 0) bytes + Gf.cs (fun i => bitAt p i ^^ bitAt (par m t xs) i) (rr m t) : Nat) : Int), .int .i64 0]) ∧
    Rd .u8 w' (.slice (some ⟨g1, 0, none⟩) bytes c1) xs ∧ Rd .u8 w' (.slice (some ⟨g2, 0, none⟩) P c2) ((List.range P).map (par m t xs)) := by
  obtain ⟨k0, hg0, hk0⟩ := near_good hp hP xs hl hd
  rcases h with ⟨g1, c1, g2, c2, d', p', k, _, _, he, ho1, ho2, hd', hp', hg⟩ | ⟨_, hb⟩
  · obtain ⟨u1, u2, u3⟩ := DecGood.uniq hp hP hg hg0 hd' hp' (fun j => Gf.getD_lt (m := 8) hx j) (par_lt _ _ _)
    refine ⟨g1, c1, g2, c2, by rw [he, u3, hk0], ow_rd_eq ho1 hl u1, ow_rd_eq ho2 (by simp) (fun j hj => by rw [u2 j hj, rg_getD _ _ _ hj])⟩
  · exact (hb.not hg0).elim
end Go.Proofs.YtoanopegoilcnaaGreat
/- Plain facts on equations over the field: unknowns left out one by one; the places of turned bits (Peterson). No program in sight. -/
namespace Gf
/-- The least row from k on, before n, that has something in column i; else n. -/
def pv (A : Nat → Nat → Nat) (i n : Nat) : Nat → Nat → Nat
  | 0, k => k
  | g+1, k => if k < n ∧ A k i = 0 then pv A i n g (k+1) else k
def sw (A : Nat → Nat → Nat) (i k : Nat) : Nat → Nat → Nat := fun r => if r = i then A k else if r = k then A i else A r
def sc (m : Nat) (A : Nat → Nat → Nat) (i : Nat) : Nat → Nat → Nat := fun r j => if r = i then mul m (A i j) (inv m (A i i)) else A r j
def el (m : Nat) (A : Nat → Nat → Nat) (i : Nat) : Nat → Nat → Nat := fun r j => if r = i then A r j else A r j ^^^ mul m (A r i) (A i j)
/-- The pivot's row at step i. -/
def pr (A : Nat → Nat → Nat) (i n : Nat) : Nat := pv A i n (n - i) i
def gstep (m n : Nat) (A : Nat → Nat → Nat) (i : Nat) : Nat → Nat → Nat := el m (sc m (sw A i (pr A i n)) i) i
/-- The rows behind I unknowns; nothing, if they have no one answer. -/
def gs (m n : Nat) (A : Nat → Nat → Nat) : Nat → Option (Nat → Nat → Nat)
  | 0 => some A
  | I+1 => match gs m n A I with
    | none => none
    | some B => if pr B I n < n then some (gstep m n B I) else none

theorem pv_spec (A : Nat → Nat → Nat) (i n : Nat) : ∀ g k, k + g = n → k ≤ pv A i n g k ∧ pv A i n g k ≤ n ∧ (∀ r, k ≤ r → r < pv A i n g k → A r i = 0) ∧ (pv A i n g k < n → A (pv A i n g k) i ≠ 0) := by
  intro g
  induction g with
  | zero => intro k hk; simp only [pv]; exact ⟨Nat.le_refl _, by omega, fun r h1 h2 => by omega, fun h => by omega⟩
  | succ g ih =>
    intro k hk
    rw [pv]
    by_cases hc : k < n ∧ A k i = 0
    · rw [if_pos hc]
      obtain ⟨h1, h2, h3, h4⟩ := ih (k+1) (by omega)
      refine ⟨by omega, h2, fun r hr1 hr2 => ?_, h4⟩
      by_cases e : r = k
      · rw [e]; exact hc.2
      · exact h3 r (by omega) hr2
    · rw [if_neg hc]
      exact ⟨Nat.le_refl _, by omega, fun r h1 h2 => by omega, fun h h0 => hc ⟨h, h0⟩⟩
theorem pr_spec (A : Nat → Nat → Nat) {i n : Nat} (hi : i ≤ n) : i ≤ pr A i n ∧ pr A i n ≤ n ∧ (∀ r, i ≤ r → r < pr A i n → A r i = 0) ∧ (pr A i n < n → A (pr A i n) i ≠ 0) := pv_spec A i n (n - i) i (by omega)

section
variable {m : Nat} (h : Ok m)
include h
def Fits (m n : Nat) (A : Nat → Nat → Nat) : Prop := ∀ r, r < n → ∀ j, A r j < 2^m
omit h in
theorem sw_fits {n i k : Nat} {A : Nat → Nat → Nat} (hA : Fits m n A) (hi : i < n) (hk : k < n) : Fits m n (sw A i k) := fun r hr j => by
  unfold sw
  split
  · exact hA _ hk j
  · split
    · exact hA _ hi j
    · exact hA _ hr j
theorem sc_fits {n i : Nat} {A : Nat → Nat → Nat} (hA : Fits m n A) : Fits m n (sc m A i) := fun r hr j => by
  unfold sc
  split
  · exact mul_lt h _ _
  · exact hA r hr j
theorem el_fits {n i : Nat} {A : Nat → Nat → Nat} (hA : Fits m n A) : Fits m n (el m A i) := fun r hr j => by
  unfold el
  split
  · exact hA r hr j
  · exact Nat.xor_lt_two_pow (hA r hr j) (mul_lt h _ _)

/-- x makes all rows 0 (its last place is the right side's). -/
def Z (m n : Nat) (A : Nat → Nat → Nat) (x : Nat → Nat) : Prop := ∀ r, r < n → sx (fun j => mul m (A r j) (x j)) (n+1) = 0

omit h in
theorem z_sw {n i k : Nat} {A : Nat → Nat → Nat} {x : Nat → Nat} (hi : i < n) (hk : k < n) (hz : Z m n (sw A i k) x) : Z m n A x := fun r hr => by
  by_cases e1 : r = i
  · subst e1
    by_cases e2 : k = r
    · have := hz r hr
      unfold sw at this
      rw [if_pos rfl, e2] at this
      exact this
    · have := hz k hk
      unfold sw at this
      rw [if_neg e2, if_pos rfl] at this
      exact this
  · by_cases e2 : r = k
    · subst e2
      have := hz i hi
      unfold sw at this
      rw [if_pos rfl] at this
      exact this
    · have := hz r hr
      unfold sw at this
      rw [if_neg e1, if_neg e2] at this
      exact this
theorem z_sc {n i : Nat} {A : Nat → Nat → Nat} {x : Nat → Nat} (hA : Fits m n A) (hx : ∀ j, x j < 2^m) (hi : i < n) (h0 : A i i ≠ 0) (hz : Z m n (sc m A i) x) : Z m n A x := fun r hr => by
  have hzr := hz r hr
  by_cases e : r = i
  · subst e
    have e1 : sx (fun j => mul m (sc m A r r j) (x j)) (n+1) = mul m (inv m (A r r)) (sx (fun j => mul m (A r j) (x j)) (n+1)) := by
      rw [sx_mul h _ (inv_lt h _) _ _ (fun j _ => mul_lt h _ _)]
      refine sx_congr _ (fun j _ => ?_)
      unfold sc
      rw [if_pos rfl, mul_comm (A r j), mul_assoc h (inv_lt h _) (hA r hr j) (hx j)]
    rw [e1] at hzr
    rcases (mul_eq_zero h).1 hzr with h1 | h1
    · exact absurd h1 (inv_ne h h0)
    · exact h1
  · unfold sc at hzr
    simp only [if_neg e] at hzr
    exact hzr
theorem z_el {n i : Nat} {A : Nat → Nat → Nat} {x : Nat → Nat} (hA : Fits m n A) (hx : ∀ j, x j < 2^m) (hi : i < n) (hz : Z m n (el m A i) x) : Z m n A x := fun r hr => by
  have hzi : sx (fun j => mul m (A i j) (x j)) (n+1) = 0 := by
    have := hz i hi
    unfold el at this
    simpa using this
  by_cases e : r = i
  · subst e; exact hzi
  · have hzr := hz r hr
    have e1 : sx (fun j => mul m (el m A i r j) (x j)) (n+1) = sx (fun j => mul m (A r j) (x j)) (n+1) ^^^ mul m (A r i) (sx (fun j => mul m (A i j) (x j)) (n+1)) := by
      rw [sx_mul h _ (hA r hr i) _ _ (fun j _ => mul_lt h _ _), ← sx_xor]
      refine sx_congr _ (fun j _ => ?_)
      unfold el
      rw [if_neg e, xor_mul h (hA r hr j) (mul_lt h _ _) _ (hx j), mul_assoc h (hA r hr i) (hA i hi j) (hx j)]
    rw [e1, hzi, mul_zero, Nat.xor_zero] at hzr
    exact hzr

/-- The first I columns are those of 1. -/
def Un (n I : Nat) (A : Nat → Nat → Nat) : Prop := ∀ r, r < n → ∀ j, j < I → A r j = if r = j then 1 else 0

theorem gstep_all {n I : Nat} {B : Nat → Nat → Nat} (hI : I < n) (hf : Fits m n B) (hu : Un n I B) (hk : pr B I n < n) : Fits m n (gstep m n B I) ∧ Un n (I+1) (gstep m n B I) ∧ ∀ x, (∀ j, x j < 2^m) → Z m n (gstep m n B I) x → Z m n B x := by
  obtain ⟨p1, p2, p3, p4⟩ := pr_spec B (Nat.le_of_lt hI)
  unfold gstep
  generalize pr B I n = k at *
  have f1 := sw_fits hf hI hk
  have f2 := sc_fits (i := I) h f1
  have f3 := el_fits (i := I) h f2
  have hne : sw B I k I I ≠ 0 := by unfold sw; rw [if_pos rfl]; exact p4 hk
  have u1 : Un n I (sw B I k) := fun r hr j hj => by
    unfold sw
    by_cases e1 : r = I
    · rw [if_pos e1, hu k hk j hj, if_neg (by omega), if_neg (by omega)]
    · rw [if_neg e1]
      by_cases e2 : r = k
      · rw [if_pos e2, hu I hI j hj, if_neg (by omega), if_neg (by omega)]
      · rw [if_neg e2]; exact hu r hr j hj
  generalize hC : sw B I k = C at *
  have u2 : Un n I (sc m C I) := fun r hr j hj => by
    unfold sc
    by_cases e1 : r = I
    · rw [if_pos e1, u1 I hI j hj, if_neg (by omega), zero_mul, if_neg (by omega)]
    · rw [if_neg e1]; exact u1 r hr j hj
  have d2 : sc m C I I I = 1 := by unfold sc; rw [if_pos rfl]; exact mul_inv h (f1 I hI I) hne
  generalize hD : sc m C I = D at *
  refine ⟨f3, fun r hr j hj => ?_, fun x hx hz => ?_⟩
  · unfold el
    by_cases e1 : r = I
    · rw [if_pos e1]
      by_cases e2 : j = I
      · rw [e1, e2, d2, if_pos rfl]
      · rw [e1, u2 I hI j (by omega)]
    · rw [if_neg e1]
      by_cases e2 : j = I
      · rw [e2, d2, mul_one h (f2 r hr I), Nat.xor_self, if_neg e1]
      · rw [u2 I hI j (by omega), if_neg (show ¬ I = j by omega), mul_zero, Nat.xor_zero]
        exact u2 r hr j (by omega)
  · have z1 := z_el h f2 hx hI hz
    rw [← hD] at z1
    have z2 := z_sc h f1 hx hI hne z1
    rw [← hC] at z2
    exact z_sw hI hk z2

omit h in
theorem sx_at (r v L : Nat) : sx (fun j => if j = r then v else 0) L = if r < L then v else 0 := by
  induction L with
  | zero => rfl
  | succ L ih =>
    rw [sx, ih]
    by_cases e : L = r
    · subst e; rw [if_neg (by omega), if_pos rfl, if_pos (by omega), Nat.zero_xor]
    · rw [if_neg e, Nat.xor_zero]
      by_cases hl : r < L
      · rw [if_pos hl, if_pos (by omega)]
      · rw [if_neg hl, if_neg (by omega)]

theorem gs_spec {n : Nat} {A : Nat → Nat → Nat} (hA : Fits m n A) : ∀ I, I ≤ n → (∀ B, gs m n A I = some B → Fits m n B ∧ Un n I B ∧ ∀ x, (∀ j, x j < 2^m) → Z m n B x → Z m n A x) ∧
    (gs m n A I = none → ∃ x, (∀ j, x j < 2^m) ∧ x n = 0 ∧ (∃ j, j < n ∧ x j ≠ 0) ∧ Z m n A x) := by
  intro I
  induction I with
  | zero => exact fun _ => ⟨fun B hB => (by cases hB; exact ⟨hA, fun r _ j hj => (by omega), fun x _ hz => hz⟩), fun hn => (by cases hn)⟩
  | succ I ih =>
    intro hI
    obtain ⟨i1, i2⟩ := ih (by omega)
    cases hg : gs m n A I with
    | none =>
      have e : gs m n A (I+1) = none := by rw [gs, hg]
      exact ⟨fun B hB => (by rw [e] at hB; cases hB), fun _ => i2 hg⟩
    | some B =>
      obtain ⟨b1, b2, b3⟩ := i1 B hg
      by_cases hk : pr B I n < n
      · have e : gs m n A (I+1) = some (gstep m n B I) := by rw [gs, hg]; simp only [if_pos hk]
        obtain ⟨c1, c2, c3⟩ := gstep_all h (by omega) b1 b2 hk
        exact ⟨fun C hC => (by rw [e] at hC; cases hC; exact ⟨c1, c2, fun x hx hz => b3 x hx (c3 x hx hz)⟩), fun hn => (by rw [e] at hn; cases hn)⟩
      · have e : gs m n A (I+1) = none := by rw [gs, hg]; simp only [if_neg hk]
        refine ⟨fun C hC => (by rw [e] at hC; cases hC), fun _ => ?_⟩
        obtain ⟨p1, p2, p3, p4⟩ := pr_spec B (show I ≤ n by omega)
        have hx : ∀ j, (fun j => if j = I then 1 else if j < I then B j I else 0) j < 2^m := fun j => by
          show (if j = I then 1 else if j < I then B j I else 0) < 2^m
          split
          · exact one_lt m h
          · split
            · exact b1 j (by omega) I
            · exact Nat.two_pow_pos m
        refine ⟨fun j => if j = I then 1 else if j < I then B j I else 0, hx, ?_, ⟨I, by omega, by simp⟩, b3 _ hx fun r hr => ?_⟩
        · show (if n = I then 1 else if n < I then B n I else 0) = 0
          rw [if_neg (by omega), if_neg (by omega)]
        · rw [sx_more _ (I+1) (n+1) (by omega) (fun j h1 h2 => by rw [if_neg (by omega), if_neg (by omega), mul_zero]), sx, if_pos rfl, mul_one h (b1 r hr I)]
          by_cases hrI : r < I
          · have : sx (fun j => mul m (B r j) (if j = I then 1 else if j < I then B j I else 0)) I = sx (fun j => if j = r then B r I else 0) I := by
              refine sx_congr _ (fun j hj => ?_)
              rw [if_neg (by omega), if_pos hj, b2 r hr j hj]
              by_cases e1 : r = j
              · subst e1; rw [if_pos rfl, if_pos rfl, one_mul h (b1 r hr I)]
              · rw [if_neg e1, if_neg (fun e => e1 e.symm), zero_mul]
            rw [this, sx_at, if_pos hrI, Nat.xor_self]
          · have : sx (fun j => mul m (B r j) (if j = I then 1 else if j < I then B j I else 0)) I = sx (fun _ => 0) I := by
              refine sx_congr _ (fun j hj => ?_)
              rw [b2 r hr j hj, if_neg (by omega), zero_mul]
            rw [this, sx_zero, p3 r (by omega) (by omega)]; rfl

/-- The equations' answer. -/
theorem gs_ans {n : Nat} {A B : Nat → Nat → Nat} (hA : Fits m n A) (hB : gs m n A n = some B) : (∀ j, (fun j => if j < n then B j n else 1) j < 2^m) ∧ Z m n A (fun j => if j < n then B j n else 1) := by
  obtain ⟨b1, b2, b3⟩ := (gs_spec h hA n (Nat.le_refl _)).1 B hB
  have hx : ∀ j, (fun j => if j < n then B j n else 1) j < 2^m := fun j => by
    show (if j < n then B j n else 1) < 2^m
    split
    · exact b1 j (by assumption) n
    · exact one_lt m h
  refine ⟨hx, b3 _ hx fun r hr => ?_⟩
  rw [sx, if_neg (by omega), mul_one h (b1 r hr n)]
  have : sx (fun j => mul m (B r j) (if j < n then B j n else 1)) n = sx (fun j => if j = r then B r n else 0) n := by
    refine sx_congr _ (fun j hj => ?_)
    rw [if_pos hj, b2 r hr j hj]
    by_cases e1 : r = j
    · subst e1; rw [if_pos rfl, if_pos rfl, one_mul h (b1 r hr n)]
    · rw [if_neg e1, if_neg (fun e => e1 e.symm), zero_mul]
  rw [this, sx_at, if_pos hr, Nat.xor_self]

/-! ### Peterson -/
/-- The sums as equations. -/
def hk (s : List Nat) : Nat → Nat → Nat := fun r j => s.getD (r + j) 0
/-- The polynomial of an answer. -/
def pol (x : Nat → Nat) (v : Nat) : List Nat := (List.range (v+1)).map fun i => if i = 0 then 1 else x (v - i)
omit h in
theorem pol_getD (x : Nat → Nat) (v i : Nat) : (pol x v).getD i 0 = if i = 0 then 1 else if i ≤ v then x (v - i) else 0 := by
  unfold pol
  by_cases hi : i < v + 1
  · simp only [List.getD, List.getElem?_map, List.getElem?_range hi, Option.map_some, Option.getD_some]
    by_cases e : i = 0
    · rw [if_pos e, if_pos e]
    · rw [if_neg e, if_neg e, if_pos (by omega)]
  · rw [getD_ge (by simp; omega), if_neg (by omega), if_neg (by omega)]
omit h in
theorem pol_len (x : Nat → Nat) (v : Nat) : (pol x v).length = v + 1 := by simp [pol]
theorem pol_lt {x : Nat → Nat} (hx : ∀ j, x j < 2^m) (v : Nat) : ∀ y ∈ pol x v, y < 2^m := by
  intro y hy
  obtain ⟨i, _, rfl⟩ := List.mem_map.1 hy
  split
  · exact one_lt m h
  · exact hx _

theorem yv_inj {L p q : Nat} (hL : L ≤ sz m) (hp : p < L) (hq : q < L) (e : yv m p = yv m q) : p = q := by
  have h1 := pw_yv h (show p ≤ sz m by omega)
  have h2 := pw_yv h (show q ≤ sz m by omega)
  rw [← e] at h2
  have h3 := mul_left_cancel h (yv_lt h p) (pw_lt h p) (pw_lt h q) (pw_ne h _) (by rw [mul_comm, h1, mul_comm, h2])
  exact pw_inj h (by omega) (by omega) h3
/-- A polynomial that is not 0 has fewer roots than coefficients. -/
theorem few_roots {L : Nat} (hL : L ≤ sz m) (C : List Nat) (hC : ∀ y ∈ C, y < 2^m) (hne : ∃ y ∈ C, y ≠ 0) (l : List Nat) (hl : l.Nodup) (hr : ∀ p ∈ l, p < L ∧ ev m C (yv m p) = 0) : l.length < C.length := by
  rcases Nat.lt_or_ge l.length C.length with hlt | hge
  · exact hlt
  · exfalso
    have := roots_zero h l.length C (l.map (yv m)) hge (by simp) (by
      refine List.Pairwise.map _ (S := fun a b => a ≠ b) (R := fun a b => a ≠ b ∧ a < L ∧ b < L) ?_ ?_
      · intro a b ⟨hab, ha, hb⟩ e
        exact hab (yv_inj h hL ha hb e)
      · exact List.Pairwise.imp_of_mem (fun ha hb' hab => ⟨hab, (hr _ ha).1, (hr _ hb').1⟩) hl) hC (by
      intro x hx
      obtain ⟨p, hp, rfl⟩ := List.mem_map.1 hx
      exact ⟨yv_lt h p, (hr p hp).2⟩)
    obtain ⟨y, hy, hy0⟩ := hne
    exact hy0 (this y hy)

omit h in
theorem hk_fits {s : List Nat} (hs : ∀ y ∈ s, y < 2^m) (n : Nat) : Fits m n (hk s) := fun _ _ _ => getD_lt hs _

/-- Where just v bits are turned there is an answer. -/
theorem pet_some (w : Nat → Bool) (L t v : Nat) (hL : L ≤ sz m) (s : List Nat) (hs : ∀ y ∈ s, y < 2^m) (hsy : ∀ k, k < 2 * t → s.getD k 0 = syn m w L (k+1)) (hv : (supp w L).length = v) (h1 : 1 ≤ v) (hvt : v ≤ t) : gs m v (hk s) v ≠ none := by
  intro hn
  obtain ⟨x, hx, hxn, ⟨j, hj, hxj⟩, hz⟩ := (gs_spec h (hk_fits hs v) v (Nat.le_refl _)).2 hn
  -- the polynomial of the kernel's vector
  obtain ⟨C, hCe⟩ : ∃ C, (List.range v).map (fun i => x (v - 1 - i)) = C := ⟨_, rfl⟩
  have hCl : C.length = v := by rw [← hCe]; simp
  have hCg : ∀ i, i < v → C.getD i 0 = x (v - 1 - i) := fun i hi => by rw [← hCe]; simp [List.getD, hi]
  have hC : ∀ y ∈ C, y < 2^m := by
    intro y hy
    rw [← hCe] at hy
    obtain ⟨i, _, rfl⟩ := List.mem_map.1 hy
    exact hx _
  have hroot := cv_all h w L (2 * t) hL s C hC hsy (v - 1) (by omega) (fun i hi => getD_ge (by omega)) (fun k hk1 hk2 => by
    have := hz (k - (v - 1)) (by omega)
    rw [sx, hxn, mul_zero, Nat.xor_zero] at this
    unfold cv
    rw [sx_more _ v (k+1) (by omega) (fun i h1 _ => by rw [getD_ge (by omega), zero_mul]), ← sx_rev]
    refine Eq.trans (sx_congr _ (fun i hi => ?_)) this
    rw [hCg _ (by omega), show v - 1 - (v - 1 - i) = i by omega, mul_comm]
    unfold hk
    congr 2; omega)
  have := few_roots h hL C hC ⟨x j, by rw [← hCe]; exact List.mem_map.2 ⟨v - 1 - j, by simp; omega, by rw [show v - 1 - (v - 1 - j) = j by omega]⟩, hxj⟩ (supp w L) (supp_nodup w L) (fun p hp => ⟨(mem_supp.1 hp).1, hroot p (mem_supp.1 hp).1 (mem_supp.1 hp).2⟩)
  omega

/-- The answer's polynomial is 0 at just the turned bits' places. -/
theorem pet_roots (w : Nat → Bool) (L t v : Nat) (hL : L ≤ sz m) (s : List Nat) (hs : ∀ y ∈ s, y < 2^m) (hsy : ∀ k, k < 2 * t → s.getD k 0 = syn m w L (k+1)) (hv : (supp w L).length = v) (hvt : v ≤ t) (B : Nat → Nat → Nat) (hB : gs m v (hk s) v = some B) :
    ∀ p, p < L → (ev m (pol (fun j => B j v) v) (yv m p) = 0 ↔ w p = true) := by
  obtain ⟨hx, hz⟩ := gs_ans h (hk_fits hs v) hB
  have hC : ∀ y ∈ pol (fun j => B j v) v, y < 2^m := by
    intro y hy
    obtain ⟨i, hi, rfl⟩ := List.mem_map.1 hy
    have hi' : i < v + 1 := by simpa using hi
    split
    · exact one_lt m h
    · have := hx (v - i)
      simp only [if_pos (show v - i < v by omega)] at this
      exact this
  have hroot := cv_all h w L (2 * t) hL s _ hC hsy v (by omega) (fun i hi => getD_ge (by rw [pol_len]; omega)) (fun k hk1 hk2 => by
    have := hz (k - v) (by omega)
    unfold cv
    rw [sx_more _ (v+1) (k+1) (by omega) (fun i h1 _ => by rw [getD_ge (by rw [pol_len]; omega), zero_mul]), ← sx_rev]
    refine Eq.trans (sx_congr _ (fun i hi => ?_)) this
    rw [pol_getD, mul_comm]
    unfold hk
    rw [show k - (v + 1 - 1 - i) = k - v + i by omega]
    congr 1
    show _ = if i < v then B i v else 1
    by_cases e : i < v
    · rw [if_neg (by omega), if_pos (by omega), if_pos e]
      congr 1; omega
    · rw [if_pos (by omega), if_neg e])
  have hne : ∃ y ∈ pol (fun j => B j v) v, y ≠ 0 := ⟨1, List.mem_map.2 ⟨0, by simp, by simp⟩, by decide⟩
  intro p hp
  constructor
  · intro he
    cases hwp : w p with
    | true => rfl
    | false =>
      exfalso
      have := few_roots h hL _ hC hne (p :: supp w L) (List.nodup_cons.2 ⟨fun hm => (by have := (mem_supp.1 hm).2; rw [hwp] at this; cases this), supp_nodup w L⟩) (by
        intro q hq
        rcases List.mem_cons.1 hq with rfl | hq
        · exact ⟨hp, he⟩
        · exact ⟨(mem_supp.1 hq).1, hroot q (mem_supp.1 hq).1 (mem_supp.1 hq).2⟩)
      rw [pol_len, List.length_cons] at this
      omega
  · exact hroot p hp
end
end Gf
/- Walks over firkinref02: word, Whole, syndrome. -/
namespace Go.Proofs.YtoanopegoilcnaaGreat
open Go.RowKit Go.Mem

theorem _root_.Go.Mem.Rd.take {k : IntKind} {w : World} {a : Option Addr} {n cap : Nat} {xs : List Nat} (h : Rd k w (.slice a n cap) xs) (T : Nat) (hT : T ≤ xs.length) : Rd k w (.slice a T cap) (xs.take T) := by
  obtain ⟨a', c', he, h1, h2, hc⟩ := h
  injection he with e1 e2 e3
  subst e1 e3
  refine ⟨a, cap, by rw [List.length_take]; congr 1; omega, by rw [List.length_take]; omega, h2, fun j hj => ?_⟩
  have hj' : j < T := by rw [List.length_take] at hj; omega
  obtain ⟨g, o, ha, hx⟩ := hc j (by omega)
  refine ⟨g, o, ha, ?_⟩
  rw [hx]
  congr 2
  simp only [List.getD]
  rw [List.getElem?_take_of_lt hj']
theorem bl_take (f : Nat → Nat) {r J : Nat} (h : r ≤ J) : (bl f J).take r = bl f r := by
  unfold bl
  rw [← List.map_take, List.take_range, Nat.min_eq_left h]

set_option maxRecDepth 100000 in
set_option maxHeartbeats 1600000 in
theorem rword_any (v1 v2 v3 : Value) (xs ys : List Nat) (bytes t m P : Nat) (w : World) (hp : Par bytes t m) (h : RC w v1 bytes t m) (h2 : Rd .u8 w v2 xs) (h3 : Rd .u8 w v3 ys) (hx : ∀ y ∈ xs, y < 256) (hy : ∀ y ∈ ys, y < 256)
    (hl : xs.length = bytes) (hl2 : ys.length = P) (hr : rr m t ≤ 8 * P) (hP : P ≤ 1000) :
    Calls Tryz.prog 85 #[v1, v2, v3] w fun e w' => ∃ v', e = .returned v' ∧ Own .i64 3 w.heap.size w' v' (bl (xs.getD · 0) (8 * bytes) ++ bl (ys.getD · 0) (rr m t)) ∧ Below w.heap.size w w' := by
  obtain ⟨ga, L, gcap, rfl⟩ := nil_RC h
  have HRC := hid h
  have HV2 := hid h2
  have HV3 := hid h3
  have HX := hid hx
  have HY := hid hy
  have HL := hid hl
  have HL2 := hid hl2
  have b2 := hp.b2
  have r1 := hp.r.2.1
  have r104 := hp.r.2.2.2.1
  clear h h2 h3 hx hy hl hl2
  go_enter Tryz.func85, Tryz.ntmps85
  go_wp2_with fail
  refine (rBits_any _ xs _ (HV2.out.below ((Below.refl _ w).alloc (Nat.le_refl _) _)) HX.out (by have := HL.out; omega)).mono ?_
  rintro e w1 ⟨o1, rfl, ho1, hb1⟩
  rw [HL.out] at ho1
  have hc1 : w1.heap[w.heap.size]? = some (.cells #[.int .i64 m, .int .i64 bytes, .int .i64 t, .slice ga L gcap] 33 (0, 0)) := (hb1.block _ (by simp)).trans (alloc_new w _)
  have ho1' : Own .i64 3 (w.heap.size + 1) w1 o1 (bl (xs.getD · 0) (8 * bytes)) := by simpa using ho1
  have hbw : Below w.heap.size w w1 := ((Below.refl _ w).alloc (Nat.le_refl _) _).comp hb1
  have HO1 := hid ho1'
  have HC1 := hid hc1
  have HB1 := hid hbw
  clear ho1 ho1' hc1 hbw hb1
  go_wp2_with fail
  refine (rBits_any _ ys _ (HV3.out.below HB1.out) HY.out (by have := HL2.out; omega)).mono ?_
  rintro e w2 ⟨o2, rfl, ho2, hb2⟩
  rw [HL2.out] at ho2
  have hc2 := (hb2.block _ (lt_at HC1.out)).trans HC1.out
  have q0 := cell_at hc2 0
  have q1 := cell_at hc2 1
  have q2 := cell_at hc2 2
  have q3 := cell_at hc2 3
  have HC2 := hid hc2
  have HO1b := hid (HO1.out.below hb2)
  have HB2 := hid (HB1.out.comp hb2)
  obtain ⟨a2, k2, he, c1, c2, hcc⟩ := ho2.rd
  rw [bl_len] at he c1
  obtain ⟨g2, p2, ha2, _⟩ := hcc 0 (by rw [bl_len]; omega)
  rw [ha2] at he
  subst he
  have hrd2 := ho2.rd.take (rr m t) (by rw [bl_len]; exact hr)
  rw [bl_take _ hr] at hrd2
  have HRD2 := hid hrd2
  have hk2 : rr m t ≤ k2 := by omega
  have hk3 : (k2 : Int) ≤ 9223372036854775807 := by unfold maxLen at c2; omega
  clear hcc ha2 ho2 hrd2 hc2 hb2 c1 c2 HO1 HC1 HB1
  go_wp2_with fail
  refine (rR_any _ bytes t m _ hp (HRC.out.below HB2.out)).mono ?_
  rintro e w3 ⟨rfl, hb3⟩
  have HO3 := hid (HO1b.out.below hb3)
  have HB3 := hid (HB2.out.comp hb3)
  have HRD3 := hid (HRD2.out.below hb3)
  have hs3 : w.heap.size + 1 ≤ w3.heap.size := by have := lt_at HC2.out; have := hb3.size; omega
  clear hb3 q0 q1 q2 q3
  go_wp2_with (at_builtin; refine app_row el_int rfl _ _ rfl (w.heap.size + 1) _ (bl (xs.getD · 0) (8 * bytes)) rfl HO3.out (bl (ys.getD · 0) (rr m t)) (by exact HRD3.out) (by rw [bl_len]; omega) (by rw [bl_len, bl_len]; omega) hs3 ?_; intro g4 cap4 w4 hown hgrow hat)
  go_ret
  exact ⟨_, rfl, Own.mono hown (Nat.le_succ _), grow_below HB3.out (by omega) hgrow (fun g hg => by have := (HO3.out.blk g hg).1; omega)⟩

set_option maxRecDepth 100000 in
set_option maxHeartbeats 1600000 in
theorem rwhole_any (v1 v2 : Value) (l : List Nat) (bytes t m : Nat) (w : World) (hp : Par bytes t m) (h : RC w v1 bytes t m) (hv : Rd .i64 w v2 l) (hb : ∀ y ∈ l, y ≤ 1) (hl : l.length ≤ 1000000) (hr : rr m t ≤ l.length) :
    Calls Tryz.prog 86 #[v1, v2] w fun e w' => ∃ b : Bool, e = .returned (.bool b) ∧ (b = true ↔ Gf.Cw m t (fw (l.getD · 0) l.length) l.length) ∧ Below w.heap.size w w' := by
  obtain ⟨ga, L, gcap, rfl⟩ := nil_RC h
  have HW := hid (rst_whole hp.ok hp.r.1 l hb hr)
  have HRC := hid h
  have HV := hid hv
  have HBB := hid hb
  clear h hv hb
  go_enter Tryz.func86, Tryz.ntmps86
  go_wp2_with fail
  have hb0 : Below w.heap.size w (w.alloc (.cells #[.int .i64 m, .int .i64 bytes, .int .i64 t, .slice ga L gcap] 33)) := (Below.refl _ w).alloc (Nat.le_refl _) _
  refine (rrest_any _ _ l bytes t m _ hp (HRC.out.below hb0) (HV.out.below hb0) HBB.out hl hr).mono ?_
  rintro e w1 ⟨v4, rfl, hr4, hb4⟩
  have HB1 := hid (hb0.comp hb4)
  obtain ⟨R, hR⟩ : ∃ R, rst (Gf.gen m t).reverse l (rr m t) = R := ⟨_, rfl⟩
  have hRl : R.length = rr m t := by rw [← hR, rst_len]
  rw [hR] at hr4 HW
  obtain ⟨a4, k4, rfl, _, _, hcc⟩ := hr4
  have HCC := hid hcc
  rw [hRl]
  have r104 := hp.r.2.2.2.1
  generalize hrr : rr m t = r at *
  have HRL := hid hRl
  clear hcc hb0 hb4 hR hRl hrr
  go_wp2_with fail
  go_loopg [6] r (fun gk i wr => ∃ I : Nat, I + gk = r ∧ i = .int .i64 I ∧ (∀ j, j < I → R.getD j 0 = 0) ∧ wr = w1)
  case atStart => exact ⟨0, by omega, rfl, fun j hj => by omega, rfl⟩
  case round =>
    obtain ⟨I, hI, rfl, hz, rfl⟩ := hrel
    have HZ := hid hz
    clear hz
    by_cases hlt : I < r
    · obtain ⟨g1, o1, rfl, hx1⟩ := HCC.out I (by have := HRL.out; omega)
      obtain ⟨x, hx⟩ : ∃ x, R.getD I 0 = x := ⟨_, rfl⟩
      rw [hx] at hx1
      have HX := hid hx
      clear hx
      by_cases h0 : x = 0
      · subst h0
        go_wp2_with fail
        go_roundg (gk - 1)
        case measure => omega
        case rel =>
          refine ⟨I + 1, by omega, by go_num, fun j hj => ?_, rfl⟩
          rcases Nat.lt_or_ge j I with h1 | h1
          · exact HZ.out j h1
          · obtain rfl : j = I := by omega
            exact HX.out
      · have hne : ((x : Int) != 0) = true := bne_iff_ne.2 (by omega)
        go_wp2_with fail
        go_ret
        refine ⟨false, rfl, ⟨(fun hf => nomatch hf), fun hc => (h0 ?_).elim⟩, HB1.out⟩
        rw [← HX.out]; exact HW.out.2 hc I hlt
    · obtain rfl : I = r := by omega
      go_wp2_with fail
      go_ret
      exact ⟨true, rfl, ⟨fun _ => HW.out.1 HZ.out, fun _ => rfl⟩, HB1.out⟩

/-- Horner's rule over bits. -/
def hor (m x : Nat) (l : List Nat) : Nat → Nat
  | 0 => 0
  | I+1 => Gf.mul m (hor m x l I) x ^^^ l.getD I 0
theorem hor_lt {m : Nat} (h : Gf.Ok m) (x : Nat) (l : List Nat) (hl : ∀ y ∈ l, y ≤ 1) (I : Nat) : hor m x l I < 2^m := by
  have h16 : 2 ≤ 2^m := by have := h.1; exact Nat.le_trans (by decide) (Nat.pow_le_pow_right (n := 2) (i := 1) (by decide) (by omega))
  have hle : ∀ j, l.getD j 0 ≤ 1 := fun j => by
    rcases Nat.lt_or_ge j l.length with hj | hj
    · exact hl _ (getD_mem hj)
    · rw [Gf.getD_ge hj]; omega
  cases I with
  | zero => exact Nat.two_pow_pos m
  | succ I => exact Nat.xor_lt_two_pow (Gf.mul_lt h _ _) (by have := hle I; omega)
theorem hor_dsum {m : Nat} (h : Gf.Ok m) (e : Nat) (l : List Nat) (hl : ∀ y ∈ l, y ≤ 1) (I : Nat) : hor m (Gf.pw m e) l I = Gf.dsum m 0 e (fun i => decide (l.getD i 0 = 1)) I := by
  have hle : ∀ j, l.getD j 0 ≤ 1 := fun j => by
    rcases Nat.lt_or_ge j l.length with hj | hj
    · exact hl _ (getD_mem hj)
    · rw [Gf.getD_ge hj]; omega
  induction I with
  | zero => rfl
  | succ I ih =>
    rw [hor, Gf.dsum_succ h, ih, Gf.mul_comm]
    congr 1
    rcases (show l.getD I 0 = 0 ∨ l.getD I 0 = 1 by have := hle I; omega) with e | e <;> rw [e] <;> simp [Gf.pw, Gf.it]
theorem hor_syn {m : Nat} (h : Gf.Ok m) (e : Nat) (l : List Nat) (hl : ∀ y ∈ l, y ≤ 1) : hor m (Gf.pw m e) l l.length = Gf.syn m (fw (l.getD · 0) l.length) l.length e := by
  rw [hor_dsum h e l hl]
  unfold Gf.dsum Gf.syn
  rw [← Gf.sx_rev]
  refine Gf.sx_congr _ (fun p hp => ?_)
  unfold fw
  simp only [Nat.add_zero]
  rw [show l.length - 1 - (l.length - 1 - p) = p by omega]

set_option maxRecDepth 100000 in
set_option maxHeartbeats 1600000 in
theorem rsyndrome_any (v1 v2 : Value) (l : List Nat) (k bytes t m : Nat) (w : World) (hp : Par bytes t m) (h : RC w v1 bytes t m) (hv : Rd .i64 w v2 l) (hb : ∀ y ∈ l, y ≤ 1) (hl : l.length ≤ 1000000) (hk : k ≤ 1000) :
    Calls Tryz.prog 87 #[v1, v2, .int .i64 k] w fun e w' => e = .returned (.int .i64 (Gf.syn m (fw (l.getD · 0) l.length) l.length k : Nat)) ∧ Below w.heap.size w w' := by
  obtain ⟨ga, L, gcap, rfl⟩ := nil_RC h
  rw [← hor_syn hp.ok k l hb]
  obtain ⟨x, hx⟩ : ∃ x, Gf.pw m k = x := ⟨_, rfl⟩
  have hxl : x < 2^m := by rw [← hx]; exact Gf.pw_lt hp.ok k
  have hexp := fun w => rexp_any m (k : Nat) w hp.ok (by omega) (by omega)
  rw [turn_nat _ _ (Gf.sz_pos hp.ok), Gf.pw_mod hp.ok, hx] at hexp
  rw [hx]
  have HEXP := hid hexp
  have HXL := hid hxl
  have h13 : 2^m ≤ 2^13 := Nat.pow_le_pow_right (by decide) hp.ok.2
  have hhl := fun I => hor_lt hp.ok x l hb I
  have HHL := hid hhl
  obtain ⟨a2, k2, rfl, _, _, hcc⟩ := hv
  have HCC := hid hcc
  have HBB := hid hb
  clear h hb hx hexp hhl hcc hxl
  go_enter Tryz.func87, Tryz.ntmps87
  go_wp2_with fail
  refine (HEXP.out _).mono ?_
  rintro e w' ⟨rfl, rfl⟩
  obtain ⟨W, hW⟩ : ∃ W, w.alloc (.cells #[.int .i64 m, .int .i64 bytes, .int .i64 t, .slice ga L gcap] 33) = W := ⟨_, rfl⟩
  have hbW : Below w.heap.size w W := by rw [← hW]; exact (Below.refl _ w).alloc (Nat.le_refl _) _
  have q0 : W.cell? ⟨w.heap.size, 0, none⟩ = some (.int .i64 m) := by rw [← hW]; exact cell_at (alloc_new w _) 0
  rw [hW]
  obtain ⟨B, hB⟩ : ∃ B, w.heap.size = B := ⟨_, rfl⟩
  rw [hB] at q0 ⊢
  have HBW := hid hbW
  have HBE := hid hB
  have HQ0 := hid q0
  clear hW hbW hB q0
  go_wp2_with fail
  go_loopg [8, 9] l.length (fun gk y i wr => ∃ I : Nat, I + gk = l.length ∧ i = .int .i64 I ∧ y = .int .i64 (hor m x l I : Nat) ∧ ∃ k, wr = W.drewN k)
  case atStart => exact ⟨0, by omega, rfl, rfl, 0, rfl⟩
  case round =>
    obtain ⟨I, hI, rfl, rfl, kd, rfl⟩ := hrel
    by_cases hlt : I < l.length
    · obtain ⟨g1, o1, rfl, hx1⟩ := HCC.out I hlt
      have cx : (W.drewN kd).cell? ⟨g1, o1 + I, none⟩ = some (.int .i64 ((l.getD I 0 : Nat) : Int)) := (HBW.out.cell (World.block_lt_of_cell? _ _ hx1)).trans hx1
      have cm : (W.drewN kd).cell? ⟨B, 0, none⟩ = some (.int .i64 m) := HQ0.out
      have hst : hor m x l (I+1) = Gf.mul m (hor m x l I) x ^^^ l.getD I 0 := rfl
      have hy := HHL.out I
      have hbit := HBB.out _ (getD_mem hlt)
      have h4 := Gf.mul_lt hp.ok (hor m x l I) x
      generalize l.getD I 0 = b at *
      generalize hor m x l I = y at *
      have ex := xor_i64 (Gf.mul m y x) b (by omega) (by omega)
      have HST := hid hst
      have hIz : (I : Int) < (l.length : Int) := by omega
      have HY := hid hy
      generalize hwd : W.drewN kd = wd at *
      have HWD := hid hwd
      have hmul := rmul_any m y x
      have HMUL := hid hmul
      clear hwd hx1 hst hy hbit h4 hmul
      go_wp2_with fail
      go_quiet ((go_at_call 99; exact quiet_eq (HMUL.out _ hp.ok HY.out HXL.out)))
      go_wp2_with fail
      go_roundg (gk - 1)
      case measure => omega
      case rel => exact ⟨I + 1, by omega, by go_num, by rw [HST.out], kd + nq, by rw [← HWD.out, drewN_add]⟩
    · obtain rfl : I = l.length := by omega
      go_wp2_with fail
      go_ret
      exact ⟨rfl, HBW.out.drewN kd⟩
end Go.Proofs.YtoanopegoilcnaaGreat
