/- Rows of bytes as strings. -/
import Derived.Test.YtoanopegoilcnaaGreatJi
import Derived.Test.YtoanopegoilcnaaGreatJl
import Derived.Test.YtoanopegoilcnaaGreatJa
import Derived.Laws.BytesArg
import Derived.OpenShut
set_option linter.unusedVariables false
namespace Go.Proofs.YtoanopegoilcnaaGreat
open Go.RowKit Go.Mem

/-- Bytes as a string. -/
def sv (xs : List Nat) : ByteArray := ⟨(xs.map UInt8.ofNat).toArray⟩
theorem sv_inj {xs ys : List Nat} (hx : ∀ y ∈ xs, y < 256) (hy : ∀ y ∈ ys, y < 256) (h : sv xs = sv ys) : xs = ys := by
  have h1 : xs.map UInt8.ofNat = ys.map UInt8.ofNat := by
    unfold sv at h
    have := congrArg (fun b : ByteArray => b.data.toList) h
    simpa using this
  have e : ∀ l : List Nat, (∀ y ∈ l, y < 256) → (l.map UInt8.ofNat).map UInt8.toNat = l := fun l hl => by
    rw [List.map_map]
    refine (List.map_congr_left (fun a ha => ?_)).trans (List.map_id l)
    simp only [Function.comp]
    show a % 256 = a
    exact Nat.mod_eq_of_lt (hl a ha)
  rw [← e xs hx, ← e ys hy, h1]
theorem conv_rd {w : World} {v : Value} {xs : List Nat} (h : Rd .u8 w v xs) : (convert 39 9 v).run Tryz.prog w = .ok (.string (sv xs)) w := by
  obtain ⟨a, cap, rfl, _, _, hc⟩ := h
  have e : (strOfNums (xs.map fun n : Nat => (n : Int))) = sv xs := by
    unfold strOfNums sv
    rw [List.map_map]
    rfl
  rcases Nat.eq_zero_or_pos xs.length with h0 | h0
  · obtain rfl : xs = [] := List.length_eq_zero_iff.1 h0
    cases a with
    | none => exact run_convert_bytes_nil w _ _ Tryz.underlying39 Tryz.underlying5 _ _ _ Tryz.underlying9
    | some a =>
      have hl : (loadCells a 0).run Tryz.prog w = .ok (([] : List Int).map (Value.int .u8)).toArray w := by
        have := run_loadCells_list (P := Tryz.prog) w a [] (fun j v hj => by simp at hj)
        simpa using this
      rw [List.length_nil, run_convert_bytes_string w _ _ 5 _ 0 cap Tryz.underlying39 Tryz.underlying5 Tryz.underlying9, run_bytesToString w a 0 cap [] hl]
      rfl
  · obtain ⟨g, o, rfl, _⟩ := hc 0 h0
    have := run_convert_bytes_arg (P := Tryz.prog) w 39 5 Tryz.underlying39 Tryz.underlying5 g o xs.length cap (xs.map fun n : Nat => (n : Int)) (by simp) (fun i hi => by
      obtain ⟨g', o', he, hx⟩ := hc i hi
      cases he
      rw [hx]
      simp [List.getD, hi]) 9 Tryz.underlying9
    rw [this, e]
end Go.Proofs.YtoanopegoilcnaaGreat
/- Walks over firkinlaw02: the small code is awake; a code for data. -/
namespace Go.Proofs.YtoanopegoilcnaaGreat
open Go.RowKit Go.Mem

theorem par11 : Par 1 1 4 := ⟨⟨by decide, by decide⟩, by decide, by decide, by decide, by decide, by decide, by decide, fun k h1 h2 => by omega⟩
theorem rr41 : rr 4 1 = 4 := by decide +kernel
theorem par41 : par 4 1 [1] 0 = 48 := by decide +kernel
theorem rd_one {k : IntKind} {w : World} {g x : Nat} {t : TypeId} (h : w.heap[g]? = some (.cells #[.int k (x : Nat)] t (0, 0))) : Rd k w (.slice (some ⟨g, 0, none⟩) 1 1) [x] :=
  ⟨_, 1, rfl, Nat.le_refl _, by decide, fun j hj => ⟨g, 0, rfl, by
    obtain rfl : j = 0 := by simpa using hj
    rw [cell_at h]; rfl⟩⟩
theorem aw_dst : Gf.dst (wd 8 4 ([3].getD · 0) ([48].getD · 0)) (wd 8 4 ([1].getD · 0) ([48].getD · 0)) 12 = 1 := by decide +kernel
theorem aw_good : DecGood 4 1 (8 * 1) (rr 4 1) 1 ([3].getD · 0) ([48].getD · 0) ([1].getD · 0) (par 4 1 [1]) 1 := by
  have h1 := par_cw par11 [1] rfl
  rw [rr41] at h1 ⊢
  refine ⟨h1, ?_, Nat.le_refl _, fun i h1 h2 => par_pad 4 1 [1] i (by rw [rr41]; exact h1)⟩
  rw [← aw_dst]
  refine Gf.dst_congr (fun _ _ => rfl) (fun k hk => ?_)
  refine wd_congr (P := 1) (by decide) (fun _ _ => rfl) (by decide) (fun j hj => ?_) k (by omega)
  obtain rfl : j = 0 := by omega
  exact par41
theorem aw_ret {w w' : World} {e : Ending} (h : DecRet 4 1 1 1 ([3].getD · 0) ([48].getD · 0) w w' e) : ∃ g1 c1 g2 c2, e = .returned (.tuple #[.slice (some ⟨g1, 0, none⟩) 1 c1, .slice (some ⟨g2, 0, none⟩) 1 c2, .int .i64 1, .int .i64 0]) ∧
    Rd .u8 w' (.slice (some ⟨g1, 0, none⟩) 1 c1) [1] ∧ Rd .u8 w' (.slice (some ⟨g2, 0, none⟩) 1 c2) [48] := by
  rcases h with ⟨g1, c1, g2, c2, d', p', k, hg1, hg2, he, ho1, ho2, hd, hp, hg⟩ | ⟨_, hb⟩
  · obtain ⟨u1, u2, u3⟩ := DecGood.uniq par11 (by rw [rr41]) hg aw_good hd hp (fun j => Gf.getD_lt (m := 8) (by decide) j) (par_lt _ _ _)
    refine ⟨g1, c1, g2, c2, by rw [he, u3]; rfl, ?_, ?_⟩
    · have := ho1.rd
      have e : (List.range 1).map d' = [1] := by show [d' 0] = [1]; rw [u1 0 (by decide)]; rfl
      rwa [e] at this
    · have := ho2.rd
      have e : (List.range 1).map p' = [48] := by show [p' 0] = [48]; rw [u2 0 (by decide), par41]
      rwa [e] at this
  · exact (hb.not aw_good).elim

end Go.Proofs.YtoanopegoilcnaaGreat
/- Walks over firkinlaw02: a code for data. -/
namespace Go.Proofs.YtoanopegoilcnaaGreat
open Go.RowKit Go.Mem

/-- The t of a raw number. -/
def tt (t : Int) : Nat := ((if t < 0 then -(t + 1) else t) % 8).toNat + 1
theorem tt_bd (t : Int) : 1 ≤ tt t ∧ tt t ≤ 8 := by unfold tt; split <;> omega

/-- The place of a code that is not there yet. -/
def EmptyAt (w : World) (R : Nat) : Prop := w.heap[R]? = some (.cells #[.int .i64 0, .int .i64 0, .int .i64 0, .slice none 0 0] 33 (0, 0))
theorem rd_grownE {w w' : World} {R : Nat} {v : Value} {xs : List Nat} (h : Rd .i64 w v xs) (hR : EmptyAt w R) (hg : w.grownBy w' (some R)) (j : Nat) (hj : j < xs.length) (h1 : xs.getD j 0 = 1) : Rd .i64 w' v xs := by
  obtain ⟨a, cap, rfl, c1, c2, hc⟩ := h
  obtain ⟨g, o, rfl, hx⟩ := hc j hj
  have hne : g ≠ R := by
    rintro rfl
    rw [cell_at hR, h1] at hx
    rcases (show o + j = 0 ∨ o + j = 1 ∨ o + j = 2 ∨ o + j = 3 ∨ 4 ≤ o + j by omega) with e | e | e | e | e
    · rw [e] at hx; simp at hx
    · rw [e] at hx; simp at hx
    · rw [e] at hx; simp at hx
    · rw [e] at hx; simp at hx
    · rw [Array.getElem?_eq_none (by simpa using e)] at hx; cases hx
  refine ⟨_, cap, rfl, c1, c2, fun i hi => ?_⟩
  obtain ⟨g', o', he, hx'⟩ := hc i hi
  cases he
  exact ⟨g, o, rfl, hg.cell hx' (fun e => hne (by cases e; rfl))⟩
theorem CodeAt.grownR {w w' : World} {c bytes t m R : Nat} (h : CodeAt w c bytes t m) (hm : Gf.Ok m) (hR : EmptyAt w R) (hg : w.grownBy w' (some R)) : CodeAt w' c bytes t m := by
  obtain ⟨fb, gv, h1, ⟨p, l, h2, h3, h4⟩, h5⟩ := h
  have hs : 3 ≤ Gf.sz m := by
    have : 2^2 ≤ 2^m := Nat.pow_le_pow_right (by decide) hm.1
    unfold Gf.sz; omega
  have ne : ∀ {b : Nat} {cs : Array Value} {t : TypeId}, w.heap[b]? = some (.cells cs t (0, 0)) → cs ≠ #[.int .i64 0, .int .i64 0, .int .i64 0, .slice none 0 0] → w'.heap[b]? = some (.cells cs t (0, 0)) := fun {b cs t} hb hcs => by
    refine (hg.block b (lt_at hb) (fun e => ?_)).trans hb
    cases e
    unfold EmptyAt at hR
    rw [hR] at hb
    cases hb
    exact hcs rfl
  have nfa : ∀ {n : Nat} {f : Nat → Nat}, 4 ≤ n → fa .i64 n f ≠ #[.int .i64 0, .int .i64 0, .int .i64 0, .slice none 0 0] := fun {n f} hn e => by
    have := fa_get (k := .i64) (f := f) (show 3 < n by omega)
    rw [e] at this
    simp at this
  have hgm := (Gf.gen_mon hm t).1
  have hgl := List.length_pos_iff.2 hgm.1
  exact ⟨fb, gv, ne h1 (by simp), ⟨p, l, ne h2 (by simp), ne h3 (nfa (by omega)), ne h4 (nfa (by omega))⟩, rd_grownE h5 hR hg ((Gf.gen m t).length - 1) (by omega) hgm.2⟩
theorem RC.grownR {w w' : World} {v : Value} {bytes t m R : Nat} (h : RC w v bytes t m) (hm : Gf.Ok m) (hR : EmptyAt w R) (hg : w.grownBy w' (some R)) : RC w' v bytes t m := by
  obtain ⟨gv, hv, hr⟩ := h
  have hgm := (Gf.gen_mon hm t).1
  have hgl := List.length_pos_iff.2 hgm.1
  refine ⟨gv, hv, rd_grownE hr hR hg 0 (by rw [List.length_reverse]; omega) ?_⟩
  have := hgm.2
  simp only [List.getD] at this ⊢
  rw [List.getElem?_reverse (by omega)]
  simpa using this

end Go.Proofs.YtoanopegoilcnaaGreat
/- Walks over firkinlaw02: how many bits differ; bits turned at raw places. -/
namespace Go.Proofs.YtoanopegoilcnaaGreat
open Go.RowKit Go.Mem

/-- A number's place among n. -/
def plc (z : Int) (n : Nat) : Nat := ((if z < 0 then -(z + 1) else z) % (n : Int)).toNat
/-- The bit that 1 << (k % 8) turns in byte k / 8. -/
def lob (k : Nat) : Nat := 8 * (k / 8) + (7 - k % 8)
theorem lob_shr (a : Nat) (h : a < 8) : 128 >>> (7 - a) = 2 ^ a := by
  have : ∀ a : Fin 8, 128 >>> (7 - a.val) = 2 ^ a.val := by decide
  exact this ⟨a, h⟩
theorem tb_lob (f : Nat → Nat) (k : Nat) : tb f (lob k) = upd f (k / 8) (f (k / 8) ^^^ 2 ^ (k % 8)) := by
  unfold tb lob
  rw [show (8 * (k / 8) + (7 - k % 8)) / 8 = k / 8 by omega, show (8 * (k / 8) + (7 - k % 8)) % 8 = 7 - k % 8 by omega, lob_shr _ (Nat.mod_lt _ (by decide))]

theorem xor_lob (x k : Nat) (hx : x < 256) : bits .xor .u8 (x : Int) ((2 : Int) ^ (k % 8) % 256) = ((x ^^^ 2 ^ (k % 8) : Nat) : Int) := by
  have h2 : 2 ^ (k % 8) < 256 := Nat.lt_of_le_of_lt (Nat.pow_le_pow_right (by decide) (show k % 8 ≤ 7 by omega)) (by decide)
  have e : ((2 : Int) ^ (k % 8) % 256) = ((2 ^ (k % 8) : Nat) : Int) := by
    have : ((2 ^ (k % 8) : Nat) : Int) = (2 : Int) ^ (k % 8) := by simp
    rw [← this]
    generalize 2 ^ (k % 8) = q at *
    omega
  rw [e]
  exact bits_xor_nat .u8 8 (by decide) wraps_u8 _ _ hx h2

/-- What bent hands back. -/
def BentRet (w w' : World) (xs ys : List Nat) (n : Nat) (e : Ending) : Prop :=
  ∃ g1 c1 g2 c2 F1 F2, w.heap.size ≤ g1 ∧ w.heap.size ≤ g2 ∧ e = .returned (.tuple #[.slice (some ⟨g1, 0, none⟩) xs.length c1, .slice (some ⟨g2, 0, none⟩) ys.length c2]) ∧
    Ow .u8 5 w' g1 xs.length c1 F1 ∧ Ow .u8 5 w' g2 ys.length c2 F2 ∧ (∀ j, F1 j < 256) ∧ (∀ j, F2 j < 256) ∧ ub F1 (xs.getD · 0) xs.length + ub F2 (ys.getD · 0) ys.length ≤ min n 12

end Go.Proofs.YtoanopegoilcnaaGreat
