/- Walks over history: Write. -/
import Derived.Test.YtboonpfdlbedoaaHe
namespace Go.Proofs.Ytboonpfdlbedoaa
open Go Go.RowKit Go.Mem Go.Hs
theorem updf_updf {α : Type} (f : Nat → α) (i : Nat) (x y : α) : updf (updf f i x) i y = updf f i y := by
  funext j
  unfold updf
  split <;> rfl
section
variable {B : Nat} {w : World} {p n K gl cap : Nat} {bv br : Nat → Nat} {V R : Nat → List Nat} {i v : Nat}
/-- The second half of a write: a new view, a number more in what is left. -/
theorem write_half (h : MdAt B w p n K gl cap bv br V R) (hi : i < n) (hv : v < 18446744073709551616) (hK : K ≤ 1000) :
    ∃ es c v0 st W1 W2, (Instr.mapUpdate 54 (.map (some w.heap.size)) (.int .u64 (v : Nat)) (.bool true)).run Try.prog (w.alloc (.map #[] 0)) = .ok () (w.alloc (.map es c)) ∧
      (Instr.mapEntry 54 (.map (some (br i))) (.int .u64 (v : Nat))).run Try.prog ((w.setCell ⟨gl, i * 2, none⟩ (.map (some w.heap.size))).alloc (.map es c)) = .ok (.tuple #[v0, .int .i64 (st : Nat)]) W1 ∧
      (Instr.entryStore 54 (.map (some (br i))) (.int .i64 (st : Nat)) (.bool true)).run Try.prog W1 = .ok () W2 ∧
      MdAt B W2 p n (K + 1) gl cap (updf bv i w.heap.size) br (updf V i [v]) (updf R i (ins v (R i))) ∧ Below B w W2 := by
  obtain ⟨es, c, r2, s2⟩ := set_one tset w hv
  have hl2 := h.lr i hi
  have h2 := (h.below ((Below.refl _ _).alloc (Nat.le_refl _) (.map es c))).more (show K ≤ K + 1 by omega)
  have h3 := h2.setV hi (h.new (Nat.le_refl _)) s2 (by simp)
  have hgl : gl < w.heap.size := by obtain ⟨_, h1, _⟩ := h.hg; exact lt_at h1
  have hb3 : Below B w ((w.alloc (.map es c)).setCell ⟨gl, i * 2, none⟩ (.map (some w.heap.size))) := ((Below.refl B w).alloc h.base _).setCell h.hb.2.1 _
  rw [World.setCell_alloc_past _ _ _ _ hgl] at h3 hb3
  obtain ⟨v0, st, W1, W2, r1, s1, t1, g1⟩ := (h3.sr i hi).entry2 tset hv (by unfold maxLen; omega)
  have h4 := h3.inR hi g1 t1 (by have := ins_len v (R i); omega)
  exact ⟨es, c, v0, st, W1, W2, r2, r1, s1, h4, hb3.trans (below_of_grown g1 (h.nr i hi).1 h3.base)⟩

set_option maxHeartbeats 3200000 in
theorem write_plain (h : MdAt B w p n K gl cap bv br V R) (hi : i < n) (hv : v < 18446744073709551616) (hK : K ≤ 1000) :
    Calls Try.prog 11 #[.pointer (some ⟨p, 0, none⟩), .int .i64 (i : Nat), .int .u64 (v : Nat), .bool false] w fun e w' => e = .returned (.int .i64 0) ∧ (∃ bv', MdAt B w' p n (K + 1) gl cap bv' br (updf V i [v]) (updf R i (ins v (R i)))) ∧ Below B w w' := by
  have hat := Lib.hid (at_in h hi)
  have cV := h.cellV hi
  have cR := h.cellR hi
  have zV := h.free (i * 2)
  obtain ⟨es, c, v0, st, W1, W2, r1, r2, r3, h4, hb⟩ := write_half h hi hv hK
  have hgl : gl < w.heap.size := by obtain ⟨_, h1, _⟩ := h.hg; exact lt_at h1
  have H4 := Lib.hid h4
  have HB := Lib.hid hb
  clear h h4 hb
  have hmm := @run_makeMap Try.prog
  go_enter Try.func11, Try.ntmps11
  go_wp2_with fail
  refine hat.out.mono ?_
  rintro e w' ⟨rfl, rfl⟩
  go_wp2_with fail
  go_ret
  exact ⟨rfl, ⟨_, H4.out⟩, HB.out⟩

set_option maxHeartbeats 3200000 in
theorem write_forced (h : MdAt B w p n K gl cap bv br V R) (hi : i < n) (hv : v < 18446744073709551616) (hK : K ≤ 1000) :
    Calls Try.prog 11 #[.pointer (some ⟨p, 0, none⟩), .int .i64 (i : Nat), .int .u64 (v : Nat), .bool true] w fun e w' => e = .returned (.int .i64 0) ∧ (∃ bv', MdAt B w' p n (K + 1) gl cap bv' br (updf V i [v]) (updf R i [v])) ∧ Below B w w' := by
  have hat := Lib.hid (at_in h hi)
  obtain ⟨c0, hcl, s0, g0⟩ := (h.sr i hi).clear tset
  obtain ⟨Wc, hWc⟩ : ∃ Wc, ChangeMaps.setBlock w (br i) (.map #[] c0) = Wc := ⟨_, rfl⟩
  rw [hWc] at s0 g0
  have hcl' : ∀ ty, (Builtin.clear_ #[54] ty #[.map (some (br i))]).run Try.prog w = .ok (.tuple #[]) Wc := fun ty => by rw [← hWc]; exact hcl ty
  have h0 := h.inR hi g0 s0 (Nat.zero_le _)
  have hb0 := below_of_grown g0 (h.nr i hi).1 h.base
  have cR0 := h.cellR hi
  have cV := h0.cellV hi
  have cR := h0.cellR hi
  have zV := h0.free (i * 2)
  obtain ⟨es, c, v0, st, W1, W2, r1, r2, r3, h4, hb⟩ := write_half h0 hi hv hK
  rw [updf_updf, updf_same] at h4
  have hgl : gl < Wc.heap.size := by obtain ⟨_, h1, _⟩ := h0.hg; exact lt_at h1
  have H4 := Lib.hid h4
  have HB := Lib.hid (hb0.trans hb)
  clear h h4 hb h0 hb0 s0 g0 hWc hcl
  have hmm := @run_makeMap Try.prog
  go_enter Try.func11, Try.ntmps11
  go_wp2_with fail
  refine hat.out.mono ?_
  rintro e w' ⟨rfl, rfl⟩
  go_wp2_with fail
  go_ret
  exact ⟨rfl, ⟨_, H4.out⟩, HB.out⟩
end
end Go.Proofs.Ytboonpfdlbedoaa
