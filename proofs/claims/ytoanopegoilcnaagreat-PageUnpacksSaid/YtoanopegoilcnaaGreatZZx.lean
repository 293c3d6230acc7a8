/- Walks over page: Unpack of another number of bytes. -/
import Derived.Test.YtoanopegoilcnaaGreatJs
set_option linter.unusedVariables false
namespace Go.Proofs.YtoanopegoilcnaaGreat
open Go.RowKit Go.Mem Go.Pg

set_option maxRecDepth 100000 in
set_option maxHeartbeats 1600000 in
theorem unpack_len (f S N T mw mh : Nat) (g : Option Addr) (cap L : Nat) (w : World) (hL : Lay S N T mw mh) (hf : FrAt w f S N T mw mh) (hLm : L ≤ maxLen) (hp : L ≠ pageB S N T mw mh) :
    Calls Tryz.prog 12 #[.pointer (some ⟨f, 0, none⟩), .slice g L cap] w fun e w' => (∃ ov, e = .returned (.tuple #[ov, .int .i64 1]) ∧ OpV w' ov ⟨false, 0, none, [], [], 0⟩) ∧ Below w.heap.size w w' := by
  have hN8 := hL.n2
  have hS2 := hL.s2
  have hT2 := hL.t2
  obtain ⟨pg, hpg⟩ : ∃ z, pageB S N T mw mh = z := ⟨_, rfl⟩
  have HBY : Hid (∀ V, Below w.heap.size w V → Calls Tryz.prog 16 #[.pointer (some ⟨f, 0, none⟩)] V fun e w' => e = .returned (.int .i64 (pg : Nat)) ∧ ∃ m, w' = V.drewN m) := hid fun V hV => by
    rw [← hpg, ← byB_page]; exact bytes_any f S N T mw mh V (hf.below hV) hL.pw hL.ph hS2 hN8
  rw [hpg] at hp
  have n1 : ¬ (L : Int) = (pg : Int) := by omega
  have n2 : ((L : Int) != (pg : Int)) = true := bne_iff_ne.2 n1
  have n3 : ((L : Int) == (pg : Int)) = false := beq_eq_false_iff_ne.2 n1
  unfold maxLen at hLm
  clear hf hL hpg hp
  obtain ⟨W, hW⟩ : ∃ W, (w.alloc (.cells #[.slice g L cap] 39)).alloc (.cells op0 50) = W := ⟨_, rfl⟩
  have hbb : W.heap[w.heap.size]? = some (.cells #[.slice g L cap] 39 (0, 0)) := by rw [← hW]; exact (alloc_old (by simp)).trans (alloc_new w _)
  have hob : W.heap[w.heap.size + 1]? = some (.cells op0 50 (0, 0)) := by rw [← hW]; exact alloc_at (by simp)
  have hbW : Below w.heap.size w W := by rw [← hW]; exact ((Below.refl _ _).alloc (Nat.le_refl _) _).alloc (by simp) _
  unfold op0 at hW
  have HBQ : Hid (∀ n, Calls Tryz.prog 16 #[.pointer (some ⟨f, 0, none⟩)] (W.drewN n) fun e w' => e = .returned (.int .i64 (pg : Nat)) ∧ ∃ m, w' = W.drewN m) := hid fun n =>
    (HBY.out _ (hbW.drewN n)).mono fun e w' ⟨h1, m, h2⟩ => ⟨h1, n + m, by rw [h2]; simp⟩
  have HBW := hid hbW
  have HW := hid hW
  clear hW HBY hbW
  go_enter Tryz.func12, Tryz.ntmps12
  go_wp2_with fail
  rw [HW.out]
  obtain ⟨bb, hbE⟩ : ∃ b, w.heap.size = b := ⟨_, rfl⟩
  obtain ⟨ob, hoE⟩ : ∃ b, w.heap.size + 1 = b := ⟨_, rfl⟩
  rw [hoE] at hob ⊢
  rw [hbE] at hbb ⊢
  have HBE := hid hbE
  have HOE := hid hoE
  have q0 := cell_at hbb 0
  have HOB := hid hob
  have HBB := hid hbb
  clear hbE hoE hob hbb HW
  go_quiet ((go_at_call 16; exact HBQ.out _))
  obtain ⟨V, hV⟩ : ∃ V, W.drewN nq = V := ⟨_, rfl⟩
  have hbV : Below w.heap.size w V := by rw [← hV]; exact HBW.out.drewN nq
  have hob4 : V.heap[ob]? = some (.cells #[.bool false, .int .i64 0, .int .i64 0, .int .u32 0, .int .i64 0, .int .i64 0, .int .i64 0, .slice none 0 0, .slice none 0 0, .slice none 0 0, .int .i64 0] 50 (0, 0)) := by rw [← hV]; exact HOB.out
  rw [hV]
  obtain ⟨p0, p1, p2, p3, p4, p5, p6, p7, p8, p9, p10⟩ := op_cells hob4
  obtain ⟨f0, f1, f2, f3, f4, f5, f6, f7, f8, f9, f10⟩ := op_free hob4
  have HO3 := hid hob4
  have HB3 := hid hbV
  clear hV hob4 hbV q0
  go_wp2_with fail
  rw [op_same HO3.out]
  refine bodyPost_ret (v := .tuple #[.agg #[.bool false, .int .i64 0, .int .i64 0, .int .u32 0, .int .i64 0, .int .i64 0, .int .i64 0, .slice none 0 0, .slice none 0 0, .slice none 0 0, .int .i64 0], .int .i64 1]) (by simp [results, Tryz.results12, go_sem, p0, p1, p2, p3, p4, p5, p6, p7, p8, p9, p10]) rfl ⟨⟨_, rfl, ?_⟩, HB3.out⟩
  exact ⟨_, _, _, rfl, SlR.nil _, ⟨none, 0, rfl, Nat.le_refl _, by unfold maxLen; omega, fun j hj => by simp at hj⟩, RB.nil _⟩
end Go.Proofs.YtoanopegoilcnaaGreat
