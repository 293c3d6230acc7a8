/- A row of numbers that is sorted in place: memory. -/
import Derived.Test.YtboonpfdlbedoaaHd
import Derived.Test.YtboonpfdlbedoaaApp
import Derived.Sort.Defs
import Derived.Sort.WalkA
import Derived.Deep.QuietTactic
import Derived.BigQuiet
import Derived.Deep.LoopGhost
namespace Go.Proofs.Ytboonpfdlbedoaa
open Go Go.RowKit Go.Mem Go.Sort

theorem getB (d : Array Nat) (i : Nat) : d[i]! = d[i]?.getD 0 := by
  rw [getElem!_def]
  cases d[i]? <;> rfl
/-- Block g holds the row d, and room for cap. -/
abbrev RwU (w : World) (g cap : Nat) (d : Array Nat) : Prop := Ow .u64 31 w g d.size cap (fun j => d[j]!)
def ltN : Nat → Nat → Bool := fun x y => decide (x < y)
theorem swp_size (d : Array Nat) (j k : Nat) : (swp d j k).size = d.size := by simp [swp]
theorem RwU.swap {w : World} {g cap : Nat} {d : Array Nat} (h : RwU w g cap d) {j k : Nat} (hj : j < d.size) (hk : k < d.size) :
    RwU ((w.setCell ⟨g, j, none⟩ (.int .u64 ((d[k]! : Nat) : Int))).setCell ⟨g, k, none⟩ (.int .u64 ((d[j]! : Nat) : Int))) g cap (swp d j k) := by
  have h2 := (Ow.set h j d[k]!).set k d[j]!
  unfold RwU
  rw [swp_size]
  refine h2.congr (fun i hi => ?_)
  unfold upd swp
  rw [getB (Array.setIfInBounds _ _ _), Array.getElem?_setIfInBounds, Array.getElem?_setIfInBounds]
  by_cases e : k = i
  · subst e
    rw [if_pos rfl, if_pos rfl, if_pos (by simpa using hk)]
    rfl
  · rw [if_neg (fun h => e h.symm), if_neg e]
    by_cases e' : j = i
    · subst e'
      rw [if_pos rfl, if_pos rfl, if_pos hj]
      rfl
    · rw [if_neg (fun h => e' h.symm), if_neg e', ← getB]
theorem RwU.grown {w w' : World} {g cap b : Nat} {d : Array Nat} (h : RwU w g cap d) (hg : w.grownBy w' (some b)) (hne : g ≠ b) : RwU w' g cap d := Ow.same h (hg.block g h.lt (fun e => hne (Option.some.inj e)))
theorem grow_tr {w w1 w2 : World} {g : Nat} (h1 : w.grownBy w1 (some g)) (h2 : w1.grownBy w2 (some g)) : w.grownBy w2 (some g) :=
  ⟨h2.os.trans h1.os, h2.tape.trans h1.tape, h2.output.trans h1.output, Nat.le_trans h1.size h2.size, fun j hj hne => (h2.block j (Nat.lt_of_lt_of_le hj h1.size) hne).trans (h1.block j hj hne)⟩
theorem grow_drewN (w : World) (n g : Nat) : w.grownBy (w.drewN n) (some g) := ((Below.refl w.heap.size w).drewN n).toGrown _
theorem grow_swap (w : World) (g j k : Nat) (x y : Value) : w.grownBy ((w.setCell ⟨g, j, none⟩ x).setCell ⟨g, k, none⟩ y) (some g) := grow_tr (grown_set w g j x) (grown_set _ g k y)

set_option maxHeartbeats 1600000 in
theorem isNaN_any (x : Nat) (w : World) : Calls Try.prog 55 #[.int .u64 (x : Nat)] w fun e w' => e = .returned (.bool false) ∧ w = w' := by
  go_enter Try.func55, Try.ntmps55
  go_wp2_with fail
  go_ret
  exact ⟨by simp, rfl⟩
set_option maxHeartbeats 1600000 in
theorem less_any (x y : Nat) (w : World) : Calls Try.prog 45 #[.int .u64 (x : Nat), .int .u64 (y : Nat)] w fun e w' => e = .returned (.bool (ltN x y)) ∧ w = w' := by
  have HN := Lib.hid (isNaN_any x w)
  go_enter Try.func45, Try.ntmps45
  go_wp2_with fail
  refine HN.out.mono ?_
  rintro e w' ⟨rfl, rfl⟩
  go_wp2_with fail
  go_ret
  exact ⟨by unfold ltN; simp, rfl⟩
end Go.Proofs.Ytboonpfdlbedoaa
