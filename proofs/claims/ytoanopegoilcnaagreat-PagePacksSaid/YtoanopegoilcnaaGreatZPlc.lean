/- What the laws of pages share. -/
import Derived.Test.YtoanopegoilcnaaGreatZKq
import Derived.Test.YtoanopegoilcnaaGreatZKo
import Derived.Test.YtoanopegoilcnaaGreatJa
import Derived.Test.YtoanopegoilcnaaGreatJl
import Derived.Maps.OwnSet
set_option linter.unusedVariables false
namespace Go.Proofs.YtoanopegoilcnaaGreat
open Go.RowKit Go.Mem Go.Pg Go.Maps

theorem law_int : Keyed Tryz.prog 3 := int_keyed Tryz.underlying3
theorem zero_int (w : World) : (zeroValue 3).run Tryz.prog w = .ok (.int .i64 0) w := by kernel_rfl
/-- A small layout may be. -/
theorem small_lay (a b c : Nat) : ∃ mw mh, Lay (smA a 12) (smA b 3) (smA c 3) mw mh := by
  have ha : smA a 12 ≤ 12 ∧ 1 ≤ smA a 12 := by unfold smA; omega
  have hb : smA b 3 ≤ 3 ∧ 1 ≤ smA b 3 := by unfold smA; omega
  have hc : smA c 3 ≤ 3 ∧ 1 ≤ smA c 3 := by unfold smA; omega
  obtain ⟨mw, hw⟩ := Par.ex (smA a 12 + 4) (smA c 3) (by omega) (by omega) (by omega) (by omega)
  obtain ⟨mh, hh⟩ := Par.ex (9 + 11 * smA b 3 + 4) (smA c 3) (by omega) (by omega) (by omega) (by omega)
  exact ⟨mw, mh, ha.2, by omega, hb.2, by omega, hc.2, by omega, hw, hh⟩
theorem map_upd (n : Nat) (F : Nat → Nat) (i x : Nat) : (List.range n).map (upd F i x) = ((List.range n).map F).set i x := by
  apply List.ext_getElem (by simp)
  intro j h1 h2
  simp only [List.length_map, List.length_range] at h1
  rw [List.getElem_set]
  simp only [List.getElem_map, List.getElem_range, upd]
  by_cases e : i = j
  · subst e; simp
  · rw [if_neg (fun h => e h.symm), if_neg e]
theorem mx_of (n m : Nat) : ∃ k, k ≤ n ∧ k ≤ m ∧ (k = n ∨ k = m) := by
  rcases Nat.le_total n m with h | h
  · exact ⟨n, Nat.le_refl _, h, .inl rfl⟩
  · exact ⟨m, h, Nat.le_refl _, .inr rfl⟩
end Go.Proofs.YtoanopegoilcnaaGreat
