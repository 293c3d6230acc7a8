/- Walks over history: New. -/
import Derived.Test.YtboonpfdlbedoaaHg
import Derived.Test.YtboonpfdlbedoaaApp
import Derived.Deep.AppendLies
import Derived.OwnWalk
namespace Go.Proofs.Ytboonpfdlbedoaa
open Go Go.RowKit Go.Mem Go.Hs
/-- The cells of I sectors. -/
def secC (bv br : Nat → Nat) (I : Nat) : List Value := (List.range I).flatMap fun i => [.map (some (bv i)), .map (some (br i))]
theorem secC_len (bv br : Nat → Nat) : ∀ I, (secC bv br I).length = I * 2
  | 0 => rfl
  | I + 1 => by
    have := secC_len bv br I
    unfold secC at this ⊢
    rw [List.range_succ, List.flatMap_append, List.length_append, this]
    simp; omega
theorem secC_congr {bv br bv' br' : Nat → Nat} {I : Nat} (h : ∀ i, i < I → bv i = bv' i ∧ br i = br' i) : secC bv br I = secC bv' br' I := by
  unfold secC
  rw [List.flatMap_def, List.flatMap_def]
  congr 1
  refine List.map_congr_left (fun i hi => ?_)
  obtain ⟨h1, h2⟩ := h i (List.mem_range.1 hi)
  rw [h1, h2]
theorem secC_succ (bv br : Nat → Nat) (I b1 b2 : Nat) : secC (updf bv I b1) (updf br I b2) (I + 1) = secC bv br I ++ [.map (some b1), .map (some b2)] := by
  have h : secC (updf bv I b1) (updf br I b2) I = secC bv br I := secC_congr fun i hi => ⟨updf_other (by omega), updf_other (by omega)⟩
  rw [← h]
  unfold secC
  rw [List.range_succ, List.flatMap_append]
  simp [updf_same]
theorem secC_get (bv br : Nat → Nat) : ∀ I i, i < I → (secC bv br I)[i * 2]? = some (.map (some (bv i))) ∧ (secC bv br I)[i * 2 + 1]? = some (.map (some (br i)))
  | 0, i, h => by omega
  | I + 1, i, h => by
    have hl := secC_len bv br I
    have e : secC bv br (I + 1) = secC bv br I ++ [.map (some (bv I)), .map (some (br I))] := by
      unfold secC; rw [List.range_succ, List.flatMap_append]; simp
    rw [e]
    by_cases hi : i < I
    · obtain ⟨h1, h2⟩ := secC_get bv br I i hi
      rw [List.getElem?_append_left (by omega), List.getElem?_append_left (by omega)]
      exact ⟨h1, h2⟩
    · obtain rfl : i = I := by omega
      rw [List.getElem?_append_right (by omega), List.getElem?_append_right (by omega), hl]
      simp
/-- The sectors so far. -/
structure NwL (wr : World) (p I : Nat) (sv : Value) (bv br : Nat → Nat) : Prop where
  hp : wr.heap[p]? = some (.cells #[sv] 52 (0, 0))
  hr : wr.ownsRow (p + 1) 56 2 sv I (secC bv br I)
  nv : ∀ i, i < I → p < bv i ∧ sv.ownBlock ≠ some (bv i)
  nr : ∀ i, i < I → p < br i ∧ sv.ownBlock ≠ some (br i)
  dv : ∀ i j, i < I → j < I → bv i = bv j → i = j
  dr : ∀ i j, i < I → j < I → br i = br j → i = j
  dx : ∀ i j, i < I → j < I → bv i ≠ br j
  sv : ∀ i, i < I → SAt wr (bv i) [0]
  sr : ∀ i, i < I → SAt wr (br i) [0]
section
variable {wr w' : World} {p I g cap : Nat} {sv : Value} {bv br : Nat → Nat}
/-- A sector more. -/
theorem NwL.step (h : NwL wr p I sv bv br) {o1 o2 o3 : Obj} (h1 : SAt (wr.alloc o1) wr.heap.size [0]) (h2 : SAt ((wr.alloc o1).alloc o2) (wr.heap.size + 1) [0])
    (hown : w'.ownsRow (p + 1) 56 2 (.slice (some ⟨g, 0, none⟩) (I + 1) cap) (I + 1) (secC bv br I ++ [.map (some wr.heap.size), .map (some (wr.heap.size + 1))]))
    (hg : (((wr.alloc o1).alloc o2).alloc o3).grownBy w' sv.ownBlock) (hat : sv.ownBlock = some g ∨ g = wr.heap.size + 3) :
    w'.heap[p]? = some (.cells #[sv] 52 (0, 0)) ∧ NwL (w'.setCell ⟨p, 0, none⟩ (.slice (some ⟨g, 0, none⟩) (I + 1) cap)) p (I + 1) (.slice (some ⟨g, 0, none⟩) (I + 1) cap) (updf bv I wr.heap.size) (updf br I (wr.heap.size + 1)) := by
  have hpl := lt_at h.hp
  have hsb : ∀ q, sv.ownBlock = some q → p < q ∧ q < wr.heap.size := fun q hq => by have := World.ownsRow.lt h.hr q hq; omega
  have hb3 : Below wr.heap.size wr (((wr.alloc o1).alloc o2).alloc o3) := (((Below.refl _ _).alloc (Nat.le_refl _) o1).alloc (by simp) o2).alloc (by simp; omega) o3
  have hp' : w'.heap[p]? = some (.cells #[sv] 52 (0, 0)) := (hg.block p (by simp; omega) (fun e => by have := hsb p e.symm; omega)).trans ((hb3.block p hpl).trans h.hp)
  have hgp : p < g := by rcases hat with e | e; exact (hsb g e).1; omega
  have old : ∀ b S, SAt wr b S → sv.ownBlock ≠ some b → b ≠ p → SAt (w'.setCell ⟨p, 0, none⟩ (.slice (some ⟨g, 0, none⟩) (I + 1) cap)) b S := fun b S hs hne hbp =>
    ((hs.below hb3).kept hg (fun e => hne e.symm)).setCell hbp _
  have n1 : SAt (((wr.alloc o1).alloc o2).alloc o3) wr.heap.size [0] := (h1.alloc o2).alloc o3
  have n2 : SAt (((wr.alloc o1).alloc o2).alloc o3) (wr.heap.size + 1) [0] := h2.alloc o3
  have lv : ∀ i, i < I → bv i < wr.heap.size := fun i hi => (h.sv i hi).lt
  have lr : ∀ i, i < I → br i < wr.heap.size := fun i hi => (h.sr i hi).lt
  refine ⟨hp', ⟨set_at hp' 0 _, ?_, ?_, ?_, ?_, ?_, ?_, ?_, ?_⟩⟩
  · rw [secC_succ]
    exact World.ownsRow.kept hown (grown_set w' p 0 _) (.inr (by simp only [Value.ownBlock, ne_eq, Option.some.injEq]; omega))
  · intro i hi
    simp only [Value.ownBlock, ne_eq, Option.some.injEq]
    by_cases e : i = I
    · subst e; rw [updf_same]; refine ⟨hpl, ?_⟩
      rcases hat with h' | h'
      · have := hsb g h'; omega
      · omega
    · rw [updf_other e]
      have hi' : i < I := by omega
      refine ⟨(h.nv i hi').1, ?_⟩
      rcases hat with h' | h'
      · exact fun e' => (h.nv i hi').2 (e' ▸ h')
      · have := lv i hi'; omega
  · intro i hi
    simp only [Value.ownBlock, ne_eq, Option.some.injEq]
    by_cases e : i = I
    · subst e; rw [updf_same]; refine ⟨by omega, ?_⟩
      rcases hat with h' | h'
      · have := hsb g h'; omega
      · omega
    · rw [updf_other e]
      have hi' : i < I := by omega
      refine ⟨(h.nr i hi').1, ?_⟩
      rcases hat with h' | h'
      · exact fun e' => (h.nr i hi').2 (e' ▸ h')
      · have := lr i hi'; omega
  · intro i j hi hj
    by_cases e : i = I
    · by_cases e' : j = I
      · intro _; omega
      · rw [e, updf_same, updf_other e']; intro x; have := lv j (by omega); omega
    · by_cases e' : j = I
      · rw [e', updf_same, updf_other e]; intro x; have := lv i (by omega); omega
      · rw [updf_other e, updf_other e']; exact h.dv i j (by omega) (by omega)
  · intro i j hi hj
    by_cases e : i = I
    · by_cases e' : j = I
      · intro _; omega
      · rw [e, updf_same, updf_other e']; intro x; have := lr j (by omega); omega
    · by_cases e' : j = I
      · rw [e', updf_same, updf_other e]; intro x; have := lr i (by omega); omega
      · rw [updf_other e, updf_other e']; exact h.dr i j (by omega) (by omega)
  · intro i j hi hj
    by_cases e : i = I
    · by_cases e' : j = I
      · rw [e, e', updf_same, updf_same]; omega
      · rw [e, updf_same, updf_other e']; have := lr j (by omega); omega
    · by_cases e' : j = I
      · rw [e', updf_same, updf_other e]; have := lv i (by omega); omega
      · rw [updf_other e, updf_other e']; exact h.dx i j (by omega) (by omega)
  · intro i hi
    by_cases e : i = I
    · subst e; rw [updf_same]
      exact ((n1.kept hg (fun e => by have := hsb _ e.symm; omega))).setCell (show wr.heap.size ≠ p by omega) _
    · rw [updf_other e]; exact old _ _ (h.sv i (by omega)) (h.nv i (by omega)).2 (by have := (h.nv i (by omega)).1; omega)
  · intro i hi
    by_cases e : i = I
    · subst e; rw [updf_same]
      exact ((n2.kept hg (fun e => by have := hsb _ e.symm; omega))).setCell (show wr.heap.size + 1 ≠ p by omega) _
    · rw [updf_other e]; exact old _ _ (h.sr i (by omega)) (h.nr i (by omega)).2 (by have := (h.nr i (by omega)).1; omega)
/-- All the sectors: a model. -/
theorem NwL.done (h : NwL wr p I sv bv br) (h1 : 1 ≤ I) : ∃ gl cap, MdAt p wr p I 1 gl cap bv br (fun _ => [0]) (fun _ => [0]) := by
  obtain ⟨hl, h2 | ⟨g, cap, cur, rfl, hg, hb, h3, h4, h5, h6⟩⟩ := h.hr
  · omega
  · have hne : ∀ b, (Value.slice (some ⟨g, 0, none⟩) I cap).ownBlock ≠ some b → b ≠ g := fun b hb e => hb (by rw [e]; rfl)
    refine ⟨g, cap, h.hp, ⟨cur, hb, fun i hi => ?_⟩, ⟨h3, h4⟩, ⟨Nat.le_refl _, by omega, by omega⟩, fun i hi => ⟨by have := (h.nv i hi).1; omega, by have := (h.nv i hi).1; omega, hne _ (h.nv i hi).2⟩, fun i hi => ⟨by have := (h.nr i hi).1; omega, by have := (h.nr i hi).1; omega, hne _ (h.nr i hi).2⟩, h.dv, h.dr, h.dx, h.sv, h.sr, fun _ _ => Nat.le_refl _, fun _ _ => Nat.le_refl _⟩
    obtain ⟨q0, q1⟩ := secC_get bv br I i hi
    rw [← h6, List.getElem?_take, if_pos (by omega), Array.getElem?_toList] at q0 q1
    exact ⟨q0, q1⟩
end
theorem addp {g o : Nat} (j : Nat) : (⟨g, o, none⟩ : Addr).add j = ⟨g, o + j, none⟩ := by unfold Addr.add; split <;> simp_all
theorem sec_cells (w : World) (o1 o2 : Obj) (T : TypeId) (a b : Nat) (j : Nat) (u : Value) (h : [Value.map (some a), .map (some b)][j]? = some u) :
    (((w.alloc o1).alloc o2).alloc (.cells #[.map (some a), .map (some b)] T)).cell? ((⟨w.heap.size + 1 + 1, 0, none⟩ : Addr).add j) = some u := by
  have hb : (((w.alloc o1).alloc o2).alloc (.cells #[.map (some a), .map (some b)] T)).heap[w.heap.size + 1 + 1]? = some (.cells #[.map (some a), .map (some b)] T (0, 0)) := alloc_at (by simp)
  rw [addp, Nat.zero_add, cell_at hb, ← Array.getElem?_toList]
  exact h
theorem sec_one (a b : Nat) : ∀ u ∈ [Value.map (some a), .map (some b)], u.oneCell' = true := by
  intro u hu
  simp only [List.mem_cons, List.not_mem_nil, or_false] at hu
  rcases hu with rfl | rfl <;> rfl
theorem info_sec : (Try.prog.info? 56).map (fun i => (i.zero, i.size, i.bytes)) = some (some (.agg #[.map none, .map none]), 2, 16) := by kernel_rfl
set_option maxRecDepth 100000 in
set_option maxHeartbeats 6400000 in
theorem new_any (n : Nat) (w : World) (h1 : 1 ≤ n) (h2 : n ≤ 4096) :
    Calls Try.prog 8 #[.int .i64 (n : Nat)] w fun e w' => e = .returned (.tuple #[.pointer (some ⟨w.heap.size, 0, none⟩), .int .i64 0]) ∧ (∃ gl cap bv br, MdAt w.heap.size w' w.heap.size n 1 gl cap bv br (fun _ => [0]) (fun _ => [0])) ∧ Below w.heap.size w w' := by
  obtain ⟨i0, hi, hz0, hz1, hz2⟩ := info_parts info_sec
  have hmm := @run_makeMap Try.prog
  have t1 : ¬ (n : Int) < 1 := by omega
  have t2 : ¬ (4096 : Int) < (n : Int) := by omega
  go_enter Try.func8, Try.ntmps8
  go_wp2_with fail
  obtain ⟨w0, hw0⟩ : ∃ V, w.alloc (.cells #[.slice none 0 0] 52) = V := ⟨_, rfl⟩
  obtain ⟨p, hpE⟩ : ∃ b, w.heap.size = b := ⟨_, rfl⟩
  have hp0 : w0.heap[p]? = some (.cells #[.slice none 0 0] 52 (0, 0)) := by rw [← hw0, ← hpE]; exact alloc_new w _
  have hb0 : Below w.heap.size w w0 := by rw [← hw0]; exact (Below.refl _ _).alloc (Nat.le_refl _) _
  rw [hw0, hpE]
  have HPE := Lib.hid hpE
  have HP0 := Lib.hid hp0
  have HB0 := Lib.hid hb0
  clear hw0 hp0 hb0 hpE
  go_loopg [14] n (fun gk x wr => ∃ (I : Nat) (sv : Value) (bv br : Nat → Nat), I + gk = n ∧ x = .int .i64 I ∧ NwL wr p I sv bv br ∧ Below w.heap.size w wr)
  case atStart =>
    exact ⟨0, _, fun _ => 0, fun _ => 0, by omega, rfl, ⟨HP0.out, World.ownsRow_nil _ _ _ _, fun i hi => by omega, fun i hi => by omega, fun i j hi => by omega, fun i j hi => by omega, fun i j hi => by omega, fun i hi => by omega, fun i hi => by omega⟩, HB0.out⟩
  case round =>
    obtain ⟨I, sv, bv, br, hI, rfl, hn, hb⟩ := hrel
    have HN := Lib.hid hn
    have HB := Lib.hid hb
    by_cases hlt : I < n
    · have i1 : (I : Int) < (n : Int) := by omega
      have p0 := cell_at hn.hp 0
      have z0 := free_at hn.hp 0
      obtain ⟨es, c, r1, s1⟩ := set_one tset wr (show 0 < 18446744073709551616 by omega)
      obtain ⟨es2, c2, r2, s2⟩ := set_one tset (wr.alloc (.map es c)) (show 0 < 18446744073709551616 by omega)
      have e1 : (wr.alloc (.map es c)).heap.size = wr.heap.size + 1 := by simp
      rw [e1] at r2 s2
      have r1' : (Instr.mapUpdate 54 (.map (some wr.heap.size)) (.int .u64 0) (.bool true)).run Try.prog (wr.alloc (.map #[] 0)) = .ok () (wr.alloc (.map es c)) := r1
      have r2' : (Instr.mapUpdate 54 (.map (some (wr.heap.size + 1))) (.int .u64 0) (.bool true)).run Try.prog ((wr.alloc (.map es c)).alloc (.map #[] 0)) = .ok () ((wr.alloc (.map es c)).alloc (.map es2 c2)) := r2
      have S1 := Lib.hid s1
      have S2 := Lib.hid s2
      have hpl : p < wr.heap.size := lt_at hn.hp
      have HI := Lib.hid (show I ≤ 4096 by omega)
      clear r1 r2 e1 s1 s2 hn hb
      go_wp2_with (at_builtin; refine wpList_append_lies _ rfl _ _ _ rfl (p + 1) 56 i0 _ 2 16 Try.underlying50 hi hz0 hz1 hz2 rfl (by decide) sv I (secC bv br I) (by rfl) (((HN.out.hr.alloc _).alloc _).alloc _) ⟨wr.heap.size + 1 + 1, 0, none⟩ 1 1 [.map (some wr.heap.size), .map (some (wr.heap.size + 1))] (by rfl) rfl (sec_cells _ _ _ _ _ _) (sec_one _ _) (by decide) (by have := HI.out; unfold maxLen; omega) (by have := HI.out; omega) (by simp; omega) (wr.heap.size + 3) (by simp) ?_; intro g cap w7 hown hgrow hat hlt7; have hst := HN.out.step S1.out S2.out hown hgrow hat; have p0' := cell_at hst.1 0; have z0' := free_at hst.1 0; have HST := Lib.hid hst.2; have HBN := Lib.hid (grow_below ((((HB.out.alloc HB.out.size _).alloc (by have := HB.out.size; simp; omega) _).alloc (by have := HB.out.size; simp; omega) _)) (by have := HB.out.size; simp; omega) hgrow (fun q hq => by have h1 := World.ownsRow.lt HN.out.hr q hq; have h2 := HPE.out; omega)); clear hown hgrow hat hst)
      go_roundg (gk - 1)
      case measure => omega
      case rel => exact ⟨I + 1, _, _, _, by omega, by go_num, HST.out, HBN.out.setCell (Nat.le_of_eq HPE.out) _⟩
    · obtain rfl : n = I := by omega
      go_wp2_with fail
      go_ret2
      obtain ⟨gl, cap, hm⟩ := HN.out.done h1
      have hb9 := HB.out
      rw [HPE.out] at hb9 ⊢
      exact ⟨rfl, ⟨gl, cap, bv, br, hm⟩, hb9⟩
end Go.Proofs.Ytboonpfdlbedoaa
