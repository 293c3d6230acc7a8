/- Walks over slices and history: Sorted; rising. -/
import Derived.Test.YtboonpfdlbedoaaSd
import Derived.Test.YtboonpfdlbedoaaHl
import Derived.Shelf.SlIter.Sorted
namespace Go.Proofs.Ytboonpfdlbedoaa
open Go Go.RowKit Go.Mem Go.Sort Go.Hs Go.Maps Go.Proofs

theorem ow_own {k : IntKind} {e : TypeId} {B : Nat} {w : World} {g n cap : Nat} {f : Nat → Nat} {xs : List Nat} (h : Ow k e w g n cap f) (hB : B ≤ g) (hl : xs.length = n) (hx : ∀ j, j < n → xs[j]? = some (f j)) : Own k e B w (.slice (some ⟨g, 0, none⟩) n cap) xs := by
  obtain ⟨cur, h1, h2, h3, h4, h5⟩ := h
  subst hl
  refine ⟨by simp, .inr ⟨g, cap, cur, rfl, hB, h1, h3, h4, by omega, ?_⟩⟩
  apply List.ext_getElem?
  intro j
  rw [List.getElem?_take, Nat.mul_one]
  by_cases hj : j < xs.length
  · rw [if_pos hj, Array.getElem?_toList, h5 j hj, List.getElem?_map, hx j hj]; rfl
  · rw [if_neg hj, List.getElem?_eq_none (by simpa using hj)]
set_option maxRecDepth 100000 in
set_option maxHeartbeats 3200000 in
theorem sorted_any (N : Nat) (hok : SortOk N) (hN : N ≤ 1000000) (S : List Nat) (hS : Rising S) (h0 : S ≠ []) (hl : S.length ≤ N) (g : Nat) (lb : Array Value) (eg : ∀ args w, (callFunc g args).run Try.prog w = .ok (.enter g args) w) (w : World) (hseq : SeqGives Fence.wide 2 Try.prog g lb encU (fun ss => ss.Perm S) S.length w) :
    CallsIn Fence.wide 5 Try.prog 31 #[.func (.func g) #[] lb] w fun e w' => (∃ v, e = .returned v ∧ Own .u64 31 w.heap.size w' v S) ∧ Below w.heap.size w w' := by
  have hfC : Fence.wide.fn 33 := trivial
  have hfS : Fence.wide.fn 34 := trivial
  refine callsIn_of_wp Try.func31 rfl trivial ?_ rfl
  simp only [Try.ntmps31, List.size_toArray, List.length_cons, List.length_nil, Nat.reduceAdd, Nat.reduceSub, Array.replicate_succ, Array.replicate_zero, List.push_toArray, List.append_toArray, List.nil_append, List.cons_append]
  gi_wp2_with (gi_at_call 33; refine (collect_in Fence.wide 4 trivial trivial rfl (by omega) g lb trivial eg _ S.length (by omega) _ hseq).mono ?_; rintro e W ⟨v, ss, rfl, hP, hrow, hnil, hb⟩)
  have hsl : ss.length = S.length := hP.length_eq
  have hS1 : 0 < S.length := List.length_pos_iff.2 h0
  obtain ⟨g1, cap, rfl⟩ : ∃ g1 cap, v = .slice (some ⟨g1, 0, none⟩) ss.length cap := by
    rcases hrow.2 with ⟨_, hz⟩ | ⟨g1, cap, cur, rfl, _⟩
    · omega
    · exact ⟨g1, cap, rfl⟩
  obtain ⟨hbase, _, how⟩ := Ow.of_owns (k := .u64) (f := fun j => ss.toArray[j]!) hrow (fun j hj => by rw [List.getElem?_map, List.getElem?_eq_getElem hj, getElem!_pos ss.toArray j (by simpa using hj)]; rfl)
  have hR : RwU W g1 cap ss.toArray := by unfold RwU; simpa using how
  have cS := hok g1 cap ss.toArray W hR (by simp; omega)
  have cS' := (callsIn_wide (n := 4)).2 cS
  rw [show ss.toArray.size = ss.length by simp] at cS'
  clear cS hnil hrow how
  gi_wp2_with (gi_at_call 34; refine cS'.mono ?_; rintro e w' ⟨rfl, d', h1, h2, h3, h4⟩)
  go_ret
  have he := sorted_eq h2 h3 (by simpa using hP) hS
  have hz : d'.size = S.length := by rw [h2.1]; simpa using hsl
  have h1' : Ow .u64 31 w' g1 d'.size cap (fun j => d'[j]!) := h1
  rw [hz] at h1'
  refine ⟨⟨_, rfl, ow_own h1' hbase rfl (fun j hj => ?_)⟩, ?_⟩
  · have hj' : j < d'.size := by omega
    rw [← he, Array.getElem?_toList, Array.getElem?_eq_getElem hj', getElem!_pos d' j hj']
  · exact hb.grown h4 hb.size (fun k e => by cases e; exact hbase)

set_option maxRecDepth 100000 in
set_option maxHeartbeats 3200000 in
theorem rising_any (N : Nat) (hok : SortOk N) (hN : N ≤ 1000000) {b : Nat} {S : List Nat} {w : World} (h : SAt w b S) (h0 : S ≠ []) (hl : S.length ≤ N) :
    Calls Try.prog 29 #[.map (some b)] w fun e w' => (∃ v, e = .returned v ∧ Own .u64 31 w.heap.size w' v S) ∧ Below w.heap.size w w' := by
  refine (callsIn_wide (n := 6)).1 ?_
  have hbl := h.lt
  have hseq : SeqGives Fence.wide 2 Try.prog 35 #[.pointer (some ⟨w.heap.size, 0, none⟩)] encU (fun ss => ss.Perm S) S.length (w.alloc (.cells #[.map (some b)] 53)) :=
    keys_gives Fence.wide _ trivial rfl (by omega) w.heap.size b S _ (by simp) (by simp) (h.alloc _)
  have cK : ∀ mb W, CallsIn Fence.wide 5 Try.prog 32 #[.map mb] W fun e w' => e = .returned (.func (.func 35) #[] #[.pointer (some ⟨W.heap.size, 0, none⟩)]) ∧ w' = W.alloc (.cells #[.map mb] 53) := fun mb W => keys_in Fence.wide 5 trivial rfl mb W
  have cS := sorted_any N hok hN S h.2.1 h0 hl 35 #[.pointer (some ⟨w.heap.size, 0, none⟩)] (enters_of Try.func35 (by kernel_rfl) rfl) _ hseq
  have hfK : Fence.wide.fn 32 := trivial
  have hfS : Fence.wide.fn 31 := trivial
  refine callsIn_of_wp Try.func29 rfl trivial ?_ rfl
  simp only [Try.ntmps29, List.size_toArray, List.length_cons, List.length_nil, Nat.reduceAdd, Nat.reduceSub, Array.replicate_succ, Array.replicate_zero, List.push_toArray, List.append_toArray, List.nil_append, List.cons_append]
  gi_wp2_with (first
    | (gi_at_call 32; refine (cK _ _).mono ?_; rintro e w' ⟨rfl, rfl⟩)
    | (gi_at_call 31; refine cS.mono ?_; rintro e w' ⟨⟨v, rfl, hrow⟩, hb⟩))
  go_ret
  have hB : Below w.heap.size w (w.alloc (.cells #[.map (some b)] 53)) := (Below.refl _ w).alloc (Nat.le_refl _) _
  refine ⟨⟨v, rfl, ?_⟩, hB.trans (hb.mono (by simp))⟩
  obtain ⟨q1, q2 | ⟨g, cap, cur, q3, q4, q5⟩⟩ := hrow
  · exact ⟨q1, .inl q2⟩
  · exact ⟨q1, .inr ⟨g, cap, cur, q3, by simp at q4; omega, q5⟩⟩
end Go.Proofs.Ytboonpfdlbedoaa
