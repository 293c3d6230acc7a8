/- Walks over slices: Sort of a short row of numbers; what is sorted and rising is one. -/
import Derived.Test.YtboonpfdlbedoaaSb
import Derived.Test.YtboonpfdlbedoaaSc
import Derived.Sort.AssemblyPlain
namespace Go.Proofs.Ytboonpfdlbedoaa
open Go Go.RowKit Go.Mem Go.Sort Go.Hs

theorem swo_ltN : SWO ltN := ⟨fun x => by simp [ltN], fun x y z h1 h2 => by simp only [ltN, decide_eq_true_eq] at *; omega, fun x y z h1 h2 => by simp only [ltN, decide_eq_false_iff_not] at *; omega⟩
/-- What is sorted and has the numbers of a rising row is that row. -/
theorem sorted_eq {d d' : Array Nat} {S : List Nat} (hP : PermIn 0 d.size d d') (hs : SortedIn ltN 0 d.size d') (hd : d.toList.Perm S) (hS : Rising S) : d'.toList = S := by
  have hsz := hP.1
  have hp : d'.toList.Perm S := by
    have h1 := hP.2.2
    rw [show d'.extract 0 d.size = d' by rw [← hsz]; simp, show d.extract 0 d.size = d by simp] at h1
    exact h1.trans hd
  refine List.Perm.eq_of_pairwise (le := fun a b => a ≤ b) (fun a b _ _ h1 h2 => Nat.le_antisymm h1 h2) ?_ (hS.imp (fun h => Nat.le_of_lt h)) hp
  rw [List.pairwise_iff_getElem]
  intro i j hi hj hij
  have hj' : j < d'.size := by simpa using hj
  have h2 := hs i j (Nat.zero_le _) hij (by omega)
  simp only [ltN, decide_eq_false_iff_not] at h2
  rw [getElem!_pos d' j hj', getElem!_pos d' i (by omega)] at h2
  simp only [Array.getElem_toList]
  omega
/-- slices.Sort does what it should, at rows of at most N numbers. -/
def SortOk (N : Nat) : Prop := ∀ (g cap : Nat) (d : Array Nat) (w : World), RwU w g cap d → d.size ≤ N →
  Calls Try.prog 34 #[.slice (some ⟨g, 0, none⟩) d.size cap] w fun e w' => e = .returned (.tuple #[]) ∧ ∃ d', RwU w' g cap d' ∧ PermIn 0 d.size d d' ∧ SortedIn ltN 0 d.size d' ∧ w.grownBy w' (some g)

set_option maxRecDepth 100000 in
set_option maxHeartbeats 3200000 in
theorem pdq_short (g cap L : Nat) (d : Array Nat) (w : World) (h : RwU w g cap d) (hs : d.size ≤ 12) :
    Calls Try.prog 37 #[.slice (some ⟨g, 0, none⟩) d.size cap, .int .i64 0, .int .i64 (d.size : Nat), .int .i64 (L : Nat)] w fun e w' => e = .returned (.tuple #[]) ∧ RwU w' g cap (insertionSort ltN d 0 d.size) ∧ w.grownBy w' (some g) := by
  have HI := Lib.hid (ins_any g cap 0 d.size d w h (Nat.zero_le _) (Nat.le_refl _) (by omega))
  obtain ⟨n, hn⟩ : ∃ n, d.size = n := ⟨_, rfl⟩
  rw [hn] at HI hs ⊢
  have h1 : (n : Int) ≤ 12 := by omega
  clear h hn hs
  go_enter Try.func37, Try.ntmps37
  go_wp2_with fail
  refine wp_loop_rounds 1 ?_
  rw [rounds_succ]
  go_wp2_with fail
  refine HI.out.mono ?_
  rintro e w' ⟨rfl, h2, _, h3⟩
  have H2 := Lib.hid h2
  have H3 := Lib.hid h3
  clear h2 h3
  go_wp2_with fail
  exact bodyPost_ret (v := .tuple #[]) (by simp [results, Try.results37, go_sem]) rfl ⟨rfl, H2.out, H3.out⟩
set_option maxHeartbeats 3200000 in
theorem sort_short : SortOk 12 := by
  intro g cap d w h hs
  have HP := Lib.hid (fun L => pdq_short g cap L d w h hs)
  have HL := Lib.hid (len_any d.size w (by omega))
  obtain ⟨hp, hq⟩ := insertionSort_holds swo_ltN d 0 d.size (Nat.zero_le _) (Nat.le_refl _)
  have HPQ := Lib.hid (And.intro hp hq)
  obtain ⟨n, hn⟩ : ∃ n, d.size = n := ⟨_, rfl⟩
  rw [hn] at HP HL HPQ hs ⊢
  clear h hn hp hq
  go_enter Try.func34, Try.ntmps34
  go_wp2_with fail
  refine HL.out.mono ?_
  rintro e w' ⟨⟨L, rfl, hL⟩, rfl⟩
  go_wp2_with fail
  refine (HP.out L).mono ?_
  rintro e w' ⟨rfl, h2, h3⟩
  have H2 := Lib.hid h2
  have H3 := Lib.hid h3
  clear h2 h3
  go_wp2_with fail
  go_end0
  exact ⟨rfl, _, H2.out, HPQ.out.1, HPQ.out.2, H3.out⟩
end Go.Proofs.Ytboonpfdlbedoaa
