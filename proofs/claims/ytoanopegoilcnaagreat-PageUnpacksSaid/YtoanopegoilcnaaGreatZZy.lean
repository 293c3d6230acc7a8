/- Unpack, the program's and the document's, of whatever bytes. -/
import Derived.Test.YtoanopegoilcnaaGreatZZwa
import Derived.Test.YtoanopegoilcnaaGreatZZwb
import Derived.Test.YtoanopegoilcnaaGreatZZwc
import Derived.Test.YtoanopegoilcnaaGreatZZwe
import Derived.Test.YtoanopegoilcnaaGreatZZx
import Derived.Test.YtoanopegoilcnaaGreatZKq
set_option linter.unusedVariables false
namespace Go.Proofs.YtoanopegoilcnaaGreat
open Go.RowKit Go.Mem Go.Pg

theorem r5unpack_any (S N T mw mh : Nat) (v5 : Value) (g o cap L : Nat) (l : List Nat) (w : World) (hL : Lay S N T mw mh) (hq : Par (13 + 11 * N) T mh) (h5 : F5 w v5 S N T mw mh) (hv : Rd .u8 w (.slice (some ⟨g, o, none⟩) L cap) l) (hl : l.length = L) (hx : ∀ y ∈ l, y < 256) (hp : L = pageB S N T mw mh) :
    Calls Tryz.prog 13 #[v5, .slice (some ⟨g, o, none⟩) L cap] w fun e w' => (∃ ov, e = .returned (.tuple #[ov, .int .i64 0]) ∧ OpV w' ov (opn S N T mw mh l)) ∧ Below w.heap.size w w' := by
  by_cases he : 8 * L - ones l ≤ T
  · exact r5unpack_erased S N T mw mh v5 g o cap L l w hL hq h5 hv hl hx hp he
  · cases hop : opnB mh T (9 + 11 * N) (cut l (N * wdB S T mw) (9 + 11 * N + 4 + pcn mh T)) with
    | none => exact r5unpack_none S N T mw mh v5 g o cap L l w hL hq h5 hv hl hx hp he hop
    | some r =>
      obtain ⟨x0, s0, k0⟩ := r
      by_cases ht : ones (l.drop (lastB S N T mw mh)) ≤ T
      · by_cases hm : sum x0 = s0 ∧ (headP N x0).May N
        · exact r5unpack_yes S N T mw mh v5 g o cap L l w hL hq h5 hv hl hx hp he x0 s0 k0 hop ht hm.2 hm.1
        · exact r5unpack_bad S N T mw mh v5 g o cap L l w hL hq h5 hv hl hx hp he x0 s0 k0 hop ht hm
      · exact r5unpack_torn S N T mw mh v5 g o cap L l w hL hq h5 hv hl hx hp he x0 s0 k0 hop (by omega)

/-- What whatever bytes say, and whether they are refused. -/
noncomputable def unpO (S N T mw mh : Nat) (l : List Nat) : Opn := if l.length = pageB S N T mw mh then opn S N T mw mh l else ⟨false, 0, none, [], [], 0⟩
noncomputable def unpE (S N T mw mh : Nat) (l : List Nat) : Nat := if l.length = pageB S N T mw mh then 0 else 1
theorem unp_all (f S N T mw mh : Nat) (g o cap L : Nat) (l : List Nat) (w : World) (hL : Lay S N T mw mh) (hf : FrAt w f S N T mw mh) (hv : Rd .u8 w (.slice (some ⟨g, o, none⟩) L cap) l) (hl : l.length = L) (hx : ∀ y ∈ l, y < 256) :
    Calls Tryz.prog 12 #[.pointer (some ⟨f, 0, none⟩), .slice (some ⟨g, o, none⟩) L cap] w fun e w' => (∃ ov, e = .returned (.tuple #[ov, .int .i64 (unpE S N T mw mh l : Nat)]) ∧ OpV w' ov (unpO S N T mw mh l)) ∧ Below w.heap.size w w' := by
  unfold unpO unpE
  by_cases hp : l.length = pageB S N T mw mh
  · rw [if_pos hp, if_pos hp]
    exact unpack_any f S N T mw mh _ l w hL hf hv hp hx
  · rw [if_neg hp, if_neg hp]
    exact unpack_len f S N T mw mh _ cap L w hL hf (by obtain ⟨a', c', he, h1, h2, _⟩ := hv; cases he; omega) (by rw [← hl]; exact hp)
theorem r5unp_all (S N T mw mh : Nat) (v5 : Value) (g o cap L : Nat) (l : List Nat) (w : World) (hL : Lay S N T mw mh) (hq : Par (13 + 11 * N) T mh) (h5 : F5 w v5 S N T mw mh) (hv : Rd .u8 w (.slice (some ⟨g, o, none⟩) L cap) l) (hl : l.length = L) (hx : ∀ y ∈ l, y < 256) :
    Calls Tryz.prog 13 #[v5, .slice (some ⟨g, o, none⟩) L cap] w fun e w' => (∃ ov, e = .returned (.tuple #[ov, .int .i64 (unpE S N T mw mh l : Nat)]) ∧ OpV w' ov (unpO S N T mw mh l)) ∧ Below w.heap.size w w' := by
  unfold unpO unpE
  by_cases hp : l.length = pageB S N T mw mh
  · rw [if_pos hp, if_pos hp]
    exact r5unpack_any S N T mw mh v5 g o cap L l w hL hq h5 hv hl hx (by rw [← hl]; exact hp)
  · rw [if_neg hp, if_neg hp]
    exact r5unpack_len S N T mw mh v5 g o cap L l w hL hq h5 hv hl hx (by rw [← hl]; exact hp)
theorem dec_is {m t : Nat} {xs ys : List Nat} {r : List Nat × Nat} (h : dec m t xs ys = some r) : DecIs m t xs ys r := by
  unfold dec at h
  split at h
  · rename_i hex
    have := Classical.choose_spec hex
    simp only [Option.some.injEq] at h
    rwa [h] at this
  · cases h
theorem opnB_bytes {m t n s k : Nat} {l x : List Nat} (h : opnB m t n l = some (x, s, k)) (hl : n + 4 ≤ l.length) : x.length = n ∧ ∀ y ∈ x, y < 256 := by
  unfold opnB at h
  rw [Option.map_eq_some_iff] at h
  obtain ⟨r, hr, he⟩ := h
  obtain ⟨d', p', h1, _, h3, _⟩ := dec_is hr
  simp only [Prod.mk.injEq] at he
  obtain ⟨rfl, _, _⟩ := he
  rw [h3]
  refine ⟨by simp; omega, fun y hy => ?_⟩
  obtain ⟨j, _, rfl⟩ := List.mem_map.1 (List.mem_of_mem_take hy)
  exact h1 j
theorem hdO_wf {S N T mw mh k : Nat} {l : List Nat} {h : Head} (hl : l.length = pageB S N T mw mh) (ho : hdO S N T mw mh l = some (h, k)) : h.Wf := by
  unfold hdO at ho
  split at ho
  · rename_i x s k' hop
    split at ho
    · simp only [Option.some.injEq, Prod.mk.injEq] at ho
      obtain ⟨rfl, _⟩ := ho
      obtain ⟨h1, h2⟩ := opnB_bytes hop (by rw [cut_len (by rw [hl]; unfold pageB lastB; omega)]; omega)
      exact headP_wf h1 h2
    · cases ho
  · cases ho
theorem zero_wf : Head.zero.Wf := ⟨⟨by decide, by decide, by decide, by decide, by decide⟩, fun s hs => by cases hs⟩
theorem unpO_wf (S N T mw mh : Nat) (l : List Nat) : (unpO S N T mw mh l).hd.Wf := by
  unfold unpO
  split
  · rename_i hp
    unfold opn
    split
    · exact zero_wf
    · cases ho : hdO S N T mw mh l with
      | none => exact zero_wf
      | some r => obtain ⟨h, k⟩ := r; exact hdO_wf hp ho
  · exact zero_wf
end Go.Proofs.YtoanopegoilcnaaGreat
