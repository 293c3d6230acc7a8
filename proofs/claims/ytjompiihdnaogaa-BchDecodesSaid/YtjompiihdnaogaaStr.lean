/- Rows of bytes as strings. -/
import Derived.Test.YtjompiihdnaogaaRee
import Derived.Laws.BytesArg
namespace Go.Proofs.Ytjompiihdnaogaa
open Go.RowKit Go.Mem

/-- Bytes as a string. -/
def sv (xs : List Nat) : ByteArray := ⟨(xs.map UInt8.ofNat).toArray⟩
theorem sv_inj {xs ys : List Nat} (hx : ∀ y ∈ xs, y < 256) (hy : ∀ y ∈ ys, y < 256) (h : sv xs = sv ys) : xs = ys := by
  have h1 : xs.map UInt8.ofNat = ys.map UInt8.ofNat := by
    unfold sv at h
    have := congrArg (fun b : ByteArray => b.data.toList) h
    simpa using this
  have e : ∀ l : List Nat, (∀ y ∈ l, y < 256) → (l.map UInt8.ofNat).map UInt8.toNat = l := fun l hl => by
    rw [List.map_map]
    refine (List.map_congr_left (fun a ha => ?_)).trans (List.map_id l)
    simp only [Function.comp]
    show a % 256 = a
    exact Nat.mod_eq_of_lt (hl a ha)
  rw [← e xs hx, ← e ys hy, h1]
theorem conv_rd {w : World} {v : Value} {xs : List Nat} (h : Rd .u8 w v xs) : (convert 35 9 v).run Try.prog w = .ok (.string (sv xs)) w := by
  obtain ⟨a, cap, rfl, _, _, hc⟩ := h
  have e : (strOfNums (xs.map fun n : Nat => (n : Int))) = sv xs := by
    unfold strOfNums sv
    rw [List.map_map]
    rfl
  rcases Nat.eq_zero_or_pos xs.length with h0 | h0
  · obtain rfl : xs = [] := List.length_eq_zero_iff.1 h0
    cases a with
    | none => exact run_convert_bytes_nil w _ _ Try.underlying35 Try.underlying5 _ _ _ Try.underlying9
    | some a =>
      have hl : (loadCells a 0).run Try.prog w = .ok (([] : List Int).map (Value.int .u8)).toArray w := by
        have := run_loadCells_list (P := Try.prog) w a [] (fun j v hj => by simp at hj)
        simpa using this
      rw [List.length_nil, run_convert_bytes_string w _ _ 5 _ 0 cap Try.underlying35 Try.underlying5 Try.underlying9, run_bytesToString w a 0 cap [] hl]
      rfl
  · obtain ⟨g, o, rfl, _⟩ := hc 0 h0
    have := run_convert_bytes_arg (P := Try.prog) w 35 5 Try.underlying35 Try.underlying5 g o xs.length cap (xs.map fun n : Nat => (n : Int)) (by simp) (fun i hi => by
      obtain ⟨g', o', he, hx⟩ := hc i hi
      cases he
      rw [hx]
      simp [List.getD, hi]) 9 Try.underlying9
    rw [this, e]
end Go.Proofs.Ytjompiihdnaogaa
