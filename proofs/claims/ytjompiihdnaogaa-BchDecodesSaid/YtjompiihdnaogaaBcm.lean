/- Bytes made anew. -/
import Derived.Test.YtjompiihdnaogaaOw
import Derived.Test.YtjompiihdnaogaaGfc
namespace Go.Proofs.Ytjompiihdnaogaa
open Go.RowKit Go.Mem

theorem info_byte : (Try.prog.info? 5).map (fun i => (i.zero, i.size, i.bytes)) = some (some (.int .u8 0), 1, 1) := by kernel_rfl
theorem mk_bytes (n : Nat) (h : n ≤ 1000000000) (w : World) : (Instr.makeSlice 35 (.int .i64 n) (.int .i64 n)).run Try.prog w = .ok (.slice (some ⟨w.heap.size, 0, none⟩) n n) (w.alloc (.cells (fa .u8 n (fun _ => 0)) 5)) := by
  obtain ⟨i, hi, hz, hs, hb⟩ := info_parts info_byte
  have := run_make (P := Try.prog) w 35 5 i _ Try.underlying35 hi hz .i64 .i64 n n (by omega) (Int.le_refl _) (by rw [hb]; omega) (by omega)
  rw [hs] at this
  simp only [Int.toNat_natCast, made_fa] at this
  exact this
end Go.Proofs.Ytjompiihdnaogaa
