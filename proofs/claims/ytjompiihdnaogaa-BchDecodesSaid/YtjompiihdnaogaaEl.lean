/- The kinds of slices of this program. -/
import Derived.Test.YtjompiihdnaogaaApp
import Derived.Test.YtjompiihdnaogaaBcf
namespace Go.Proofs.Ytjompiihdnaogaa
open Go.RowKit Go.Mem
theorem el_int : ElT Try.prog 27 3 .i64 8 := ⟨Try.underlying27, info_int, by decide⟩
theorem el_byte : ElT Try.prog 35 5 .u8 1 := ⟨Try.underlying35, info_byte, by decide⟩
end Go.Proofs.Ytjompiihdnaogaa
