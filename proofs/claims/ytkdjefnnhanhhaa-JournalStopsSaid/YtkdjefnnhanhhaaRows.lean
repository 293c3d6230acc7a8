/-
  No cell of these rows narrows 'for every input' (looked for: loops, veiled, ifaces, maps, wideKeys, modest, calm, conditions, laid).
  DERIVED. THE GIVEN ROWS OF THIS SEAT. 6 by the template 'for every input the law returns true; each argument reads behind the call as it read before'; 0 by the template 'total and deterministic' (their statements: YtkdjefnnhanhhaaTotals.lean).
  GIVEN WITH THE SEED: the statements are not yours to turn. If you find one false, say at which input.
  Laid BY PROGRAM, IN A SANDBOX (cutbox-rows.mjs): the forced cells as the released guide's own fill.sh prints them over the translation ac6dbc9dcb8e321e… (all of the seat's roots in one cut). By AI agents, Wed Nov 11 2026. No macro, syntax, notation, axiom, sorry.
-/
import Derived.Test.YtkdjefnnhanhhaaChecked
import GoSem.Claim
import GoSem.ClaimJoined
import GoSem.ClaimMapViews
import Derived.JoinedTies
import Derived.KernelRfl
namespace Go.Proofs.Ytkdjefnnhanhhaa
/- THE CELL 'sum', in the pinned program and in every row, IS THE sha256 OF THE DUMP (.gsa) THAT YtkdjefnnhanhhaaProg.lean LOADS. Nothing in Lean hashes anything: it is a label: what it is worth is what the hold of that sum in a sandbox is worth. -/
noncomputable def Try.pinned : Pinned := { name := "ytkdjefnnhanhhaa", sum := "ac6dbc9dcb8e321e56287c17d3272c27a4354f1bcce39e095b3d40aa8e302d43", checked := Try.checked }
namespace Rows
def none {H : Type} : Left H := { results := [], args := [] }

/-- 'firkinlaw09.JournalOpens': WHATEVER THE INPUT: true; the input reads as it did. -/
def journalOpensSpec : ChangeSpec := { name := "journalOpens", fn := fun _ => fun
  | [d1, d2, d3] => { results := [.lit (.bool true)], args := [d1, d2, d3] }
  | _ => none }
def journalOpensRow : OpenClaim := { program := "ytkdjefnnhanhhaa", sum := "ac6dbc9dcb8e321e56287c17d3272c27a4354f1bcce39e095b3d40aa8e302d43", func := "firkin/firkinlaw09.JournalOpens", spec := "journalOpens", unfollowed := true, recurses := true, apart := false }
def JournalOpensSaid : Prop := journalOpensRow.holds Try.pinned (OpenSpec.ofChange journalOpensSpec)

/-- ITS FALSE NEIGHBOUR: 'it returns false'. Refute it at one input. -/
def journalOpensWrong : ChangeSpec := { name := "journalOpens", fn := fun _ => fun
  | [d1, d2, d3] => { results := [.lit (.bool false)], args := [d1, d2, d3] }
  | _ => none }
def JournalOpensWrongFalsely : Prop := journalOpensRow.holds Try.pinned (OpenSpec.ofChange journalOpensWrong)

/-- 'firkinlaw09.JournalLong': WHATEVER THE INPUT: true; the input reads as it did. -/
def journalLongSpec : ChangeSpec := { name := "journalLong", fn := fun _ => fun
  | [d1, d2, d3] => { results := [.lit (.bool true)], args := [d1, d2, d3] }
  | _ => none }
def journalLongRow : OpenClaim := { program := "ytkdjefnnhanhhaa", sum := "ac6dbc9dcb8e321e56287c17d3272c27a4354f1bcce39e095b3d40aa8e302d43", func := "firkin/firkinlaw09.JournalLong", spec := "journalLong", unfollowed := true, recurses := true, apart := false }
def JournalLongSaid : Prop := journalLongRow.holds Try.pinned (OpenSpec.ofChange journalLongSpec)

/-- ITS FALSE NEIGHBOUR: 'it returns false'. Refute it at one input. -/
def journalLongWrong : ChangeSpec := { name := "journalLong", fn := fun _ => fun
  | [d1, d2, d3] => { results := [.lit (.bool false)], args := [d1, d2, d3] }
  | _ => none }
def JournalLongWrongFalsely : Prop := journalLongRow.holds Try.pinned (OpenSpec.ofChange journalLongWrong)

/-- 'firkinlaw09.JournalStops': WHATEVER THE INPUT: true; the input reads as it did. -/
def journalStopsSpec : ChangeSpec := { name := "journalStops", fn := fun _ => fun
  | [d1, d2] => { results := [.lit (.bool true)], args := [d1, d2] }
  | _ => none }
def journalStopsRow : OpenClaim := { program := "ytkdjefnnhanhhaa", sum := "ac6dbc9dcb8e321e56287c17d3272c27a4354f1bcce39e095b3d40aa8e302d43", func := "firkin/firkinlaw09.JournalStops", spec := "journalStops", unfollowed := true, recurses := true, apart := false }
def JournalStopsSaid : Prop := journalStopsRow.holds Try.pinned (OpenSpec.ofChange journalStopsSpec)

/-- ITS FALSE NEIGHBOUR: 'it returns false'. Refute it at one input. -/
def journalStopsWrong : ChangeSpec := { name := "journalStops", fn := fun _ => fun
  | [d1, d2] => { results := [.lit (.bool false)], args := [d1, d2] }
  | _ => none }
def JournalStopsWrongFalsely : Prop := journalStopsRow.holds Try.pinned (OpenSpec.ofChange journalStopsWrong)

/-- 'firkinlaw09.JournalPlays': WHATEVER THE INPUT: true; the input reads as it did. -/
def journalPlaysSpec : ChangeSpec := { name := "journalPlays", fn := fun _ => fun
  | [d1, d2, d3] => { results := [.lit (.bool true)], args := [d1, d2, d3] }
  | _ => none }
def journalPlaysRow : OpenClaim := { program := "ytkdjefnnhanhhaa", sum := "ac6dbc9dcb8e321e56287c17d3272c27a4354f1bcce39e095b3d40aa8e302d43", func := "firkin/firkinlaw09.JournalPlays", spec := "journalPlays", unfollowed := true, recurses := true, apart := false }
def JournalPlaysSaid : Prop := journalPlaysRow.holds Try.pinned (OpenSpec.ofChange journalPlaysSpec)

/-- ITS FALSE NEIGHBOUR: 'it returns false'. Refute it at one input. -/
def journalPlaysWrong : ChangeSpec := { name := "journalPlays", fn := fun _ => fun
  | [d1, d2, d3] => { results := [.lit (.bool false)], args := [d1, d2, d3] }
  | _ => none }
def JournalPlaysWrongFalsely : Prop := journalPlaysRow.holds Try.pinned (OpenSpec.ofChange journalPlaysWrong)

/-- 'firkinlaw09.JournalKeeps': WHATEVER THE INPUT: true; the input reads as it did. -/
def journalKeepsSpec : ChangeSpec := { name := "journalKeeps", fn := fun _ => fun
  | [d1, d2, d3, d4, d5, d6] => { results := [.lit (.bool true)], args := [d1, d2, d3, d4, d5, d6] }
  | _ => none }
def journalKeepsRow : OpenClaim := { program := "ytkdjefnnhanhhaa", sum := "ac6dbc9dcb8e321e56287c17d3272c27a4354f1bcce39e095b3d40aa8e302d43", func := "firkin/firkinlaw09.JournalKeeps", spec := "journalKeeps", unfollowed := true, recurses := true, apart := false }
def JournalKeepsSaid : Prop := journalKeepsRow.holds Try.pinned (OpenSpec.ofChange journalKeepsSpec)

/-- ITS FALSE NEIGHBOUR: 'it returns false'. Refute it at one input. -/
def journalKeepsWrong : ChangeSpec := { name := "journalKeeps", fn := fun _ => fun
  | [d1, d2, d3, d4, d5, d6] => { results := [.lit (.bool false)], args := [d1, d2, d3, d4, d5, d6] }
  | _ => none }
def JournalKeepsWrongFalsely : Prop := journalKeepsRow.holds Try.pinned (OpenSpec.ofChange journalKeepsWrong)

/-- 'firkinlaw09.JournalAgain': WHATEVER THE INPUT: true; the input reads as it did. -/
def journalAgainSpec : ChangeSpec := { name := "journalAgain", fn := fun _ => fun
  | [d1, d2, d3, d4] => { results := [.lit (.bool true)], args := [d1, d2, d3, d4] }
  | _ => none }
def journalAgainRow : OpenClaim := { program := "ytkdjefnnhanhhaa", sum := "ac6dbc9dcb8e321e56287c17d3272c27a4354f1bcce39e095b3d40aa8e302d43", func := "firkin/firkinlaw09.JournalAgain", spec := "journalAgain", unfollowed := true, recurses := true, apart := false }
def JournalAgainSaid : Prop := journalAgainRow.holds Try.pinned (OpenSpec.ofChange journalAgainSpec)

/-- ITS FALSE NEIGHBOUR: 'it returns false'. Refute it at one input. -/
def journalAgainWrong : ChangeSpec := { name := "journalAgain", fn := fun _ => fun
  | [d1, d2, d3, d4] => { results := [.lit (.bool false)], args := [d1, d2, d3, d4] }
  | _ => none }
def JournalAgainWrongFalsely : Prop := journalAgainRow.holds Try.pinned (OpenSpec.ofChange journalAgainWrong)

/- THE SECOND FORM. 'bulk': how many values and letters a reading holds, each counted each time it is reached (what is shared counts as often as it is met; a slice's spare places count too). A statement '..UptoSaid' is the law's where the arguments, and the package variables that the reading takes, are together of bulk at most 1048576: NARROWER than '..Said'. Prove '..Said' where nothing that the law and all that it calls make is longer than what came in: it says more and counts as full. Else prove '..UptoSaid'. A law counts once. -/
mutual
def uptoBulk {H : Type} : DataW H → Nat
  | .lit (.string bytes) => bytes.length + 1
  | .lit _ => 1
  | .nil => 1
  | .ptr d => uptoBulk d + 1
  | .slice elems spare => uptoBulkAll elems + uptoBulkAll spare + 1
  | .agg parts => uptoBulkAll parts + 1
  | .iface _ d => uptoBulk d + 1
  | .map entries => uptoBulkEntries entries + 1
  | .held _ => 1
def uptoBulkAll {H : Type} : List (DataW H) → Nat
  | [] => 0
  | d :: r => uptoBulk d + uptoBulkAll r
def uptoBulkEntries {H : Type} : List (Lit × DataW H) → Nat
  | [] => 0
  | x :: r => uptoBulkEntry x + uptoBulkEntries r
def uptoBulkEntry {H : Type} : Lit × DataW H → Nat
  | (.string bytes, d) => bytes.length + uptoBulk d + 1
  | (_, d) => uptoBulk d + 1
 end
def uptoSmall : (H : Type) → List (DataW H) → Bool := fun _ ds => decide (uptoBulkAll ds ≤ 1048576)
def OpenSpec.upto (s : _root_.Go.ChangeSpec) : _root_.Go.OpenSpec := { _root_.Go.OpenSpec.ofChange s with cond := some uptoSmall }

/-- 'firkinlaw09.JournalOpens', WHERE WHAT IT READS IS OF BULK AT MOST 1048576: true; the input reads as it did. -/
def journalOpensUptoRow : OpenClaim := { program := "ytkdjefnnhanhhaa", sum := "ac6dbc9dcb8e321e56287c17d3272c27a4354f1bcce39e095b3d40aa8e302d43", func := "firkin/firkinlaw09.JournalOpens", spec := "journalOpens", unfollowed := true, recurses := true, apart := false, narrowed := true }
def JournalOpensUptoSaid : Prop := journalOpensUptoRow.holds Try.pinned (OpenSpec.upto journalOpensSpec)

/-- 'firkinlaw09.JournalLong', WHERE WHAT IT READS IS OF BULK AT MOST 1048576: true; the input reads as it did. -/
def journalLongUptoRow : OpenClaim := { program := "ytkdjefnnhanhhaa", sum := "ac6dbc9dcb8e321e56287c17d3272c27a4354f1bcce39e095b3d40aa8e302d43", func := "firkin/firkinlaw09.JournalLong", spec := "journalLong", unfollowed := true, recurses := true, apart := false, narrowed := true }
def JournalLongUptoSaid : Prop := journalLongUptoRow.holds Try.pinned (OpenSpec.upto journalLongSpec)

/-- 'firkinlaw09.JournalStops', WHERE WHAT IT READS IS OF BULK AT MOST 1048576: true; the input reads as it did. -/
def journalStopsUptoRow : OpenClaim := { program := "ytkdjefnnhanhhaa", sum := "ac6dbc9dcb8e321e56287c17d3272c27a4354f1bcce39e095b3d40aa8e302d43", func := "firkin/firkinlaw09.JournalStops", spec := "journalStops", unfollowed := true, recurses := true, apart := false, narrowed := true }
def JournalStopsUptoSaid : Prop := journalStopsUptoRow.holds Try.pinned (OpenSpec.upto journalStopsSpec)

/-- 'firkinlaw09.JournalPlays', WHERE WHAT IT READS IS OF BULK AT MOST 1048576: true; the input reads as it did. -/
def journalPlaysUptoRow : OpenClaim := { program := "ytkdjefnnhanhhaa", sum := "ac6dbc9dcb8e321e56287c17d3272c27a4354f1bcce39e095b3d40aa8e302d43", func := "firkin/firkinlaw09.JournalPlays", spec := "journalPlays", unfollowed := true, recurses := true, apart := false, narrowed := true }
def JournalPlaysUptoSaid : Prop := journalPlaysUptoRow.holds Try.pinned (OpenSpec.upto journalPlaysSpec)

/-- 'firkinlaw09.JournalKeeps', WHERE WHAT IT READS IS OF BULK AT MOST 1048576: true; the input reads as it did. -/
def journalKeepsUptoRow : OpenClaim := { program := "ytkdjefnnhanhhaa", sum := "ac6dbc9dcb8e321e56287c17d3272c27a4354f1bcce39e095b3d40aa8e302d43", func := "firkin/firkinlaw09.JournalKeeps", spec := "journalKeeps", unfollowed := true, recurses := true, apart := false, narrowed := true }
def JournalKeepsUptoSaid : Prop := journalKeepsUptoRow.holds Try.pinned (OpenSpec.upto journalKeepsSpec)

/-- 'firkinlaw09.JournalAgain', WHERE WHAT IT READS IS OF BULK AT MOST 1048576: true; the input reads as it did. -/
def journalAgainUptoRow : OpenClaim := { program := "ytkdjefnnhanhhaa", sum := "ac6dbc9dcb8e321e56287c17d3272c27a4354f1bcce39e095b3d40aa8e302d43", func := "firkin/firkinlaw09.JournalAgain", spec := "journalAgain", unfollowed := true, recurses := true, apart := false, narrowed := true }
def JournalAgainUptoSaid : Prop := journalAgainUptoRow.holds Try.pinned (OpenSpec.upto journalAgainSpec)

end Rows
end Go.Proofs.Ytkdjefnnhanhhaa
