/-
  No cell of these rows narrows 'for every input' (looked for: loops, veiled, ifaces, maps, wideKeys, modest, calm, conditions, laid).
  DERIVED. THE GIVEN ROWS OF THIS SEAT. 4 by the template 'for every input the law returns true; each argument reads behind the call as it read before'; 0 by the template 'total and deterministic' (their statements: YtboonpfdlbedoaaTotals.lean).
  GIVEN WITH THE SEED: the statements are not yours to turn. If you find one false, say at which input.
  Laid BY PROGRAM, IN A SANDBOX (cutbox-rows.mjs): the forced cells as the released guide's own fill.sh prints them over the translation 75008b3da0bf0c33… (all of the seat's roots in one cut). By AI agents, Wed Nov 11 2026. No macro, syntax, notation, axiom, sorry.
-/
import Derived.Test.YtboonpfdlbedoaaChecked
import GoSem.Claim
import GoSem.ClaimJoined
import GoSem.ClaimMapViews
import Derived.JoinedTies
import Derived.KernelRfl
namespace Go.Proofs.Ytboonpfdlbedoaa
/- THE CELL 'sum', in the pinned program and in every row, IS THE sha256 OF THE DUMP (.gsa) THAT YtboonpfdlbedoaaProg.lean LOADS. Nothing in Lean hashes anything: it is a label: what it is worth is what the hold of that sum in a sandbox is worth. -/
noncomputable def Try.pinned : Pinned := { name := "ytboonpfdlbedoaa", sum := "75008b3da0bf0c33cd28ec77f392b9fed2914c9de84c936c75f085b2178a5f02", checked := Try.checked }
namespace Rows
def none {H : Type} : Left H := { results := [], args := [] }

/-- 'firkinlaw19.HistoryPlays': WHATEVER THE INPUT: true; the input reads as it did. -/
def historyPlaysSpec : ChangeSpec := { name := "historyPlays", fn := fun _ => fun
  | [d1, d2] => { results := [.lit (.bool true)], args := [d1, d2] }
  | _ => none }
def historyPlaysRow : OpenClaim := { program := "ytboonpfdlbedoaa", sum := "75008b3da0bf0c33cd28ec77f392b9fed2914c9de84c936c75f085b2178a5f02", func := "firkin/firkinlaw19.HistoryPlays", spec := "historyPlays", inPlace := ["maps.clone"], unfollowed := true, recurses := true, apart := false }
def HistoryPlaysSaid : Prop := historyPlaysRow.holds Try.pinned (OpenSpec.ofChange historyPlaysSpec)

/-- ITS FALSE NEIGHBOUR: 'it returns false'. Refute it at one input. -/
def historyPlaysWrong : ChangeSpec := { name := "historyPlays", fn := fun _ => fun
  | [d1, d2] => { results := [.lit (.bool false)], args := [d1, d2] }
  | _ => none }
def HistoryPlaysWrongFalsely : Prop := historyPlaysRow.holds Try.pinned (OpenSpec.ofChange historyPlaysWrong)

/-- 'firkinlaw19.HistoryKeeps': WHATEVER THE INPUT: true; the input reads as it did. -/
def historyKeepsSpec : ChangeSpec := { name := "historyKeeps", fn := fun _ => fun
  | [d1, d2, d3, d4, d5] => { results := [.lit (.bool true)], args := [d1, d2, d3, d4, d5] }
  | _ => none }
def historyKeepsRow : OpenClaim := { program := "ytboonpfdlbedoaa", sum := "75008b3da0bf0c33cd28ec77f392b9fed2914c9de84c936c75f085b2178a5f02", func := "firkin/firkinlaw19.HistoryKeeps", spec := "historyKeeps", inPlace := ["maps.clone"], unfollowed := true, recurses := true, apart := false }
def HistoryKeepsSaid : Prop := historyKeepsRow.holds Try.pinned (OpenSpec.ofChange historyKeepsSpec)

/-- ITS FALSE NEIGHBOUR: 'it returns false'. Refute it at one input. -/
def historyKeepsWrong : ChangeSpec := { name := "historyKeeps", fn := fun _ => fun
  | [d1, d2, d3, d4, d5] => { results := [.lit (.bool false)], args := [d1, d2, d3, d4, d5] }
  | _ => none }
def HistoryKeepsWrongFalsely : Prop := historyKeepsRow.holds Try.pinned (OpenSpec.ofChange historyKeepsWrong)

/-- 'firkinlaw19.HistoryNever': WHATEVER THE INPUT: true; the input reads as it did. -/
def historyNeverSpec : ChangeSpec := { name := "historyNever", fn := fun _ => fun
  | [d1, d2] => { results := [.lit (.bool true)], args := [d1, d2] }
  | _ => none }
def historyNeverRow : OpenClaim := { program := "ytboonpfdlbedoaa", sum := "75008b3da0bf0c33cd28ec77f392b9fed2914c9de84c936c75f085b2178a5f02", func := "firkin/firkinlaw19.HistoryNever", spec := "historyNever", inPlace := ["maps.clone"], unfollowed := true, recurses := true, apart := false }
def HistoryNeverSaid : Prop := historyNeverRow.holds Try.pinned (OpenSpec.ofChange historyNeverSpec)

/-- ITS FALSE NEIGHBOUR: 'it returns false'. Refute it at one input. -/
def historyNeverWrong : ChangeSpec := { name := "historyNever", fn := fun _ => fun
  | [d1, d2] => { results := [.lit (.bool false)], args := [d1, d2] }
  | _ => none }
def HistoryNeverWrongFalsely : Prop := historyNeverRow.holds Try.pinned (OpenSpec.ofChange historyNeverWrong)

/-- 'firkinlaw19.HistoryCuts': WHATEVER THE INPUT: true; the input reads as it did. -/
def historyCutsSpec : ChangeSpec := { name := "historyCuts", fn := fun _ => fun
  | [d1, d2] => { results := [.lit (.bool true)], args := [d1, d2] }
  | _ => none }
def historyCutsRow : OpenClaim := { program := "ytboonpfdlbedoaa", sum := "75008b3da0bf0c33cd28ec77f392b9fed2914c9de84c936c75f085b2178a5f02", func := "firkin/firkinlaw19.HistoryCuts", spec := "historyCuts", inPlace := ["maps.clone"], unfollowed := true, recurses := true, apart := false }
def HistoryCutsSaid : Prop := historyCutsRow.holds Try.pinned (OpenSpec.ofChange historyCutsSpec)

/-- ITS FALSE NEIGHBOUR: 'it returns false'. Refute it at one input. -/
def historyCutsWrong : ChangeSpec := { name := "historyCuts", fn := fun _ => fun
  | [d1, d2] => { results := [.lit (.bool false)], args := [d1, d2] }
  | _ => none }
def HistoryCutsWrongFalsely : Prop := historyCutsRow.holds Try.pinned (OpenSpec.ofChange historyCutsWrong)

/- THE SECOND FORM. 'bulk': how many values and letters a reading holds, each counted each time it is reached (what is shared counts as often as it is met; a slice's spare places count too). A statement '..UptoSaid' is the law's where the arguments, and the package variables that the reading takes, are together of bulk at most 1048576: NARROWER than '..Said'. Prove '..Said' where nothing that the law and all that it calls make is longer than what came in: it says more and counts as full. Else prove '..UptoSaid'. A law counts once. -/
mutual
def uptoBulk {H : Type} : DataW H → Nat
  | .lit (.string bytes) => bytes.length + 1
  | .lit _ => 1
  | .nil => 1
  | .ptr d => uptoBulk d + 1
  | .slice elems spare => uptoBulkAll elems + uptoBulkAll spare + 1
  | .agg parts => uptoBulkAll parts + 1
  | .iface _ d => uptoBulk d + 1
  | .map entries => uptoBulkEntries entries + 1
  | .held _ => 1
def uptoBulkAll {H : Type} : List (DataW H) → Nat
  | [] => 0
  | d :: r => uptoBulk d + uptoBulkAll r
def uptoBulkEntries {H : Type} : List (Lit × DataW H) → Nat
  | [] => 0
  | x :: r => uptoBulkEntry x + uptoBulkEntries r
def uptoBulkEntry {H : Type} : Lit × DataW H → Nat
  | (.string bytes, d) => bytes.length + uptoBulk d + 1
  | (_, d) => uptoBulk d + 1
 end
def uptoSmall : (H : Type) → List (DataW H) → Bool := fun _ ds => decide (uptoBulkAll ds ≤ 1048576)
def OpenSpec.upto (s : _root_.Go.ChangeSpec) : _root_.Go.OpenSpec := { _root_.Go.OpenSpec.ofChange s with cond := some uptoSmall }

/-- 'firkinlaw19.HistoryPlays', WHERE WHAT IT READS IS OF BULK AT MOST 1048576: true; the input reads as it did. -/
def historyPlaysUptoRow : OpenClaim := { program := "ytboonpfdlbedoaa", sum := "75008b3da0bf0c33cd28ec77f392b9fed2914c9de84c936c75f085b2178a5f02", func := "firkin/firkinlaw19.HistoryPlays", spec := "historyPlays", inPlace := ["maps.clone"], unfollowed := true, recurses := true, apart := false, narrowed := true }
def HistoryPlaysUptoSaid : Prop := historyPlaysUptoRow.holds Try.pinned (OpenSpec.upto historyPlaysSpec)

/-- 'firkinlaw19.HistoryKeeps', WHERE WHAT IT READS IS OF BULK AT MOST 1048576: true; the input reads as it did. -/
def historyKeepsUptoRow : OpenClaim := { program := "ytboonpfdlbedoaa", sum := "75008b3da0bf0c33cd28ec77f392b9fed2914c9de84c936c75f085b2178a5f02", func := "firkin/firkinlaw19.HistoryKeeps", spec := "historyKeeps", inPlace := ["maps.clone"], unfollowed := true, recurses := true, apart := false, narrowed := true }
def HistoryKeepsUptoSaid : Prop := historyKeepsUptoRow.holds Try.pinned (OpenSpec.upto historyKeepsSpec)

/-- 'firkinlaw19.HistoryNever', WHERE WHAT IT READS IS OF BULK AT MOST 1048576: true; the input reads as it did. -/
def historyNeverUptoRow : OpenClaim := { program := "ytboonpfdlbedoaa", sum := "75008b3da0bf0c33cd28ec77f392b9fed2914c9de84c936c75f085b2178a5f02", func := "firkin/firkinlaw19.HistoryNever", spec := "historyNever", inPlace := ["maps.clone"], unfollowed := true, recurses := true, apart := false, narrowed := true }
def HistoryNeverUptoSaid : Prop := historyNeverUptoRow.holds Try.pinned (OpenSpec.upto historyNeverSpec)

/-- 'firkinlaw19.HistoryCuts', WHERE WHAT IT READS IS OF BULK AT MOST 1048576: true; the input reads as it did. -/
def historyCutsUptoRow : OpenClaim := { program := "ytboonpfdlbedoaa", sum := "75008b3da0bf0c33cd28ec77f392b9fed2914c9de84c936c75f085b2178a5f02", func := "firkin/firkinlaw19.HistoryCuts", spec := "historyCuts", inPlace := ["maps.clone"], unfollowed := true, recurses := true, apart := false, narrowed := true }
def HistoryCutsUptoSaid : Prop := historyCutsUptoRow.holds Try.pinned (OpenSpec.upto historyCutsSpec)

end Rows
end Go.Proofs.Ytboonpfdlbedoaa
