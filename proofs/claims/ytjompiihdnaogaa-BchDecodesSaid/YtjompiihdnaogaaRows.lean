/-
  No cell of these rows narrows 'for every input' (looked for: loops, veiled, ifaces, maps, wideKeys, modest, calm, conditions, laid).
  DERIVED. THE GIVEN ROWS OF THIS SEAT. 9 by the template 'for every input the law returns true; each argument reads behind the call as it read before'; 0 by the template 'total and deterministic' (their statements: YtjompiihdnaogaaTotals.lean).
  GIVEN WITH THE SEED: the statements are not yours to turn. If you find one false, say at which input.
  Laid BY PROGRAM, IN A SANDBOX (cutbox-rows.mjs): the forced cells as the released guide's own fill.sh prints them over the translation ebfa17151634f903… (all of the seat's roots in one cut). By AI agents, Wed Nov 11 2026. No macro, syntax, notation, axiom, sorry.
-/
import Derived.Test.YtjompiihdnaogaaChecked
import GoSem.Claim
import GoSem.ClaimJoined
import GoSem.ClaimMapViews
import Derived.JoinedTies
import Derived.KernelRfl
namespace Go.Proofs.Ytjompiihdnaogaa
/- THE CELL 'sum', in the pinned program and in every row, IS THE sha256 OF THE DUMP (.gsa) THAT YtjompiihdnaogaaProg.lean LOADS. Nothing in Lean hashes anything: it is a label: what it is worth is what the hold of that sum in a sandbox is worth. -/
noncomputable def Try.pinned : Pinned := { name := "ytjompiihdnaogaa", sum := "ebfa17151634f903b9cbeab8e583aadcd80c8363e4f0e080452775cf60c4fc1c", checked := Try.checked }
namespace Rows
def none {H : Type} : Left H := { results := [], args := [] }

/-- 'firkinlaw02.BchMakes': WHATEVER THE INPUT: true; the input reads as it did. -/
def bchMakesSpec : ChangeSpec := { name := "bchMakes", fn := fun _ => fun
  | [d1, d2] => { results := [.lit (.bool true)], args := [d1, d2] }
  | _ => none }
def bchMakesRow : OpenClaim := { program := "ytjompiihdnaogaa", sum := "ebfa17151634f903b9cbeab8e583aadcd80c8363e4f0e080452775cf60c4fc1c", func := "firkin/firkinlaw02.BchMakes", spec := "bchMakes", inPlace := ["sync/atomic.LoadUint32", "(*internal/sync.Mutex).Lock", "internal/race.Disable", "sync/atomic.CompareAndSwapInt32", "internal/race.Enable", "internal/race.Acquire", "(*internal/sync.Mutex).lockSlow", "internal/sync.runtime_canSpin", "internal/sync.runtime_doSpin", "internal/sync.throw", "internal/sync.runtime_nanotime", "internal/sync.runtime_SemacquireMutex", "sync/atomic.AddInt32", "(*internal/sync.Mutex).Unlock", "internal/race.ReleaseMerge", "(*internal/sync.Mutex).unlockSlow", "internal/sync.fatal", "internal/sync.runtime_Semrelease", "sync/atomic.StoreUint32"], unfollowed := true, recurses := true, apart := false }
def BchMakesSaid : Prop := bchMakesRow.holds Try.pinned (OpenSpec.ofChange bchMakesSpec)

/-- ITS FALSE NEIGHBOUR: 'it returns false'. Refute it at one input. -/
def bchMakesWrong : ChangeSpec := { name := "bchMakes", fn := fun _ => fun
  | [d1, d2] => { results := [.lit (.bool false)], args := [d1, d2] }
  | _ => none }
def BchMakesWrongFalsely : Prop := bchMakesRow.holds Try.pinned (OpenSpec.ofChange bchMakesWrong)

/-- 'firkinlaw02.BchEncodes': WHATEVER THE INPUT: true; the input reads as it did. -/
def bchEncodesSpec : ChangeSpec := { name := "bchEncodes", fn := fun _ => fun
  | [d1, d2, d3] => { results := [.lit (.bool true)], args := [d1, d2, d3] }
  | _ => none }
def bchEncodesRow : OpenClaim := { program := "ytjompiihdnaogaa", sum := "ebfa17151634f903b9cbeab8e583aadcd80c8363e4f0e080452775cf60c4fc1c", func := "firkin/firkinlaw02.BchEncodes", spec := "bchEncodes", inPlace := ["sync/atomic.LoadUint32", "(*internal/sync.Mutex).Lock", "internal/race.Disable", "sync/atomic.CompareAndSwapInt32", "internal/race.Enable", "internal/race.Acquire", "(*internal/sync.Mutex).lockSlow", "internal/sync.runtime_canSpin", "internal/sync.runtime_doSpin", "internal/sync.throw", "internal/sync.runtime_nanotime", "internal/sync.runtime_SemacquireMutex", "sync/atomic.AddInt32", "(*internal/sync.Mutex).Unlock", "internal/race.ReleaseMerge", "(*internal/sync.Mutex).unlockSlow", "internal/sync.fatal", "internal/sync.runtime_Semrelease", "sync/atomic.StoreUint32"], unfollowed := true, recurses := true, apart := false }
def BchEncodesSaid : Prop := bchEncodesRow.holds Try.pinned (OpenSpec.ofChange bchEncodesSpec)

/-- ITS FALSE NEIGHBOUR: 'it returns false'. Refute it at one input. -/
def bchEncodesWrong : ChangeSpec := { name := "bchEncodes", fn := fun _ => fun
  | [d1, d2, d3] => { results := [.lit (.bool false)], args := [d1, d2, d3] }
  | _ => none }
def BchEncodesWrongFalsely : Prop := bchEncodesRow.holds Try.pinned (OpenSpec.ofChange bchEncodesWrong)

/-- 'firkinlaw02.BchDecodes': WHATEVER THE INPUT: true; the input reads as it did. -/
def bchDecodesSpec : ChangeSpec := { name := "bchDecodes", fn := fun _ => fun
  | [d1, d2, d3, d4] => { results := [.lit (.bool true)], args := [d1, d2, d3, d4] }
  | _ => none }
def bchDecodesRow : OpenClaim := { program := "ytjompiihdnaogaa", sum := "ebfa17151634f903b9cbeab8e583aadcd80c8363e4f0e080452775cf60c4fc1c", func := "firkin/firkinlaw02.BchDecodes", spec := "bchDecodes", inPlace := ["sync/atomic.LoadUint32", "(*internal/sync.Mutex).Lock", "internal/race.Disable", "sync/atomic.CompareAndSwapInt32", "internal/race.Enable", "internal/race.Acquire", "(*internal/sync.Mutex).lockSlow", "internal/sync.runtime_canSpin", "internal/sync.runtime_doSpin", "internal/sync.throw", "internal/sync.runtime_nanotime", "internal/sync.runtime_SemacquireMutex", "sync/atomic.AddInt32", "(*internal/sync.Mutex).Unlock", "internal/race.ReleaseMerge", "(*internal/sync.Mutex).unlockSlow", "internal/sync.fatal", "internal/sync.runtime_Semrelease", "sync/atomic.StoreUint32"], unfollowed := true, recurses := true, apart := false }
def BchDecodesSaid : Prop := bchDecodesRow.holds Try.pinned (OpenSpec.ofChange bchDecodesSpec)

/-- ITS FALSE NEIGHBOUR: 'it returns false'. Refute it at one input. -/
def bchDecodesWrong : ChangeSpec := { name := "bchDecodes", fn := fun _ => fun
  | [d1, d2, d3, d4] => { results := [.lit (.bool false)], args := [d1, d2, d3, d4] }
  | _ => none }
def BchDecodesWrongFalsely : Prop := bchDecodesRow.holds Try.pinned (OpenSpec.ofChange bchDecodesWrong)

/-- 'firkinlaw02.BchMends': WHATEVER THE INPUT: true; the input reads as it did. -/
def bchMendsSpec : ChangeSpec := { name := "bchMends", fn := fun _ => fun
  | [d1, d2, d3] => { results := [.lit (.bool true)], args := [d1, d2, d3] }
  | _ => none }
def bchMendsRow : OpenClaim := { program := "ytjompiihdnaogaa", sum := "ebfa17151634f903b9cbeab8e583aadcd80c8363e4f0e080452775cf60c4fc1c", func := "firkin/firkinlaw02.BchMends", spec := "bchMends", inPlace := ["sync/atomic.LoadUint32", "(*internal/sync.Mutex).Lock", "internal/race.Disable", "sync/atomic.CompareAndSwapInt32", "internal/race.Enable", "internal/race.Acquire", "(*internal/sync.Mutex).lockSlow", "internal/sync.runtime_canSpin", "internal/sync.runtime_doSpin", "internal/sync.throw", "internal/sync.runtime_nanotime", "internal/sync.runtime_SemacquireMutex", "sync/atomic.AddInt32", "(*internal/sync.Mutex).Unlock", "internal/race.ReleaseMerge", "(*internal/sync.Mutex).unlockSlow", "internal/sync.fatal", "internal/sync.runtime_Semrelease", "sync/atomic.StoreUint32"], unfollowed := true, recurses := true, apart := false }
def BchMendsSaid : Prop := bchMendsRow.holds Try.pinned (OpenSpec.ofChange bchMendsSpec)

/-- ITS FALSE NEIGHBOUR: 'it returns false'. Refute it at one input. -/
def bchMendsWrong : ChangeSpec := { name := "bchMends", fn := fun _ => fun
  | [d1, d2, d3] => { results := [.lit (.bool false)], args := [d1, d2, d3] }
  | _ => none }
def BchMendsWrongFalsely : Prop := bchMendsRow.holds Try.pinned (OpenSpec.ofChange bchMendsWrong)

/-- 'firkinlaw02.BchAdds': WHATEVER THE INPUT: true; the input reads as it did. -/
def bchAddsSpec : ChangeSpec := { name := "bchAdds", fn := fun _ => fun
  | [d1, d2, d3] => { results := [.lit (.bool true)], args := [d1, d2, d3] }
  | _ => none }
def bchAddsRow : OpenClaim := { program := "ytjompiihdnaogaa", sum := "ebfa17151634f903b9cbeab8e583aadcd80c8363e4f0e080452775cf60c4fc1c", func := "firkin/firkinlaw02.BchAdds", spec := "bchAdds", inPlace := ["sync/atomic.LoadUint32", "(*internal/sync.Mutex).Lock", "internal/race.Disable", "sync/atomic.CompareAndSwapInt32", "internal/race.Enable", "internal/race.Acquire", "(*internal/sync.Mutex).lockSlow", "internal/sync.runtime_canSpin", "internal/sync.runtime_doSpin", "internal/sync.throw", "internal/sync.runtime_nanotime", "internal/sync.runtime_SemacquireMutex", "sync/atomic.AddInt32", "(*internal/sync.Mutex).Unlock", "internal/race.ReleaseMerge", "(*internal/sync.Mutex).unlockSlow", "internal/sync.fatal", "internal/sync.runtime_Semrelease", "sync/atomic.StoreUint32"], unfollowed := true, recurses := true, apart := false }
def BchAddsSaid : Prop := bchAddsRow.holds Try.pinned (OpenSpec.ofChange bchAddsSpec)

/-- ITS FALSE NEIGHBOUR: 'it returns false'. Refute it at one input. -/
def bchAddsWrong : ChangeSpec := { name := "bchAdds", fn := fun _ => fun
  | [d1, d2, d3] => { results := [.lit (.bool false)], args := [d1, d2, d3] }
  | _ => none }
def BchAddsWrongFalsely : Prop := bchAddsRow.holds Try.pinned (OpenSpec.ofChange bchAddsWrong)

/-- 'firkinlaw02.BchApart': WHATEVER THE INPUT: true; the input reads as it did. -/
def bchApartSpec : ChangeSpec := { name := "bchApart", fn := fun _ => fun
  | [d1, d2, d3] => { results := [.lit (.bool true)], args := [d1, d2, d3] }
  | _ => none }
def bchApartRow : OpenClaim := { program := "ytjompiihdnaogaa", sum := "ebfa17151634f903b9cbeab8e583aadcd80c8363e4f0e080452775cf60c4fc1c", func := "firkin/firkinlaw02.BchApart", spec := "bchApart", inPlace := ["sync/atomic.LoadUint32", "(*internal/sync.Mutex).Lock", "internal/race.Disable", "sync/atomic.CompareAndSwapInt32", "internal/race.Enable", "internal/race.Acquire", "(*internal/sync.Mutex).lockSlow", "internal/sync.runtime_canSpin", "internal/sync.runtime_doSpin", "internal/sync.throw", "internal/sync.runtime_nanotime", "internal/sync.runtime_SemacquireMutex", "sync/atomic.AddInt32", "(*internal/sync.Mutex).Unlock", "internal/race.ReleaseMerge", "(*internal/sync.Mutex).unlockSlow", "internal/sync.fatal", "internal/sync.runtime_Semrelease", "sync/atomic.StoreUint32"], unfollowed := true, recurses := true, apart := false }
def BchApartSaid : Prop := bchApartRow.holds Try.pinned (OpenSpec.ofChange bchApartSpec)

/-- ITS FALSE NEIGHBOUR: 'it returns false'. Refute it at one input. -/
def bchApartWrong : ChangeSpec := { name := "bchApart", fn := fun _ => fun
  | [d1, d2, d3] => { results := [.lit (.bool false)], args := [d1, d2, d3] }
  | _ => none }
def BchApartWrongFalsely : Prop := bchApartRow.holds Try.pinned (OpenSpec.ofChange bchApartWrong)

/-- 'firkinlaw02.BchNothing': WHATEVER THE INPUT: true; the input reads as it did. -/
def bchNothingSpec : ChangeSpec := { name := "bchNothing", fn := fun _ => fun
  | [d1, d2, d3] => { results := [.lit (.bool true)], args := [d1, d2, d3] }
  | _ => none }
def bchNothingRow : OpenClaim := { program := "ytjompiihdnaogaa", sum := "ebfa17151634f903b9cbeab8e583aadcd80c8363e4f0e080452775cf60c4fc1c", func := "firkin/firkinlaw02.BchNothing", spec := "bchNothing", inPlace := ["sync/atomic.LoadUint32", "(*internal/sync.Mutex).Lock", "internal/race.Disable", "sync/atomic.CompareAndSwapInt32", "internal/race.Enable", "internal/race.Acquire", "(*internal/sync.Mutex).lockSlow", "internal/sync.runtime_canSpin", "internal/sync.runtime_doSpin", "internal/sync.throw", "internal/sync.runtime_nanotime", "internal/sync.runtime_SemacquireMutex", "sync/atomic.AddInt32", "(*internal/sync.Mutex).Unlock", "internal/race.ReleaseMerge", "(*internal/sync.Mutex).unlockSlow", "internal/sync.fatal", "internal/sync.runtime_Semrelease", "sync/atomic.StoreUint32"], unfollowed := true, recurses := true, apart := false }
def BchNothingSaid : Prop := bchNothingRow.holds Try.pinned (OpenSpec.ofChange bchNothingSpec)

/-- ITS FALSE NEIGHBOUR: 'it returns false'. Refute it at one input. -/
def bchNothingWrong : ChangeSpec := { name := "bchNothing", fn := fun _ => fun
  | [d1, d2, d3] => { results := [.lit (.bool false)], args := [d1, d2, d3] }
  | _ => none }
def BchNothingWrongFalsely : Prop := bchNothingRow.holds Try.pinned (OpenSpec.ofChange bchNothingWrong)

/-- 'firkinlaw02.BchCounts': WHATEVER THE INPUT: true; the input reads as it did. -/
def bchCountsSpec : ChangeSpec := { name := "bchCounts", fn := fun _ => fun
  | [d1, d2, d3, d4, d5] => { results := [.lit (.bool true)], args := [d1, d2, d3, d4, d5] }
  | _ => none }
def bchCountsRow : OpenClaim := { program := "ytjompiihdnaogaa", sum := "ebfa17151634f903b9cbeab8e583aadcd80c8363e4f0e080452775cf60c4fc1c", func := "firkin/firkinlaw02.BchCounts", spec := "bchCounts", inPlace := ["sync/atomic.LoadUint32", "(*internal/sync.Mutex).Lock", "internal/race.Disable", "sync/atomic.CompareAndSwapInt32", "internal/race.Enable", "internal/race.Acquire", "(*internal/sync.Mutex).lockSlow", "internal/sync.runtime_canSpin", "internal/sync.runtime_doSpin", "internal/sync.throw", "internal/sync.runtime_nanotime", "internal/sync.runtime_SemacquireMutex", "sync/atomic.AddInt32", "(*internal/sync.Mutex).Unlock", "internal/race.ReleaseMerge", "(*internal/sync.Mutex).unlockSlow", "internal/sync.fatal", "internal/sync.runtime_Semrelease", "sync/atomic.StoreUint32"], unfollowed := true, recurses := true, apart := false }
def BchCountsSaid : Prop := bchCountsRow.holds Try.pinned (OpenSpec.ofChange bchCountsSpec)

/-- ITS FALSE NEIGHBOUR: 'it returns false'. Refute it at one input. -/
def bchCountsWrong : ChangeSpec := { name := "bchCounts", fn := fun _ => fun
  | [d1, d2, d3, d4, d5] => { results := [.lit (.bool false)], args := [d1, d2, d3, d4, d5] }
  | _ => none }
def BchCountsWrongFalsely : Prop := bchCountsRow.holds Try.pinned (OpenSpec.ofChange bchCountsWrong)

/-- 'firkinlaw02.BchNoughts': WHATEVER THE INPUT: true; the input reads as it did. -/
def bchNoughtsSpec : ChangeSpec := { name := "bchNoughts", fn := fun _ => fun
  | [d1, d2] => { results := [.lit (.bool true)], args := [d1, d2] }
  | _ => none }
def bchNoughtsRow : OpenClaim := { program := "ytjompiihdnaogaa", sum := "ebfa17151634f903b9cbeab8e583aadcd80c8363e4f0e080452775cf60c4fc1c", func := "firkin/firkinlaw02.BchNoughts", spec := "bchNoughts", inPlace := ["sync/atomic.LoadUint32", "(*internal/sync.Mutex).Lock", "internal/race.Disable", "sync/atomic.CompareAndSwapInt32", "internal/race.Enable", "internal/race.Acquire", "(*internal/sync.Mutex).lockSlow", "internal/sync.runtime_canSpin", "internal/sync.runtime_doSpin", "internal/sync.throw", "internal/sync.runtime_nanotime", "internal/sync.runtime_SemacquireMutex", "sync/atomic.AddInt32", "(*internal/sync.Mutex).Unlock", "internal/race.ReleaseMerge", "(*internal/sync.Mutex).unlockSlow", "internal/sync.fatal", "internal/sync.runtime_Semrelease", "sync/atomic.StoreUint32"], unfollowed := true, recurses := true, apart := false }
def BchNoughtsSaid : Prop := bchNoughtsRow.holds Try.pinned (OpenSpec.ofChange bchNoughtsSpec)

/-- ITS FALSE NEIGHBOUR: 'it returns false'. Refute it at one input. -/
def bchNoughtsWrong : ChangeSpec := { name := "bchNoughts", fn := fun _ => fun
  | [d1, d2] => { results := [.lit (.bool false)], args := [d1, d2] }
  | _ => none }
def BchNoughtsWrongFalsely : Prop := bchNoughtsRow.holds Try.pinned (OpenSpec.ofChange bchNoughtsWrong)

/- THE SECOND FORM. 'bulk': how many values and letters a reading holds, each counted each time it is reached (what is shared counts as often as it is met; a slice's spare places count too). A statement '..UptoSaid' is the law's where the arguments, and the package variables that the reading takes, are together of bulk at most 1048576: NARROWER than '..Said'. Prove '..Said' where nothing that the law and all that it calls make is longer than what came in: it says more and counts as full. Else prove '..UptoSaid'. A law counts once. -/
mutual
def uptoBulk {H : Type} : DataW H → Nat
  | .lit (.string bytes) => bytes.length + 1
  | .lit _ => 1
  | .nil => 1
  | .ptr d => uptoBulk d + 1
  | .slice elems spare => uptoBulkAll elems + uptoBulkAll spare + 1
  | .agg parts => uptoBulkAll parts + 1
  | .iface _ d => uptoBulk d + 1
  | .map entries => uptoBulkEntries entries + 1
  | .held _ => 1
def uptoBulkAll {H : Type} : List (DataW H) → Nat
  | [] => 0
  | d :: r => uptoBulk d + uptoBulkAll r
def uptoBulkEntries {H : Type} : List (Lit × DataW H) → Nat
  | [] => 0
  | x :: r => uptoBulkEntry x + uptoBulkEntries r
def uptoBulkEntry {H : Type} : Lit × DataW H → Nat
  | (.string bytes, d) => bytes.length + uptoBulk d + 1
  | (_, d) => uptoBulk d + 1
 end
def uptoSmall : (H : Type) → List (DataW H) → Bool := fun _ ds => decide (uptoBulkAll ds ≤ 1048576)
def OpenSpec.upto (s : _root_.Go.ChangeSpec) : _root_.Go.OpenSpec := { _root_.Go.OpenSpec.ofChange s with cond := some uptoSmall }

/-- 'firkinlaw02.BchMakes', WHERE WHAT IT READS IS OF BULK AT MOST 1048576: true; the input reads as it did. -/
def bchMakesUptoRow : OpenClaim := { program := "ytjompiihdnaogaa", sum := "ebfa17151634f903b9cbeab8e583aadcd80c8363e4f0e080452775cf60c4fc1c", func := "firkin/firkinlaw02.BchMakes", spec := "bchMakes", inPlace := ["sync/atomic.LoadUint32", "(*internal/sync.Mutex).Lock", "internal/race.Disable", "sync/atomic.CompareAndSwapInt32", "internal/race.Enable", "internal/race.Acquire", "(*internal/sync.Mutex).lockSlow", "internal/sync.runtime_canSpin", "internal/sync.runtime_doSpin", "internal/sync.throw", "internal/sync.runtime_nanotime", "internal/sync.runtime_SemacquireMutex", "sync/atomic.AddInt32", "(*internal/sync.Mutex).Unlock", "internal/race.ReleaseMerge", "(*internal/sync.Mutex).unlockSlow", "internal/sync.fatal", "internal/sync.runtime_Semrelease", "sync/atomic.StoreUint32"], unfollowed := true, recurses := true, apart := false, narrowed := true }
def BchMakesUptoSaid : Prop := bchMakesUptoRow.holds Try.pinned (OpenSpec.upto bchMakesSpec)

/-- 'firkinlaw02.BchEncodes', WHERE WHAT IT READS IS OF BULK AT MOST 1048576: true; the input reads as it did. -/
def bchEncodesUptoRow : OpenClaim := { program := "ytjompiihdnaogaa", sum := "ebfa17151634f903b9cbeab8e583aadcd80c8363e4f0e080452775cf60c4fc1c", func := "firkin/firkinlaw02.BchEncodes", spec := "bchEncodes", inPlace := ["sync/atomic.LoadUint32", "(*internal/sync.Mutex).Lock", "internal/race.Disable", "sync/atomic.CompareAndSwapInt32", "internal/race.Enable", "internal/race.Acquire", "(*internal/sync.Mutex).lockSlow", "internal/sync.runtime_canSpin", "internal/sync.runtime_doSpin", "internal/sync.throw", "internal/sync.runtime_nanotime", "internal/sync.runtime_SemacquireMutex", "sync/atomic.AddInt32", "(*internal/sync.Mutex).Unlock", "internal/race.ReleaseMerge", "(*internal/sync.Mutex).unlockSlow", "internal/sync.fatal", "internal/sync.runtime_Semrelease", "sync/atomic.StoreUint32"], unfollowed := true, recurses := true, apart := false, narrowed := true }
def BchEncodesUptoSaid : Prop := bchEncodesUptoRow.holds Try.pinned (OpenSpec.upto bchEncodesSpec)

/-- 'firkinlaw02.BchDecodes', WHERE WHAT IT READS IS OF BULK AT MOST 1048576: true; the input reads as it did. -/
def bchDecodesUptoRow : OpenClaim := { program := "ytjompiihdnaogaa", sum := "ebfa17151634f903b9cbeab8e583aadcd80c8363e4f0e080452775cf60c4fc1c", func := "firkin/firkinlaw02.BchDecodes", spec := "bchDecodes", inPlace := ["sync/atomic.LoadUint32", "(*internal/sync.Mutex).Lock", "internal/race.Disable", "sync/atomic.CompareAndSwapInt32", "internal/race.Enable", "internal/race.Acquire", "(*internal/sync.Mutex).lockSlow", "internal/sync.runtime_canSpin", "internal/sync.runtime_doSpin", "internal/sync.throw", "internal/sync.runtime_nanotime", "internal/sync.runtime_SemacquireMutex", "sync/atomic.AddInt32", "(*internal/sync.Mutex).Unlock", "internal/race.ReleaseMerge", "(*internal/sync.Mutex).unlockSlow", "internal/sync.fatal", "internal/sync.runtime_Semrelease", "sync/atomic.StoreUint32"], unfollowed := true, recurses := true, apart := false, narrowed := true }
def BchDecodesUptoSaid : Prop := bchDecodesUptoRow.holds Try.pinned (OpenSpec.upto bchDecodesSpec)

/-- 'firkinlaw02.BchMends', WHERE WHAT IT READS IS OF BULK AT MOST 1048576: true; the input reads as it did. -/
def bchMendsUptoRow : OpenClaim := { program := "ytjompiihdnaogaa", sum := "ebfa17151634f903b9cbeab8e583aadcd80c8363e4f0e080452775cf60c4fc1c", func := "firkin/firkinlaw02.BchMends", spec := "bchMends", inPlace := ["sync/atomic.LoadUint32", "(*internal/sync.Mutex).Lock", "internal/race.Disable", "sync/atomic.CompareAndSwapInt32", "internal/race.Enable", "internal/race.Acquire", "(*internal/sync.Mutex).lockSlow", "internal/sync.runtime_canSpin", "internal/sync.runtime_doSpin", "internal/sync.throw", "internal/sync.runtime_nanotime", "internal/sync.runtime_SemacquireMutex", "sync/atomic.AddInt32", "(*internal/sync.Mutex).Unlock", "internal/race.ReleaseMerge", "(*internal/sync.Mutex).unlockSlow", "internal/sync.fatal", "internal/sync.runtime_Semrelease", "sync/atomic.StoreUint32"], unfollowed := true, recurses := true, apart := false, narrowed := true }
def BchMendsUptoSaid : Prop := bchMendsUptoRow.holds Try.pinned (OpenSpec.upto bchMendsSpec)

/-- 'firkinlaw02.BchAdds', WHERE WHAT IT READS IS OF BULK AT MOST 1048576: true; the input reads as it did. -/
def bchAddsUptoRow : OpenClaim := { program := "ytjompiihdnaogaa", sum := "ebfa17151634f903b9cbeab8e583aadcd80c8363e4f0e080452775cf60c4fc1c", func := "firkin/firkinlaw02.BchAdds", spec := "bchAdds", inPlace := ["sync/atomic.LoadUint32", "(*internal/sync.Mutex).Lock", "internal/race.Disable", "sync/atomic.CompareAndSwapInt32", "internal/race.Enable", "internal/race.Acquire", "(*internal/sync.Mutex).lockSlow", "internal/sync.runtime_canSpin", "internal/sync.runtime_doSpin", "internal/sync.throw", "internal/sync.runtime_nanotime", "internal/sync.runtime_SemacquireMutex", "sync/atomic.AddInt32", "(*internal/sync.Mutex).Unlock", "internal/race.ReleaseMerge", "(*internal/sync.Mutex).unlockSlow", "internal/sync.fatal", "internal/sync.runtime_Semrelease", "sync/atomic.StoreUint32"], unfollowed := true, recurses := true, apart := false, narrowed := true }
def BchAddsUptoSaid : Prop := bchAddsUptoRow.holds Try.pinned (OpenSpec.upto bchAddsSpec)

/-- 'firkinlaw02.BchApart', WHERE WHAT IT READS IS OF BULK AT MOST 1048576: true; the input reads as it did. -/
def bchApartUptoRow : OpenClaim := { program := "ytjompiihdnaogaa", sum := "ebfa17151634f903b9cbeab8e583aadcd80c8363e4f0e080452775cf60c4fc1c", func := "firkin/firkinlaw02.BchApart", spec := "bchApart", inPlace := ["sync/atomic.LoadUint32", "(*internal/sync.Mutex).Lock", "internal/race.Disable", "sync/atomic.CompareAndSwapInt32", "internal/race.Enable", "internal/race.Acquire", "(*internal/sync.Mutex).lockSlow", "internal/sync.runtime_canSpin", "internal/sync.runtime_doSpin", "internal/sync.throw", "internal/sync.runtime_nanotime", "internal/sync.runtime_SemacquireMutex", "sync/atomic.AddInt32", "(*internal/sync.Mutex).Unlock", "internal/race.ReleaseMerge", "(*internal/sync.Mutex).unlockSlow", "internal/sync.fatal", "internal/sync.runtime_Semrelease", "sync/atomic.StoreUint32"], unfollowed := true, recurses := true, apart := false, narrowed := true }
def BchApartUptoSaid : Prop := bchApartUptoRow.holds Try.pinned (OpenSpec.upto bchApartSpec)

/-- 'firkinlaw02.BchNothing', WHERE WHAT IT READS IS OF BULK AT MOST 1048576: true; the input reads as it did. -/
def bchNothingUptoRow : OpenClaim := { program := "ytjompiihdnaogaa", sum := "ebfa17151634f903b9cbeab8e583aadcd80c8363e4f0e080452775cf60c4fc1c", func := "firkin/firkinlaw02.BchNothing", spec := "bchNothing", inPlace := ["sync/atomic.LoadUint32", "(*internal/sync.Mutex).Lock", "internal/race.Disable", "sync/atomic.CompareAndSwapInt32", "internal/race.Enable", "internal/race.Acquire", "(*internal/sync.Mutex).lockSlow", "internal/sync.runtime_canSpin", "internal/sync.runtime_doSpin", "internal/sync.throw", "internal/sync.runtime_nanotime", "internal/sync.runtime_SemacquireMutex", "sync/atomic.AddInt32", "(*internal/sync.Mutex).Unlock", "internal/race.ReleaseMerge", "(*internal/sync.Mutex).unlockSlow", "internal/sync.fatal", "internal/sync.runtime_Semrelease", "sync/atomic.StoreUint32"], unfollowed := true, recurses := true, apart := false, narrowed := true }
def BchNothingUptoSaid : Prop := bchNothingUptoRow.holds Try.pinned (OpenSpec.upto bchNothingSpec)

/-- 'firkinlaw02.BchCounts', WHERE WHAT IT READS IS OF BULK AT MOST 1048576: true; the input reads as it did. -/
def bchCountsUptoRow : OpenClaim := { program := "ytjompiihdnaogaa", sum := "ebfa17151634f903b9cbeab8e583aadcd80c8363e4f0e080452775cf60c4fc1c", func := "firkin/firkinlaw02.BchCounts", spec := "bchCounts", inPlace := ["sync/atomic.LoadUint32", "(*internal/sync.Mutex).Lock", "internal/race.Disable", "sync/atomic.CompareAndSwapInt32", "internal/race.Enable", "internal/race.Acquire", "(*internal/sync.Mutex).lockSlow", "internal/sync.runtime_canSpin", "internal/sync.runtime_doSpin", "internal/sync.throw", "internal/sync.runtime_nanotime", "internal/sync.runtime_SemacquireMutex", "sync/atomic.AddInt32", "(*internal/sync.Mutex).Unlock", "internal/race.ReleaseMerge", "(*internal/sync.Mutex).unlockSlow", "internal/sync.fatal", "internal/sync.runtime_Semrelease", "sync/atomic.StoreUint32"], unfollowed := true, recurses := true, apart := false, narrowed := true }
def BchCountsUptoSaid : Prop := bchCountsUptoRow.holds Try.pinned (OpenSpec.upto bchCountsSpec)

/-- 'firkinlaw02.BchNoughts', WHERE WHAT IT READS IS OF BULK AT MOST 1048576: true; the input reads as it did. -/
def bchNoughtsUptoRow : OpenClaim := { program := "ytjompiihdnaogaa", sum := "ebfa17151634f903b9cbeab8e583aadcd80c8363e4f0e080452775cf60c4fc1c", func := "firkin/firkinlaw02.BchNoughts", spec := "bchNoughts", inPlace := ["sync/atomic.LoadUint32", "(*internal/sync.Mutex).Lock", "internal/race.Disable", "sync/atomic.CompareAndSwapInt32", "internal/race.Enable", "internal/race.Acquire", "(*internal/sync.Mutex).lockSlow", "internal/sync.runtime_canSpin", "internal/sync.runtime_doSpin", "internal/sync.throw", "internal/sync.runtime_nanotime", "internal/sync.runtime_SemacquireMutex", "sync/atomic.AddInt32", "(*internal/sync.Mutex).Unlock", "internal/race.ReleaseMerge", "(*internal/sync.Mutex).unlockSlow", "internal/sync.fatal", "internal/sync.runtime_Semrelease", "sync/atomic.StoreUint32"], unfollowed := true, recurses := true, apart := false, narrowed := true }
def BchNoughtsUptoSaid : Prop := bchNoughtsUptoRow.holds Try.pinned (OpenSpec.upto bchNoughtsSpec)

end Rows
end Go.Proofs.Ytjompiihdnaogaa
