/-
  No cell of these rows narrows 'for every input' (looked for: loops, veiled, ifaces, maps, wideKeys, modest, calm, conditions, laid).
  DERIVED. THE GIVEN ROWS OF THIS SEAT. 6 by the template 'for every input the law returns true; each argument reads behind the call as it read before'; 0 by the template 'total and deterministic' (their statements: YtoanopegoilcnaaTotals.lean).
  GIVEN WITH THE SEED: the statements are not yours to turn. If you find one false, say at which input.
  Laid BY PROGRAM, IN A SANDBOX (cutbox-rows.mjs): the forced cells as the released guide's own fill.sh prints them over the translation be36412d50e4277c… (all of the seat's roots in one cut). By AI agents, Wed Nov 11 2026. No macro, syntax, notation, axiom, sorry.
-/
import Derived.Test.YtoanopegoilcnaaChecked
import GoSem.Claim
import GoSem.ClaimJoined
import GoSem.ClaimMapViews
import Derived.JoinedTies
import Derived.KernelRfl
namespace Go.Proofs.Ytoanopegoilcnaa
/- THE CELL 'sum', in the pinned program and in every row, IS THE sha256 OF THE DUMP (.gsa) THAT YtoanopegoilcnaaProg.lean LOADS. Nothing in Lean hashes anything: it is a label: what it is worth is what the hold of that sum in a sandbox is worth. -/
noncomputable def Try.pinned : Pinned := { name := "ytoanopegoilcnaa", sum := "be36412d50e4277c79aad9f762dd51e21800b95400e404211e32b224038321e3", checked := Try.checked }
namespace Rows
def none {H : Type} : Left H := { results := [], args := [] }

/-- 'firkinlaw05.PageErased': WHATEVER THE INPUT: true; the input reads as it did. -/
def pageErasedSpec : ChangeSpec := { name := "pageErased", fn := fun _ => fun
  | [d1, d2] => { results := [.lit (.bool true)], args := [d1, d2] }
  | _ => none }
def pageErasedRow : OpenClaim := { program := "ytoanopegoilcnaa", sum := "be36412d50e4277c79aad9f762dd51e21800b95400e404211e32b224038321e3", func := "firkin/firkinlaw05.PageErased", spec := "pageErased", inPlace := ["sync/atomic.LoadUint32", "(*internal/sync.Mutex).Lock", "internal/race.Disable", "sync/atomic.CompareAndSwapInt32", "internal/race.Enable", "internal/race.Acquire", "(*internal/sync.Mutex).lockSlow", "internal/sync.runtime_canSpin", "internal/sync.runtime_doSpin", "internal/sync.throw", "internal/sync.runtime_nanotime", "internal/sync.runtime_SemacquireMutex", "sync/atomic.AddInt32", "(*internal/sync.Mutex).Unlock", "internal/race.ReleaseMerge", "(*internal/sync.Mutex).unlockSlow", "internal/sync.fatal", "internal/sync.runtime_Semrelease", "sync/atomic.StoreUint32"], unfollowed := true, recurses := true, apart := false }
def PageErasedSaid : Prop := pageErasedRow.holds Try.pinned (OpenSpec.ofChange pageErasedSpec)

/-- ITS FALSE NEIGHBOUR: 'it returns false'. Refute it at one input. -/
def pageErasedWrong : ChangeSpec := { name := "pageErased", fn := fun _ => fun
  | [d1, d2] => { results := [.lit (.bool false)], args := [d1, d2] }
  | _ => none }
def PageErasedWrongFalsely : Prop := pageErasedRow.holds Try.pinned (OpenSpec.ofChange pageErasedWrong)

/-- 'firkinlaw05.PageMends': WHATEVER THE INPUT: true; the input reads as it did. -/
def pageMendsSpec : ChangeSpec := { name := "pageMends", fn := fun _ => fun
  | [d1, d2, d3, d4] => { results := [.lit (.bool true)], args := [d1, d2, d3, d4] }
  | _ => none }
def pageMendsRow : OpenClaim := { program := "ytoanopegoilcnaa", sum := "be36412d50e4277c79aad9f762dd51e21800b95400e404211e32b224038321e3", func := "firkin/firkinlaw05.PageMends", spec := "pageMends", inPlace := ["sync/atomic.LoadUint32", "(*internal/sync.Mutex).Lock", "internal/race.Disable", "sync/atomic.CompareAndSwapInt32", "internal/race.Enable", "internal/race.Acquire", "(*internal/sync.Mutex).lockSlow", "internal/sync.runtime_canSpin", "internal/sync.runtime_doSpin", "internal/sync.throw", "internal/sync.runtime_nanotime", "internal/sync.runtime_SemacquireMutex", "sync/atomic.AddInt32", "(*internal/sync.Mutex).Unlock", "internal/race.ReleaseMerge", "(*internal/sync.Mutex).unlockSlow", "internal/sync.fatal", "internal/sync.runtime_Semrelease", "sync/atomic.StoreUint32"], unfollowed := true, recurses := true, apart := false }
def PageMendsSaid : Prop := pageMendsRow.holds Try.pinned (OpenSpec.ofChange pageMendsSpec)

/-- ITS FALSE NEIGHBOUR: 'it returns false'. Refute it at one input. -/
def pageMendsWrong : ChangeSpec := { name := "pageMends", fn := fun _ => fun
  | [d1, d2, d3, d4] => { results := [.lit (.bool false)], args := [d1, d2, d3, d4] }
  | _ => none }
def PageMendsWrongFalsely : Prop := pageMendsRow.holds Try.pinned (OpenSpec.ofChange pageMendsWrong)

/-- 'firkinlaw05.PageBound': WHATEVER THE INPUT: true; the input reads as it did. -/
def pageBoundSpec : ChangeSpec := { name := "pageBound", fn := fun _ => fun
  | [d1, d2, d3, d4, d5] => { results := [.lit (.bool true)], args := [d1, d2, d3, d4, d5] }
  | _ => none }
def pageBoundRow : OpenClaim := { program := "ytoanopegoilcnaa", sum := "be36412d50e4277c79aad9f762dd51e21800b95400e404211e32b224038321e3", func := "firkin/firkinlaw05.PageBound", spec := "pageBound", inPlace := ["sync/atomic.LoadUint32", "(*internal/sync.Mutex).Lock", "internal/race.Disable", "sync/atomic.CompareAndSwapInt32", "internal/race.Enable", "internal/race.Acquire", "(*internal/sync.Mutex).lockSlow", "internal/sync.runtime_canSpin", "internal/sync.runtime_doSpin", "internal/sync.throw", "internal/sync.runtime_nanotime", "internal/sync.runtime_SemacquireMutex", "sync/atomic.AddInt32", "(*internal/sync.Mutex).Unlock", "internal/race.ReleaseMerge", "(*internal/sync.Mutex).unlockSlow", "internal/sync.fatal", "internal/sync.runtime_Semrelease", "sync/atomic.StoreUint32"], unfollowed := true, recurses := true, apart := false }
def PageBoundSaid : Prop := pageBoundRow.holds Try.pinned (OpenSpec.ofChange pageBoundSpec)

/-- ITS FALSE NEIGHBOUR: 'it returns false'. Refute it at one input. -/
def pageBoundWrong : ChangeSpec := { name := "pageBound", fn := fun _ => fun
  | [d1, d2, d3, d4, d5] => { results := [.lit (.bool false)], args := [d1, d2, d3, d4, d5] }
  | _ => none }
def PageBoundWrongFalsely : Prop := pageBoundRow.holds Try.pinned (OpenSpec.ofChange pageBoundWrong)

/-- 'firkinlaw05.PageApart': WHATEVER THE INPUT: true; the input reads as it did. -/
def pageApartSpec : ChangeSpec := { name := "pageApart", fn := fun _ => fun
  | [d1, d2, d3, d4, d5] => { results := [.lit (.bool true)], args := [d1, d2, d3, d4, d5] }
  | _ => none }
def pageApartRow : OpenClaim := { program := "ytoanopegoilcnaa", sum := "be36412d50e4277c79aad9f762dd51e21800b95400e404211e32b224038321e3", func := "firkin/firkinlaw05.PageApart", spec := "pageApart", inPlace := ["sync/atomic.LoadUint32", "(*internal/sync.Mutex).Lock", "internal/race.Disable", "sync/atomic.CompareAndSwapInt32", "internal/race.Enable", "internal/race.Acquire", "(*internal/sync.Mutex).lockSlow", "internal/sync.runtime_canSpin", "internal/sync.runtime_doSpin", "internal/sync.throw", "internal/sync.runtime_nanotime", "internal/sync.runtime_SemacquireMutex", "sync/atomic.AddInt32", "(*internal/sync.Mutex).Unlock", "internal/race.ReleaseMerge", "(*internal/sync.Mutex).unlockSlow", "internal/sync.fatal", "internal/sync.runtime_Semrelease", "sync/atomic.StoreUint32"], unfollowed := true, recurses := true, apart := false }
def PageApartSaid : Prop := pageApartRow.holds Try.pinned (OpenSpec.ofChange pageApartSpec)

/-- ITS FALSE NEIGHBOUR: 'it returns false'. Refute it at one input. -/
def pageApartWrong : ChangeSpec := { name := "pageApart", fn := fun _ => fun
  | [d1, d2, d3, d4, d5] => { results := [.lit (.bool false)], args := [d1, d2, d3, d4, d5] }
  | _ => none }
def PageApartWrongFalsely : Prop := pageApartRow.holds Try.pinned (OpenSpec.ofChange pageApartWrong)

/-- 'firkinlaw05.PageTorn': WHATEVER THE INPUT: true; the input reads as it did. -/
def pageTornSpec : ChangeSpec := { name := "pageTorn", fn := fun _ => fun
  | [d1, d2, d3, d4, d5] => { results := [.lit (.bool true)], args := [d1, d2, d3, d4, d5] }
  | _ => none }
def pageTornRow : OpenClaim := { program := "ytoanopegoilcnaa", sum := "be36412d50e4277c79aad9f762dd51e21800b95400e404211e32b224038321e3", func := "firkin/firkinlaw05.PageTorn", spec := "pageTorn", inPlace := ["sync/atomic.LoadUint32", "(*internal/sync.Mutex).Lock", "internal/race.Disable", "sync/atomic.CompareAndSwapInt32", "internal/race.Enable", "internal/race.Acquire", "(*internal/sync.Mutex).lockSlow", "internal/sync.runtime_canSpin", "internal/sync.runtime_doSpin", "internal/sync.throw", "internal/sync.runtime_nanotime", "internal/sync.runtime_SemacquireMutex", "sync/atomic.AddInt32", "(*internal/sync.Mutex).Unlock", "internal/race.ReleaseMerge", "(*internal/sync.Mutex).unlockSlow", "internal/sync.fatal", "internal/sync.runtime_Semrelease", "sync/atomic.StoreUint32"], unfollowed := true, recurses := true, apart := false }
def PageTornSaid : Prop := pageTornRow.holds Try.pinned (OpenSpec.ofChange pageTornSpec)

/-- ITS FALSE NEIGHBOUR: 'it returns false'. Refute it at one input. -/
def pageTornWrong : ChangeSpec := { name := "pageTorn", fn := fun _ => fun
  | [d1, d2, d3, d4, d5] => { results := [.lit (.bool false)], args := [d1, d2, d3, d4, d5] }
  | _ => none }
def PageTornWrongFalsely : Prop := pageTornRow.holds Try.pinned (OpenSpec.ofChange pageTornWrong)

/-- 'firkinlaw05.PageMakes': WHATEVER THE INPUT: true; the input reads as it did. -/
def pageMakesSpec : ChangeSpec := { name := "pageMakes", fn := fun _ => fun
  | [d] => { results := [.lit (.bool true)], args := [d] }
  | _ => none }
def pageMakesRow : OpenClaim := { program := "ytoanopegoilcnaa", sum := "be36412d50e4277c79aad9f762dd51e21800b95400e404211e32b224038321e3", func := "firkin/firkinlaw05.PageMakes", spec := "pageMakes", inPlace := ["sync/atomic.LoadUint32", "(*internal/sync.Mutex).Lock", "internal/race.Disable", "sync/atomic.CompareAndSwapInt32", "internal/race.Enable", "internal/race.Acquire", "(*internal/sync.Mutex).lockSlow", "internal/sync.runtime_canSpin", "internal/sync.runtime_doSpin", "internal/sync.throw", "internal/sync.runtime_nanotime", "internal/sync.runtime_SemacquireMutex", "sync/atomic.AddInt32", "(*internal/sync.Mutex).Unlock", "internal/race.ReleaseMerge", "(*internal/sync.Mutex).unlockSlow", "internal/sync.fatal", "internal/sync.runtime_Semrelease", "sync/atomic.StoreUint32"], unfollowed := true, recurses := true, apart := false }
def PageMakesSaid : Prop := pageMakesRow.holds Try.pinned (OpenSpec.ofChange pageMakesSpec)

/-- ITS FALSE NEIGHBOUR: 'it returns false'. Refute it at one input. -/
def pageMakesWrong : ChangeSpec := { name := "pageMakes", fn := fun _ => fun
  | [d] => { results := [.lit (.bool false)], args := [d] }
  | _ => none }
def PageMakesWrongFalsely : Prop := pageMakesRow.holds Try.pinned (OpenSpec.ofChange pageMakesWrong)

/- THE SECOND FORM. 'bulk': how many values and letters a reading holds, each counted each time it is reached (what is shared counts as often as it is met; a slice's spare places count too). A statement '..UptoSaid' is the law's where the arguments, and the package variables that the reading takes, are together of bulk at most 1048576: NARROWER than '..Said'. Prove '..Said' where nothing that the law and all that it calls make is longer than what came in: it says more and counts as full. Else prove '..UptoSaid'. A law counts once. -/
mutual
def uptoBulk {H : Type} : DataW H → Nat
  | .lit (.string bytes) => bytes.length + 1
  | .lit _ => 1
  | .nil => 1
  | .ptr d => uptoBulk d + 1
  | .slice elems spare => uptoBulkAll elems + uptoBulkAll spare + 1
  | .agg parts => uptoBulkAll parts + 1
  | .iface _ d => uptoBulk d + 1
  | .map entries => uptoBulkEntries entries + 1
  | .held _ => 1
def uptoBulkAll {H : Type} : List (DataW H) → Nat
  | [] => 0
  | d :: r => uptoBulk d + uptoBulkAll r
def uptoBulkEntries {H : Type} : List (Lit × DataW H) → Nat
  | [] => 0
  | x :: r => uptoBulkEntry x + uptoBulkEntries r
def uptoBulkEntry {H : Type} : Lit × DataW H → Nat
  | (.string bytes, d) => bytes.length + uptoBulk d + 1
  | (_, d) => uptoBulk d + 1
 end
def uptoSmall : (H : Type) → List (DataW H) → Bool := fun _ ds => decide (uptoBulkAll ds ≤ 1048576)
def OpenSpec.upto (s : _root_.Go.ChangeSpec) : _root_.Go.OpenSpec := { _root_.Go.OpenSpec.ofChange s with cond := some uptoSmall }

/-- 'firkinlaw05.PageErased', WHERE WHAT IT READS IS OF BULK AT MOST 1048576: true; the input reads as it did. -/
def pageErasedUptoRow : OpenClaim := { program := "ytoanopegoilcnaa", sum := "be36412d50e4277c79aad9f762dd51e21800b95400e404211e32b224038321e3", func := "firkin/firkinlaw05.PageErased", spec := "pageErased", inPlace := ["sync/atomic.LoadUint32", "(*internal/sync.Mutex).Lock", "internal/race.Disable", "sync/atomic.CompareAndSwapInt32", "internal/race.Enable", "internal/race.Acquire", "(*internal/sync.Mutex).lockSlow", "internal/sync.runtime_canSpin", "internal/sync.runtime_doSpin", "internal/sync.throw", "internal/sync.runtime_nanotime", "internal/sync.runtime_SemacquireMutex", "sync/atomic.AddInt32", "(*internal/sync.Mutex).Unlock", "internal/race.ReleaseMerge", "(*internal/sync.Mutex).unlockSlow", "internal/sync.fatal", "internal/sync.runtime_Semrelease", "sync/atomic.StoreUint32"], unfollowed := true, recurses := true, apart := false, narrowed := true }
def PageErasedUptoSaid : Prop := pageErasedUptoRow.holds Try.pinned (OpenSpec.upto pageErasedSpec)

/-- 'firkinlaw05.PageMends', WHERE WHAT IT READS IS OF BULK AT MOST 1048576: true; the input reads as it did. -/
def pageMendsUptoRow : OpenClaim := { program := "ytoanopegoilcnaa", sum := "be36412d50e4277c79aad9f762dd51e21800b95400e404211e32b224038321e3", func := "firkin/firkinlaw05.PageMends", spec := "pageMends", inPlace := ["sync/atomic.LoadUint32", "(*internal/sync.Mutex).Lock", "internal/race.Disable", "sync/atomic.CompareAndSwapInt32", "internal/race.Enable", "internal/race.Acquire", "(*internal/sync.Mutex).lockSlow", "internal/sync.runtime_canSpin", "internal/sync.runtime_doSpin", "internal/sync.throw", "internal/sync.runtime_nanotime", "internal/sync.runtime_SemacquireMutex", "sync/atomic.AddInt32", "(*internal/sync.Mutex).Unlock", "internal/race.ReleaseMerge", "(*internal/sync.Mutex).unlockSlow", "internal/sync.fatal", "internal/sync.runtime_Semrelease", "sync/atomic.StoreUint32"], unfollowed := true, recurses := true, apart := false, narrowed := true }
def PageMendsUptoSaid : Prop := pageMendsUptoRow.holds Try.pinned (OpenSpec.upto pageMendsSpec)

/-- 'firkinlaw05.PageBound', WHERE WHAT IT READS IS OF BULK AT MOST 1048576: true; the input reads as it did. -/
def pageBoundUptoRow : OpenClaim := { program := "ytoanopegoilcnaa", sum := "be36412d50e4277c79aad9f762dd51e21800b95400e404211e32b224038321e3", func := "firkin/firkinlaw05.PageBound", spec := "pageBound", inPlace := ["sync/atomic.LoadUint32", "(*internal/sync.Mutex).Lock", "internal/race.Disable", "sync/atomic.CompareAndSwapInt32", "internal/race.Enable", "internal/race.Acquire", "(*internal/sync.Mutex).lockSlow", "internal/sync.runtime_canSpin", "internal/sync.runtime_doSpin", "internal/sync.throw", "internal/sync.runtime_nanotime", "internal/sync.runtime_SemacquireMutex", "sync/atomic.AddInt32", "(*internal/sync.Mutex).Unlock", "internal/race.ReleaseMerge", "(*internal/sync.Mutex).unlockSlow", "internal/sync.fatal", "internal/sync.runtime_Semrelease", "sync/atomic.StoreUint32"], unfollowed := true, recurses := true, apart := false, narrowed := true }
def PageBoundUptoSaid : Prop := pageBoundUptoRow.holds Try.pinned (OpenSpec.upto pageBoundSpec)

/-- 'firkinlaw05.PageApart', WHERE WHAT IT READS IS OF BULK AT MOST 1048576: true; the input reads as it did. -/
def pageApartUptoRow : OpenClaim := { program := "ytoanopegoilcnaa", sum := "be36412d50e4277c79aad9f762dd51e21800b95400e404211e32b224038321e3", func := "firkin/firkinlaw05.PageApart", spec := "pageApart", inPlace := ["sync/atomic.LoadUint32", "(*internal/sync.Mutex).Lock", "internal/race.Disable", "sync/atomic.CompareAndSwapInt32", "internal/race.Enable", "internal/race.Acquire", "(*internal/sync.Mutex).lockSlow", "internal/sync.runtime_canSpin", "internal/sync.runtime_doSpin", "internal/sync.throw", "internal/sync.runtime_nanotime", "internal/sync.runtime_SemacquireMutex", "sync/atomic.AddInt32", "(*internal/sync.Mutex).Unlock", "internal/race.ReleaseMerge", "(*internal/sync.Mutex).unlockSlow", "internal/sync.fatal", "internal/sync.runtime_Semrelease", "sync/atomic.StoreUint32"], unfollowed := true, recurses := true, apart := false, narrowed := true }
def PageApartUptoSaid : Prop := pageApartUptoRow.holds Try.pinned (OpenSpec.upto pageApartSpec)

/-- 'firkinlaw05.PageTorn', WHERE WHAT IT READS IS OF BULK AT MOST 1048576: true; the input reads as it did. -/
def pageTornUptoRow : OpenClaim := { program := "ytoanopegoilcnaa", sum := "be36412d50e4277c79aad9f762dd51e21800b95400e404211e32b224038321e3", func := "firkin/firkinlaw05.PageTorn", spec := "pageTorn", inPlace := ["sync/atomic.LoadUint32", "(*internal/sync.Mutex).Lock", "internal/race.Disable", "sync/atomic.CompareAndSwapInt32", "internal/race.Enable", "internal/race.Acquire", "(*internal/sync.Mutex).lockSlow", "internal/sync.runtime_canSpin", "internal/sync.runtime_doSpin", "internal/sync.throw", "internal/sync.runtime_nanotime", "internal/sync.runtime_SemacquireMutex", "sync/atomic.AddInt32", "(*internal/sync.Mutex).Unlock", "internal/race.ReleaseMerge", "(*internal/sync.Mutex).unlockSlow", "internal/sync.fatal", "internal/sync.runtime_Semrelease", "sync/atomic.StoreUint32"], unfollowed := true, recurses := true, apart := false, narrowed := true }
def PageTornUptoSaid : Prop := pageTornUptoRow.holds Try.pinned (OpenSpec.upto pageTornSpec)

/-- 'firkinlaw05.PageMakes', WHERE WHAT IT READS IS OF BULK AT MOST 1048576: true; the input reads as it did. -/
def pageMakesUptoRow : OpenClaim := { program := "ytoanopegoilcnaa", sum := "be36412d50e4277c79aad9f762dd51e21800b95400e404211e32b224038321e3", func := "firkin/firkinlaw05.PageMakes", spec := "pageMakes", inPlace := ["sync/atomic.LoadUint32", "(*internal/sync.Mutex).Lock", "internal/race.Disable", "sync/atomic.CompareAndSwapInt32", "internal/race.Enable", "internal/race.Acquire", "(*internal/sync.Mutex).lockSlow", "internal/sync.runtime_canSpin", "internal/sync.runtime_doSpin", "internal/sync.throw", "internal/sync.runtime_nanotime", "internal/sync.runtime_SemacquireMutex", "sync/atomic.AddInt32", "(*internal/sync.Mutex).Unlock", "internal/race.ReleaseMerge", "(*internal/sync.Mutex).unlockSlow", "internal/sync.fatal", "internal/sync.runtime_Semrelease", "sync/atomic.StoreUint32"], unfollowed := true, recurses := true, apart := false, narrowed := true }
def PageMakesUptoSaid : Prop := pageMakesUptoRow.holds Try.pinned (OpenSpec.upto pageMakesSpec)

end Rows
end Go.Proofs.Ytoanopegoilcnaa
