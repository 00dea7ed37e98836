/-
  No cell of these rows narrows 'for every input' (looked for: loops, veiled, ifaces, maps, wideKeys, modest, calm, conditions, laid).
  DERIVED. THE GIVEN ROWS OF THIS SEAT. 7 by the template 'for every input the law returns true; each argument reads behind the call as it read before'; 0 by the template 'total and deterministic' (their statements: YthejhodnoanngaaTotals.lean).
  GIVEN WITH THE SEED: the statements are not yours to turn. If you find one false, say at which input.
  Laid BY PROGRAM, IN A SANDBOX (cutbox-rows.mjs): the forced cells as the released guide's own fill.sh prints them over the translation 9400405631cdbfbc… (all of the seat's roots in one cut). By AI agents, Wed Nov 11 2026. No macro, syntax, notation, axiom, sorry.
-/
import Derived.Test.YthejhodnoanngaaChecked
import GoSem.Claim
import GoSem.ClaimJoined
import GoSem.ClaimMapViews
import Derived.JoinedTies
import Derived.KernelRfl
namespace Go.Proofs.Ythejhodnoanngaa
/- THE CELL 'sum', in the pinned program and in every row, IS THE sha256 OF THE DUMP (.gsa) THAT YthejhodnoanngaaProg.lean LOADS. Nothing in Lean hashes anything: it is a label: what it is worth is what the hold of that sum in a sandbox is worth. -/
noncomputable def Try.pinned : Pinned := { name := "ythejhodnoanngaa", sum := "9400405631cdbfbc6452cafe8d46c14b8efe4daee3188a25b7b5cbf02471dde7", checked := Try.checked }
namespace Rows
def none {H : Type} : Left H := { results := [], args := [] }

/-- 'carabinerlaw08.PageScans': WHATEVER THE INPUT: true; the input reads as it did. -/
def pageScansSpec : ChangeSpec := { name := "pageScans", fn := fun _ => fun
  | [d] => { results := [.lit (.bool true)], args := [d] }
  | _ => none }
def pageScansRow : OpenClaim := { program := "ythejhodnoanngaa", sum := "9400405631cdbfbc6452cafe8d46c14b8efe4daee3188a25b7b5cbf02471dde7", func := "carabiner/carabinerlaw08.PageScans", spec := "pageScans", inPlace := ["sync/atomic.AddInt64", "sync/atomic.LoadUint32", "(*internal/sync.Mutex).Lock", "internal/race.Disable", "sync/atomic.CompareAndSwapInt32", "internal/race.Enable", "internal/race.Acquire", "(*internal/sync.Mutex).lockSlow", "internal/sync.runtime_canSpin", "internal/sync.runtime_doSpin", "internal/sync.throw", "internal/sync.runtime_nanotime", "internal/sync.runtime_SemacquireMutex", "sync/atomic.AddInt32", "(*internal/sync.Mutex).Unlock", "internal/race.ReleaseMerge", "(*internal/sync.Mutex).unlockSlow", "internal/sync.fatal", "internal/sync.runtime_Semrelease", "sync/atomic.StoreUint32"], unfollowed := true, recurses := true, apart := false }
def PageScansSaid : Prop := pageScansRow.holds Try.pinned (OpenSpec.ofChange pageScansSpec)

/-- ITS FALSE NEIGHBOUR: 'it returns false'. Refute it at one input. -/
def pageScansWrong : ChangeSpec := { name := "pageScans", fn := fun _ => fun
  | [d] => { results := [.lit (.bool false)], args := [d] }
  | _ => none }
def PageScansWrongFalsely : Prop := pageScansRow.holds Try.pinned (OpenSpec.ofChange pageScansWrong)

/-- 'carabinerlaw08.PageFull': WHATEVER THE INPUT: true; the input reads as it did. -/
def pageFullSpec : ChangeSpec := { name := "pageFull", fn := fun _ => fun
  | [d1, d2] => { results := [.lit (.bool true)], args := [d1, d2] }
  | _ => none }
def pageFullRow : OpenClaim := { program := "ythejhodnoanngaa", sum := "9400405631cdbfbc6452cafe8d46c14b8efe4daee3188a25b7b5cbf02471dde7", func := "carabiner/carabinerlaw08.PageFull", spec := "pageFull", inPlace := ["sync/atomic.AddInt64", "sync/atomic.LoadUint32", "(*internal/sync.Mutex).Lock", "internal/race.Disable", "sync/atomic.CompareAndSwapInt32", "internal/race.Enable", "internal/race.Acquire", "(*internal/sync.Mutex).lockSlow", "internal/sync.runtime_canSpin", "internal/sync.runtime_doSpin", "internal/sync.throw", "internal/sync.runtime_nanotime", "internal/sync.runtime_SemacquireMutex", "sync/atomic.AddInt32", "(*internal/sync.Mutex).Unlock", "internal/race.ReleaseMerge", "(*internal/sync.Mutex).unlockSlow", "internal/sync.fatal", "internal/sync.runtime_Semrelease", "sync/atomic.StoreUint32"], unfollowed := true, recurses := true, apart := false }
def PageFullSaid : Prop := pageFullRow.holds Try.pinned (OpenSpec.ofChange pageFullSpec)

/-- ITS FALSE NEIGHBOUR: 'it returns false'. Refute it at one input. -/
def pageFullWrong : ChangeSpec := { name := "pageFull", fn := fun _ => fun
  | [d1, d2] => { results := [.lit (.bool false)], args := [d1, d2] }
  | _ => none }
def PageFullWrongFalsely : Prop := pageFullRow.holds Try.pinned (OpenSpec.ofChange pageFullWrong)

/-- 'carabinerlaw08.PageTorn': WHATEVER THE INPUT: true; the input reads as it did. -/
def pageTornSpec : ChangeSpec := { name := "pageTorn", fn := fun _ => fun
  | [d1, d2, d3] => { results := [.lit (.bool true)], args := [d1, d2, d3] }
  | _ => none }
def pageTornRow : OpenClaim := { program := "ythejhodnoanngaa", sum := "9400405631cdbfbc6452cafe8d46c14b8efe4daee3188a25b7b5cbf02471dde7", func := "carabiner/carabinerlaw08.PageTorn", spec := "pageTorn", inPlace := ["sync/atomic.AddInt64", "sync/atomic.LoadUint32", "(*internal/sync.Mutex).Lock", "internal/race.Disable", "sync/atomic.CompareAndSwapInt32", "internal/race.Enable", "internal/race.Acquire", "(*internal/sync.Mutex).lockSlow", "internal/sync.runtime_canSpin", "internal/sync.runtime_doSpin", "internal/sync.throw", "internal/sync.runtime_nanotime", "internal/sync.runtime_SemacquireMutex", "sync/atomic.AddInt32", "(*internal/sync.Mutex).Unlock", "internal/race.ReleaseMerge", "(*internal/sync.Mutex).unlockSlow", "internal/sync.fatal", "internal/sync.runtime_Semrelease", "sync/atomic.StoreUint32"], unfollowed := true, recurses := true, apart := false }
def PageTornSaid : Prop := pageTornRow.holds Try.pinned (OpenSpec.ofChange pageTornSpec)

/-- ITS FALSE NEIGHBOUR: 'it returns false'. Refute it at one input. -/
def pageTornWrong : ChangeSpec := { name := "pageTorn", fn := fun _ => fun
  | [d1, d2, d3] => { results := [.lit (.bool false)], args := [d1, d2, d3] }
  | _ => none }
def PageTornWrongFalsely : Prop := pageTornRow.holds Try.pinned (OpenSpec.ofChange pageTornWrong)

/-- 'carabinerlaw08.PageReads': WHATEVER THE INPUT: true; the input reads as it did. -/
def pageReadsSpec : ChangeSpec := { name := "pageReads", fn := fun _ => fun
  | [d1, d2] => { results := [.lit (.bool true)], args := [d1, d2] }
  | _ => none }
def pageReadsRow : OpenClaim := { program := "ythejhodnoanngaa", sum := "9400405631cdbfbc6452cafe8d46c14b8efe4daee3188a25b7b5cbf02471dde7", func := "carabiner/carabinerlaw08.PageReads", spec := "pageReads", inPlace := ["sync/atomic.AddInt64", "sync/atomic.LoadUint32", "(*internal/sync.Mutex).Lock", "internal/race.Disable", "sync/atomic.CompareAndSwapInt32", "internal/race.Enable", "internal/race.Acquire", "(*internal/sync.Mutex).lockSlow", "internal/sync.runtime_canSpin", "internal/sync.runtime_doSpin", "internal/sync.throw", "internal/sync.runtime_nanotime", "internal/sync.runtime_SemacquireMutex", "sync/atomic.AddInt32", "(*internal/sync.Mutex).Unlock", "internal/race.ReleaseMerge", "(*internal/sync.Mutex).unlockSlow", "internal/sync.fatal", "internal/sync.runtime_Semrelease", "sync/atomic.StoreUint32"], unfollowed := true, recurses := true, apart := false }
def PageReadsSaid : Prop := pageReadsRow.holds Try.pinned (OpenSpec.ofChange pageReadsSpec)

/-- ITS FALSE NEIGHBOUR: 'it returns false'. Refute it at one input. -/
def pageReadsWrong : ChangeSpec := { name := "pageReads", fn := fun _ => fun
  | [d1, d2] => { results := [.lit (.bool false)], args := [d1, d2] }
  | _ => none }
def PageReadsWrongFalsely : Prop := pageReadsRow.holds Try.pinned (OpenSpec.ofChange pageReadsWrong)

/-- 'carabinerlaw08.PageAll': WHATEVER THE INPUT: true; the input reads as it did. -/
def pageAllSpec : ChangeSpec := { name := "pageAll", fn := fun _ => fun
  | [d1, d2] => { results := [.lit (.bool true)], args := [d1, d2] }
  | _ => none }
def pageAllRow : OpenClaim := { program := "ythejhodnoanngaa", sum := "9400405631cdbfbc6452cafe8d46c14b8efe4daee3188a25b7b5cbf02471dde7", func := "carabiner/carabinerlaw08.PageAll", spec := "pageAll", inPlace := ["sync/atomic.AddInt64", "sync/atomic.LoadUint32", "(*internal/sync.Mutex).Lock", "internal/race.Disable", "sync/atomic.CompareAndSwapInt32", "internal/race.Enable", "internal/race.Acquire", "(*internal/sync.Mutex).lockSlow", "internal/sync.runtime_canSpin", "internal/sync.runtime_doSpin", "internal/sync.throw", "internal/sync.runtime_nanotime", "internal/sync.runtime_SemacquireMutex", "sync/atomic.AddInt32", "(*internal/sync.Mutex).Unlock", "internal/race.ReleaseMerge", "(*internal/sync.Mutex).unlockSlow", "internal/sync.fatal", "internal/sync.runtime_Semrelease", "sync/atomic.StoreUint32"], unfollowed := true, recurses := true, apart := false }
def PageAllSaid : Prop := pageAllRow.holds Try.pinned (OpenSpec.ofChange pageAllSpec)

/-- ITS FALSE NEIGHBOUR: 'it returns false'. Refute it at one input. -/
def pageAllWrong : ChangeSpec := { name := "pageAll", fn := fun _ => fun
  | [d1, d2] => { results := [.lit (.bool false)], args := [d1, d2] }
  | _ => none }
def PageAllWrongFalsely : Prop := pageAllRow.holds Try.pinned (OpenSpec.ofChange pageAllWrong)

/-- 'carabinerlaw08.PageCrashes': WHATEVER THE INPUT: true; the input reads as it did. -/
def pageCrashesSpec : ChangeSpec := { name := "pageCrashes", fn := fun _ => fun
  | [d1, d2] => { results := [.lit (.bool true)], args := [d1, d2] }
  | _ => none }
def pageCrashesRow : OpenClaim := { program := "ythejhodnoanngaa", sum := "9400405631cdbfbc6452cafe8d46c14b8efe4daee3188a25b7b5cbf02471dde7", func := "carabiner/carabinerlaw08.PageCrashes", spec := "pageCrashes", inPlace := ["sync/atomic.AddInt64", "sync/atomic.LoadUint32", "(*internal/sync.Mutex).Lock", "internal/race.Disable", "sync/atomic.CompareAndSwapInt32", "internal/race.Enable", "internal/race.Acquire", "(*internal/sync.Mutex).lockSlow", "internal/sync.runtime_canSpin", "internal/sync.runtime_doSpin", "internal/sync.throw", "internal/sync.runtime_nanotime", "internal/sync.runtime_SemacquireMutex", "sync/atomic.AddInt32", "(*internal/sync.Mutex).Unlock", "internal/race.ReleaseMerge", "(*internal/sync.Mutex).unlockSlow", "internal/sync.fatal", "internal/sync.runtime_Semrelease", "sync/atomic.StoreUint32"], unfollowed := true, recurses := true, apart := false }
def PageCrashesSaid : Prop := pageCrashesRow.holds Try.pinned (OpenSpec.ofChange pageCrashesSpec)

/-- ITS FALSE NEIGHBOUR: 'it returns false'. Refute it at one input. -/
def pageCrashesWrong : ChangeSpec := { name := "pageCrashes", fn := fun _ => fun
  | [d1, d2] => { results := [.lit (.bool false)], args := [d1, d2] }
  | _ => none }
def PageCrashesWrongFalsely : Prop := pageCrashesRow.holds Try.pinned (OpenSpec.ofChange pageCrashesWrong)

/-- 'carabinerlaw08.PageAnew': WHATEVER THE INPUT: true; the input reads as it did. -/
def pageAnewSpec : ChangeSpec := { name := "pageAnew", fn := fun _ => fun
  | [d1, d2] => { results := [.lit (.bool true)], args := [d1, d2] }
  | _ => none }
def pageAnewRow : OpenClaim := { program := "ythejhodnoanngaa", sum := "9400405631cdbfbc6452cafe8d46c14b8efe4daee3188a25b7b5cbf02471dde7", func := "carabiner/carabinerlaw08.PageAnew", spec := "pageAnew", inPlace := ["sync/atomic.AddInt64", "sync/atomic.LoadUint32", "(*internal/sync.Mutex).Lock", "internal/race.Disable", "sync/atomic.CompareAndSwapInt32", "internal/race.Enable", "internal/race.Acquire", "(*internal/sync.Mutex).lockSlow", "internal/sync.runtime_canSpin", "internal/sync.runtime_doSpin", "internal/sync.throw", "internal/sync.runtime_nanotime", "internal/sync.runtime_SemacquireMutex", "sync/atomic.AddInt32", "(*internal/sync.Mutex).Unlock", "internal/race.ReleaseMerge", "(*internal/sync.Mutex).unlockSlow", "internal/sync.fatal", "internal/sync.runtime_Semrelease", "sync/atomic.StoreUint32"], unfollowed := true, recurses := true, apart := false }
def PageAnewSaid : Prop := pageAnewRow.holds Try.pinned (OpenSpec.ofChange pageAnewSpec)

/-- ITS FALSE NEIGHBOUR: 'it returns false'. Refute it at one input. -/
def pageAnewWrong : ChangeSpec := { name := "pageAnew", fn := fun _ => fun
  | [d1, d2] => { results := [.lit (.bool false)], args := [d1, d2] }
  | _ => none }
def PageAnewWrongFalsely : Prop := pageAnewRow.holds Try.pinned (OpenSpec.ofChange pageAnewWrong)

/- THE SECOND FORM. 'bulk': how many values and letters a reading holds, each counted each time it is reached (what is shared counts as often as it is met; a slice's spare places count too). A statement '..UptoSaid' is the law's where the arguments, and the package variables that the reading takes, are together of bulk at most 1048576: NARROWER than '..Said'. Prove '..Said' where nothing that the law and all that it calls make is longer than what came in: it says more and counts as full. Else prove '..UptoSaid'. A law counts once. -/
mutual
def uptoBulk {H : Type} : DataW H → Nat
  | .lit (.string bytes) => bytes.length + 1
  | .lit _ => 1
  | .nil => 1
  | .ptr d => uptoBulk d + 1
  | .slice elems spare => uptoBulkAll elems + uptoBulkAll spare + 1
  | .agg parts => uptoBulkAll parts + 1
  | .iface _ d => uptoBulk d + 1
  | .map entries => uptoBulkEntries entries + 1
  | .held _ => 1
def uptoBulkAll {H : Type} : List (DataW H) → Nat
  | [] => 0
  | d :: r => uptoBulk d + uptoBulkAll r
def uptoBulkEntries {H : Type} : List (Lit × DataW H) → Nat
  | [] => 0
  | x :: r => uptoBulkEntry x + uptoBulkEntries r
def uptoBulkEntry {H : Type} : Lit × DataW H → Nat
  | (.string bytes, d) => bytes.length + uptoBulk d + 1
  | (_, d) => uptoBulk d + 1
 end
def uptoSmall : (H : Type) → List (DataW H) → Bool := fun _ ds => decide (uptoBulkAll ds ≤ 1048576)
def OpenSpec.upto (s : _root_.Go.ChangeSpec) : _root_.Go.OpenSpec := { _root_.Go.OpenSpec.ofChange s with cond := some uptoSmall }

/-- 'carabinerlaw08.PageScans', WHERE WHAT IT READS IS OF BULK AT MOST 1048576: true; the input reads as it did. -/
def pageScansUptoRow : OpenClaim := { program := "ythejhodnoanngaa", sum := "9400405631cdbfbc6452cafe8d46c14b8efe4daee3188a25b7b5cbf02471dde7", func := "carabiner/carabinerlaw08.PageScans", spec := "pageScans", inPlace := ["sync/atomic.AddInt64", "sync/atomic.LoadUint32", "(*internal/sync.Mutex).Lock", "internal/race.Disable", "sync/atomic.CompareAndSwapInt32", "internal/race.Enable", "internal/race.Acquire", "(*internal/sync.Mutex).lockSlow", "internal/sync.runtime_canSpin", "internal/sync.runtime_doSpin", "internal/sync.throw", "internal/sync.runtime_nanotime", "internal/sync.runtime_SemacquireMutex", "sync/atomic.AddInt32", "(*internal/sync.Mutex).Unlock", "internal/race.ReleaseMerge", "(*internal/sync.Mutex).unlockSlow", "internal/sync.fatal", "internal/sync.runtime_Semrelease", "sync/atomic.StoreUint32"], unfollowed := true, recurses := true, apart := false, narrowed := true }
def PageScansUptoSaid : Prop := pageScansUptoRow.holds Try.pinned (OpenSpec.upto pageScansSpec)

/-- 'carabinerlaw08.PageFull', WHERE WHAT IT READS IS OF BULK AT MOST 1048576: true; the input reads as it did. -/
def pageFullUptoRow : OpenClaim := { program := "ythejhodnoanngaa", sum := "9400405631cdbfbc6452cafe8d46c14b8efe4daee3188a25b7b5cbf02471dde7", func := "carabiner/carabinerlaw08.PageFull", spec := "pageFull", inPlace := ["sync/atomic.AddInt64", "sync/atomic.LoadUint32", "(*internal/sync.Mutex).Lock", "internal/race.Disable", "sync/atomic.CompareAndSwapInt32", "internal/race.Enable", "internal/race.Acquire", "(*internal/sync.Mutex).lockSlow", "internal/sync.runtime_canSpin", "internal/sync.runtime_doSpin", "internal/sync.throw", "internal/sync.runtime_nanotime", "internal/sync.runtime_SemacquireMutex", "sync/atomic.AddInt32", "(*internal/sync.Mutex).Unlock", "internal/race.ReleaseMerge", "(*internal/sync.Mutex).unlockSlow", "internal/sync.fatal", "internal/sync.runtime_Semrelease", "sync/atomic.StoreUint32"], unfollowed := true, recurses := true, apart := false, narrowed := true }
def PageFullUptoSaid : Prop := pageFullUptoRow.holds Try.pinned (OpenSpec.upto pageFullSpec)

/-- 'carabinerlaw08.PageTorn', WHERE WHAT IT READS IS OF BULK AT MOST 1048576: true; the input reads as it did. -/
def pageTornUptoRow : OpenClaim := { program := "ythejhodnoanngaa", sum := "9400405631cdbfbc6452cafe8d46c14b8efe4daee3188a25b7b5cbf02471dde7", func := "carabiner/carabinerlaw08.PageTorn", spec := "pageTorn", inPlace := ["sync/atomic.AddInt64", "sync/atomic.LoadUint32", "(*internal/sync.Mutex).Lock", "internal/race.Disable", "sync/atomic.CompareAndSwapInt32", "internal/race.Enable", "internal/race.Acquire", "(*internal/sync.Mutex).lockSlow", "internal/sync.runtime_canSpin", "internal/sync.runtime_doSpin", "internal/sync.throw", "internal/sync.runtime_nanotime", "internal/sync.runtime_SemacquireMutex", "sync/atomic.AddInt32", "(*internal/sync.Mutex).Unlock", "internal/race.ReleaseMerge", "(*internal/sync.Mutex).unlockSlow", "internal/sync.fatal", "internal/sync.runtime_Semrelease", "sync/atomic.StoreUint32"], unfollowed := true, recurses := true, apart := false, narrowed := true }
def PageTornUptoSaid : Prop := pageTornUptoRow.holds Try.pinned (OpenSpec.upto pageTornSpec)

/-- 'carabinerlaw08.PageReads', WHERE WHAT IT READS IS OF BULK AT MOST 1048576: true; the input reads as it did. -/
def pageReadsUptoRow : OpenClaim := { program := "ythejhodnoanngaa", sum := "9400405631cdbfbc6452cafe8d46c14b8efe4daee3188a25b7b5cbf02471dde7", func := "carabiner/carabinerlaw08.PageReads", spec := "pageReads", inPlace := ["sync/atomic.AddInt64", "sync/atomic.LoadUint32", "(*internal/sync.Mutex).Lock", "internal/race.Disable", "sync/atomic.CompareAndSwapInt32", "internal/race.Enable", "internal/race.Acquire", "(*internal/sync.Mutex).lockSlow", "internal/sync.runtime_canSpin", "internal/sync.runtime_doSpin", "internal/sync.throw", "internal/sync.runtime_nanotime", "internal/sync.runtime_SemacquireMutex", "sync/atomic.AddInt32", "(*internal/sync.Mutex).Unlock", "internal/race.ReleaseMerge", "(*internal/sync.Mutex).unlockSlow", "internal/sync.fatal", "internal/sync.runtime_Semrelease", "sync/atomic.StoreUint32"], unfollowed := true, recurses := true, apart := false, narrowed := true }
def PageReadsUptoSaid : Prop := pageReadsUptoRow.holds Try.pinned (OpenSpec.upto pageReadsSpec)

/-- 'carabinerlaw08.PageAll', WHERE WHAT IT READS IS OF BULK AT MOST 1048576: true; the input reads as it did. -/
def pageAllUptoRow : OpenClaim := { program := "ythejhodnoanngaa", sum := "9400405631cdbfbc6452cafe8d46c14b8efe4daee3188a25b7b5cbf02471dde7", func := "carabiner/carabinerlaw08.PageAll", spec := "pageAll", inPlace := ["sync/atomic.AddInt64", "sync/atomic.LoadUint32", "(*internal/sync.Mutex).Lock", "internal/race.Disable", "sync/atomic.CompareAndSwapInt32", "internal/race.Enable", "internal/race.Acquire", "(*internal/sync.Mutex).lockSlow", "internal/sync.runtime_canSpin", "internal/sync.runtime_doSpin", "internal/sync.throw", "internal/sync.runtime_nanotime", "internal/sync.runtime_SemacquireMutex", "sync/atomic.AddInt32", "(*internal/sync.Mutex).Unlock", "internal/race.ReleaseMerge", "(*internal/sync.Mutex).unlockSlow", "internal/sync.fatal", "internal/sync.runtime_Semrelease", "sync/atomic.StoreUint32"], unfollowed := true, recurses := true, apart := false, narrowed := true }
def PageAllUptoSaid : Prop := pageAllUptoRow.holds Try.pinned (OpenSpec.upto pageAllSpec)

/-- 'carabinerlaw08.PageCrashes', WHERE WHAT IT READS IS OF BULK AT MOST 1048576: true; the input reads as it did. -/
def pageCrashesUptoRow : OpenClaim := { program := "ythejhodnoanngaa", sum := "9400405631cdbfbc6452cafe8d46c14b8efe4daee3188a25b7b5cbf02471dde7", func := "carabiner/carabinerlaw08.PageCrashes", spec := "pageCrashes", inPlace := ["sync/atomic.AddInt64", "sync/atomic.LoadUint32", "(*internal/sync.Mutex).Lock", "internal/race.Disable", "sync/atomic.CompareAndSwapInt32", "internal/race.Enable", "internal/race.Acquire", "(*internal/sync.Mutex).lockSlow", "internal/sync.runtime_canSpin", "internal/sync.runtime_doSpin", "internal/sync.throw", "internal/sync.runtime_nanotime", "internal/sync.runtime_SemacquireMutex", "sync/atomic.AddInt32", "(*internal/sync.Mutex).Unlock", "internal/race.ReleaseMerge", "(*internal/sync.Mutex).unlockSlow", "internal/sync.fatal", "internal/sync.runtime_Semrelease", "sync/atomic.StoreUint32"], unfollowed := true, recurses := true, apart := false, narrowed := true }
def PageCrashesUptoSaid : Prop := pageCrashesUptoRow.holds Try.pinned (OpenSpec.upto pageCrashesSpec)

/-- 'carabinerlaw08.PageAnew', WHERE WHAT IT READS IS OF BULK AT MOST 1048576: true; the input reads as it did. -/
def pageAnewUptoRow : OpenClaim := { program := "ythejhodnoanngaa", sum := "9400405631cdbfbc6452cafe8d46c14b8efe4daee3188a25b7b5cbf02471dde7", func := "carabiner/carabinerlaw08.PageAnew", spec := "pageAnew", inPlace := ["sync/atomic.AddInt64", "sync/atomic.LoadUint32", "(*internal/sync.Mutex).Lock", "internal/race.Disable", "sync/atomic.CompareAndSwapInt32", "internal/race.Enable", "internal/race.Acquire", "(*internal/sync.Mutex).lockSlow", "internal/sync.runtime_canSpin", "internal/sync.runtime_doSpin", "internal/sync.throw", "internal/sync.runtime_nanotime", "internal/sync.runtime_SemacquireMutex", "sync/atomic.AddInt32", "(*internal/sync.Mutex).Unlock", "internal/race.ReleaseMerge", "(*internal/sync.Mutex).unlockSlow", "internal/sync.fatal", "internal/sync.runtime_Semrelease", "sync/atomic.StoreUint32"], unfollowed := true, recurses := true, apart := false, narrowed := true }
def PageAnewUptoSaid : Prop := pageAnewUptoRow.holds Try.pinned (OpenSpec.upto pageAnewSpec)

end Rows
end Go.Proofs.Ythejhodnoanngaa
