/-
  No cell of these rows narrows 'for every input' (looked for: loops, veiled, ifaces, maps, wideKeys, modest, calm, conditions, laid).
  DERIVED. THE GIVEN ROWS OF THIS SEAT. 8 by the template 'for every input the law returns true; each argument reads behind the call as it read before'; 0 by the template 'total and deterministic' (their statements: YtpmmjgkfhbjmcaaTotals.lean).
  GIVEN WITH THE SEED: the statements are not yours to turn. If you find one false, say at which input.
  Laid BY PROGRAM, IN A SANDBOX (cutbox-rows.mjs): the forced cells as the released guide's own fill.sh prints them over the translation 5c419172f0e45f8e… (all of the seat's roots in one cut). By AI agents, Wed Nov 11 2026. No macro, syntax, notation, axiom, sorry.
-/
import Derived.Test.YtpmmjgkfhbjmcaaChecked
import GoSem.Claim
import GoSem.ClaimJoined
import GoSem.ClaimMapViews
import Derived.JoinedTies
import Derived.KernelRfl
namespace Go.Proofs.Ytpmmjgkfhbjmcaa
/- THE CELL 'sum', in the pinned program and in every row, IS THE sha256 OF THE DUMP (.gsa) THAT YtpmmjgkfhbjmcaaProg.lean LOADS. Nothing in Lean hashes anything: it is a label: what it is worth is what the hold of that sum in a sandbox is worth. -/
noncomputable def Try.pinned : Pinned := { name := "ytpmmjgkfhbjmcaa", sum := "5c419172f0e45f8e66586583b76359cb94a58081fad07b71636e445ec7791f85", checked := Try.checked }
namespace Rows
def none {H : Type} : Left H := { results := [], args := [] }

/-- 'carabinerlaw04.RecordWrites': WHATEVER THE INPUT: true; the input reads as it did. -/
def recordWritesSpec : ChangeSpec := { name := "recordWrites", fn := fun _ => fun
  | [d] => { results := [.lit (.bool true)], args := [d] }
  | _ => none }
def recordWritesRow : OpenClaim := { program := "ytpmmjgkfhbjmcaa", sum := "5c419172f0e45f8e66586583b76359cb94a58081fad07b71636e445ec7791f85", func := "carabiner/carabinerlaw04.RecordWrites", spec := "recordWrites", inPlace := ["sync/atomic.AddInt64", "sync/atomic.LoadUint32", "(*internal/sync.Mutex).Lock", "internal/race.Disable", "sync/atomic.CompareAndSwapInt32", "internal/race.Enable", "internal/race.Acquire", "(*internal/sync.Mutex).lockSlow", "internal/sync.runtime_canSpin", "internal/sync.runtime_doSpin", "internal/sync.throw", "internal/sync.runtime_nanotime", "internal/sync.runtime_SemacquireMutex", "sync/atomic.AddInt32", "(*internal/sync.Mutex).Unlock", "internal/race.ReleaseMerge", "(*internal/sync.Mutex).unlockSlow", "internal/sync.fatal", "internal/sync.runtime_Semrelease", "sync/atomic.StoreUint32"], unfollowed := true, recurses := true, apart := false }
def RecordWritesSaid : Prop := recordWritesRow.holds Try.pinned (OpenSpec.ofChange recordWritesSpec)

/-- ITS FALSE NEIGHBOUR: 'it returns false'. Refute it at one input. -/
def recordWritesWrong : ChangeSpec := { name := "recordWrites", fn := fun _ => fun
  | [d] => { results := [.lit (.bool false)], args := [d] }
  | _ => none }
def RecordWritesWrongFalsely : Prop := recordWritesRow.holds Try.pinned (OpenSpec.ofChange recordWritesWrong)

/-- 'carabinerlaw04.RecordReads': WHATEVER THE INPUT: true; the input reads as it did. -/
def recordReadsSpec : ChangeSpec := { name := "recordReads", fn := fun _ => fun
  | [d] => { results := [.lit (.bool true)], args := [d] }
  | _ => none }
def recordReadsRow : OpenClaim := { program := "ytpmmjgkfhbjmcaa", sum := "5c419172f0e45f8e66586583b76359cb94a58081fad07b71636e445ec7791f85", func := "carabiner/carabinerlaw04.RecordReads", spec := "recordReads", inPlace := ["sync/atomic.AddInt64", "sync/atomic.LoadUint32", "(*internal/sync.Mutex).Lock", "internal/race.Disable", "sync/atomic.CompareAndSwapInt32", "internal/race.Enable", "internal/race.Acquire", "(*internal/sync.Mutex).lockSlow", "internal/sync.runtime_canSpin", "internal/sync.runtime_doSpin", "internal/sync.throw", "internal/sync.runtime_nanotime", "internal/sync.runtime_SemacquireMutex", "sync/atomic.AddInt32", "(*internal/sync.Mutex).Unlock", "internal/race.ReleaseMerge", "(*internal/sync.Mutex).unlockSlow", "internal/sync.fatal", "internal/sync.runtime_Semrelease", "sync/atomic.StoreUint32"], unfollowed := true, recurses := true, apart := false }
def RecordReadsSaid : Prop := recordReadsRow.holds Try.pinned (OpenSpec.ofChange recordReadsSpec)

/-- ITS FALSE NEIGHBOUR: 'it returns false'. Refute it at one input. -/
def recordReadsWrong : ChangeSpec := { name := "recordReads", fn := fun _ => fun
  | [d] => { results := [.lit (.bool false)], args := [d] }
  | _ => none }
def RecordReadsWrongFalsely : Prop := recordReadsRow.holds Try.pinned (OpenSpec.ofChange recordReadsWrong)

/-- 'carabinerlaw04.RecordBack': WHATEVER THE INPUT: true; the input reads as it did. -/
def recordBackSpec : ChangeSpec := { name := "recordBack", fn := fun _ => fun
  | [d1, d2] => { results := [.lit (.bool true)], args := [d1, d2] }
  | _ => none }
def recordBackRow : OpenClaim := { program := "ytpmmjgkfhbjmcaa", sum := "5c419172f0e45f8e66586583b76359cb94a58081fad07b71636e445ec7791f85", func := "carabiner/carabinerlaw04.RecordBack", spec := "recordBack", inPlace := ["sync/atomic.AddInt64", "sync/atomic.LoadUint32", "(*internal/sync.Mutex).Lock", "internal/race.Disable", "sync/atomic.CompareAndSwapInt32", "internal/race.Enable", "internal/race.Acquire", "(*internal/sync.Mutex).lockSlow", "internal/sync.runtime_canSpin", "internal/sync.runtime_doSpin", "internal/sync.throw", "internal/sync.runtime_nanotime", "internal/sync.runtime_SemacquireMutex", "sync/atomic.AddInt32", "(*internal/sync.Mutex).Unlock", "internal/race.ReleaseMerge", "(*internal/sync.Mutex).unlockSlow", "internal/sync.fatal", "internal/sync.runtime_Semrelease", "sync/atomic.StoreUint32"], unfollowed := true, recurses := true, apart := false }
def RecordBackSaid : Prop := recordBackRow.holds Try.pinned (OpenSpec.ofChange recordBackSpec)

/-- ITS FALSE NEIGHBOUR: 'it returns false'. Refute it at one input. -/
def recordBackWrong : ChangeSpec := { name := "recordBack", fn := fun _ => fun
  | [d1, d2] => { results := [.lit (.bool false)], args := [d1, d2] }
  | _ => none }
def RecordBackWrongFalsely : Prop := recordBackRow.holds Try.pinned (OpenSpec.ofChange recordBackWrong)

/-- 'carabinerlaw04.RecordTurned': WHATEVER THE INPUT: true; the input reads as it did. -/
def recordTurnedSpec : ChangeSpec := { name := "recordTurned", fn := fun _ => fun
  | [d1, d2, d3] => { results := [.lit (.bool true)], args := [d1, d2, d3] }
  | _ => none }
def recordTurnedRow : OpenClaim := { program := "ytpmmjgkfhbjmcaa", sum := "5c419172f0e45f8e66586583b76359cb94a58081fad07b71636e445ec7791f85", func := "carabiner/carabinerlaw04.RecordTurned", spec := "recordTurned", inPlace := ["sync/atomic.AddInt64", "sync/atomic.LoadUint32", "(*internal/sync.Mutex).Lock", "internal/race.Disable", "sync/atomic.CompareAndSwapInt32", "internal/race.Enable", "internal/race.Acquire", "(*internal/sync.Mutex).lockSlow", "internal/sync.runtime_canSpin", "internal/sync.runtime_doSpin", "internal/sync.throw", "internal/sync.runtime_nanotime", "internal/sync.runtime_SemacquireMutex", "sync/atomic.AddInt32", "(*internal/sync.Mutex).Unlock", "internal/race.ReleaseMerge", "(*internal/sync.Mutex).unlockSlow", "internal/sync.fatal", "internal/sync.runtime_Semrelease", "sync/atomic.StoreUint32"], unfollowed := true, recurses := true, apart := false }
def RecordTurnedSaid : Prop := recordTurnedRow.holds Try.pinned (OpenSpec.ofChange recordTurnedSpec)

/-- ITS FALSE NEIGHBOUR: 'it returns false'. Refute it at one input. -/
def recordTurnedWrong : ChangeSpec := { name := "recordTurned", fn := fun _ => fun
  | [d1, d2, d3] => { results := [.lit (.bool false)], args := [d1, d2, d3] }
  | _ => none }
def RecordTurnedWrongFalsely : Prop := recordTurnedRow.holds Try.pinned (OpenSpec.ofChange recordTurnedWrong)

/-- 'carabinerlaw04.RecordOrder': WHATEVER THE INPUT: true; the input reads as it did. -/
def recordOrderSpec : ChangeSpec := { name := "recordOrder", fn := fun _ => fun
  | [d1, d2, d3] => { results := [.lit (.bool true)], args := [d1, d2, d3] }
  | _ => none }
def recordOrderRow : OpenClaim := { program := "ytpmmjgkfhbjmcaa", sum := "5c419172f0e45f8e66586583b76359cb94a58081fad07b71636e445ec7791f85", func := "carabiner/carabinerlaw04.RecordOrder", spec := "recordOrder", inPlace := ["sync/atomic.AddInt64", "sync/atomic.LoadUint32", "(*internal/sync.Mutex).Lock", "internal/race.Disable", "sync/atomic.CompareAndSwapInt32", "internal/race.Enable", "internal/race.Acquire", "(*internal/sync.Mutex).lockSlow", "internal/sync.runtime_canSpin", "internal/sync.runtime_doSpin", "internal/sync.throw", "internal/sync.runtime_nanotime", "internal/sync.runtime_SemacquireMutex", "sync/atomic.AddInt32", "(*internal/sync.Mutex).Unlock", "internal/race.ReleaseMerge", "(*internal/sync.Mutex).unlockSlow", "internal/sync.fatal", "internal/sync.runtime_Semrelease", "sync/atomic.StoreUint32"], unfollowed := true, recurses := true, apart := false }
def RecordOrderSaid : Prop := recordOrderRow.holds Try.pinned (OpenSpec.ofChange recordOrderSpec)

/-- ITS FALSE NEIGHBOUR: 'it returns false'. Refute it at one input. -/
def recordOrderWrong : ChangeSpec := { name := "recordOrder", fn := fun _ => fun
  | [d1, d2, d3] => { results := [.lit (.bool false)], args := [d1, d2, d3] }
  | _ => none }
def RecordOrderWrongFalsely : Prop := recordOrderRow.holds Try.pinned (OpenSpec.ofChange recordOrderWrong)

/-- 'carabinerlaw04.RecordUnlike': WHATEVER THE INPUT: true; the input reads as it did. -/
def recordUnlikeSpec : ChangeSpec := { name := "recordUnlike", fn := fun _ => fun
  | [d1, d2] => { results := [.lit (.bool true)], args := [d1, d2] }
  | _ => none }
def recordUnlikeRow : OpenClaim := { program := "ytpmmjgkfhbjmcaa", sum := "5c419172f0e45f8e66586583b76359cb94a58081fad07b71636e445ec7791f85", func := "carabiner/carabinerlaw04.RecordUnlike", spec := "recordUnlike", inPlace := ["sync/atomic.AddInt64", "sync/atomic.LoadUint32", "(*internal/sync.Mutex).Lock", "internal/race.Disable", "sync/atomic.CompareAndSwapInt32", "internal/race.Enable", "internal/race.Acquire", "(*internal/sync.Mutex).lockSlow", "internal/sync.runtime_canSpin", "internal/sync.runtime_doSpin", "internal/sync.throw", "internal/sync.runtime_nanotime", "internal/sync.runtime_SemacquireMutex", "sync/atomic.AddInt32", "(*internal/sync.Mutex).Unlock", "internal/race.ReleaseMerge", "(*internal/sync.Mutex).unlockSlow", "internal/sync.fatal", "internal/sync.runtime_Semrelease", "sync/atomic.StoreUint32"], unfollowed := true, recurses := true, apart := false }
def RecordUnlikeSaid : Prop := recordUnlikeRow.holds Try.pinned (OpenSpec.ofChange recordUnlikeSpec)

/-- ITS FALSE NEIGHBOUR: 'it returns false'. Refute it at one input. -/
def recordUnlikeWrong : ChangeSpec := { name := "recordUnlike", fn := fun _ => fun
  | [d1, d2] => { results := [.lit (.bool false)], args := [d1, d2] }
  | _ => none }
def RecordUnlikeWrongFalsely : Prop := recordUnlikeRow.holds Try.pinned (OpenSpec.ofChange recordUnlikeWrong)

/-- 'carabinerlaw04.RecordParts': WHATEVER THE INPUT: true; the input reads as it did. -/
def recordPartsSpec : ChangeSpec := { name := "recordParts", fn := fun _ => fun
  | [d1, d2, d3] => { results := [.lit (.bool true)], args := [d1, d2, d3] }
  | _ => none }
def recordPartsRow : OpenClaim := { program := "ytpmmjgkfhbjmcaa", sum := "5c419172f0e45f8e66586583b76359cb94a58081fad07b71636e445ec7791f85", func := "carabiner/carabinerlaw04.RecordParts", spec := "recordParts", inPlace := ["sync/atomic.AddInt64", "sync/atomic.LoadUint32", "(*internal/sync.Mutex).Lock", "internal/race.Disable", "sync/atomic.CompareAndSwapInt32", "internal/race.Enable", "internal/race.Acquire", "(*internal/sync.Mutex).lockSlow", "internal/sync.runtime_canSpin", "internal/sync.runtime_doSpin", "internal/sync.throw", "internal/sync.runtime_nanotime", "internal/sync.runtime_SemacquireMutex", "sync/atomic.AddInt32", "(*internal/sync.Mutex).Unlock", "internal/race.ReleaseMerge", "(*internal/sync.Mutex).unlockSlow", "internal/sync.fatal", "internal/sync.runtime_Semrelease", "sync/atomic.StoreUint32"], unfollowed := true, recurses := true, apart := false }
def RecordPartsSaid : Prop := recordPartsRow.holds Try.pinned (OpenSpec.ofChange recordPartsSpec)

/-- ITS FALSE NEIGHBOUR: 'it returns false'. Refute it at one input. -/
def recordPartsWrong : ChangeSpec := { name := "recordParts", fn := fun _ => fun
  | [d1, d2, d3] => { results := [.lit (.bool false)], args := [d1, d2, d3] }
  | _ => none }
def RecordPartsWrongFalsely : Prop := recordPartsRow.holds Try.pinned (OpenSpec.ofChange recordPartsWrong)

/-- 'carabinerlaw04.RecordTags': WHATEVER THE INPUT: true; the input reads as it did. -/
def recordTagsSpec : ChangeSpec := { name := "recordTags", fn := fun _ => fun
  | [d1, d2, d3] => { results := [.lit (.bool true)], args := [d1, d2, d3] }
  | _ => none }
def recordTagsRow : OpenClaim := { program := "ytpmmjgkfhbjmcaa", sum := "5c419172f0e45f8e66586583b76359cb94a58081fad07b71636e445ec7791f85", func := "carabiner/carabinerlaw04.RecordTags", spec := "recordTags", inPlace := ["sync/atomic.AddInt64", "sync/atomic.LoadUint32", "(*internal/sync.Mutex).Lock", "internal/race.Disable", "sync/atomic.CompareAndSwapInt32", "internal/race.Enable", "internal/race.Acquire", "(*internal/sync.Mutex).lockSlow", "internal/sync.runtime_canSpin", "internal/sync.runtime_doSpin", "internal/sync.throw", "internal/sync.runtime_nanotime", "internal/sync.runtime_SemacquireMutex", "sync/atomic.AddInt32", "(*internal/sync.Mutex).Unlock", "internal/race.ReleaseMerge", "(*internal/sync.Mutex).unlockSlow", "internal/sync.fatal", "internal/sync.runtime_Semrelease", "sync/atomic.StoreUint32"], unfollowed := true, recurses := true, apart := false }
def RecordTagsSaid : Prop := recordTagsRow.holds Try.pinned (OpenSpec.ofChange recordTagsSpec)

/-- ITS FALSE NEIGHBOUR: 'it returns false'. Refute it at one input. -/
def recordTagsWrong : ChangeSpec := { name := "recordTags", fn := fun _ => fun
  | [d1, d2, d3] => { results := [.lit (.bool false)], args := [d1, d2, d3] }
  | _ => none }
def RecordTagsWrongFalsely : Prop := recordTagsRow.holds Try.pinned (OpenSpec.ofChange recordTagsWrong)

/- THE SECOND FORM. 'bulk': how many values and letters a reading holds, each counted each time it is reached (what is shared counts as often as it is met; a slice's spare places count too). A statement '..UptoSaid' is the law's where the arguments, and the package variables that the reading takes, are together of bulk at most 1048576: NARROWER than '..Said'. Prove '..Said' where nothing that the law and all that it calls make is longer than what came in: it says more and counts as full. Else prove '..UptoSaid'. A law counts once. -/
mutual
def uptoBulk {H : Type} : DataW H → Nat
  | .lit (.string bytes) => bytes.length + 1
  | .lit _ => 1
  | .nil => 1
  | .ptr d => uptoBulk d + 1
  | .slice elems spare => uptoBulkAll elems + uptoBulkAll spare + 1
  | .agg parts => uptoBulkAll parts + 1
  | .iface _ d => uptoBulk d + 1
  | .map entries => uptoBulkEntries entries + 1
  | .held _ => 1
def uptoBulkAll {H : Type} : List (DataW H) → Nat
  | [] => 0
  | d :: r => uptoBulk d + uptoBulkAll r
def uptoBulkEntries {H : Type} : List (Lit × DataW H) → Nat
  | [] => 0
  | x :: r => uptoBulkEntry x + uptoBulkEntries r
def uptoBulkEntry {H : Type} : Lit × DataW H → Nat
  | (.string bytes, d) => bytes.length + uptoBulk d + 1
  | (_, d) => uptoBulk d + 1
 end
def uptoSmall : (H : Type) → List (DataW H) → Bool := fun _ ds => decide (uptoBulkAll ds ≤ 1048576)
def OpenSpec.upto (s : _root_.Go.ChangeSpec) : _root_.Go.OpenSpec := { _root_.Go.OpenSpec.ofChange s with cond := some uptoSmall }

/-- 'carabinerlaw04.RecordWrites', WHERE WHAT IT READS IS OF BULK AT MOST 1048576: true; the input reads as it did. -/
def recordWritesUptoRow : OpenClaim := { program := "ytpmmjgkfhbjmcaa", sum := "5c419172f0e45f8e66586583b76359cb94a58081fad07b71636e445ec7791f85", func := "carabiner/carabinerlaw04.RecordWrites", spec := "recordWrites", inPlace := ["sync/atomic.AddInt64", "sync/atomic.LoadUint32", "(*internal/sync.Mutex).Lock", "internal/race.Disable", "sync/atomic.CompareAndSwapInt32", "internal/race.Enable", "internal/race.Acquire", "(*internal/sync.Mutex).lockSlow", "internal/sync.runtime_canSpin", "internal/sync.runtime_doSpin", "internal/sync.throw", "internal/sync.runtime_nanotime", "internal/sync.runtime_SemacquireMutex", "sync/atomic.AddInt32", "(*internal/sync.Mutex).Unlock", "internal/race.ReleaseMerge", "(*internal/sync.Mutex).unlockSlow", "internal/sync.fatal", "internal/sync.runtime_Semrelease", "sync/atomic.StoreUint32"], unfollowed := true, recurses := true, apart := false, narrowed := true }
def RecordWritesUptoSaid : Prop := recordWritesUptoRow.holds Try.pinned (OpenSpec.upto recordWritesSpec)

/-- 'carabinerlaw04.RecordReads', WHERE WHAT IT READS IS OF BULK AT MOST 1048576: true; the input reads as it did. -/
def recordReadsUptoRow : OpenClaim := { program := "ytpmmjgkfhbjmcaa", sum := "5c419172f0e45f8e66586583b76359cb94a58081fad07b71636e445ec7791f85", func := "carabiner/carabinerlaw04.RecordReads", spec := "recordReads", inPlace := ["sync/atomic.AddInt64", "sync/atomic.LoadUint32", "(*internal/sync.Mutex).Lock", "internal/race.Disable", "sync/atomic.CompareAndSwapInt32", "internal/race.Enable", "internal/race.Acquire", "(*internal/sync.Mutex).lockSlow", "internal/sync.runtime_canSpin", "internal/sync.runtime_doSpin", "internal/sync.throw", "internal/sync.runtime_nanotime", "internal/sync.runtime_SemacquireMutex", "sync/atomic.AddInt32", "(*internal/sync.Mutex).Unlock", "internal/race.ReleaseMerge", "(*internal/sync.Mutex).unlockSlow", "internal/sync.fatal", "internal/sync.runtime_Semrelease", "sync/atomic.StoreUint32"], unfollowed := true, recurses := true, apart := false, narrowed := true }
def RecordReadsUptoSaid : Prop := recordReadsUptoRow.holds Try.pinned (OpenSpec.upto recordReadsSpec)

/-- 'carabinerlaw04.RecordBack', WHERE WHAT IT READS IS OF BULK AT MOST 1048576: true; the input reads as it did. -/
def recordBackUptoRow : OpenClaim := { program := "ytpmmjgkfhbjmcaa", sum := "5c419172f0e45f8e66586583b76359cb94a58081fad07b71636e445ec7791f85", func := "carabiner/carabinerlaw04.RecordBack", spec := "recordBack", inPlace := ["sync/atomic.AddInt64", "sync/atomic.LoadUint32", "(*internal/sync.Mutex).Lock", "internal/race.Disable", "sync/atomic.CompareAndSwapInt32", "internal/race.Enable", "internal/race.Acquire", "(*internal/sync.Mutex).lockSlow", "internal/sync.runtime_canSpin", "internal/sync.runtime_doSpin", "internal/sync.throw", "internal/sync.runtime_nanotime", "internal/sync.runtime_SemacquireMutex", "sync/atomic.AddInt32", "(*internal/sync.Mutex).Unlock", "internal/race.ReleaseMerge", "(*internal/sync.Mutex).unlockSlow", "internal/sync.fatal", "internal/sync.runtime_Semrelease", "sync/atomic.StoreUint32"], unfollowed := true, recurses := true, apart := false, narrowed := true }
def RecordBackUptoSaid : Prop := recordBackUptoRow.holds Try.pinned (OpenSpec.upto recordBackSpec)

/-- 'carabinerlaw04.RecordTurned', WHERE WHAT IT READS IS OF BULK AT MOST 1048576: true; the input reads as it did. -/
def recordTurnedUptoRow : OpenClaim := { program := "ytpmmjgkfhbjmcaa", sum := "5c419172f0e45f8e66586583b76359cb94a58081fad07b71636e445ec7791f85", func := "carabiner/carabinerlaw04.RecordTurned", spec := "recordTurned", inPlace := ["sync/atomic.AddInt64", "sync/atomic.LoadUint32", "(*internal/sync.Mutex).Lock", "internal/race.Disable", "sync/atomic.CompareAndSwapInt32", "internal/race.Enable", "internal/race.Acquire", "(*internal/sync.Mutex).lockSlow", "internal/sync.runtime_canSpin", "internal/sync.runtime_doSpin", "internal/sync.throw", "internal/sync.runtime_nanotime", "internal/sync.runtime_SemacquireMutex", "sync/atomic.AddInt32", "(*internal/sync.Mutex).Unlock", "internal/race.ReleaseMerge", "(*internal/sync.Mutex).unlockSlow", "internal/sync.fatal", "internal/sync.runtime_Semrelease", "sync/atomic.StoreUint32"], unfollowed := true, recurses := true, apart := false, narrowed := true }
def RecordTurnedUptoSaid : Prop := recordTurnedUptoRow.holds Try.pinned (OpenSpec.upto recordTurnedSpec)

/-- 'carabinerlaw04.RecordOrder', WHERE WHAT IT READS IS OF BULK AT MOST 1048576: true; the input reads as it did. -/
def recordOrderUptoRow : OpenClaim := { program := "ytpmmjgkfhbjmcaa", sum := "5c419172f0e45f8e66586583b76359cb94a58081fad07b71636e445ec7791f85", func := "carabiner/carabinerlaw04.RecordOrder", spec := "recordOrder", inPlace := ["sync/atomic.AddInt64", "sync/atomic.LoadUint32", "(*internal/sync.Mutex).Lock", "internal/race.Disable", "sync/atomic.CompareAndSwapInt32", "internal/race.Enable", "internal/race.Acquire", "(*internal/sync.Mutex).lockSlow", "internal/sync.runtime_canSpin", "internal/sync.runtime_doSpin", "internal/sync.throw", "internal/sync.runtime_nanotime", "internal/sync.runtime_SemacquireMutex", "sync/atomic.AddInt32", "(*internal/sync.Mutex).Unlock", "internal/race.ReleaseMerge", "(*internal/sync.Mutex).unlockSlow", "internal/sync.fatal", "internal/sync.runtime_Semrelease", "sync/atomic.StoreUint32"], unfollowed := true, recurses := true, apart := false, narrowed := true }
def RecordOrderUptoSaid : Prop := recordOrderUptoRow.holds Try.pinned (OpenSpec.upto recordOrderSpec)

/-- 'carabinerlaw04.RecordUnlike', WHERE WHAT IT READS IS OF BULK AT MOST 1048576: true; the input reads as it did. -/
def recordUnlikeUptoRow : OpenClaim := { program := "ytpmmjgkfhbjmcaa", sum := "5c419172f0e45f8e66586583b76359cb94a58081fad07b71636e445ec7791f85", func := "carabiner/carabinerlaw04.RecordUnlike", spec := "recordUnlike", inPlace := ["sync/atomic.AddInt64", "sync/atomic.LoadUint32", "(*internal/sync.Mutex).Lock", "internal/race.Disable", "sync/atomic.CompareAndSwapInt32", "internal/race.Enable", "internal/race.Acquire", "(*internal/sync.Mutex).lockSlow", "internal/sync.runtime_canSpin", "internal/sync.runtime_doSpin", "internal/sync.throw", "internal/sync.runtime_nanotime", "internal/sync.runtime_SemacquireMutex", "sync/atomic.AddInt32", "(*internal/sync.Mutex).Unlock", "internal/race.ReleaseMerge", "(*internal/sync.Mutex).unlockSlow", "internal/sync.fatal", "internal/sync.runtime_Semrelease", "sync/atomic.StoreUint32"], unfollowed := true, recurses := true, apart := false, narrowed := true }
def RecordUnlikeUptoSaid : Prop := recordUnlikeUptoRow.holds Try.pinned (OpenSpec.upto recordUnlikeSpec)

/-- 'carabinerlaw04.RecordParts', WHERE WHAT IT READS IS OF BULK AT MOST 1048576: true; the input reads as it did. -/
def recordPartsUptoRow : OpenClaim := { program := "ytpmmjgkfhbjmcaa", sum := "5c419172f0e45f8e66586583b76359cb94a58081fad07b71636e445ec7791f85", func := "carabiner/carabinerlaw04.RecordParts", spec := "recordParts", inPlace := ["sync/atomic.AddInt64", "sync/atomic.LoadUint32", "(*internal/sync.Mutex).Lock", "internal/race.Disable", "sync/atomic.CompareAndSwapInt32", "internal/race.Enable", "internal/race.Acquire", "(*internal/sync.Mutex).lockSlow", "internal/sync.runtime_canSpin", "internal/sync.runtime_doSpin", "internal/sync.throw", "internal/sync.runtime_nanotime", "internal/sync.runtime_SemacquireMutex", "sync/atomic.AddInt32", "(*internal/sync.Mutex).Unlock", "internal/race.ReleaseMerge", "(*internal/sync.Mutex).unlockSlow", "internal/sync.fatal", "internal/sync.runtime_Semrelease", "sync/atomic.StoreUint32"], unfollowed := true, recurses := true, apart := false, narrowed := true }
def RecordPartsUptoSaid : Prop := recordPartsUptoRow.holds Try.pinned (OpenSpec.upto recordPartsSpec)

/-- 'carabinerlaw04.RecordTags', WHERE WHAT IT READS IS OF BULK AT MOST 1048576: true; the input reads as it did. -/
def recordTagsUptoRow : OpenClaim := { program := "ytpmmjgkfhbjmcaa", sum := "5c419172f0e45f8e66586583b76359cb94a58081fad07b71636e445ec7791f85", func := "carabiner/carabinerlaw04.RecordTags", spec := "recordTags", inPlace := ["sync/atomic.AddInt64", "sync/atomic.LoadUint32", "(*internal/sync.Mutex).Lock", "internal/race.Disable", "sync/atomic.CompareAndSwapInt32", "internal/race.Enable", "internal/race.Acquire", "(*internal/sync.Mutex).lockSlow", "internal/sync.runtime_canSpin", "internal/sync.runtime_doSpin", "internal/sync.throw", "internal/sync.runtime_nanotime", "internal/sync.runtime_SemacquireMutex", "sync/atomic.AddInt32", "(*internal/sync.Mutex).Unlock", "internal/race.ReleaseMerge", "(*internal/sync.Mutex).unlockSlow", "internal/sync.fatal", "internal/sync.runtime_Semrelease", "sync/atomic.StoreUint32"], unfollowed := true, recurses := true, apart := false, narrowed := true }
def RecordTagsUptoSaid : Prop := recordTagsUptoRow.holds Try.pinned (OpenSpec.upto recordTagsSpec)

end Rows
end Go.Proofs.Ytpmmjgkfhbjmcaa
