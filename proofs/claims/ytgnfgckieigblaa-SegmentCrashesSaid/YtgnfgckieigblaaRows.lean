/-
  No cell of these rows narrows 'for every input' (looked for: loops, veiled, ifaces, maps, wideKeys, modest, calm, conditions, laid).
  DERIVED. THE GIVEN ROWS OF THIS SEAT. 5 by the template 'for every input the law returns true; each argument reads behind the call as it read before'; 0 by the template 'total and deterministic' (their statements: YtgnfgckieigblaaTotals.lean).
  GIVEN WITH THE SEED: the statements are not yours to turn. If you find one false, say at which input.
  Laid BY PROGRAM, IN A SANDBOX (cutbox-rows.mjs): the forced cells as the released guide's own fill.sh prints them over the translation d473d2e6f9543830… (all of the seat's roots in one cut). By AI agents, Wed Nov 11 2026. No macro, syntax, notation, axiom, sorry.
-/
import Derived.Test.YtgnfgckieigblaaChecked
import GoSem.Claim
import GoSem.ClaimJoined
import GoSem.ClaimMapViews
import Derived.JoinedTies
import Derived.KernelRfl
namespace Go.Proofs.Ytgnfgckieigblaa
/- THE CELL 'sum', in the pinned program and in every row, IS THE sha256 OF THE DUMP (.gsa) THAT YtgnfgckieigblaaProg.lean LOADS. Nothing in Lean hashes anything: it is a label: what it is worth is what the hold of that sum in a sandbox is worth. -/
noncomputable def Try.pinned : Pinned := { name := "ytgnfgckieigblaa", sum := "d473d2e6f954383018074ebcfd5ea755022ba35714c8c0157eaaa2c0594d6727", checked := Try.checked }
namespace Rows
def none {H : Type} : Left H := { results := [], args := [] }

/-- 'carabinerlaw09.SegmentFull': WHATEVER THE INPUT: true; the input reads as it did. -/
def segmentFullSpec : ChangeSpec := { name := "segmentFull", fn := fun _ => fun
  | [d1, d2] => { results := [.lit (.bool true)], args := [d1, d2] }
  | _ => none }
def segmentFullRow : OpenClaim := { program := "ytgnfgckieigblaa", sum := "d473d2e6f954383018074ebcfd5ea755022ba35714c8c0157eaaa2c0594d6727", func := "carabiner/carabinerlaw09.SegmentFull", spec := "segmentFull", inPlace := ["sync/atomic.AddInt64", "sync/atomic.LoadUint32", "(*internal/sync.Mutex).Lock", "internal/race.Disable", "sync/atomic.CompareAndSwapInt32", "internal/race.Enable", "internal/race.Acquire", "(*internal/sync.Mutex).lockSlow", "internal/sync.runtime_canSpin", "internal/sync.runtime_doSpin", "internal/sync.throw", "internal/sync.runtime_nanotime", "internal/sync.runtime_SemacquireMutex", "sync/atomic.AddInt32", "(*internal/sync.Mutex).Unlock", "internal/race.ReleaseMerge", "(*internal/sync.Mutex).unlockSlow", "internal/sync.fatal", "internal/sync.runtime_Semrelease", "sync/atomic.StoreUint32"], unfollowed := true, recurses := true, apart := false }
def SegmentFullSaid : Prop := segmentFullRow.holds Try.pinned (OpenSpec.ofChange segmentFullSpec)

/-- ITS FALSE NEIGHBOUR: 'it returns false'. Refute it at one input. -/
def segmentFullWrong : ChangeSpec := { name := "segmentFull", fn := fun _ => fun
  | [d1, d2] => { results := [.lit (.bool false)], args := [d1, d2] }
  | _ => none }
def SegmentFullWrongFalsely : Prop := segmentFullRow.holds Try.pinned (OpenSpec.ofChange segmentFullWrong)

/-- 'carabinerlaw09.SegmentTrims': WHATEVER THE INPUT: true; the input reads as it did. -/
def segmentTrimsSpec : ChangeSpec := { name := "segmentTrims", fn := fun _ => fun
  | [d1, d2, d3] => { results := [.lit (.bool true)], args := [d1, d2, d3] }
  | _ => none }
def segmentTrimsRow : OpenClaim := { program := "ytgnfgckieigblaa", sum := "d473d2e6f954383018074ebcfd5ea755022ba35714c8c0157eaaa2c0594d6727", func := "carabiner/carabinerlaw09.SegmentTrims", spec := "segmentTrims", inPlace := ["sync/atomic.AddInt64", "sync/atomic.LoadUint32", "(*internal/sync.Mutex).Lock", "internal/race.Disable", "sync/atomic.CompareAndSwapInt32", "internal/race.Enable", "internal/race.Acquire", "(*internal/sync.Mutex).lockSlow", "internal/sync.runtime_canSpin", "internal/sync.runtime_doSpin", "internal/sync.throw", "internal/sync.runtime_nanotime", "internal/sync.runtime_SemacquireMutex", "sync/atomic.AddInt32", "(*internal/sync.Mutex).Unlock", "internal/race.ReleaseMerge", "(*internal/sync.Mutex).unlockSlow", "internal/sync.fatal", "internal/sync.runtime_Semrelease", "sync/atomic.StoreUint32"], unfollowed := true, recurses := true, apart := false }
def SegmentTrimsSaid : Prop := segmentTrimsRow.holds Try.pinned (OpenSpec.ofChange segmentTrimsSpec)

/-- ITS FALSE NEIGHBOUR: 'it returns false'. Refute it at one input. -/
def segmentTrimsWrong : ChangeSpec := { name := "segmentTrims", fn := fun _ => fun
  | [d1, d2, d3] => { results := [.lit (.bool false)], args := [d1, d2, d3] }
  | _ => none }
def SegmentTrimsWrongFalsely : Prop := segmentTrimsRow.holds Try.pinned (OpenSpec.ofChange segmentTrimsWrong)

/-- 'carabinerlaw09.SegmentTwice': WHATEVER THE INPUT: true; the input reads as it did. -/
def segmentTwiceSpec : ChangeSpec := { name := "segmentTwice", fn := fun _ => fun
  | [d1, d2, d3] => { results := [.lit (.bool true)], args := [d1, d2, d3] }
  | _ => none }
def segmentTwiceRow : OpenClaim := { program := "ytgnfgckieigblaa", sum := "d473d2e6f954383018074ebcfd5ea755022ba35714c8c0157eaaa2c0594d6727", func := "carabiner/carabinerlaw09.SegmentTwice", spec := "segmentTwice", inPlace := ["sync/atomic.AddInt64", "sync/atomic.LoadUint32", "(*internal/sync.Mutex).Lock", "internal/race.Disable", "sync/atomic.CompareAndSwapInt32", "internal/race.Enable", "internal/race.Acquire", "(*internal/sync.Mutex).lockSlow", "internal/sync.runtime_canSpin", "internal/sync.runtime_doSpin", "internal/sync.throw", "internal/sync.runtime_nanotime", "internal/sync.runtime_SemacquireMutex", "sync/atomic.AddInt32", "(*internal/sync.Mutex).Unlock", "internal/race.ReleaseMerge", "(*internal/sync.Mutex).unlockSlow", "internal/sync.fatal", "internal/sync.runtime_Semrelease", "sync/atomic.StoreUint32"], unfollowed := true, recurses := true, apart := false }
def SegmentTwiceSaid : Prop := segmentTwiceRow.holds Try.pinned (OpenSpec.ofChange segmentTwiceSpec)

/-- ITS FALSE NEIGHBOUR: 'it returns false'. Refute it at one input. -/
def segmentTwiceWrong : ChangeSpec := { name := "segmentTwice", fn := fun _ => fun
  | [d1, d2, d3] => { results := [.lit (.bool false)], args := [d1, d2, d3] }
  | _ => none }
def SegmentTwiceWrongFalsely : Prop := segmentTwiceRow.holds Try.pinned (OpenSpec.ofChange segmentTwiceWrong)

/-- 'carabinerlaw09.SegmentOpens': WHATEVER THE INPUT: true; the input reads as it did. -/
def segmentOpensSpec : ChangeSpec := { name := "segmentOpens", fn := fun _ => fun
  | [d1, d2] => { results := [.lit (.bool true)], args := [d1, d2] }
  | _ => none }
def segmentOpensRow : OpenClaim := { program := "ytgnfgckieigblaa", sum := "d473d2e6f954383018074ebcfd5ea755022ba35714c8c0157eaaa2c0594d6727", func := "carabiner/carabinerlaw09.SegmentOpens", spec := "segmentOpens", inPlace := ["sync/atomic.AddInt64", "sync/atomic.LoadUint32", "(*internal/sync.Mutex).Lock", "internal/race.Disable", "sync/atomic.CompareAndSwapInt32", "internal/race.Enable", "internal/race.Acquire", "(*internal/sync.Mutex).lockSlow", "internal/sync.runtime_canSpin", "internal/sync.runtime_doSpin", "internal/sync.throw", "internal/sync.runtime_nanotime", "internal/sync.runtime_SemacquireMutex", "sync/atomic.AddInt32", "(*internal/sync.Mutex).Unlock", "internal/race.ReleaseMerge", "(*internal/sync.Mutex).unlockSlow", "internal/sync.fatal", "internal/sync.runtime_Semrelease", "sync/atomic.StoreUint32"], unfollowed := true, recurses := true, apart := false }
def SegmentOpensSaid : Prop := segmentOpensRow.holds Try.pinned (OpenSpec.ofChange segmentOpensSpec)

/-- ITS FALSE NEIGHBOUR: 'it returns false'. Refute it at one input. -/
def segmentOpensWrong : ChangeSpec := { name := "segmentOpens", fn := fun _ => fun
  | [d1, d2] => { results := [.lit (.bool false)], args := [d1, d2] }
  | _ => none }
def SegmentOpensWrongFalsely : Prop := segmentOpensRow.holds Try.pinned (OpenSpec.ofChange segmentOpensWrong)

/-- 'carabinerlaw09.SegmentCrashes': WHATEVER THE INPUT: true; the input reads as it did. -/
def segmentCrashesSpec : ChangeSpec := { name := "segmentCrashes", fn := fun _ => fun
  | [d1, d2] => { results := [.lit (.bool true)], args := [d1, d2] }
  | _ => none }
def segmentCrashesRow : OpenClaim := { program := "ytgnfgckieigblaa", sum := "d473d2e6f954383018074ebcfd5ea755022ba35714c8c0157eaaa2c0594d6727", func := "carabiner/carabinerlaw09.SegmentCrashes", spec := "segmentCrashes", inPlace := ["sync/atomic.AddInt64", "sync/atomic.LoadUint32", "(*internal/sync.Mutex).Lock", "internal/race.Disable", "sync/atomic.CompareAndSwapInt32", "internal/race.Enable", "internal/race.Acquire", "(*internal/sync.Mutex).lockSlow", "internal/sync.runtime_canSpin", "internal/sync.runtime_doSpin", "internal/sync.throw", "internal/sync.runtime_nanotime", "internal/sync.runtime_SemacquireMutex", "sync/atomic.AddInt32", "(*internal/sync.Mutex).Unlock", "internal/race.ReleaseMerge", "(*internal/sync.Mutex).unlockSlow", "internal/sync.fatal", "internal/sync.runtime_Semrelease", "sync/atomic.StoreUint32"], unfollowed := true, recurses := true, apart := false }
def SegmentCrashesSaid : Prop := segmentCrashesRow.holds Try.pinned (OpenSpec.ofChange segmentCrashesSpec)

/-- ITS FALSE NEIGHBOUR: 'it returns false'. Refute it at one input. -/
def segmentCrashesWrong : ChangeSpec := { name := "segmentCrashes", fn := fun _ => fun
  | [d1, d2] => { results := [.lit (.bool false)], args := [d1, d2] }
  | _ => none }
def SegmentCrashesWrongFalsely : Prop := segmentCrashesRow.holds Try.pinned (OpenSpec.ofChange segmentCrashesWrong)

/- THE SECOND FORM. 'bulk': how many values and letters a reading holds, each counted each time it is reached (what is shared counts as often as it is met; a slice's spare places count too). A statement '..UptoSaid' is the law's where the arguments, and the package variables that the reading takes, are together of bulk at most 1048576: NARROWER than '..Said'. Prove '..Said' where nothing that the law and all that it calls make is longer than what came in: it says more and counts as full. Else prove '..UptoSaid'. A law counts once. -/
mutual
def uptoBulk {H : Type} : DataW H → Nat
  | .lit (.string bytes) => bytes.length + 1
  | .lit _ => 1
  | .nil => 1
  | .ptr d => uptoBulk d + 1
  | .slice elems spare => uptoBulkAll elems + uptoBulkAll spare + 1
  | .agg parts => uptoBulkAll parts + 1
  | .iface _ d => uptoBulk d + 1
  | .map entries => uptoBulkEntries entries + 1
  | .held _ => 1
def uptoBulkAll {H : Type} : List (DataW H) → Nat
  | [] => 0
  | d :: r => uptoBulk d + uptoBulkAll r
def uptoBulkEntries {H : Type} : List (Lit × DataW H) → Nat
  | [] => 0
  | x :: r => uptoBulkEntry x + uptoBulkEntries r
def uptoBulkEntry {H : Type} : Lit × DataW H → Nat
  | (.string bytes, d) => bytes.length + uptoBulk d + 1
  | (_, d) => uptoBulk d + 1
 end
def uptoSmall : (H : Type) → List (DataW H) → Bool := fun _ ds => decide (uptoBulkAll ds ≤ 1048576)
def OpenSpec.upto (s : _root_.Go.ChangeSpec) : _root_.Go.OpenSpec := { _root_.Go.OpenSpec.ofChange s with cond := some uptoSmall }

/-- 'carabinerlaw09.SegmentFull', WHERE WHAT IT READS IS OF BULK AT MOST 1048576: true; the input reads as it did. -/
def segmentFullUptoRow : OpenClaim := { program := "ytgnfgckieigblaa", sum := "d473d2e6f954383018074ebcfd5ea755022ba35714c8c0157eaaa2c0594d6727", func := "carabiner/carabinerlaw09.SegmentFull", spec := "segmentFull", inPlace := ["sync/atomic.AddInt64", "sync/atomic.LoadUint32", "(*internal/sync.Mutex).Lock", "internal/race.Disable", "sync/atomic.CompareAndSwapInt32", "internal/race.Enable", "internal/race.Acquire", "(*internal/sync.Mutex).lockSlow", "internal/sync.runtime_canSpin", "internal/sync.runtime_doSpin", "internal/sync.throw", "internal/sync.runtime_nanotime", "internal/sync.runtime_SemacquireMutex", "sync/atomic.AddInt32", "(*internal/sync.Mutex).Unlock", "internal/race.ReleaseMerge", "(*internal/sync.Mutex).unlockSlow", "internal/sync.fatal", "internal/sync.runtime_Semrelease", "sync/atomic.StoreUint32"], unfollowed := true, recurses := true, apart := false, narrowed := true }
def SegmentFullUptoSaid : Prop := segmentFullUptoRow.holds Try.pinned (OpenSpec.upto segmentFullSpec)

/-- 'carabinerlaw09.SegmentTrims', WHERE WHAT IT READS IS OF BULK AT MOST 1048576: true; the input reads as it did. -/
def segmentTrimsUptoRow : OpenClaim := { program := "ytgnfgckieigblaa", sum := "d473d2e6f954383018074ebcfd5ea755022ba35714c8c0157eaaa2c0594d6727", func := "carabiner/carabinerlaw09.SegmentTrims", spec := "segmentTrims", inPlace := ["sync/atomic.AddInt64", "sync/atomic.LoadUint32", "(*internal/sync.Mutex).Lock", "internal/race.Disable", "sync/atomic.CompareAndSwapInt32", "internal/race.Enable", "internal/race.Acquire", "(*internal/sync.Mutex).lockSlow", "internal/sync.runtime_canSpin", "internal/sync.runtime_doSpin", "internal/sync.throw", "internal/sync.runtime_nanotime", "internal/sync.runtime_SemacquireMutex", "sync/atomic.AddInt32", "(*internal/sync.Mutex).Unlock", "internal/race.ReleaseMerge", "(*internal/sync.Mutex).unlockSlow", "internal/sync.fatal", "internal/sync.runtime_Semrelease", "sync/atomic.StoreUint32"], unfollowed := true, recurses := true, apart := false, narrowed := true }
def SegmentTrimsUptoSaid : Prop := segmentTrimsUptoRow.holds Try.pinned (OpenSpec.upto segmentTrimsSpec)

/-- 'carabinerlaw09.SegmentTwice', WHERE WHAT IT READS IS OF BULK AT MOST 1048576: true; the input reads as it did. -/
def segmentTwiceUptoRow : OpenClaim := { program := "ytgnfgckieigblaa", sum := "d473d2e6f954383018074ebcfd5ea755022ba35714c8c0157eaaa2c0594d6727", func := "carabiner/carabinerlaw09.SegmentTwice", spec := "segmentTwice", inPlace := ["sync/atomic.AddInt64", "sync/atomic.LoadUint32", "(*internal/sync.Mutex).Lock", "internal/race.Disable", "sync/atomic.CompareAndSwapInt32", "internal/race.Enable", "internal/race.Acquire", "(*internal/sync.Mutex).lockSlow", "internal/sync.runtime_canSpin", "internal/sync.runtime_doSpin", "internal/sync.throw", "internal/sync.runtime_nanotime", "internal/sync.runtime_SemacquireMutex", "sync/atomic.AddInt32", "(*internal/sync.Mutex).Unlock", "internal/race.ReleaseMerge", "(*internal/sync.Mutex).unlockSlow", "internal/sync.fatal", "internal/sync.runtime_Semrelease", "sync/atomic.StoreUint32"], unfollowed := true, recurses := true, apart := false, narrowed := true }
def SegmentTwiceUptoSaid : Prop := segmentTwiceUptoRow.holds Try.pinned (OpenSpec.upto segmentTwiceSpec)

/-- 'carabinerlaw09.SegmentOpens', WHERE WHAT IT READS IS OF BULK AT MOST 1048576: true; the input reads as it did. -/
def segmentOpensUptoRow : OpenClaim := { program := "ytgnfgckieigblaa", sum := "d473d2e6f954383018074ebcfd5ea755022ba35714c8c0157eaaa2c0594d6727", func := "carabiner/carabinerlaw09.SegmentOpens", spec := "segmentOpens", inPlace := ["sync/atomic.AddInt64", "sync/atomic.LoadUint32", "(*internal/sync.Mutex).Lock", "internal/race.Disable", "sync/atomic.CompareAndSwapInt32", "internal/race.Enable", "internal/race.Acquire", "(*internal/sync.Mutex).lockSlow", "internal/sync.runtime_canSpin", "internal/sync.runtime_doSpin", "internal/sync.throw", "internal/sync.runtime_nanotime", "internal/sync.runtime_SemacquireMutex", "sync/atomic.AddInt32", "(*internal/sync.Mutex).Unlock", "internal/race.ReleaseMerge", "(*internal/sync.Mutex).unlockSlow", "internal/sync.fatal", "internal/sync.runtime_Semrelease", "sync/atomic.StoreUint32"], unfollowed := true, recurses := true, apart := false, narrowed := true }
def SegmentOpensUptoSaid : Prop := segmentOpensUptoRow.holds Try.pinned (OpenSpec.upto segmentOpensSpec)

/-- 'carabinerlaw09.SegmentCrashes', WHERE WHAT IT READS IS OF BULK AT MOST 1048576: true; the input reads as it did. -/
def segmentCrashesUptoRow : OpenClaim := { program := "ytgnfgckieigblaa", sum := "d473d2e6f954383018074ebcfd5ea755022ba35714c8c0157eaaa2c0594d6727", func := "carabiner/carabinerlaw09.SegmentCrashes", spec := "segmentCrashes", inPlace := ["sync/atomic.AddInt64", "sync/atomic.LoadUint32", "(*internal/sync.Mutex).Lock", "internal/race.Disable", "sync/atomic.CompareAndSwapInt32", "internal/race.Enable", "internal/race.Acquire", "(*internal/sync.Mutex).lockSlow", "internal/sync.runtime_canSpin", "internal/sync.runtime_doSpin", "internal/sync.throw", "internal/sync.runtime_nanotime", "internal/sync.runtime_SemacquireMutex", "sync/atomic.AddInt32", "(*internal/sync.Mutex).Unlock", "internal/race.ReleaseMerge", "(*internal/sync.Mutex).unlockSlow", "internal/sync.fatal", "internal/sync.runtime_Semrelease", "sync/atomic.StoreUint32"], unfollowed := true, recurses := true, apart := false, narrowed := true }
def SegmentCrashesUptoSaid : Prop := segmentCrashesUptoRow.holds Try.pinned (OpenSpec.upto segmentCrashesSpec)

end Rows
end Go.Proofs.Ytgnfgckieigblaa
