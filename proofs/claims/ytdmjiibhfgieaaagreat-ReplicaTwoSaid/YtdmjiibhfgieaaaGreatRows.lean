/-
  No cell of these rows narrows 'for every input' (looked for: loops, veiled, ifaces, maps, wideKeys, modest, calm, conditions, laid).
  DERIVED. THE GIVEN ROWS OF THIS SEAT. 5 by the template 'for every input the law returns true; each argument reads behind the call as it read before'; 0 by the template 'total and deterministic' (their statements: YtdmjiibhfgieaaaGreatTotals.lean).
  GIVEN WITH THE SEED: the statements are not yours to turn. If you find one false, say at which input.
  Laid BY PROGRAM, IN A SANDBOX (cutbox-rows.mjs): the forced cells as the released guide's own fill.sh prints them over the translation 2ff1896e18c426ca… (all of the seat's roots in one cut). By AI agents, Wed Nov 11 2026. No macro, syntax, notation, axiom, sorry.
-/
import Derived.Test.YtdmjiibhfgieaaaGreatChecked
import GoSem.Claim
import GoSem.ClaimJoined
import GoSem.ClaimMapViews
import Derived.JoinedTies
import Derived.KernelRfl
namespace Go.Proofs.YtdmjiibhfgieaaaGreat
/- THE CELL 'sum', in the pinned program and in every row, IS THE sha256 OF THE DUMP (.gsa) THAT YtdmjiibhfgieaaaGreatProg.lean LOADS. Nothing in Lean hashes anything: it is a label: what it is worth is what the hold of that sum in a sandbox is worth. -/
noncomputable def Tryz.pinned : Pinned := { name := "ytdmjiibhfgieaaagreat", sum := "2ff1896e18c426ca2a807c81ce089735e09f838146161dd5dc40e59e4f16ac57", checked := Tryz.checked }
namespace Rows
def none {H : Type} : Left H := { results := [], args := [] }

/-- 'carabinerlaw11.ReplicaTwo': WHATEVER THE INPUT: true; the input reads as it did. -/
def replicaTwoSpec : ChangeSpec := { name := "replicaTwo", fn := fun _ => fun
  | [d1, d2, d3] => { results := [.lit (.bool true)], args := [d1, d2, d3] }
  | _ => none }
def replicaTwoRow : OpenClaim := { program := "ytdmjiibhfgieaaagreat", sum := "2ff1896e18c426ca2a807c81ce089735e09f838146161dd5dc40e59e4f16ac57", func := "carabiner/carabinerlaw11.ReplicaTwo", spec := "replicaTwo", inPlace := ["sync/atomic.AddInt64", "sync/atomic.LoadUint32", "(*internal/sync.Mutex).Lock", "internal/race.Disable", "sync/atomic.CompareAndSwapInt32", "internal/race.Enable", "internal/race.Acquire", "(*internal/sync.Mutex).lockSlow", "internal/sync.runtime_canSpin", "internal/sync.runtime_doSpin", "internal/sync.throw", "internal/sync.runtime_nanotime", "internal/sync.runtime_SemacquireMutex", "sync/atomic.AddInt32", "(*internal/sync.Mutex).Unlock", "internal/race.ReleaseMerge", "(*internal/sync.Mutex).unlockSlow", "internal/sync.fatal", "internal/sync.runtime_Semrelease", "sync/atomic.StoreUint32"], unfollowed := true, recurses := true, apart := false }
def ReplicaTwoSaid : Prop := replicaTwoRow.holds Tryz.pinned (OpenSpec.ofChange replicaTwoSpec)

/-- ITS FALSE NEIGHBOUR: 'it returns false'. Refute it at one input. -/
def replicaTwoWrong : ChangeSpec := { name := "replicaTwo", fn := fun _ => fun
  | [d1, d2, d3] => { results := [.lit (.bool false)], args := [d1, d2, d3] }
  | _ => none }
def ReplicaTwoWrongFalsely : Prop := replicaTwoRow.holds Tryz.pinned (OpenSpec.ofChange replicaTwoWrong)

/-- 'carabinerlaw11.ReplicaAll': WHATEVER THE INPUT: true; the input reads as it did. -/
def replicaAllSpec : ChangeSpec := { name := "replicaAll", fn := fun _ => fun
  | [d1, d2, d3] => { results := [.lit (.bool true)], args := [d1, d2, d3] }
  | _ => none }
def replicaAllRow : OpenClaim := { program := "ytdmjiibhfgieaaagreat", sum := "2ff1896e18c426ca2a807c81ce089735e09f838146161dd5dc40e59e4f16ac57", func := "carabiner/carabinerlaw11.ReplicaAll", spec := "replicaAll", inPlace := ["sync/atomic.AddInt64", "sync/atomic.LoadUint32", "(*internal/sync.Mutex).Lock", "internal/race.Disable", "sync/atomic.CompareAndSwapInt32", "internal/race.Enable", "internal/race.Acquire", "(*internal/sync.Mutex).lockSlow", "internal/sync.runtime_canSpin", "internal/sync.runtime_doSpin", "internal/sync.throw", "internal/sync.runtime_nanotime", "internal/sync.runtime_SemacquireMutex", "sync/atomic.AddInt32", "(*internal/sync.Mutex).Unlock", "internal/race.ReleaseMerge", "(*internal/sync.Mutex).unlockSlow", "internal/sync.fatal", "internal/sync.runtime_Semrelease", "sync/atomic.StoreUint32"], unfollowed := true, recurses := true, apart := false }
def ReplicaAllSaid : Prop := replicaAllRow.holds Tryz.pinned (OpenSpec.ofChange replicaAllSpec)

/-- ITS FALSE NEIGHBOUR: 'it returns false'. Refute it at one input. -/
def replicaAllWrong : ChangeSpec := { name := "replicaAll", fn := fun _ => fun
  | [d1, d2, d3] => { results := [.lit (.bool false)], args := [d1, d2, d3] }
  | _ => none }
def ReplicaAllWrongFalsely : Prop := replicaAllRow.holds Tryz.pinned (OpenSpec.ofChange replicaAllWrong)

/-- 'carabinerlaw11.ReplicaLasts': WHATEVER THE INPUT: true; the input reads as it did. -/
def replicaLastsSpec : ChangeSpec := { name := "replicaLasts", fn := fun _ => fun
  | [d1, d2, d3] => { results := [.lit (.bool true)], args := [d1, d2, d3] }
  | _ => none }
def replicaLastsRow : OpenClaim := { program := "ytdmjiibhfgieaaagreat", sum := "2ff1896e18c426ca2a807c81ce089735e09f838146161dd5dc40e59e4f16ac57", func := "carabiner/carabinerlaw11.ReplicaLasts", spec := "replicaLasts", inPlace := ["sync/atomic.AddInt64", "sync/atomic.LoadUint32", "(*internal/sync.Mutex).Lock", "internal/race.Disable", "sync/atomic.CompareAndSwapInt32", "internal/race.Enable", "internal/race.Acquire", "(*internal/sync.Mutex).lockSlow", "internal/sync.runtime_canSpin", "internal/sync.runtime_doSpin", "internal/sync.throw", "internal/sync.runtime_nanotime", "internal/sync.runtime_SemacquireMutex", "sync/atomic.AddInt32", "(*internal/sync.Mutex).Unlock", "internal/race.ReleaseMerge", "(*internal/sync.Mutex).unlockSlow", "internal/sync.fatal", "internal/sync.runtime_Semrelease", "sync/atomic.StoreUint32"], unfollowed := true, recurses := true, apart := false }
def ReplicaLastsSaid : Prop := replicaLastsRow.holds Tryz.pinned (OpenSpec.ofChange replicaLastsSpec)

/-- ITS FALSE NEIGHBOUR: 'it returns false'. Refute it at one input. -/
def replicaLastsWrong : ChangeSpec := { name := "replicaLasts", fn := fun _ => fun
  | [d1, d2, d3] => { results := [.lit (.bool false)], args := [d1, d2, d3] }
  | _ => none }
def ReplicaLastsWrongFalsely : Prop := replicaLastsRow.holds Tryz.pinned (OpenSpec.ofChange replicaLastsWrong)

/-- 'carabinerlaw11.ReplicaSealed': WHATEVER THE INPUT: true; the input reads as it did. -/
def replicaSealedSpec : ChangeSpec := { name := "replicaSealed", fn := fun _ => fun
  | [d1, d2] => { results := [.lit (.bool true)], args := [d1, d2] }
  | _ => none }
def replicaSealedRow : OpenClaim := { program := "ytdmjiibhfgieaaagreat", sum := "2ff1896e18c426ca2a807c81ce089735e09f838146161dd5dc40e59e4f16ac57", func := "carabiner/carabinerlaw11.ReplicaSealed", spec := "replicaSealed", inPlace := ["sync/atomic.AddInt64", "sync/atomic.LoadUint32", "(*internal/sync.Mutex).Lock", "internal/race.Disable", "sync/atomic.CompareAndSwapInt32", "internal/race.Enable", "internal/race.Acquire", "(*internal/sync.Mutex).lockSlow", "internal/sync.runtime_canSpin", "internal/sync.runtime_doSpin", "internal/sync.throw", "internal/sync.runtime_nanotime", "internal/sync.runtime_SemacquireMutex", "sync/atomic.AddInt32", "(*internal/sync.Mutex).Unlock", "internal/race.ReleaseMerge", "(*internal/sync.Mutex).unlockSlow", "internal/sync.fatal", "internal/sync.runtime_Semrelease", "sync/atomic.StoreUint32"], unfollowed := true, recurses := true, apart := false }
def ReplicaSealedSaid : Prop := replicaSealedRow.holds Tryz.pinned (OpenSpec.ofChange replicaSealedSpec)

/-- ITS FALSE NEIGHBOUR: 'it returns false'. Refute it at one input. -/
def replicaSealedWrong : ChangeSpec := { name := "replicaSealed", fn := fun _ => fun
  | [d1, d2] => { results := [.lit (.bool false)], args := [d1, d2] }
  | _ => none }
def ReplicaSealedWrongFalsely : Prop := replicaSealedRow.holds Tryz.pinned (OpenSpec.ofChange replicaSealedWrong)

/-- 'carabinerlaw11.ReplicaTwice': WHATEVER THE INPUT: true; the input reads as it did. -/
def replicaTwiceSpec : ChangeSpec := { name := "replicaTwice", fn := fun _ => fun
  | [d1, d2, d3] => { results := [.lit (.bool true)], args := [d1, d2, d3] }
  | _ => none }
def replicaTwiceRow : OpenClaim := { program := "ytdmjiibhfgieaaagreat", sum := "2ff1896e18c426ca2a807c81ce089735e09f838146161dd5dc40e59e4f16ac57", func := "carabiner/carabinerlaw11.ReplicaTwice", spec := "replicaTwice", inPlace := ["sync/atomic.AddInt64", "sync/atomic.LoadUint32", "(*internal/sync.Mutex).Lock", "internal/race.Disable", "sync/atomic.CompareAndSwapInt32", "internal/race.Enable", "internal/race.Acquire", "(*internal/sync.Mutex).lockSlow", "internal/sync.runtime_canSpin", "internal/sync.runtime_doSpin", "internal/sync.throw", "internal/sync.runtime_nanotime", "internal/sync.runtime_SemacquireMutex", "sync/atomic.AddInt32", "(*internal/sync.Mutex).Unlock", "internal/race.ReleaseMerge", "(*internal/sync.Mutex).unlockSlow", "internal/sync.fatal", "internal/sync.runtime_Semrelease", "sync/atomic.StoreUint32"], unfollowed := true, recurses := true, apart := false }
def ReplicaTwiceSaid : Prop := replicaTwiceRow.holds Tryz.pinned (OpenSpec.ofChange replicaTwiceSpec)

/-- ITS FALSE NEIGHBOUR: 'it returns false'. Refute it at one input. -/
def replicaTwiceWrong : ChangeSpec := { name := "replicaTwice", fn := fun _ => fun
  | [d1, d2, d3] => { results := [.lit (.bool false)], args := [d1, d2, d3] }
  | _ => none }
def ReplicaTwiceWrongFalsely : Prop := replicaTwiceRow.holds Tryz.pinned (OpenSpec.ofChange replicaTwiceWrong)

/- THE SECOND FORM. 'bulk': how many values and letters a reading holds, each counted each time it is reached (what is shared counts as often as it is met; a slice's spare places count too). A statement '..UptoSaid' is the law's where the arguments, and the package variables that the reading takes, are together of bulk at most 1048576: NARROWER than '..Said'. Prove '..Said' where nothing that the law and all that it calls make is longer than what came in: it says more and counts as full. Else prove '..UptoSaid'. A law counts once. -/
mutual
def uptoBulk {H : Type} : DataW H → Nat
  | .lit (.string bytes) => bytes.length + 1
  | .lit _ => 1
  | .nil => 1
  | .ptr d => uptoBulk d + 1
  | .slice elems spare => uptoBulkAll elems + uptoBulkAll spare + 1
  | .agg parts => uptoBulkAll parts + 1
  | .iface _ d => uptoBulk d + 1
  | .map entries => uptoBulkEntries entries + 1
  | .held _ => 1
def uptoBulkAll {H : Type} : List (DataW H) → Nat
  | [] => 0
  | d :: r => uptoBulk d + uptoBulkAll r
def uptoBulkEntries {H : Type} : List (Lit × DataW H) → Nat
  | [] => 0
  | x :: r => uptoBulkEntry x + uptoBulkEntries r
def uptoBulkEntry {H : Type} : Lit × DataW H → Nat
  | (.string bytes, d) => bytes.length + uptoBulk d + 1
  | (_, d) => uptoBulk d + 1
 end
def uptoSmall : (H : Type) → List (DataW H) → Bool := fun _ ds => decide (uptoBulkAll ds ≤ 1048576)
def OpenSpec.upto (s : _root_.Go.ChangeSpec) : _root_.Go.OpenSpec := { _root_.Go.OpenSpec.ofChange s with cond := some uptoSmall }

/-- 'carabinerlaw11.ReplicaTwo', WHERE WHAT IT READS IS OF BULK AT MOST 1048576: true; the input reads as it did. -/
def replicaTwoUptoRow : OpenClaim := { program := "ytdmjiibhfgieaaagreat", sum := "2ff1896e18c426ca2a807c81ce089735e09f838146161dd5dc40e59e4f16ac57", func := "carabiner/carabinerlaw11.ReplicaTwo", spec := "replicaTwo", inPlace := ["sync/atomic.AddInt64", "sync/atomic.LoadUint32", "(*internal/sync.Mutex).Lock", "internal/race.Disable", "sync/atomic.CompareAndSwapInt32", "internal/race.Enable", "internal/race.Acquire", "(*internal/sync.Mutex).lockSlow", "internal/sync.runtime_canSpin", "internal/sync.runtime_doSpin", "internal/sync.throw", "internal/sync.runtime_nanotime", "internal/sync.runtime_SemacquireMutex", "sync/atomic.AddInt32", "(*internal/sync.Mutex).Unlock", "internal/race.ReleaseMerge", "(*internal/sync.Mutex).unlockSlow", "internal/sync.fatal", "internal/sync.runtime_Semrelease", "sync/atomic.StoreUint32"], unfollowed := true, recurses := true, apart := false, narrowed := true }
def ReplicaTwoUptoSaid : Prop := replicaTwoUptoRow.holds Tryz.pinned (OpenSpec.upto replicaTwoSpec)

/-- 'carabinerlaw11.ReplicaAll', WHERE WHAT IT READS IS OF BULK AT MOST 1048576: true; the input reads as it did. -/
def replicaAllUptoRow : OpenClaim := { program := "ytdmjiibhfgieaaagreat", sum := "2ff1896e18c426ca2a807c81ce089735e09f838146161dd5dc40e59e4f16ac57", func := "carabiner/carabinerlaw11.ReplicaAll", spec := "replicaAll", inPlace := ["sync/atomic.AddInt64", "sync/atomic.LoadUint32", "(*internal/sync.Mutex).Lock", "internal/race.Disable", "sync/atomic.CompareAndSwapInt32", "internal/race.Enable", "internal/race.Acquire", "(*internal/sync.Mutex).lockSlow", "internal/sync.runtime_canSpin", "internal/sync.runtime_doSpin", "internal/sync.throw", "internal/sync.runtime_nanotime", "internal/sync.runtime_SemacquireMutex", "sync/atomic.AddInt32", "(*internal/sync.Mutex).Unlock", "internal/race.ReleaseMerge", "(*internal/sync.Mutex).unlockSlow", "internal/sync.fatal", "internal/sync.runtime_Semrelease", "sync/atomic.StoreUint32"], unfollowed := true, recurses := true, apart := false, narrowed := true }
def ReplicaAllUptoSaid : Prop := replicaAllUptoRow.holds Tryz.pinned (OpenSpec.upto replicaAllSpec)

/-- 'carabinerlaw11.ReplicaLasts', WHERE WHAT IT READS IS OF BULK AT MOST 1048576: true; the input reads as it did. -/
def replicaLastsUptoRow : OpenClaim := { program := "ytdmjiibhfgieaaagreat", sum := "2ff1896e18c426ca2a807c81ce089735e09f838146161dd5dc40e59e4f16ac57", func := "carabiner/carabinerlaw11.ReplicaLasts", spec := "replicaLasts", inPlace := ["sync/atomic.AddInt64", "sync/atomic.LoadUint32", "(*internal/sync.Mutex).Lock", "internal/race.Disable", "sync/atomic.CompareAndSwapInt32", "internal/race.Enable", "internal/race.Acquire", "(*internal/sync.Mutex).lockSlow", "internal/sync.runtime_canSpin", "internal/sync.runtime_doSpin", "internal/sync.throw", "internal/sync.runtime_nanotime", "internal/sync.runtime_SemacquireMutex", "sync/atomic.AddInt32", "(*internal/sync.Mutex).Unlock", "internal/race.ReleaseMerge", "(*internal/sync.Mutex).unlockSlow", "internal/sync.fatal", "internal/sync.runtime_Semrelease", "sync/atomic.StoreUint32"], unfollowed := true, recurses := true, apart := false, narrowed := true }
def ReplicaLastsUptoSaid : Prop := replicaLastsUptoRow.holds Tryz.pinned (OpenSpec.upto replicaLastsSpec)

/-- 'carabinerlaw11.ReplicaSealed', WHERE WHAT IT READS IS OF BULK AT MOST 1048576: true; the input reads as it did. -/
def replicaSealedUptoRow : OpenClaim := { program := "ytdmjiibhfgieaaagreat", sum := "2ff1896e18c426ca2a807c81ce089735e09f838146161dd5dc40e59e4f16ac57", func := "carabiner/carabinerlaw11.ReplicaSealed", spec := "replicaSealed", inPlace := ["sync/atomic.AddInt64", "sync/atomic.LoadUint32", "(*internal/sync.Mutex).Lock", "internal/race.Disable", "sync/atomic.CompareAndSwapInt32", "internal/race.Enable", "internal/race.Acquire", "(*internal/sync.Mutex).lockSlow", "internal/sync.runtime_canSpin", "internal/sync.runtime_doSpin", "internal/sync.throw", "internal/sync.runtime_nanotime", "internal/sync.runtime_SemacquireMutex", "sync/atomic.AddInt32", "(*internal/sync.Mutex).Unlock", "internal/race.ReleaseMerge", "(*internal/sync.Mutex).unlockSlow", "internal/sync.fatal", "internal/sync.runtime_Semrelease", "sync/atomic.StoreUint32"], unfollowed := true, recurses := true, apart := false, narrowed := true }
def ReplicaSealedUptoSaid : Prop := replicaSealedUptoRow.holds Tryz.pinned (OpenSpec.upto replicaSealedSpec)

/-- 'carabinerlaw11.ReplicaTwice', WHERE WHAT IT READS IS OF BULK AT MOST 1048576: true; the input reads as it did. -/
def replicaTwiceUptoRow : OpenClaim := { program := "ytdmjiibhfgieaaagreat", sum := "2ff1896e18c426ca2a807c81ce089735e09f838146161dd5dc40e59e4f16ac57", func := "carabiner/carabinerlaw11.ReplicaTwice", spec := "replicaTwice", inPlace := ["sync/atomic.AddInt64", "sync/atomic.LoadUint32", "(*internal/sync.Mutex).Lock", "internal/race.Disable", "sync/atomic.CompareAndSwapInt32", "internal/race.Enable", "internal/race.Acquire", "(*internal/sync.Mutex).lockSlow", "internal/sync.runtime_canSpin", "internal/sync.runtime_doSpin", "internal/sync.throw", "internal/sync.runtime_nanotime", "internal/sync.runtime_SemacquireMutex", "sync/atomic.AddInt32", "(*internal/sync.Mutex).Unlock", "internal/race.ReleaseMerge", "(*internal/sync.Mutex).unlockSlow", "internal/sync.fatal", "internal/sync.runtime_Semrelease", "sync/atomic.StoreUint32"], unfollowed := true, recurses := true, apart := false, narrowed := true }
def ReplicaTwiceUptoSaid : Prop := replicaTwiceUptoRow.holds Tryz.pinned (OpenSpec.upto replicaTwiceSpec)

end Rows
end Go.Proofs.YtdmjiibhfgieaaaGreat
