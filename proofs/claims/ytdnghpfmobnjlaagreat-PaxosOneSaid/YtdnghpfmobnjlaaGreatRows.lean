/-
  No cell of these rows narrows 'for every input' (looked for: loops, veiled, ifaces, maps, wideKeys, modest, calm, conditions, laid).
  DERIVED. THE GIVEN ROWS OF THIS SEAT. 4 by the template 'for every input the law returns true; each argument reads behind the call as it read before'; 0 by the template 'total and deterministic' (their statements: YtdnghpfmobnjlaaGreatTotals.lean).
  GIVEN WITH THE SEED: the statements are not yours to turn. If you find one false, say at which input.
  Laid BY PROGRAM, IN A SANDBOX (cutbox-rows.mjs): the forced cells as the released guide's own fill.sh prints them over the translation cc27f1fc82e76da1… (all of the seat's roots in one cut). By AI agents, Wed Nov 11 2026. No macro, syntax, notation, axiom, sorry.
-/
import Derived.Test.YtdnghpfmobnjlaaGreatChecked
import GoSem.Claim
import GoSem.ClaimJoined
import GoSem.ClaimMapViews
import Derived.JoinedTies
import Derived.KernelRfl
namespace Go.Proofs.YtdnghpfmobnjlaaGreat
/- THE CELL 'sum', in the pinned program and in every row, IS THE sha256 OF THE DUMP (.gsa) THAT YtdnghpfmobnjlaaGreatProg.lean LOADS. Nothing in Lean hashes anything: it is a label: what it is worth is what the hold of that sum in a sandbox is worth. -/
noncomputable def Tryz.pinned : Pinned := { name := "ytdnghpfmobnjlaagreat", sum := "cc27f1fc82e76da10552d11d0f7b4edee75f1eddc8f570c9e0e87346b4b986aa", checked := Tryz.checked }
namespace Rows
def none {H : Type} : Left H := { results := [], args := [] }

/-- 'carabinerlaw13.PaxosSolo': WHATEVER THE INPUT: true; the input reads as it did. -/
def paxosSoloSpec : ChangeSpec := { name := "paxosSolo", fn := fun _ => fun
  | [d1, d2] => { results := [.lit (.bool true)], args := [d1, d2] }
  | _ => none }
def paxosSoloRow : OpenClaim := { program := "ytdnghpfmobnjlaagreat", sum := "cc27f1fc82e76da10552d11d0f7b4edee75f1eddc8f570c9e0e87346b4b986aa", func := "carabiner/carabinerlaw13.PaxosSolo", spec := "paxosSolo", inPlace := ["sync/atomic.AddInt64", "sync/atomic.LoadUint32", "(*internal/sync.Mutex).Lock", "internal/race.Disable", "sync/atomic.CompareAndSwapInt32", "internal/race.Enable", "internal/race.Acquire", "(*internal/sync.Mutex).lockSlow", "internal/sync.runtime_canSpin", "internal/sync.runtime_doSpin", "internal/sync.throw", "internal/sync.runtime_nanotime", "internal/sync.runtime_SemacquireMutex", "sync/atomic.AddInt32", "(*internal/sync.Mutex).Unlock", "internal/race.ReleaseMerge", "(*internal/sync.Mutex).unlockSlow", "internal/sync.fatal", "internal/sync.runtime_Semrelease", "sync/atomic.StoreUint32"], unfollowed := true, recurses := true, apart := false }
def PaxosSoloSaid : Prop := paxosSoloRow.holds Tryz.pinned (OpenSpec.ofChange paxosSoloSpec)

/-- ITS FALSE NEIGHBOUR: 'it returns false'. Refute it at one input. -/
def paxosSoloWrong : ChangeSpec := { name := "paxosSolo", fn := fun _ => fun
  | [d1, d2] => { results := [.lit (.bool false)], args := [d1, d2] }
  | _ => none }
def PaxosSoloWrongFalsely : Prop := paxosSoloRow.holds Tryz.pinned (OpenSpec.ofChange paxosSoloWrong)

/-- 'carabinerlaw13.PaxosOne': WHATEVER THE INPUT: true; the input reads as it did. -/
def paxosOneSpec : ChangeSpec := { name := "paxosOne", fn := fun _ => fun
  | [d] => { results := [.lit (.bool true)], args := [d] }
  | _ => none }
def paxosOneRow : OpenClaim := { program := "ytdnghpfmobnjlaagreat", sum := "cc27f1fc82e76da10552d11d0f7b4edee75f1eddc8f570c9e0e87346b4b986aa", func := "carabiner/carabinerlaw13.PaxosOne", spec := "paxosOne", inPlace := ["sync/atomic.AddInt64", "sync/atomic.LoadUint32", "(*internal/sync.Mutex).Lock", "internal/race.Disable", "sync/atomic.CompareAndSwapInt32", "internal/race.Enable", "internal/race.Acquire", "(*internal/sync.Mutex).lockSlow", "internal/sync.runtime_canSpin", "internal/sync.runtime_doSpin", "internal/sync.throw", "internal/sync.runtime_nanotime", "internal/sync.runtime_SemacquireMutex", "sync/atomic.AddInt32", "(*internal/sync.Mutex).Unlock", "internal/race.ReleaseMerge", "(*internal/sync.Mutex).unlockSlow", "internal/sync.fatal", "internal/sync.runtime_Semrelease", "sync/atomic.StoreUint32"], unfollowed := true, recurses := true, apart := false }
def PaxosOneSaid : Prop := paxosOneRow.holds Tryz.pinned (OpenSpec.ofChange paxosOneSpec)

/-- ITS FALSE NEIGHBOUR: 'it returns false'. Refute it at one input. -/
def paxosOneWrong : ChangeSpec := { name := "paxosOne", fn := fun _ => fun
  | [d] => { results := [.lit (.bool false)], args := [d] }
  | _ => none }
def PaxosOneWrongFalsely : Prop := paxosOneRow.holds Tryz.pinned (OpenSpec.ofChange paxosOneWrong)

/-- 'carabinerlaw13.PaxosRises': WHATEVER THE INPUT: true; the input reads as it did. -/
def paxosRisesSpec : ChangeSpec := { name := "paxosRises", fn := fun _ => fun
  | [d1, d2] => { results := [.lit (.bool true)], args := [d1, d2] }
  | _ => none }
def paxosRisesRow : OpenClaim := { program := "ytdnghpfmobnjlaagreat", sum := "cc27f1fc82e76da10552d11d0f7b4edee75f1eddc8f570c9e0e87346b4b986aa", func := "carabiner/carabinerlaw13.PaxosRises", spec := "paxosRises", inPlace := ["sync/atomic.AddInt64", "sync/atomic.LoadUint32", "(*internal/sync.Mutex).Lock", "internal/race.Disable", "sync/atomic.CompareAndSwapInt32", "internal/race.Enable", "internal/race.Acquire", "(*internal/sync.Mutex).lockSlow", "internal/sync.runtime_canSpin", "internal/sync.runtime_doSpin", "internal/sync.throw", "internal/sync.runtime_nanotime", "internal/sync.runtime_SemacquireMutex", "sync/atomic.AddInt32", "(*internal/sync.Mutex).Unlock", "internal/race.ReleaseMerge", "(*internal/sync.Mutex).unlockSlow", "internal/sync.fatal", "internal/sync.runtime_Semrelease", "sync/atomic.StoreUint32"], unfollowed := true, recurses := true, apart := false }
def PaxosRisesSaid : Prop := paxosRisesRow.holds Tryz.pinned (OpenSpec.ofChange paxosRisesSpec)

/-- ITS FALSE NEIGHBOUR: 'it returns false'. Refute it at one input. -/
def paxosRisesWrong : ChangeSpec := { name := "paxosRises", fn := fun _ => fun
  | [d1, d2] => { results := [.lit (.bool false)], args := [d1, d2] }
  | _ => none }
def PaxosRisesWrongFalsely : Prop := paxosRisesRow.holds Tryz.pinned (OpenSpec.ofChange paxosRisesWrong)

/-- 'carabinerlaw13.PaxosAccepts': WHATEVER THE INPUT: true; the input reads as it did. -/
def paxosAcceptsSpec : ChangeSpec := { name := "paxosAccepts", fn := fun _ => fun
  | [d1, d2] => { results := [.lit (.bool true)], args := [d1, d2] }
  | _ => none }
def paxosAcceptsRow : OpenClaim := { program := "ytdnghpfmobnjlaagreat", sum := "cc27f1fc82e76da10552d11d0f7b4edee75f1eddc8f570c9e0e87346b4b986aa", func := "carabiner/carabinerlaw13.PaxosAccepts", spec := "paxosAccepts", inPlace := ["sync/atomic.AddInt64", "sync/atomic.LoadUint32", "(*internal/sync.Mutex).Lock", "internal/race.Disable", "sync/atomic.CompareAndSwapInt32", "internal/race.Enable", "internal/race.Acquire", "(*internal/sync.Mutex).lockSlow", "internal/sync.runtime_canSpin", "internal/sync.runtime_doSpin", "internal/sync.throw", "internal/sync.runtime_nanotime", "internal/sync.runtime_SemacquireMutex", "sync/atomic.AddInt32", "(*internal/sync.Mutex).Unlock", "internal/race.ReleaseMerge", "(*internal/sync.Mutex).unlockSlow", "internal/sync.fatal", "internal/sync.runtime_Semrelease", "sync/atomic.StoreUint32"], unfollowed := true, recurses := true, apart := false }
def PaxosAcceptsSaid : Prop := paxosAcceptsRow.holds Tryz.pinned (OpenSpec.ofChange paxosAcceptsSpec)

/-- ITS FALSE NEIGHBOUR: 'it returns false'. Refute it at one input. -/
def paxosAcceptsWrong : ChangeSpec := { name := "paxosAccepts", fn := fun _ => fun
  | [d1, d2] => { results := [.lit (.bool false)], args := [d1, d2] }
  | _ => none }
def PaxosAcceptsWrongFalsely : Prop := paxosAcceptsRow.holds Tryz.pinned (OpenSpec.ofChange paxosAcceptsWrong)

/- THE SECOND FORM. 'bulk': how many values and letters a reading holds, each counted each time it is reached (what is shared counts as often as it is met; a slice's spare places count too). A statement '..UptoSaid' is the law's where the arguments, and the package variables that the reading takes, are together of bulk at most 1048576: NARROWER than '..Said'. Prove '..Said' where nothing that the law and all that it calls make is longer than what came in: it says more and counts as full. Else prove '..UptoSaid'. A law counts once. -/
mutual
def uptoBulk {H : Type} : DataW H → Nat
  | .lit (.string bytes) => bytes.length + 1
  | .lit _ => 1
  | .nil => 1
  | .ptr d => uptoBulk d + 1
  | .slice elems spare => uptoBulkAll elems + uptoBulkAll spare + 1
  | .agg parts => uptoBulkAll parts + 1
  | .iface _ d => uptoBulk d + 1
  | .map entries => uptoBulkEntries entries + 1
  | .held _ => 1
def uptoBulkAll {H : Type} : List (DataW H) → Nat
  | [] => 0
  | d :: r => uptoBulk d + uptoBulkAll r
def uptoBulkEntries {H : Type} : List (Lit × DataW H) → Nat
  | [] => 0
  | x :: r => uptoBulkEntry x + uptoBulkEntries r
def uptoBulkEntry {H : Type} : Lit × DataW H → Nat
  | (.string bytes, d) => bytes.length + uptoBulk d + 1
  | (_, d) => uptoBulk d + 1
 end
def uptoSmall : (H : Type) → List (DataW H) → Bool := fun _ ds => decide (uptoBulkAll ds ≤ 1048576)
def OpenSpec.upto (s : _root_.Go.ChangeSpec) : _root_.Go.OpenSpec := { _root_.Go.OpenSpec.ofChange s with cond := some uptoSmall }

/-- 'carabinerlaw13.PaxosSolo', WHERE WHAT IT READS IS OF BULK AT MOST 1048576: true; the input reads as it did. -/
def paxosSoloUptoRow : OpenClaim := { program := "ytdnghpfmobnjlaagreat", sum := "cc27f1fc82e76da10552d11d0f7b4edee75f1eddc8f570c9e0e87346b4b986aa", func := "carabiner/carabinerlaw13.PaxosSolo", spec := "paxosSolo", inPlace := ["sync/atomic.AddInt64", "sync/atomic.LoadUint32", "(*internal/sync.Mutex).Lock", "internal/race.Disable", "sync/atomic.CompareAndSwapInt32", "internal/race.Enable", "internal/race.Acquire", "(*internal/sync.Mutex).lockSlow", "internal/sync.runtime_canSpin", "internal/sync.runtime_doSpin", "internal/sync.throw", "internal/sync.runtime_nanotime", "internal/sync.runtime_SemacquireMutex", "sync/atomic.AddInt32", "(*internal/sync.Mutex).Unlock", "internal/race.ReleaseMerge", "(*internal/sync.Mutex).unlockSlow", "internal/sync.fatal", "internal/sync.runtime_Semrelease", "sync/atomic.StoreUint32"], unfollowed := true, recurses := true, apart := false, narrowed := true }
def PaxosSoloUptoSaid : Prop := paxosSoloUptoRow.holds Tryz.pinned (OpenSpec.upto paxosSoloSpec)

/-- 'carabinerlaw13.PaxosOne', WHERE WHAT IT READS IS OF BULK AT MOST 1048576: true; the input reads as it did. -/
def paxosOneUptoRow : OpenClaim := { program := "ytdnghpfmobnjlaagreat", sum := "cc27f1fc82e76da10552d11d0f7b4edee75f1eddc8f570c9e0e87346b4b986aa", func := "carabiner/carabinerlaw13.PaxosOne", spec := "paxosOne", inPlace := ["sync/atomic.AddInt64", "sync/atomic.LoadUint32", "(*internal/sync.Mutex).Lock", "internal/race.Disable", "sync/atomic.CompareAndSwapInt32", "internal/race.Enable", "internal/race.Acquire", "(*internal/sync.Mutex).lockSlow", "internal/sync.runtime_canSpin", "internal/sync.runtime_doSpin", "internal/sync.throw", "internal/sync.runtime_nanotime", "internal/sync.runtime_SemacquireMutex", "sync/atomic.AddInt32", "(*internal/sync.Mutex).Unlock", "internal/race.ReleaseMerge", "(*internal/sync.Mutex).unlockSlow", "internal/sync.fatal", "internal/sync.runtime_Semrelease", "sync/atomic.StoreUint32"], unfollowed := true, recurses := true, apart := false, narrowed := true }
def PaxosOneUptoSaid : Prop := paxosOneUptoRow.holds Tryz.pinned (OpenSpec.upto paxosOneSpec)

/-- 'carabinerlaw13.PaxosRises', WHERE WHAT IT READS IS OF BULK AT MOST 1048576: true; the input reads as it did. -/
def paxosRisesUptoRow : OpenClaim := { program := "ytdnghpfmobnjlaagreat", sum := "cc27f1fc82e76da10552d11d0f7b4edee75f1eddc8f570c9e0e87346b4b986aa", func := "carabiner/carabinerlaw13.PaxosRises", spec := "paxosRises", inPlace := ["sync/atomic.AddInt64", "sync/atomic.LoadUint32", "(*internal/sync.Mutex).Lock", "internal/race.Disable", "sync/atomic.CompareAndSwapInt32", "internal/race.Enable", "internal/race.Acquire", "(*internal/sync.Mutex).lockSlow", "internal/sync.runtime_canSpin", "internal/sync.runtime_doSpin", "internal/sync.throw", "internal/sync.runtime_nanotime", "internal/sync.runtime_SemacquireMutex", "sync/atomic.AddInt32", "(*internal/sync.Mutex).Unlock", "internal/race.ReleaseMerge", "(*internal/sync.Mutex).unlockSlow", "internal/sync.fatal", "internal/sync.runtime_Semrelease", "sync/atomic.StoreUint32"], unfollowed := true, recurses := true, apart := false, narrowed := true }
def PaxosRisesUptoSaid : Prop := paxosRisesUptoRow.holds Tryz.pinned (OpenSpec.upto paxosRisesSpec)

/-- 'carabinerlaw13.PaxosAccepts', WHERE WHAT IT READS IS OF BULK AT MOST 1048576: true; the input reads as it did. -/
def paxosAcceptsUptoRow : OpenClaim := { program := "ytdnghpfmobnjlaagreat", sum := "cc27f1fc82e76da10552d11d0f7b4edee75f1eddc8f570c9e0e87346b4b986aa", func := "carabiner/carabinerlaw13.PaxosAccepts", spec := "paxosAccepts", inPlace := ["sync/atomic.AddInt64", "sync/atomic.LoadUint32", "(*internal/sync.Mutex).Lock", "internal/race.Disable", "sync/atomic.CompareAndSwapInt32", "internal/race.Enable", "internal/race.Acquire", "(*internal/sync.Mutex).lockSlow", "internal/sync.runtime_canSpin", "internal/sync.runtime_doSpin", "internal/sync.throw", "internal/sync.runtime_nanotime", "internal/sync.runtime_SemacquireMutex", "sync/atomic.AddInt32", "(*internal/sync.Mutex).Unlock", "internal/race.ReleaseMerge", "(*internal/sync.Mutex).unlockSlow", "internal/sync.fatal", "internal/sync.runtime_Semrelease", "sync/atomic.StoreUint32"], unfollowed := true, recurses := true, apart := false, narrowed := true }
def PaxosAcceptsUptoSaid : Prop := paxosAcceptsUptoRow.holds Tryz.pinned (OpenSpec.upto paxosAcceptsSpec)

end Rows
end Go.Proofs.YtdnghpfmobnjlaaGreat
