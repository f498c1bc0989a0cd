/-
  No cell of these rows narrows 'for every input' (looked for: loops, veiled, ifaces, maps, wideKeys, modest, calm, conditions, laid).
  DERIVED. THE GIVEN ROWS OF THIS SEAT. 7 by the template 'for every input the law returns true; each argument reads behind the call as it read before'; 0 by the template 'total and deterministic' (their statements: YtgipfenjachpnaaTotals.lean).
  GIVEN WITH THE SEED: the statements are not yours to turn. If you find one false, say at which input.
  Laid BY PROGRAM, IN A SANDBOX (cutbox-rows.mjs): the forced cells as the released guide's own fill.sh prints them over the translation 5b4e8b92c84d56fd… (all of the seat's roots in one cut). By AI agents, Wed Nov 11 2026. No macro, syntax, notation, axiom, sorry.
-/
import Derived.Test.YtgipfenjachpnaaChecked
import GoSem.Claim
import GoSem.ClaimJoined
import GoSem.ClaimMapViews
import Derived.JoinedTies
import Derived.KernelRfl
namespace Go.Proofs.Ytgipfenjachpnaa
/- THE CELL 'sum', in the pinned program and in every row, IS THE sha256 OF THE DUMP (.gsa) THAT YtgipfenjachpnaaProg.lean LOADS. Nothing in Lean hashes anything: it is a label: what it is worth is what the hold of that sum in a sandbox is worth. -/
noncomputable def Try.pinned : Pinned := { name := "ytgipfenjachpnaa", sum := "5b4e8b92c84d56fd7e55e78297a793af7d0f43a4594e7ef677501f299c4da4e1", checked := Try.checked }
namespace Rows
def none {H : Type} : Left H := { results := [], args := [] }

/-- 'holdfastlaw05.CellChecks': WHATEVER THE INPUT: true; the input reads as it did. -/
def cellChecksSpec : ChangeSpec := { name := "cellChecks", fn := fun _ => fun
  | [d1, d2, d3] => { results := [.lit (.bool true)], args := [d1, d2, d3] }
  | _ => none }
def cellChecksRow : OpenClaim := { program := "ytgipfenjachpnaa", sum := "5b4e8b92c84d56fd7e55e78297a793af7d0f43a4594e7ef677501f299c4da4e1", func := "holdfast/holdfastlaw05.CellChecks", spec := "cellChecks", apart := false }
def CellChecksSaid : Prop := cellChecksRow.holds Try.pinned (OpenSpec.ofChange cellChecksSpec)

/-- ITS FALSE NEIGHBOUR: 'it returns false'. Refute it at one input. -/
def cellChecksWrong : ChangeSpec := { name := "cellChecks", fn := fun _ => fun
  | [d1, d2, d3] => { results := [.lit (.bool false)], args := [d1, d2, d3] }
  | _ => none }
def CellChecksWrongFalsely : Prop := cellChecksRow.holds Try.pinned (OpenSpec.ofChange cellChecksWrong)

/-- 'holdfastlaw15.ManifestFinds': WHATEVER THE INPUT: true; the input reads as it did. -/
def manifestFindsSpec : ChangeSpec := { name := "manifestFinds", fn := fun _ => fun
  | [d1, d2] => { results := [.lit (.bool true)], args := [d1, d2] }
  | _ => none }
def manifestFindsRow : OpenClaim := { program := "ytgipfenjachpnaa", sum := "5b4e8b92c84d56fd7e55e78297a793af7d0f43a4594e7ef677501f299c4da4e1", func := "holdfast/holdfastlaw15.ManifestFinds", spec := "manifestFinds", inPlace := ["sync/atomic.AddInt64", "sync/atomic.LoadUint32", "(*internal/sync.Mutex).Lock", "internal/race.Disable", "sync/atomic.CompareAndSwapInt32", "internal/race.Enable", "internal/race.Acquire", "(*internal/sync.Mutex).lockSlow", "internal/sync.runtime_canSpin", "internal/sync.runtime_doSpin", "internal/sync.throw", "internal/sync.runtime_nanotime", "internal/sync.runtime_SemacquireMutex", "sync/atomic.AddInt32", "(*internal/sync.Mutex).Unlock", "internal/race.ReleaseMerge", "(*internal/sync.Mutex).unlockSlow", "internal/sync.fatal", "internal/sync.runtime_Semrelease", "sync/atomic.StoreUint32"], unfollowed := true, recurses := true, apart := false }
def ManifestFindsSaid : Prop := manifestFindsRow.holds Try.pinned (OpenSpec.ofChange manifestFindsSpec)

/-- ITS FALSE NEIGHBOUR: 'it returns false'. Refute it at one input. -/
def manifestFindsWrong : ChangeSpec := { name := "manifestFinds", fn := fun _ => fun
  | [d1, d2] => { results := [.lit (.bool false)], args := [d1, d2] }
  | _ => none }
def ManifestFindsWrongFalsely : Prop := manifestFindsRow.holds Try.pinned (OpenSpec.ofChange manifestFindsWrong)

/-- 'holdfastlaw05.CellTakes': WHATEVER THE INPUT: true; the input reads as it did. -/
def cellTakesSpec : ChangeSpec := { name := "cellTakes", fn := fun _ => fun
  | [d] => { results := [.lit (.bool true)], args := [d] }
  | _ => none }
def cellTakesRow : OpenClaim := { program := "ytgipfenjachpnaa", sum := "5b4e8b92c84d56fd7e55e78297a793af7d0f43a4594e7ef677501f299c4da4e1", func := "holdfast/holdfastlaw05.CellTakes", spec := "cellTakes", apart := false }
def CellTakesSaid : Prop := cellTakesRow.holds Try.pinned (OpenSpec.ofChange cellTakesSpec)

/-- ITS FALSE NEIGHBOUR: 'it returns false'. Refute it at one input. -/
def cellTakesWrong : ChangeSpec := { name := "cellTakes", fn := fun _ => fun
  | [d] => { results := [.lit (.bool false)], args := [d] }
  | _ => none }
def CellTakesWrongFalsely : Prop := cellTakesRow.holds Try.pinned (OpenSpec.ofChange cellTakesWrong)

/-- 'holdfastlaw15.ManifestTakes': WHATEVER THE INPUT: true; the input reads as it did. -/
def manifestTakesSpec : ChangeSpec := { name := "manifestTakes", fn := fun _ => fun
  | [d1, d2, d3] => { results := [.lit (.bool true)], args := [d1, d2, d3] }
  | _ => none }
def manifestTakesRow : OpenClaim := { program := "ytgipfenjachpnaa", sum := "5b4e8b92c84d56fd7e55e78297a793af7d0f43a4594e7ef677501f299c4da4e1", func := "holdfast/holdfastlaw15.ManifestTakes", spec := "manifestTakes", inPlace := ["sync/atomic.AddInt64", "sync/atomic.LoadUint32", "(*internal/sync.Mutex).Lock", "internal/race.Disable", "sync/atomic.CompareAndSwapInt32", "internal/race.Enable", "internal/race.Acquire", "(*internal/sync.Mutex).lockSlow", "internal/sync.runtime_canSpin", "internal/sync.runtime_doSpin", "internal/sync.throw", "internal/sync.runtime_nanotime", "internal/sync.runtime_SemacquireMutex", "sync/atomic.AddInt32", "(*internal/sync.Mutex).Unlock", "internal/race.ReleaseMerge", "(*internal/sync.Mutex).unlockSlow", "internal/sync.fatal", "internal/sync.runtime_Semrelease", "sync/atomic.StoreUint32"], unfollowed := true, recurses := true, apart := false }
def ManifestTakesSaid : Prop := manifestTakesRow.holds Try.pinned (OpenSpec.ofChange manifestTakesSpec)

/-- ITS FALSE NEIGHBOUR: 'it returns false'. Refute it at one input. -/
def manifestTakesWrong : ChangeSpec := { name := "manifestTakes", fn := fun _ => fun
  | [d1, d2, d3] => { results := [.lit (.bool false)], args := [d1, d2, d3] }
  | _ => none }
def ManifestTakesWrongFalsely : Prop := manifestTakesRow.holds Try.pinned (OpenSpec.ofChange manifestTakesWrong)

/-- 'holdfastlaw18.CursorTakes': WHATEVER THE INPUT: true; the input reads as it did. -/
def cursorTakesSpec : ChangeSpec := { name := "cursorTakes", fn := fun _ => fun
  | [d] => { results := [.lit (.bool true)], args := [d] }
  | _ => none }
def cursorTakesRow : OpenClaim := { program := "ytgipfenjachpnaa", sum := "5b4e8b92c84d56fd7e55e78297a793af7d0f43a4594e7ef677501f299c4da4e1", func := "holdfast/holdfastlaw18.CursorTakes", spec := "cursorTakes", inPlace := ["sync/atomic.AddInt64", "sync/atomic.LoadUint32", "(*internal/sync.Mutex).Lock", "internal/race.Disable", "sync/atomic.CompareAndSwapInt32", "internal/race.Enable", "internal/race.Acquire", "(*internal/sync.Mutex).lockSlow", "internal/sync.runtime_canSpin", "internal/sync.runtime_doSpin", "internal/sync.throw", "internal/sync.runtime_nanotime", "internal/sync.runtime_SemacquireMutex", "sync/atomic.AddInt32", "(*internal/sync.Mutex).Unlock", "internal/race.ReleaseMerge", "(*internal/sync.Mutex).unlockSlow", "internal/sync.fatal", "internal/sync.runtime_Semrelease", "sync/atomic.StoreUint32"], unfollowed := true, recurses := true, apart := false }
def CursorTakesSaid : Prop := cursorTakesRow.holds Try.pinned (OpenSpec.ofChange cursorTakesSpec)

/-- ITS FALSE NEIGHBOUR: 'it returns false'. Refute it at one input. -/
def cursorTakesWrong : ChangeSpec := { name := "cursorTakes", fn := fun _ => fun
  | [d] => { results := [.lit (.bool false)], args := [d] }
  | _ => none }
def CursorTakesWrongFalsely : Prop := cursorTakesRow.holds Try.pinned (OpenSpec.ofChange cursorTakesWrong)

/-- 'holdfastlaw18.CursorSteps': WHATEVER THE INPUT: true; the input reads as it did. -/
def cursorStepsSpec : ChangeSpec := { name := "cursorSteps", fn := fun _ => fun
  | [d] => { results := [.lit (.bool true)], args := [d] }
  | _ => none }
def cursorStepsRow : OpenClaim := { program := "ytgipfenjachpnaa", sum := "5b4e8b92c84d56fd7e55e78297a793af7d0f43a4594e7ef677501f299c4da4e1", func := "holdfast/holdfastlaw18.CursorSteps", spec := "cursorSteps", inPlace := ["sync/atomic.AddInt64", "sync/atomic.LoadUint32", "(*internal/sync.Mutex).Lock", "internal/race.Disable", "sync/atomic.CompareAndSwapInt32", "internal/race.Enable", "internal/race.Acquire", "(*internal/sync.Mutex).lockSlow", "internal/sync.runtime_canSpin", "internal/sync.runtime_doSpin", "internal/sync.throw", "internal/sync.runtime_nanotime", "internal/sync.runtime_SemacquireMutex", "sync/atomic.AddInt32", "(*internal/sync.Mutex).Unlock", "internal/race.ReleaseMerge", "(*internal/sync.Mutex).unlockSlow", "internal/sync.fatal", "internal/sync.runtime_Semrelease", "sync/atomic.StoreUint32"], unfollowed := true, recurses := true, apart := false }
def CursorStepsSaid : Prop := cursorStepsRow.holds Try.pinned (OpenSpec.ofChange cursorStepsSpec)

/-- ITS FALSE NEIGHBOUR: 'it returns false'. Refute it at one input. -/
def cursorStepsWrong : ChangeSpec := { name := "cursorSteps", fn := fun _ => fun
  | [d] => { results := [.lit (.bool false)], args := [d] }
  | _ => none }
def CursorStepsWrongFalsely : Prop := cursorStepsRow.holds Try.pinned (OpenSpec.ofChange cursorStepsWrong)

/-- 'holdfastlaw23.ParcelBack': WHATEVER THE INPUT: true; the input reads as it did. -/
def parcelBackSpec : ChangeSpec := { name := "parcelBack", fn := fun _ => fun
  | [d1, d2, d3] => { results := [.lit (.bool true)], args := [d1, d2, d3] }
  | _ => none }
def parcelBackRow : OpenClaim := { program := "ytgipfenjachpnaa", sum := "5b4e8b92c84d56fd7e55e78297a793af7d0f43a4594e7ef677501f299c4da4e1", func := "holdfast/holdfastlaw23.ParcelBack", spec := "parcelBack", inPlace := ["sync/atomic.AddInt64", "sync/atomic.LoadUint32", "(*internal/sync.Mutex).Lock", "internal/race.Disable", "sync/atomic.CompareAndSwapInt32", "internal/race.Enable", "internal/race.Acquire", "(*internal/sync.Mutex).lockSlow", "internal/sync.runtime_canSpin", "internal/sync.runtime_doSpin", "internal/sync.throw", "internal/sync.runtime_nanotime", "internal/sync.runtime_SemacquireMutex", "sync/atomic.AddInt32", "(*internal/sync.Mutex).Unlock", "internal/race.ReleaseMerge", "(*internal/sync.Mutex).unlockSlow", "internal/sync.fatal", "internal/sync.runtime_Semrelease", "sync/atomic.StoreUint32"], unfollowed := true, recurses := true, apart := false }
def ParcelBackSaid : Prop := parcelBackRow.holds Try.pinned (OpenSpec.ofChange parcelBackSpec)

/-- ITS FALSE NEIGHBOUR: 'it returns false'. Refute it at one input. -/
def parcelBackWrong : ChangeSpec := { name := "parcelBack", fn := fun _ => fun
  | [d1, d2, d3] => { results := [.lit (.bool false)], args := [d1, d2, d3] }
  | _ => none }
def ParcelBackWrongFalsely : Prop := parcelBackRow.holds Try.pinned (OpenSpec.ofChange parcelBackWrong)

/- THE SECOND FORM. 'bulk': how many values and letters a reading holds, each counted each time it is reached (what is shared counts as often as it is met; a slice's spare places count too). A statement '..UptoSaid' is the law's where the arguments, and the package variables that the reading takes, are together of bulk at most 1048576: NARROWER than '..Said'. Prove '..Said' where nothing that the law and all that it calls make is longer than what came in: it says more and counts as full. Else prove '..UptoSaid'. A law counts once. -/
mutual
def uptoBulk {H : Type} : DataW H → Nat
  | .lit (.string bytes) => bytes.length + 1
  | .lit _ => 1
  | .nil => 1
  | .ptr d => uptoBulk d + 1
  | .slice elems spare => uptoBulkAll elems + uptoBulkAll spare + 1
  | .agg parts => uptoBulkAll parts + 1
  | .iface _ d => uptoBulk d + 1
  | .map entries => uptoBulkEntries entries + 1
  | .held _ => 1
def uptoBulkAll {H : Type} : List (DataW H) → Nat
  | [] => 0
  | d :: r => uptoBulk d + uptoBulkAll r
def uptoBulkEntries {H : Type} : List (Lit × DataW H) → Nat
  | [] => 0
  | x :: r => uptoBulkEntry x + uptoBulkEntries r
def uptoBulkEntry {H : Type} : Lit × DataW H → Nat
  | (.string bytes, d) => bytes.length + uptoBulk d + 1
  | (_, d) => uptoBulk d + 1
 end
def uptoSmall : (H : Type) → List (DataW H) → Bool := fun _ ds => decide (uptoBulkAll ds ≤ 1048576)
def OpenSpec.upto (s : _root_.Go.ChangeSpec) : _root_.Go.OpenSpec := { _root_.Go.OpenSpec.ofChange s with cond := some uptoSmall }

/-- 'holdfastlaw05.CellChecks', WHERE WHAT IT READS IS OF BULK AT MOST 1048576: true; the input reads as it did. -/
def cellChecksUptoRow : OpenClaim := { program := "ytgipfenjachpnaa", sum := "5b4e8b92c84d56fd7e55e78297a793af7d0f43a4594e7ef677501f299c4da4e1", func := "holdfast/holdfastlaw05.CellChecks", spec := "cellChecks", apart := false, narrowed := true }
def CellChecksUptoSaid : Prop := cellChecksUptoRow.holds Try.pinned (OpenSpec.upto cellChecksSpec)

/-- 'holdfastlaw15.ManifestFinds', WHERE WHAT IT READS IS OF BULK AT MOST 1048576: true; the input reads as it did. -/
def manifestFindsUptoRow : OpenClaim := { program := "ytgipfenjachpnaa", sum := "5b4e8b92c84d56fd7e55e78297a793af7d0f43a4594e7ef677501f299c4da4e1", func := "holdfast/holdfastlaw15.ManifestFinds", spec := "manifestFinds", inPlace := ["sync/atomic.AddInt64", "sync/atomic.LoadUint32", "(*internal/sync.Mutex).Lock", "internal/race.Disable", "sync/atomic.CompareAndSwapInt32", "internal/race.Enable", "internal/race.Acquire", "(*internal/sync.Mutex).lockSlow", "internal/sync.runtime_canSpin", "internal/sync.runtime_doSpin", "internal/sync.throw", "internal/sync.runtime_nanotime", "internal/sync.runtime_SemacquireMutex", "sync/atomic.AddInt32", "(*internal/sync.Mutex).Unlock", "internal/race.ReleaseMerge", "(*internal/sync.Mutex).unlockSlow", "internal/sync.fatal", "internal/sync.runtime_Semrelease", "sync/atomic.StoreUint32"], unfollowed := true, recurses := true, apart := false, narrowed := true }
def ManifestFindsUptoSaid : Prop := manifestFindsUptoRow.holds Try.pinned (OpenSpec.upto manifestFindsSpec)

/-- 'holdfastlaw05.CellTakes', WHERE WHAT IT READS IS OF BULK AT MOST 1048576: true; the input reads as it did. -/
def cellTakesUptoRow : OpenClaim := { program := "ytgipfenjachpnaa", sum := "5b4e8b92c84d56fd7e55e78297a793af7d0f43a4594e7ef677501f299c4da4e1", func := "holdfast/holdfastlaw05.CellTakes", spec := "cellTakes", apart := false, narrowed := true }
def CellTakesUptoSaid : Prop := cellTakesUptoRow.holds Try.pinned (OpenSpec.upto cellTakesSpec)

/-- 'holdfastlaw15.ManifestTakes', WHERE WHAT IT READS IS OF BULK AT MOST 1048576: true; the input reads as it did. -/
def manifestTakesUptoRow : OpenClaim := { program := "ytgipfenjachpnaa", sum := "5b4e8b92c84d56fd7e55e78297a793af7d0f43a4594e7ef677501f299c4da4e1", func := "holdfast/holdfastlaw15.ManifestTakes", spec := "manifestTakes", inPlace := ["sync/atomic.AddInt64", "sync/atomic.LoadUint32", "(*internal/sync.Mutex).Lock", "internal/race.Disable", "sync/atomic.CompareAndSwapInt32", "internal/race.Enable", "internal/race.Acquire", "(*internal/sync.Mutex).lockSlow", "internal/sync.runtime_canSpin", "internal/sync.runtime_doSpin", "internal/sync.throw", "internal/sync.runtime_nanotime", "internal/sync.runtime_SemacquireMutex", "sync/atomic.AddInt32", "(*internal/sync.Mutex).Unlock", "internal/race.ReleaseMerge", "(*internal/sync.Mutex).unlockSlow", "internal/sync.fatal", "internal/sync.runtime_Semrelease", "sync/atomic.StoreUint32"], unfollowed := true, recurses := true, apart := false, narrowed := true }
def ManifestTakesUptoSaid : Prop := manifestTakesUptoRow.holds Try.pinned (OpenSpec.upto manifestTakesSpec)

/-- 'holdfastlaw18.CursorTakes', WHERE WHAT IT READS IS OF BULK AT MOST 1048576: true; the input reads as it did. -/
def cursorTakesUptoRow : OpenClaim := { program := "ytgipfenjachpnaa", sum := "5b4e8b92c84d56fd7e55e78297a793af7d0f43a4594e7ef677501f299c4da4e1", func := "holdfast/holdfastlaw18.CursorTakes", spec := "cursorTakes", inPlace := ["sync/atomic.AddInt64", "sync/atomic.LoadUint32", "(*internal/sync.Mutex).Lock", "internal/race.Disable", "sync/atomic.CompareAndSwapInt32", "internal/race.Enable", "internal/race.Acquire", "(*internal/sync.Mutex).lockSlow", "internal/sync.runtime_canSpin", "internal/sync.runtime_doSpin", "internal/sync.throw", "internal/sync.runtime_nanotime", "internal/sync.runtime_SemacquireMutex", "sync/atomic.AddInt32", "(*internal/sync.Mutex).Unlock", "internal/race.ReleaseMerge", "(*internal/sync.Mutex).unlockSlow", "internal/sync.fatal", "internal/sync.runtime_Semrelease", "sync/atomic.StoreUint32"], unfollowed := true, recurses := true, apart := false, narrowed := true }
def CursorTakesUptoSaid : Prop := cursorTakesUptoRow.holds Try.pinned (OpenSpec.upto cursorTakesSpec)

/-- 'holdfastlaw18.CursorSteps', WHERE WHAT IT READS IS OF BULK AT MOST 1048576: true; the input reads as it did. -/
def cursorStepsUptoRow : OpenClaim := { program := "ytgipfenjachpnaa", sum := "5b4e8b92c84d56fd7e55e78297a793af7d0f43a4594e7ef677501f299c4da4e1", func := "holdfast/holdfastlaw18.CursorSteps", spec := "cursorSteps", inPlace := ["sync/atomic.AddInt64", "sync/atomic.LoadUint32", "(*internal/sync.Mutex).Lock", "internal/race.Disable", "sync/atomic.CompareAndSwapInt32", "internal/race.Enable", "internal/race.Acquire", "(*internal/sync.Mutex).lockSlow", "internal/sync.runtime_canSpin", "internal/sync.runtime_doSpin", "internal/sync.throw", "internal/sync.runtime_nanotime", "internal/sync.runtime_SemacquireMutex", "sync/atomic.AddInt32", "(*internal/sync.Mutex).Unlock", "internal/race.ReleaseMerge", "(*internal/sync.Mutex).unlockSlow", "internal/sync.fatal", "internal/sync.runtime_Semrelease", "sync/atomic.StoreUint32"], unfollowed := true, recurses := true, apart := false, narrowed := true }
def CursorStepsUptoSaid : Prop := cursorStepsUptoRow.holds Try.pinned (OpenSpec.upto cursorStepsSpec)

/-- 'holdfastlaw23.ParcelBack', WHERE WHAT IT READS IS OF BULK AT MOST 1048576: true; the input reads as it did. -/
def parcelBackUptoRow : OpenClaim := { program := "ytgipfenjachpnaa", sum := "5b4e8b92c84d56fd7e55e78297a793af7d0f43a4594e7ef677501f299c4da4e1", func := "holdfast/holdfastlaw23.ParcelBack", spec := "parcelBack", inPlace := ["sync/atomic.AddInt64", "sync/atomic.LoadUint32", "(*internal/sync.Mutex).Lock", "internal/race.Disable", "sync/atomic.CompareAndSwapInt32", "internal/race.Enable", "internal/race.Acquire", "(*internal/sync.Mutex).lockSlow", "internal/sync.runtime_canSpin", "internal/sync.runtime_doSpin", "internal/sync.throw", "internal/sync.runtime_nanotime", "internal/sync.runtime_SemacquireMutex", "sync/atomic.AddInt32", "(*internal/sync.Mutex).Unlock", "internal/race.ReleaseMerge", "(*internal/sync.Mutex).unlockSlow", "internal/sync.fatal", "internal/sync.runtime_Semrelease", "sync/atomic.StoreUint32"], unfollowed := true, recurses := true, apart := false, narrowed := true }
def ParcelBackUptoSaid : Prop := parcelBackUptoRow.holds Try.pinned (OpenSpec.upto parcelBackSpec)

end Rows
end Go.Proofs.Ytgipfenjachpnaa
