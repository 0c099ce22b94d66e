/-
  No cell of these rows narrows 'for every input' (looked for: loops, veiled, ifaces, maps, wideKeys, modest, calm, conditions, laid).
  DERIVED. THE GIVEN ROWS OF THIS SEAT. 11 by the template 'for every input the law returns true; each argument reads behind the call as it read before'; 0 by the template 'total and deterministic' (their statements: YtkkagpchcefidaaTotals.lean).
  GIVEN WITH THE SEED: the statements are not yours to turn. If you find one false, say at which input.
  Laid BY PROGRAM, IN A SANDBOX (cutbox-rows.mjs): the forced cells as the released guide's own fill.sh prints them over the translation f5c3e08f192d76d9… (all of the seat's roots in one cut). By AI agents, Wed Nov 11 2026. No macro, syntax, notation, axiom, sorry.
-/
import Derived.Test.YtkkagpchcefidaaChecked
import GoSem.Claim
import GoSem.ClaimJoined
import GoSem.ClaimMapViews
import Derived.JoinedTies
import Derived.KernelRfl
namespace Go.Proofs.Ytkkagpchcefidaa
/- THE CELL 'sum', in the pinned program and in every row, IS THE sha256 OF THE DUMP (.gsa) THAT YtkkagpchcefidaaProg.lean LOADS. Nothing in Lean hashes anything: it is a label: what it is worth is what the hold of that sum in a sandbox is worth. -/
noncomputable def Try.pinned : Pinned := { name := "ytkkagpchcefidaa", sum := "f5c3e08f192d76d9970dbe85a91119b9bbfe2f5fcb9a112a7ee908bf93f09b5c", checked := Try.checked }
namespace Rows
def none {H : Type} : Left H := { results := [], args := [] }

/-- 'heraldlaw10.QueuePuts': WHATEVER THE INPUT: true; the input reads as it did. -/
def queuePutsSpec : ChangeSpec := { name := "queuePuts", fn := fun _ => fun
  | [d1, d2, d3] => { results := [.lit (.bool true)], args := [d1, d2, d3] }
  | _ => none }
def queuePutsRow : OpenClaim := { program := "ytkkagpchcefidaa", sum := "f5c3e08f192d76d9970dbe85a91119b9bbfe2f5fcb9a112a7ee908bf93f09b5c", func := "herald/heraldlaw10.QueuePuts", spec := "queuePuts", inPlace := ["(*internal/sync.Mutex).Lock", "internal/race.Disable", "sync/atomic.CompareAndSwapInt32", "internal/race.Enable", "internal/race.Acquire", "(*internal/sync.Mutex).lockSlow", "internal/sync.runtime_canSpin", "internal/sync.runtime_doSpin", "internal/sync.throw", "internal/sync.runtime_nanotime", "internal/sync.runtime_SemacquireMutex", "sync/atomic.AddInt32", "(*internal/sync.Mutex).Unlock", "internal/race.ReleaseMerge", "(*internal/sync.Mutex).unlockSlow", "internal/sync.fatal", "internal/sync.runtime_Semrelease"], unfollowed := true, recurses := true, apart := false }
def QueuePutsSaid : Prop := queuePutsRow.holds Try.pinned (OpenSpec.ofChange queuePutsSpec)

/-- ITS FALSE NEIGHBOUR: 'it returns false'. Refute it at one input. -/
def queuePutsWrong : ChangeSpec := { name := "queuePuts", fn := fun _ => fun
  | [d1, d2, d3] => { results := [.lit (.bool false)], args := [d1, d2, d3] }
  | _ => none }
def QueuePutsWrongFalsely : Prop := queuePutsRow.holds Try.pinned (OpenSpec.ofChange queuePutsWrong)

/-- 'heraldlaw10.QueueCollapses': WHATEVER THE INPUT: true; the input reads as it did. -/
def queueCollapsesSpec : ChangeSpec := { name := "queueCollapses", fn := fun _ => fun
  | [d1, d2, d3] => { results := [.lit (.bool true)], args := [d1, d2, d3] }
  | _ => none }
def queueCollapsesRow : OpenClaim := { program := "ytkkagpchcefidaa", sum := "f5c3e08f192d76d9970dbe85a91119b9bbfe2f5fcb9a112a7ee908bf93f09b5c", func := "herald/heraldlaw10.QueueCollapses", spec := "queueCollapses", inPlace := ["(*internal/sync.Mutex).Lock", "internal/race.Disable", "sync/atomic.CompareAndSwapInt32", "internal/race.Enable", "internal/race.Acquire", "(*internal/sync.Mutex).lockSlow", "internal/sync.runtime_canSpin", "internal/sync.runtime_doSpin", "internal/sync.throw", "internal/sync.runtime_nanotime", "internal/sync.runtime_SemacquireMutex", "sync/atomic.AddInt32", "(*internal/sync.Mutex).Unlock", "internal/race.ReleaseMerge", "(*internal/sync.Mutex).unlockSlow", "internal/sync.fatal", "internal/sync.runtime_Semrelease"], unfollowed := true, recurses := true, apart := false }
def QueueCollapsesSaid : Prop := queueCollapsesRow.holds Try.pinned (OpenSpec.ofChange queueCollapsesSpec)

/-- ITS FALSE NEIGHBOUR: 'it returns false'. Refute it at one input. -/
def queueCollapsesWrong : ChangeSpec := { name := "queueCollapses", fn := fun _ => fun
  | [d1, d2, d3] => { results := [.lit (.bool false)], args := [d1, d2, d3] }
  | _ => none }
def QueueCollapsesWrongFalsely : Prop := queueCollapsesRow.holds Try.pinned (OpenSpec.ofChange queueCollapsesWrong)

/-- 'heraldlaw10.QueueNexts': WHATEVER THE INPUT: true; the input reads as it did. -/
def queueNextsSpec : ChangeSpec := { name := "queueNexts", fn := fun _ => fun
  | [d1, d2, d3] => { results := [.lit (.bool true)], args := [d1, d2, d3] }
  | _ => none }
def queueNextsRow : OpenClaim := { program := "ytkkagpchcefidaa", sum := "f5c3e08f192d76d9970dbe85a91119b9bbfe2f5fcb9a112a7ee908bf93f09b5c", func := "herald/heraldlaw10.QueueNexts", spec := "queueNexts", inPlace := ["(*internal/sync.Mutex).Lock", "internal/race.Disable", "sync/atomic.CompareAndSwapInt32", "internal/race.Enable", "internal/race.Acquire", "(*internal/sync.Mutex).lockSlow", "internal/sync.runtime_canSpin", "internal/sync.runtime_doSpin", "internal/sync.throw", "internal/sync.runtime_nanotime", "internal/sync.runtime_SemacquireMutex", "sync/atomic.AddInt32", "(*internal/sync.Mutex).Unlock", "internal/race.ReleaseMerge", "(*internal/sync.Mutex).unlockSlow", "internal/sync.fatal", "internal/sync.runtime_Semrelease"], unfollowed := true, recurses := true, apart := false }
def QueueNextsSaid : Prop := queueNextsRow.holds Try.pinned (OpenSpec.ofChange queueNextsSpec)

/-- ITS FALSE NEIGHBOUR: 'it returns false'. Refute it at one input. -/
def queueNextsWrong : ChangeSpec := { name := "queueNexts", fn := fun _ => fun
  | [d1, d2, d3] => { results := [.lit (.bool false)], args := [d1, d2, d3] }
  | _ => none }
def QueueNextsWrongFalsely : Prop := queueNextsRow.holds Try.pinned (OpenSpec.ofChange queueNextsWrong)

/-- 'heraldlaw10.QueueTakes': WHATEVER THE INPUT: true; the input reads as it did. -/
def queueTakesSpec : ChangeSpec := { name := "queueTakes", fn := fun _ => fun
  | [d1, d2, d3] => { results := [.lit (.bool true)], args := [d1, d2, d3] }
  | _ => none }
def queueTakesRow : OpenClaim := { program := "ytkkagpchcefidaa", sum := "f5c3e08f192d76d9970dbe85a91119b9bbfe2f5fcb9a112a7ee908bf93f09b5c", func := "herald/heraldlaw10.QueueTakes", spec := "queueTakes", inPlace := ["(*internal/sync.Mutex).Lock", "internal/race.Disable", "sync/atomic.CompareAndSwapInt32", "internal/race.Enable", "internal/race.Acquire", "(*internal/sync.Mutex).lockSlow", "internal/sync.runtime_canSpin", "internal/sync.runtime_doSpin", "internal/sync.throw", "internal/sync.runtime_nanotime", "internal/sync.runtime_SemacquireMutex", "sync/atomic.AddInt32", "(*internal/sync.Mutex).Unlock", "internal/race.ReleaseMerge", "(*internal/sync.Mutex).unlockSlow", "internal/sync.fatal", "internal/sync.runtime_Semrelease"], unfollowed := true, recurses := true, apart := false }
def QueueTakesSaid : Prop := queueTakesRow.holds Try.pinned (OpenSpec.ofChange queueTakesSpec)

/-- ITS FALSE NEIGHBOUR: 'it returns false'. Refute it at one input. -/
def queueTakesWrong : ChangeSpec := { name := "queueTakes", fn := fun _ => fun
  | [d1, d2, d3] => { results := [.lit (.bool false)], args := [d1, d2, d3] }
  | _ => none }
def QueueTakesWrongFalsely : Prop := queueTakesRow.holds Try.pinned (OpenSpec.ofChange queueTakesWrong)

/-- 'heraldlaw10.QueueGoes': WHATEVER THE INPUT: true; the input reads as it did. -/
def queueGoesSpec : ChangeSpec := { name := "queueGoes", fn := fun _ => fun
  | [d1, d2, d3] => { results := [.lit (.bool true)], args := [d1, d2, d3] }
  | _ => none }
def queueGoesRow : OpenClaim := { program := "ytkkagpchcefidaa", sum := "f5c3e08f192d76d9970dbe85a91119b9bbfe2f5fcb9a112a7ee908bf93f09b5c", func := "herald/heraldlaw10.QueueGoes", spec := "queueGoes", inPlace := ["(*internal/sync.Mutex).Lock", "internal/race.Disable", "sync/atomic.CompareAndSwapInt32", "internal/race.Enable", "internal/race.Acquire", "(*internal/sync.Mutex).lockSlow", "internal/sync.runtime_canSpin", "internal/sync.runtime_doSpin", "internal/sync.throw", "internal/sync.runtime_nanotime", "internal/sync.runtime_SemacquireMutex", "sync/atomic.AddInt32", "(*internal/sync.Mutex).Unlock", "internal/race.ReleaseMerge", "(*internal/sync.Mutex).unlockSlow", "internal/sync.fatal", "internal/sync.runtime_Semrelease"], unfollowed := true, recurses := true, apart := false }
def QueueGoesSaid : Prop := queueGoesRow.holds Try.pinned (OpenSpec.ofChange queueGoesSpec)

/-- ITS FALSE NEIGHBOUR: 'it returns false'. Refute it at one input. -/
def queueGoesWrong : ChangeSpec := { name := "queueGoes", fn := fun _ => fun
  | [d1, d2, d3] => { results := [.lit (.bool false)], args := [d1, d2, d3] }
  | _ => none }
def QueueGoesWrongFalsely : Prop := queueGoesRow.holds Try.pinned (OpenSpec.ofChange queueGoesWrong)

/-- 'heraldlaw10.QueueTwo': WHATEVER THE INPUT: true; the input reads as it did. -/
def queueTwoSpec : ChangeSpec := { name := "queueTwo", fn := fun _ => fun
  | [d1, d2, d3, d4] => { results := [.lit (.bool true)], args := [d1, d2, d3, d4] }
  | _ => none }
def queueTwoRow : OpenClaim := { program := "ytkkagpchcefidaa", sum := "f5c3e08f192d76d9970dbe85a91119b9bbfe2f5fcb9a112a7ee908bf93f09b5c", func := "herald/heraldlaw10.QueueTwo", spec := "queueTwo", inPlace := ["(*internal/sync.Mutex).Lock", "internal/race.Disable", "sync/atomic.CompareAndSwapInt32", "internal/race.Enable", "internal/race.Acquire", "(*internal/sync.Mutex).lockSlow", "internal/sync.runtime_canSpin", "internal/sync.runtime_doSpin", "internal/sync.throw", "internal/sync.runtime_nanotime", "internal/sync.runtime_SemacquireMutex", "sync/atomic.AddInt32", "(*internal/sync.Mutex).Unlock", "internal/race.ReleaseMerge", "(*internal/sync.Mutex).unlockSlow", "internal/sync.fatal", "internal/sync.runtime_Semrelease"], unfollowed := true, recurses := true, apart := false }
def QueueTwoSaid : Prop := queueTwoRow.holds Try.pinned (OpenSpec.ofChange queueTwoSpec)

/-- ITS FALSE NEIGHBOUR: 'it returns false'. Refute it at one input. -/
def queueTwoWrong : ChangeSpec := { name := "queueTwo", fn := fun _ => fun
  | [d1, d2, d3, d4] => { results := [.lit (.bool false)], args := [d1, d2, d3, d4] }
  | _ => none }
def QueueTwoWrongFalsely : Prop := queueTwoRow.holds Try.pinned (OpenSpec.ofChange queueTwoWrong)

/-- 'heraldlaw10.QueueNothing': WHATEVER THE INPUT: true; the input reads as it did. -/
def queueNothingSpec : ChangeSpec := { name := "queueNothing", fn := fun _ => fun
  | [d] => { results := [.lit (.bool true)], args := [d] }
  | _ => none }
def queueNothingRow : OpenClaim := { program := "ytkkagpchcefidaa", sum := "f5c3e08f192d76d9970dbe85a91119b9bbfe2f5fcb9a112a7ee908bf93f09b5c", func := "herald/heraldlaw10.QueueNothing", spec := "queueNothing", inPlace := ["(*internal/sync.Mutex).Lock", "internal/race.Disable", "sync/atomic.CompareAndSwapInt32", "internal/race.Enable", "internal/race.Acquire", "(*internal/sync.Mutex).lockSlow", "internal/sync.runtime_canSpin", "internal/sync.runtime_doSpin", "internal/sync.throw", "internal/sync.runtime_nanotime", "internal/sync.runtime_SemacquireMutex", "sync/atomic.AddInt32", "(*internal/sync.Mutex).Unlock", "internal/race.ReleaseMerge", "(*internal/sync.Mutex).unlockSlow", "internal/sync.fatal", "internal/sync.runtime_Semrelease"], unfollowed := true, recurses := true, apart := false }
def QueueNothingSaid : Prop := queueNothingRow.holds Try.pinned (OpenSpec.ofChange queueNothingSpec)

/-- ITS FALSE NEIGHBOUR: 'it returns false'. Refute it at one input. -/
def queueNothingWrong : ChangeSpec := { name := "queueNothing", fn := fun _ => fun
  | [d] => { results := [.lit (.bool false)], args := [d] }
  | _ => none }
def QueueNothingWrongFalsely : Prop := queueNothingRow.holds Try.pinned (OpenSpec.ofChange queueNothingWrong)

/-- 'heraldlaw10.QueueSound': WHATEVER THE INPUT: true; the input reads as it did. -/
def queueSoundSpec : ChangeSpec := { name := "queueSound", fn := fun _ => fun
  | [d1, d2, d3, d4] => { results := [.lit (.bool true)], args := [d1, d2, d3, d4] }
  | _ => none }
def queueSoundRow : OpenClaim := { program := "ytkkagpchcefidaa", sum := "f5c3e08f192d76d9970dbe85a91119b9bbfe2f5fcb9a112a7ee908bf93f09b5c", func := "herald/heraldlaw10.QueueSound", spec := "queueSound", inPlace := ["(*internal/sync.Mutex).Lock", "internal/race.Disable", "sync/atomic.CompareAndSwapInt32", "internal/race.Enable", "internal/race.Acquire", "(*internal/sync.Mutex).lockSlow", "internal/sync.runtime_canSpin", "internal/sync.runtime_doSpin", "internal/sync.throw", "internal/sync.runtime_nanotime", "internal/sync.runtime_SemacquireMutex", "sync/atomic.AddInt32", "(*internal/sync.Mutex).Unlock", "internal/race.ReleaseMerge", "(*internal/sync.Mutex).unlockSlow", "internal/sync.fatal", "internal/sync.runtime_Semrelease"], unfollowed := true, recurses := true, apart := false }
def QueueSoundSaid : Prop := queueSoundRow.holds Try.pinned (OpenSpec.ofChange queueSoundSpec)

/-- ITS FALSE NEIGHBOUR: 'it returns false'. Refute it at one input. -/
def queueSoundWrong : ChangeSpec := { name := "queueSound", fn := fun _ => fun
  | [d1, d2, d3, d4] => { results := [.lit (.bool false)], args := [d1, d2, d3, d4] }
  | _ => none }
def QueueSoundWrongFalsely : Prop := queueSoundRow.holds Try.pinned (OpenSpec.ofChange queueSoundWrong)

/-- 'heraldlaw10.QueueOrder': WHATEVER THE INPUT: true; the input reads as it did. -/
def queueOrderSpec : ChangeSpec := { name := "queueOrder", fn := fun _ => fun
  | [d1, d2, d3] => { results := [.lit (.bool true)], args := [d1, d2, d3] }
  | _ => none }
def queueOrderRow : OpenClaim := { program := "ytkkagpchcefidaa", sum := "f5c3e08f192d76d9970dbe85a91119b9bbfe2f5fcb9a112a7ee908bf93f09b5c", func := "herald/heraldlaw10.QueueOrder", spec := "queueOrder", inPlace := ["(*internal/sync.Mutex).Lock", "internal/race.Disable", "sync/atomic.CompareAndSwapInt32", "internal/race.Enable", "internal/race.Acquire", "(*internal/sync.Mutex).lockSlow", "internal/sync.runtime_canSpin", "internal/sync.runtime_doSpin", "internal/sync.throw", "internal/sync.runtime_nanotime", "internal/sync.runtime_SemacquireMutex", "sync/atomic.AddInt32", "(*internal/sync.Mutex).Unlock", "internal/race.ReleaseMerge", "(*internal/sync.Mutex).unlockSlow", "internal/sync.fatal", "internal/sync.runtime_Semrelease"], unfollowed := true, recurses := true, apart := false }
def QueueOrderSaid : Prop := queueOrderRow.holds Try.pinned (OpenSpec.ofChange queueOrderSpec)

/-- ITS FALSE NEIGHBOUR: 'it returns false'. Refute it at one input. -/
def queueOrderWrong : ChangeSpec := { name := "queueOrder", fn := fun _ => fun
  | [d1, d2, d3] => { results := [.lit (.bool false)], args := [d1, d2, d3] }
  | _ => none }
def QueueOrderWrongFalsely : Prop := queueOrderRow.holds Try.pinned (OpenSpec.ofChange queueOrderWrong)

/-- 'heraldlaw10.QueueReader': WHATEVER THE INPUT: true; the input reads as it did. -/
def queueReaderSpec : ChangeSpec := { name := "queueReader", fn := fun _ => fun
  | [d1, d2, d3, d4] => { results := [.lit (.bool true)], args := [d1, d2, d3, d4] }
  | _ => none }
def queueReaderRow : OpenClaim := { program := "ytkkagpchcefidaa", sum := "f5c3e08f192d76d9970dbe85a91119b9bbfe2f5fcb9a112a7ee908bf93f09b5c", func := "herald/heraldlaw10.QueueReader", spec := "queueReader", inPlace := ["(*internal/sync.Mutex).Lock", "internal/race.Disable", "sync/atomic.CompareAndSwapInt32", "internal/race.Enable", "internal/race.Acquire", "(*internal/sync.Mutex).lockSlow", "internal/sync.runtime_canSpin", "internal/sync.runtime_doSpin", "internal/sync.throw", "internal/sync.runtime_nanotime", "internal/sync.runtime_SemacquireMutex", "sync/atomic.AddInt32", "(*internal/sync.Mutex).Unlock", "internal/race.ReleaseMerge", "(*internal/sync.Mutex).unlockSlow", "internal/sync.fatal", "internal/sync.runtime_Semrelease"], unfollowed := true, recurses := true, apart := false }
def QueueReaderSaid : Prop := queueReaderRow.holds Try.pinned (OpenSpec.ofChange queueReaderSpec)

/-- ITS FALSE NEIGHBOUR: 'it returns false'. Refute it at one input. -/
def queueReaderWrong : ChangeSpec := { name := "queueReader", fn := fun _ => fun
  | [d1, d2, d3, d4] => { results := [.lit (.bool false)], args := [d1, d2, d3, d4] }
  | _ => none }
def QueueReaderWrongFalsely : Prop := queueReaderRow.holds Try.pinned (OpenSpec.ofChange queueReaderWrong)

/-- 'heraldlaw10.QueueOwn': WHATEVER THE INPUT: true; the input reads as it did. -/
def queueOwnSpec : ChangeSpec := { name := "queueOwn", fn := fun _ => fun
  | [d1, d2, d3] => { results := [.lit (.bool true)], args := [d1, d2, d3] }
  | _ => none }
def queueOwnRow : OpenClaim := { program := "ytkkagpchcefidaa", sum := "f5c3e08f192d76d9970dbe85a91119b9bbfe2f5fcb9a112a7ee908bf93f09b5c", func := "herald/heraldlaw10.QueueOwn", spec := "queueOwn", inPlace := ["(*internal/sync.Mutex).Lock", "internal/race.Disable", "sync/atomic.CompareAndSwapInt32", "internal/race.Enable", "internal/race.Acquire", "(*internal/sync.Mutex).lockSlow", "internal/sync.runtime_canSpin", "internal/sync.runtime_doSpin", "internal/sync.throw", "internal/sync.runtime_nanotime", "internal/sync.runtime_SemacquireMutex", "sync/atomic.AddInt32", "(*internal/sync.Mutex).Unlock", "internal/race.ReleaseMerge", "(*internal/sync.Mutex).unlockSlow", "internal/sync.fatal", "internal/sync.runtime_Semrelease"], unfollowed := true, recurses := true, apart := false }
def QueueOwnSaid : Prop := queueOwnRow.holds Try.pinned (OpenSpec.ofChange queueOwnSpec)

/-- ITS FALSE NEIGHBOUR: 'it returns false'. Refute it at one input. -/
def queueOwnWrong : ChangeSpec := { name := "queueOwn", fn := fun _ => fun
  | [d1, d2, d3] => { results := [.lit (.bool false)], args := [d1, d2, d3] }
  | _ => none }
def QueueOwnWrongFalsely : Prop := queueOwnRow.holds Try.pinned (OpenSpec.ofChange queueOwnWrong)

/- THE SECOND FORM. 'bulk': how many values and letters a reading holds, each counted each time it is reached (what is shared counts as often as it is met; a slice's spare places count too). A statement '..UptoSaid' is the law's where the arguments, and the package variables that the reading takes, are together of bulk at most 1048576: NARROWER than '..Said'. Prove '..Said' where nothing that the law and all that it calls make is longer than what came in: it says more and counts as full. Else prove '..UptoSaid'. A law counts once. -/
mutual
def uptoBulk {H : Type} : DataW H → Nat
  | .lit (.string bytes) => bytes.length + 1
  | .lit _ => 1
  | .nil => 1
  | .ptr d => uptoBulk d + 1
  | .slice elems spare => uptoBulkAll elems + uptoBulkAll spare + 1
  | .agg parts => uptoBulkAll parts + 1
  | .iface _ d => uptoBulk d + 1
  | .map entries => uptoBulkEntries entries + 1
  | .held _ => 1
def uptoBulkAll {H : Type} : List (DataW H) → Nat
  | [] => 0
  | d :: r => uptoBulk d + uptoBulkAll r
def uptoBulkEntries {H : Type} : List (Lit × DataW H) → Nat
  | [] => 0
  | x :: r => uptoBulkEntry x + uptoBulkEntries r
def uptoBulkEntry {H : Type} : Lit × DataW H → Nat
  | (.string bytes, d) => bytes.length + uptoBulk d + 1
  | (_, d) => uptoBulk d + 1
 end
def uptoSmall : (H : Type) → List (DataW H) → Bool := fun _ ds => decide (uptoBulkAll ds ≤ 1048576)
def OpenSpec.upto (s : _root_.Go.ChangeSpec) : _root_.Go.OpenSpec := { _root_.Go.OpenSpec.ofChange s with cond := some uptoSmall }

/-- 'heraldlaw10.QueuePuts', WHERE WHAT IT READS IS OF BULK AT MOST 1048576: true; the input reads as it did. -/
def queuePutsUptoRow : OpenClaim := { program := "ytkkagpchcefidaa", sum := "f5c3e08f192d76d9970dbe85a91119b9bbfe2f5fcb9a112a7ee908bf93f09b5c", func := "herald/heraldlaw10.QueuePuts", spec := "queuePuts", inPlace := ["(*internal/sync.Mutex).Lock", "internal/race.Disable", "sync/atomic.CompareAndSwapInt32", "internal/race.Enable", "internal/race.Acquire", "(*internal/sync.Mutex).lockSlow", "internal/sync.runtime_canSpin", "internal/sync.runtime_doSpin", "internal/sync.throw", "internal/sync.runtime_nanotime", "internal/sync.runtime_SemacquireMutex", "sync/atomic.AddInt32", "(*internal/sync.Mutex).Unlock", "internal/race.ReleaseMerge", "(*internal/sync.Mutex).unlockSlow", "internal/sync.fatal", "internal/sync.runtime_Semrelease"], unfollowed := true, recurses := true, apart := false, narrowed := true }
def QueuePutsUptoSaid : Prop := queuePutsUptoRow.holds Try.pinned (OpenSpec.upto queuePutsSpec)

/-- 'heraldlaw10.QueueCollapses', WHERE WHAT IT READS IS OF BULK AT MOST 1048576: true; the input reads as it did. -/
def queueCollapsesUptoRow : OpenClaim := { program := "ytkkagpchcefidaa", sum := "f5c3e08f192d76d9970dbe85a91119b9bbfe2f5fcb9a112a7ee908bf93f09b5c", func := "herald/heraldlaw10.QueueCollapses", spec := "queueCollapses", inPlace := ["(*internal/sync.Mutex).Lock", "internal/race.Disable", "sync/atomic.CompareAndSwapInt32", "internal/race.Enable", "internal/race.Acquire", "(*internal/sync.Mutex).lockSlow", "internal/sync.runtime_canSpin", "internal/sync.runtime_doSpin", "internal/sync.throw", "internal/sync.runtime_nanotime", "internal/sync.runtime_SemacquireMutex", "sync/atomic.AddInt32", "(*internal/sync.Mutex).Unlock", "internal/race.ReleaseMerge", "(*internal/sync.Mutex).unlockSlow", "internal/sync.fatal", "internal/sync.runtime_Semrelease"], unfollowed := true, recurses := true, apart := false, narrowed := true }
def QueueCollapsesUptoSaid : Prop := queueCollapsesUptoRow.holds Try.pinned (OpenSpec.upto queueCollapsesSpec)

/-- 'heraldlaw10.QueueNexts', WHERE WHAT IT READS IS OF BULK AT MOST 1048576: true; the input reads as it did. -/
def queueNextsUptoRow : OpenClaim := { program := "ytkkagpchcefidaa", sum := "f5c3e08f192d76d9970dbe85a91119b9bbfe2f5fcb9a112a7ee908bf93f09b5c", func := "herald/heraldlaw10.QueueNexts", spec := "queueNexts", inPlace := ["(*internal/sync.Mutex).Lock", "internal/race.Disable", "sync/atomic.CompareAndSwapInt32", "internal/race.Enable", "internal/race.Acquire", "(*internal/sync.Mutex).lockSlow", "internal/sync.runtime_canSpin", "internal/sync.runtime_doSpin", "internal/sync.throw", "internal/sync.runtime_nanotime", "internal/sync.runtime_SemacquireMutex", "sync/atomic.AddInt32", "(*internal/sync.Mutex).Unlock", "internal/race.ReleaseMerge", "(*internal/sync.Mutex).unlockSlow", "internal/sync.fatal", "internal/sync.runtime_Semrelease"], unfollowed := true, recurses := true, apart := false, narrowed := true }
def QueueNextsUptoSaid : Prop := queueNextsUptoRow.holds Try.pinned (OpenSpec.upto queueNextsSpec)

/-- 'heraldlaw10.QueueTakes', WHERE WHAT IT READS IS OF BULK AT MOST 1048576: true; the input reads as it did. -/
def queueTakesUptoRow : OpenClaim := { program := "ytkkagpchcefidaa", sum := "f5c3e08f192d76d9970dbe85a91119b9bbfe2f5fcb9a112a7ee908bf93f09b5c", func := "herald/heraldlaw10.QueueTakes", spec := "queueTakes", inPlace := ["(*internal/sync.Mutex).Lock", "internal/race.Disable", "sync/atomic.CompareAndSwapInt32", "internal/race.Enable", "internal/race.Acquire", "(*internal/sync.Mutex).lockSlow", "internal/sync.runtime_canSpin", "internal/sync.runtime_doSpin", "internal/sync.throw", "internal/sync.runtime_nanotime", "internal/sync.runtime_SemacquireMutex", "sync/atomic.AddInt32", "(*internal/sync.Mutex).Unlock", "internal/race.ReleaseMerge", "(*internal/sync.Mutex).unlockSlow", "internal/sync.fatal", "internal/sync.runtime_Semrelease"], unfollowed := true, recurses := true, apart := false, narrowed := true }
def QueueTakesUptoSaid : Prop := queueTakesUptoRow.holds Try.pinned (OpenSpec.upto queueTakesSpec)

/-- 'heraldlaw10.QueueGoes', WHERE WHAT IT READS IS OF BULK AT MOST 1048576: true; the input reads as it did. -/
def queueGoesUptoRow : OpenClaim := { program := "ytkkagpchcefidaa", sum := "f5c3e08f192d76d9970dbe85a91119b9bbfe2f5fcb9a112a7ee908bf93f09b5c", func := "herald/heraldlaw10.QueueGoes", spec := "queueGoes", inPlace := ["(*internal/sync.Mutex).Lock", "internal/race.Disable", "sync/atomic.CompareAndSwapInt32", "internal/race.Enable", "internal/race.Acquire", "(*internal/sync.Mutex).lockSlow", "internal/sync.runtime_canSpin", "internal/sync.runtime_doSpin", "internal/sync.throw", "internal/sync.runtime_nanotime", "internal/sync.runtime_SemacquireMutex", "sync/atomic.AddInt32", "(*internal/sync.Mutex).Unlock", "internal/race.ReleaseMerge", "(*internal/sync.Mutex).unlockSlow", "internal/sync.fatal", "internal/sync.runtime_Semrelease"], unfollowed := true, recurses := true, apart := false, narrowed := true }
def QueueGoesUptoSaid : Prop := queueGoesUptoRow.holds Try.pinned (OpenSpec.upto queueGoesSpec)

/-- 'heraldlaw10.QueueTwo', WHERE WHAT IT READS IS OF BULK AT MOST 1048576: true; the input reads as it did. -/
def queueTwoUptoRow : OpenClaim := { program := "ytkkagpchcefidaa", sum := "f5c3e08f192d76d9970dbe85a91119b9bbfe2f5fcb9a112a7ee908bf93f09b5c", func := "herald/heraldlaw10.QueueTwo", spec := "queueTwo", inPlace := ["(*internal/sync.Mutex).Lock", "internal/race.Disable", "sync/atomic.CompareAndSwapInt32", "internal/race.Enable", "internal/race.Acquire", "(*internal/sync.Mutex).lockSlow", "internal/sync.runtime_canSpin", "internal/sync.runtime_doSpin", "internal/sync.throw", "internal/sync.runtime_nanotime", "internal/sync.runtime_SemacquireMutex", "sync/atomic.AddInt32", "(*internal/sync.Mutex).Unlock", "internal/race.ReleaseMerge", "(*internal/sync.Mutex).unlockSlow", "internal/sync.fatal", "internal/sync.runtime_Semrelease"], unfollowed := true, recurses := true, apart := false, narrowed := true }
def QueueTwoUptoSaid : Prop := queueTwoUptoRow.holds Try.pinned (OpenSpec.upto queueTwoSpec)

/-- 'heraldlaw10.QueueNothing', WHERE WHAT IT READS IS OF BULK AT MOST 1048576: true; the input reads as it did. -/
def queueNothingUptoRow : OpenClaim := { program := "ytkkagpchcefidaa", sum := "f5c3e08f192d76d9970dbe85a91119b9bbfe2f5fcb9a112a7ee908bf93f09b5c", func := "herald/heraldlaw10.QueueNothing", spec := "queueNothing", inPlace := ["(*internal/sync.Mutex).Lock", "internal/race.Disable", "sync/atomic.CompareAndSwapInt32", "internal/race.Enable", "internal/race.Acquire", "(*internal/sync.Mutex).lockSlow", "internal/sync.runtime_canSpin", "internal/sync.runtime_doSpin", "internal/sync.throw", "internal/sync.runtime_nanotime", "internal/sync.runtime_SemacquireMutex", "sync/atomic.AddInt32", "(*internal/sync.Mutex).Unlock", "internal/race.ReleaseMerge", "(*internal/sync.Mutex).unlockSlow", "internal/sync.fatal", "internal/sync.runtime_Semrelease"], unfollowed := true, recurses := true, apart := false, narrowed := true }
def QueueNothingUptoSaid : Prop := queueNothingUptoRow.holds Try.pinned (OpenSpec.upto queueNothingSpec)

/-- 'heraldlaw10.QueueSound', WHERE WHAT IT READS IS OF BULK AT MOST 1048576: true; the input reads as it did. -/
def queueSoundUptoRow : OpenClaim := { program := "ytkkagpchcefidaa", sum := "f5c3e08f192d76d9970dbe85a91119b9bbfe2f5fcb9a112a7ee908bf93f09b5c", func := "herald/heraldlaw10.QueueSound", spec := "queueSound", inPlace := ["(*internal/sync.Mutex).Lock", "internal/race.Disable", "sync/atomic.CompareAndSwapInt32", "internal/race.Enable", "internal/race.Acquire", "(*internal/sync.Mutex).lockSlow", "internal/sync.runtime_canSpin", "internal/sync.runtime_doSpin", "internal/sync.throw", "internal/sync.runtime_nanotime", "internal/sync.runtime_SemacquireMutex", "sync/atomic.AddInt32", "(*internal/sync.Mutex).Unlock", "internal/race.ReleaseMerge", "(*internal/sync.Mutex).unlockSlow", "internal/sync.fatal", "internal/sync.runtime_Semrelease"], unfollowed := true, recurses := true, apart := false, narrowed := true }
def QueueSoundUptoSaid : Prop := queueSoundUptoRow.holds Try.pinned (OpenSpec.upto queueSoundSpec)

/-- 'heraldlaw10.QueueOrder', WHERE WHAT IT READS IS OF BULK AT MOST 1048576: true; the input reads as it did. -/
def queueOrderUptoRow : OpenClaim := { program := "ytkkagpchcefidaa", sum := "f5c3e08f192d76d9970dbe85a91119b9bbfe2f5fcb9a112a7ee908bf93f09b5c", func := "herald/heraldlaw10.QueueOrder", spec := "queueOrder", inPlace := ["(*internal/sync.Mutex).Lock", "internal/race.Disable", "sync/atomic.CompareAndSwapInt32", "internal/race.Enable", "internal/race.Acquire", "(*internal/sync.Mutex).lockSlow", "internal/sync.runtime_canSpin", "internal/sync.runtime_doSpin", "internal/sync.throw", "internal/sync.runtime_nanotime", "internal/sync.runtime_SemacquireMutex", "sync/atomic.AddInt32", "(*internal/sync.Mutex).Unlock", "internal/race.ReleaseMerge", "(*internal/sync.Mutex).unlockSlow", "internal/sync.fatal", "internal/sync.runtime_Semrelease"], unfollowed := true, recurses := true, apart := false, narrowed := true }
def QueueOrderUptoSaid : Prop := queueOrderUptoRow.holds Try.pinned (OpenSpec.upto queueOrderSpec)

/-- 'heraldlaw10.QueueReader', WHERE WHAT IT READS IS OF BULK AT MOST 1048576: true; the input reads as it did. -/
def queueReaderUptoRow : OpenClaim := { program := "ytkkagpchcefidaa", sum := "f5c3e08f192d76d9970dbe85a91119b9bbfe2f5fcb9a112a7ee908bf93f09b5c", func := "herald/heraldlaw10.QueueReader", spec := "queueReader", inPlace := ["(*internal/sync.Mutex).Lock", "internal/race.Disable", "sync/atomic.CompareAndSwapInt32", "internal/race.Enable", "internal/race.Acquire", "(*internal/sync.Mutex).lockSlow", "internal/sync.runtime_canSpin", "internal/sync.runtime_doSpin", "internal/sync.throw", "internal/sync.runtime_nanotime", "internal/sync.runtime_SemacquireMutex", "sync/atomic.AddInt32", "(*internal/sync.Mutex).Unlock", "internal/race.ReleaseMerge", "(*internal/sync.Mutex).unlockSlow", "internal/sync.fatal", "internal/sync.runtime_Semrelease"], unfollowed := true, recurses := true, apart := false, narrowed := true }
def QueueReaderUptoSaid : Prop := queueReaderUptoRow.holds Try.pinned (OpenSpec.upto queueReaderSpec)

/-- 'heraldlaw10.QueueOwn', WHERE WHAT IT READS IS OF BULK AT MOST 1048576: true; the input reads as it did. -/
def queueOwnUptoRow : OpenClaim := { program := "ytkkagpchcefidaa", sum := "f5c3e08f192d76d9970dbe85a91119b9bbfe2f5fcb9a112a7ee908bf93f09b5c", func := "herald/heraldlaw10.QueueOwn", spec := "queueOwn", inPlace := ["(*internal/sync.Mutex).Lock", "internal/race.Disable", "sync/atomic.CompareAndSwapInt32", "internal/race.Enable", "internal/race.Acquire", "(*internal/sync.Mutex).lockSlow", "internal/sync.runtime_canSpin", "internal/sync.runtime_doSpin", "internal/sync.throw", "internal/sync.runtime_nanotime", "internal/sync.runtime_SemacquireMutex", "sync/atomic.AddInt32", "(*internal/sync.Mutex).Unlock", "internal/race.ReleaseMerge", "(*internal/sync.Mutex).unlockSlow", "internal/sync.fatal", "internal/sync.runtime_Semrelease"], unfollowed := true, recurses := true, apart := false, narrowed := true }
def QueueOwnUptoSaid : Prop := queueOwnUptoRow.holds Try.pinned (OpenSpec.upto queueOwnSpec)

end Rows
end Go.Proofs.Ytkkagpchcefidaa
